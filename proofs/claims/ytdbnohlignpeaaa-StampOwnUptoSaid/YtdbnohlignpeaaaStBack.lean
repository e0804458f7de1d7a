/- hearsaylaw6.StampBack, walked: its first part (what is laid is taken again). -/
import Derived.Test.YtdbnohlignpeaaaStRound
import Derived.Test.YtdbnohlignpeaaaStTakes
import Derived.Deep.CutBlock
namespace Go.Proofs.Ytdbnohlignpeaaa
open Go.RowKit Go.Proofs.Ytdbnohlignpeaaa.St
namespace stampBack
open Go.Proofs.Ytdbnohlignpeaaa.stampNothing (far_cell)
theorem wr_zero (w : World) : WrIs (w.alloc (.cells #[.slice none 0 0, .int .i64 0] 46)) w.heap.size [] 0 (fun b => b = w.heap.size) :=
  ⟨.slice none 0 0, Blk.new w _ _, World.ownsRow_nil _ _ _ _, by
    funext b
    apply propext
    constructor
    · exact .inl
    · rintro (h | h)
      · exact h
      · cases h⟩
/-- a Writer at A, all of whose memory is newer than w -/
def WNew (w : World) (A : Nat) (bs : List UInt8) (e : Int) (wr : World) : Prop := ∃ F, WrIs wr A bs e F ∧ (∀ b, F b → w.heap.size ≤ b) ∧ Kept (fun _ => False) w wr
theorem WNew.goes {w wr w' : World} {A : Nat} {bs' : List UInt8} {e' : Int} {F : Nat → Prop} (hF : ∀ b, F b → w.heap.size ≤ b) (hk : Kept (fun _ => False) w wr) (h : WrGoes wr A bs' e' F w') : WNew w A bs' e' w' := by
  obtain ⟨F', h1, h2, h3⟩ := h
  refine ⟨F', h1, fun b hb => ?_, hk.over h3 hF⟩
  by_cases hlt : b < wr.heap.size
  · exact hF b (h2 b hlt hb)
  · have := hk.size; omega
theorem WNew.kept {w wr w' : World} {A : Nat} {bs : List UInt8} {e : Int} (h : WNew w A bs e wr) (hk : Kept (fun _ => False) wr w') : WNew w A bs e w' := by
  obtain ⟨F, h1, h2, h3⟩ := h
  exact ⟨F, h1.keep hk (fun _ _ h => h), h2, h3.trans hk (fun _ _ h => h)⟩
/-- a Reader at R, all of whose memory is newer than w -/
def RdNew (w : World) (R : Nat) (FR : Nat → Prop) (bs : List UInt8) (e : Int) (wr : World) : Prop := RdIs wr R bs e FR ∧ (∀ b, FR b → w.heap.size ≤ b ∧ b < wr.heap.size) ∧ Kept (fun _ => False) w wr
theorem RdNew.kept {w wr : World} {R : Nat} {FR : Nat → Prop} {bs : List UInt8} {e : Int} (h : RdNew w R FR bs e wr) : Kept (fun _ => False) w wr := h.2.2
theorem RdNew.on {w wr wr' : World} {R : Nat} {FR : Nat → Prop} {bs : List UInt8} {e : Int} (h : RdNew w R FR bs e wr) (hk : Kept (fun _ => False) wr wr') : RdNew w R FR bs e wr' :=
  ⟨h.1.keep hk (fun _ _ _ h => h), fun b hb => ⟨(h.2.1 b hb).1, Nat.lt_of_lt_of_le (h.2.1 b hb).2 hk.size⟩, h.2.2.trans hk (fun _ _ h => h)⟩
theorem RdNew.self {w wr : World} {R : Nat} {FR : Nat → Prop} {bs : List UInt8} {e : Int} (h : RdNew w R FR bs e wr) : FR R := by
  obtain ⟨⟨v, _, _, _, rfl⟩, _⟩ := h
  exact .inl rfl
theorem RdNew.goes {w wr wr' : World} {R : Nat} {FR : Nat → Prop} {bs bs' : List UInt8} {e e' : Int} (h : RdNew w R FR bs e wr) (h' : RdIs wr' R bs' e' FR) (hk : Kept (· = R) wr wr') : RdNew w R FR bs' e' wr' :=
  ⟨h', fun b hb => ⟨(h.2.1 b hb).1, Nat.lt_of_lt_of_le (h.2.1 b hb).2 hk.size⟩, h.2.2.over hk (fun b hb => by have hb : b = R := hb; subst hb; exact (h.2.1 _ h.self).1)⟩
theorem RdNew.takes {w wr : World} {R : Nat} {FR : Nat → Prop} {bs : List UInt8} {e : Int} (h : RdNew w R FR bs e wr) (hb : bs.length ≤ 1000000000) (x : St.Item) {wr' : World} (hk : Kept (fun _ => False) wr wr') :
    Calls Try.prog 35 #[.pointer (some ⟨R, 0, none⟩), itemV x] wr' fun e' w' => e' = .returned (itemV (rdI bs e x.text).1) ∧ RdNew w R FR (rdI bs e x.text).2.1 (rdI bs e x.text).2.2 w' ∧ Kept (· = R) wr' w' :=
  (take_any (h.on hk).1 (fun b hb => ((h.on hk).2.1 b hb).2) hb x).mono fun _ _ ⟨h1, h2, h3⟩ => ⟨h1, (h.on hk).goes h2 h3, h3⟩
theorem RdNew.take {w wr : World} {R : Nat} {FR : Nat → Prop} {rest : List UInt8} {x : St.Item} (h : RdNew w R FR (St.encI x ++ rest) 0 wr) (hg : x.Good) (hn : I64 x.n) (hs : x.s.size ≤ 50000) (hb : (St.encI x ++ rest).length ≤ 1000000000) :
    ∀ wr', Kept (fun _ => False) wr wr' → Calls Try.prog 35 #[.pointer (some ⟨R, 0, none⟩), itemV x] wr' fun e' w' => e' = .returned (itemV (normI x)) ∧ RdNew w R FR rest 0 w' ∧ Kept (· = R) wr' w' := fun wr' hk => by
  have := h.takes hb x hk
  rw [rdI_enc hg hn hs] at this
  exact this
/-- a Writer that has laid what a Reader has taken -/
def Both (w : World) (A R : Nat) (FR : Nat → Prop) (data rem : List UInt8) (e : Int) (wr : World) : Prop := ∃ F, WrIs wr A data 0 F ∧ (∀ b, F b → w.heap.size ≤ b ∧ ¬ FR b) ∧ RdNew w R FR rem e wr
section
variable {w wr wr' : World} {A R : Nat} {FR : Nat → Prop} {data rem data' rem' : List UInt8} {e e' : Int}
theorem Both.rd (h : Both w A R FR data rem e wr) : RdNew w R FR rem e wr := by obtain ⟨_, _, _, h⟩ := h; exact h
theorem Both.kept (h : Both w A R FR data rem e wr) (hk : Kept (fun _ => False) wr wr') : Both w A R FR data rem e wr' := by
  obtain ⟨F, h1, h2, h3⟩ := h
  exact ⟨F, h1.keep hk (fun _ _ h => h), h2, h3.on hk⟩
theorem Both.took (h : Both w A R FR data rem e wr) (h' : RdNew w R FR rem' e' wr') (hk : Kept (· = R) wr wr') : Both w A R FR data rem' e' wr' := by
  obtain ⟨F, h1, h2, h3⟩ := h
  exact ⟨F, h1.keep hk (fun b hb e => (h2 b hb).2 (by have e : b = R := e; subst e; exact h3.self)), h2, h'⟩
theorem Both.laid {F : Nat → Prop} (h2 : ∀ b, F b → w.heap.size ≤ b ∧ ¬ FR b) (h3 : RdNew w R FR rem e wr) (hg : WrGoes wr A data' 0 F wr') : Both w A R FR data' rem e wr' := by
  obtain ⟨F', g1, g2, g3⟩ := hg
  have hw := h3.kept.size
  refine ⟨F', g1, fun b hb => ?_, ⟨h3.1.keep g3 (fun b hb _ hF => (h2 b hF).2 hb), fun b hb => ⟨(h3.2.1 b hb).1, Nat.lt_of_lt_of_le (h3.2.1 b hb).2 g3.size⟩, h3.kept.over g3 (fun b hb => (h2 b hb).1)⟩⟩
  by_cases hlt : b < wr.heap.size
  · exact h2 b (g2 b hlt hb)
  · exact ⟨by omega, fun hF => hlt (h3.2.1 b hF).2⟩
end
theorem slAt_pre {w : World} {ub : Option Addr} {uc : Nat} {B : List UInt8} (h : SlAt byteE w (.slice ub B.length uc) B) (n : Nat) (hn : n ≤ B.length) : SlAt byteE w (.slice ub n uc) (B.take n) := by
  rcases h with ⟨h, e⟩ | ⟨x, d, h, h1, h2, h3, h4⟩
  · injection h with e1 _ e3
    subst e e1 e3
    simp at hn
    subst hn
    exact .inl ⟨rfl, rfl⟩
  · injection h with e1 _ e3
    subst e1 e3
    refine .inr ⟨x, uc, by rw [List.length_take, Nat.min_eq_left hn], by rw [List.length_take]; omega, h2, fun hne => h3 (fun e => hne (by rw [e]; simp)), fun i y hy j u hu => ?_⟩
    rw [List.getElem?_take] at hy
    split at hy
    · exact h4 i y hy j u hu
    · cases hy
theorem encs_append (A B : List St.Item) : encs (A ++ B) = encs A ++ encs B := by simp [encs]
theorem encs_tail (L : List St.Item) (k n : Nat) : (encs ((L.take k).drop n)).length ≤ (encs (L.take k)).length := by
  conv => rhs; rw [← List.take_append_drop n (L.take k), encs_append, List.length_append]
  omega
/-- all of the first k things can be laid -/
def GoodTo (L : List St.Item) (k : Nat) : Prop := ∀ (j : Nat) (x : St.Item), j < k → L[j]? = some x → x.Good
set_option maxRecDepth 100000 in
set_option maxHeartbeats 40000000 in
theorem walk_core {w : World} {v0 v1 : Value} {B : List UInt8} {L : List St.Item} (h : SlAt itemE w v0 L) (h0 : SlAt byteE w v1 B) (hin : ∀ x ∈ L, I64 x.n) (p q : Int) (hp : I64 p) (hq : I64 q) :
    Calls Try.prog 10 #[v0, v1, .int .i64 p, .int .i64 q] w fun e w' => e = .returned (.bool true) ∧ Kept (fun _ => False) w w' := by
  obtain ⟨ub, uc, rfl, hub, hucm⟩ := h0.sl
  have hm1 := much_any h ub B.length uc
  obtain ⟨a, c, rfl, hac, hcm⟩ := h.sl
  have HS := Lib.hid h
  have HB := Lib.hid h0
  have HI := Lib.hid hin
  have M1 := Lib.hid hm1
  have UB := Lib.hid hub
  clear h h0 hin hm1 hac hcm hub hucm
  go_enter Try.func10, Try.ntmps10
  go_wp2_with fail
  refine M1.out.mono ?_
  rintro e w' ⟨r1, rfl, hr1, hw⟩
  obtain rfl := hw.symm
  clear hw
  cases r1 with
  | true =>
    clear hr1
    go_wp2_with fail
    refine (known_any _).mono ?_
    rintro e w1 ⟨rfl, hk⟩
    go_wp2_with fail
    go_ret
    exact ⟨rfl, hk⟩
  | false =>
    have SL := Lib.hid (hr1 rfl)
    clear hr1 M1
    have hLn : (L.length : Int) ≤ 400 := by have := SL.out.1; omega
    have hBn : B.length ≤ 50000 := SL.out.2.1
    have hBI : (B.length : Int) ≤ 50000 := by omega
    have W0 : Hid (WNew w w.heap.size [] 0 (w.alloc (.cells #[.slice none 0 0, .int .i64 0] 46))) := Lib.hid ⟨_, wr_zero w, fun b hb => by have hb : b = w.heap.size := hb; omega, (Kept.refl _ _).alloc _⟩
    go_upto_block 0 with (fail)
    go_cut [10] (fun iv wx => ∃ (n k : Nat) (e : Int), iv = .int .i64 n ∧ n ≤ L.length ∧ k ≤ L.length ∧ GoodTo L k ∧ ((e = 0 ∧ n = k) ∨ (e = 1 ∧ n = k + 1)) ∧ WNew w w.heap.size (encs (L.take k)) e wx)
    case first =>
      go_wp2_with fail
      go_loopw [10] (fun iv wr => ∃ (n k : Nat) (e : Int), iv = .int .i64 n ∧ n ≤ L.length ∧ k ≤ L.length ∧ GoodTo L k ∧ ((e = 0 ∧ n = k) ∨ (e = 1 ∧ n = k + 1)) ∧ WNew w w.heap.size (encs (L.take k)) e wr) (fun iv _ => L.length - (intOf iv).toNat)
      case atStart => exact ⟨0, 0, 0, rfl, Nat.zero_le _, Nat.zero_le _, (fun j x hj _ => by omega), .inl ⟨rfl, rfl⟩, by simpa [encs] using W0.out⟩
      case round =>
        clear W0
        obtain ⟨n, k, e, rfl, hn, hkL, hgood, hek, hW⟩ := hrel
        have GG := Lib.hid hgood
        have HW := Lib.hid hW
        have hn0 : (0 : Int) ≤ n := by omega
        clear hgood hW
        by_cases hmore : n < L.length ∧ e = 0
        case pos =>
          obtain ⟨h1, rfl⟩ := hmore
          obtain rfl : n = k := by omega
          clear hek
          obtain ⟨F0, hwr, hF0, hk0⟩ := HW.out
          obtain ⟨x, hx⟩ := get_of_lt h1
          obtain ⟨g, o, ci, hv, hglt, hcs⟩ := SlAt.item HS.out (by omega)
          cases hv
          have CC := Lib.hid (hcs n x hx)
          have hnl : (n : Int) < L.length := by omega
          have hxs := SL.out.2.2.1 x (List.mem_of_getElem? hx)
          have hxn := HI.out x (List.mem_of_getElem? hx)
          have hel := encs_small HI.out SL.out n
          have HX := Lib.hid hx
          obtain ⟨xt, xn, xs⟩ := x
          have d0 := old_cell hk0 CC.out.1
          have d1 := old_cell hk0 CC.out.2.1
          have d2 := old_cell hk0 CC.out.2.2
          have herr := werr_any hwr
          have hlay := lay_any hwr ⟨xt, xn, xs⟩ hxn (by have : xs.size ≤ 50000 := hxs; show xs.size ≤ _; omega) (by omega)
          have HF0 := Lib.hid hF0
          have HK0 := Lib.hid hk0
          clear hx hcs hwr hF0 hk0 HW
          go_wp2_with fail
          refine herr.mono ?_
          rintro e' w' ⟨rfl, rfl⟩
          go_wp2_with fail
          refine hlay.mono ?_
          rintro e' w1 ⟨rfl, hg⟩
          clear herr hlay
          go_wp2_with fail
          go_roundw
          case rel =>
            by_cases hgd : St.Item.Good ⟨xt, xn, xs⟩
            · refine ⟨n + 1, n + 1, 0, by go_num, by omega, by omega, fun j y hj hy => ?_, .inl ⟨rfl, rfl⟩, ?_⟩
              · by_cases hjn : j = n
                · subst hjn; cases Option.some.inj (HX.out.symm.trans hy); exact hgd
                · exact GG.out j y (by omega) hy
              · rw [encs_snoc HX.out]
                rw [layI_good hgd] at hg
                exact WNew.goes HF0.out HK0.out hg
            · refine ⟨n + 1, n, 1, by go_num, by omega, by omega, GG.out, .inr ⟨rfl, rfl⟩, ?_⟩
              rw [layI_bad hgd] at hg
              exact WNew.goes HF0.out HK0.out hg
          case measure => simp [intOf] <;> omega
        case neg =>
          by_cases h1 : n < L.length
          · obtain ⟨rfl, rfl⟩ : e = 1 ∧ n = k + 1 := by rcases hek with ⟨h, _⟩ | h; exact absurd ⟨h1, h⟩ hmore; exact h
            obtain ⟨F0, hwr, hF0, hk0⟩ := HW.out
            have herr := werr_any hwr
            have hnl : ((k + 1 : Nat) : Int) < L.length := by omega
            clear hek hmore hwr hF0 hk0
            go_wp2_with fail
            refine herr.mono ?_
            rintro e' w' ⟨rfl, rfl⟩
            go_wp2_with fail
            go_meet
            case rel => exact ⟨k + 1, k, 1, rfl, hn, hkL, GG.out, .inr ⟨rfl, rfl⟩, HW.out⟩
          · have hnl : ¬ (n : Int) < L.length := by omega
            clear hmore
            have HE := Lib.hid hek
            clear hek
            go_wp2_with fail
            go_meet
            case rel => exact ⟨n, k, e, rfl, hn, hkL, GG.out, HE.out, HW.out⟩
    case rest =>
      clear W0
      obtain ⟨n, k, e, rfl, hn, hkL, hgood, hek, hW⟩ := hcut
      obtain ⟨wa, rfl⟩ : ∃ wa : World, wa = wc := ⟨_, rfl⟩
      have GG := Lib.hid hgood
      obtain ⟨F0, hwr, hF0, hk0⟩ := hW
      have herr := werr_any hwr
      have HE := Lib.hid hek
      have HWr := Lib.hid hwr
      have HF0 := Lib.hid hF0
      have HK0 := Lib.hid hk0
      clear hgood hwr hF0 hk0 hek
      go_upto_if 47 with (go_at_call 31; refine herr.mono ?_; rintro e' w' ⟨rfl, rfl⟩)
      go_cut [10] (fun iv wx => iv = .int .i64 k ∧ wa = wx)
      case first =>
        rcases HE.out with ⟨rfl, rfl⟩ | ⟨rfl, rfl⟩
        · go_wp2_with fail
          go_meet
          case rel => exact ⟨rfl, rfl⟩
        · go_wp2_with fail
          go_meet
          case rel => exact ⟨by go_num, rfl⟩
      case rest =>
        obtain ⟨rfl, rfl⟩ := hcut
        have hdata := wdata_any HWr.out (by have := encs_small HI.out SL.out k; omega)
        clear herr HE HWr HF0
        go_wp2_with fail
        refine hdata.mono ?_
        rintro e' w2 ⟨v2, rfl, ho2, hk2⟩
        have hread := read_any (owns_slAt (E := byteE) ho2) (by have := encs_small HI.out SL.out k; omega)
        obtain ⟨a2, c2, rfl⟩ := owns_sl ho2
        have K2 := Lib.hid (HK0.out.trans hk2 (fun _ _ h => h))
        clear ho2 hk2 hdata HK0
        go_wp2_with fail
        refine hread.mono ?_
        rintro e' w3 ⟨R, FR, rfl, hR, hFR, hk3⟩
        have hnew : ∀ b, FR b → w.heap.size ≤ b ∧ b < w3.heap.size := fun b hb => ⟨by have := (hFR b hb).1; have := K2.out.size; omega, (hFR b hb).2⟩
        have HR : Hid (RdNew w R FR (encs (L.take k)) 0 w3) := Lib.hid ⟨hR, hnew, K2.out.trans hk3 (fun _ _ h => h)⟩
        clear hR hFR hk3 hread K2 hnew
        go_wp2_with fail
        have hk0 : (0 : Int) ≤ k := by omega
        have hkLI : (k : Int) ≤ L.length := by omega
        go_loopw [12] (fun iv wr => ∃ n : Nat, iv = .int .i64 n ∧ n ≤ k ∧ RdNew w R FR (encs ((L.take k).drop n)) 0 wr) (fun iv _ => k - (intOf iv).toNat)
        case atStart => exact ⟨0, rfl, Nat.zero_le _, HR.out⟩
        case round =>
          clear HR
          obtain ⟨n, rfl, hn, hR⟩ := hrel
          have hn0 : (0 : Int) ≤ n := by omega
          by_cases h1 : n < k
          case pos =>
            obtain ⟨x, hx⟩ := get_of_lt (show n < L.length by omega)
            obtain ⟨g, o, ci, hv, hglt, hcs⟩ := SlAt.item HS.out (by omega)
            cases hv
            have CC := Lib.hid (hcs n x hx)
            have hnl : (n : Int) < L.length := by omega
            have hnk : (n : Int) < k := by omega
            have hxs := SL.out.2.2.1 x (List.mem_of_getElem? hx)
            have hxn := HI.out x (List.mem_of_getElem? hx)
            have hgx := GG.out n x h1 hx
            have hen : encs ((L.take k).drop n) = St.encI x ++ encs ((L.take k).drop (n + 1)) := by
              rw [← encs_cons, ← drop_get (show (L.take k)[n]? = some x by rw [List.getElem?_take, if_pos h1]; exact hx)]
            rw [hen] at hR
            have htk := RdNew.take hR hgx hxn hxs (by rw [← hen]; have := encs_tail L k n; have := encs_small HI.out SL.out k; omega)
            obtain ⟨xt, xn, xs⟩ := x
            have d0 := old_cell hR.kept CC.out.1
            have d1 := old_cell hR.kept CC.out.2.1
            have d2 := old_cell hR.kept CC.out.2.2
            have HRR := Lib.hid hR
            have HTK := Lib.hid htk
            clear hx hcs hR htk hen
            have hRl := (HRR.out.2.1 R HRR.out.self)
            have hgR : ¬ g = R := by omega
            have hwR : ¬ wr.heap.size = R := by omega
            have n0 := World.new_ne wr _ d0
            cases xt with
            | true =>
              have HTK : Hid (∀ wr', Kept (fun _ => False) wr wr' → Calls Try.prog 35 #[.pointer (some ⟨R, 0, none⟩), .agg #[.bool true, .int .i64 xn, .string xs]] wr' fun e' w' => e' = .returned (.agg #[.bool true, .int .i64 0, .string xs]) ∧ RdNew w R FR (encs ((L.take k).drop (n + 1))) 0 w' ∧ Kept (· = R) wr' w') := HTK
              go_wp2_with fail
              go_region_held3 (fun w' => w'.cell? ⟨g, o + n * 3, none⟩ = some (.bool true) ∧ w'.cell? ⟨g, o + n * 3 + 1, none⟩ = some (.int .i64 xn) ∧ w'.cell? ⟨g, o + n * 3 + 2, none⟩ = some (.string xs)) (first | (with_reducible exact ⟨d0, d1, d2⟩) | go_keep) (fail)
              go_wp2_with fail
              have hka : Kept (fun _ => False) wr (wr.alloc (.cells #[.bool true, .int .i64 0, .string xs] 49)).drew := ((Kept.refl _ _).alloc _).drew
              have hbn : Blk (wr.alloc (.cells #[.bool true, .int .i64 0, .string xs] 49)).drew wr.heap.size 49 #[.bool true, .int .i64 0, .string xs] := Blk.new wr _ _
              generalize (wr.alloc (.cells #[.bool true, .int .i64 0, .string xs] 49)).drew = W5 at *
              have d0 := old_cell hka d0
              have d1 := old_cell hka d1
              have d2 := old_cell hka d2
              have q0 : _ = some (Value.bool true) := hbn.cell' (i := 0) rfl
              have q1 : _ = some (Value.int .i64 0) := hbn.cell' (i := 1) rfl
              have q2 : _ = some (Value.string xs) := hbn.cell' (i := 2) rfl
              have hkk := hka.drew
              clear hka hbn
              go_region_held3 (fun w' => w'.cell? ⟨g, o + n * 3, none⟩ = some (.bool true) ∧ w'.cell? ⟨g, o + n * 3 + 1, none⟩ = some (.int .i64 xn) ∧ w'.cell? ⟨g, o + n * 3 + 2, none⟩ = some (.string xs) ∧ w'.cell? ⟨wr.heap.size, 0, none⟩ = some (.bool true) ∧ w'.cell? ⟨wr.heap.size, 1, none⟩ = some (.int .i64 0) ∧ w'.cell? ⟨wr.heap.size, 2, none⟩ = some (.string xs)) (first | (with_reducible exact ⟨d0, d1, d2, q0, q1, q2⟩) | exact ⟨d0, d1, d2, q0, q1, q2⟩)
                (first | (go_simp; go_at_call 35; refine (HTK.out _ hkk).mono ?_; rintro e' w6 ⟨rfl, hr6, hk6⟩; have d0 := far_cell hk6 hgR d0; have d1 := far_cell hk6 hgR d1; have d2 := far_cell hk6 hgR d2; have q0 := far_cell hk6 hwR q0; have q1 := far_cell hk6 hwR q1; have q2 := far_cell hk6 hwR q2; have HR6 := Lib.hid hr6; clear hr6 hk6 hkk))
              go_wp2_with fail
              go_roundw
              case rel => exact ⟨n + 1, by go_num, by omega, HR6.out⟩
              case measure => simp [intOf] <;> omega
            | false =>
              have HTK : Hid (∀ wr', Kept (fun _ => False) wr wr' → Calls Try.prog 35 #[.pointer (some ⟨R, 0, none⟩), .agg #[.bool false, .int .i64 xn, .string xs]] wr' fun e' w' => e' = .returned (.agg #[.bool false, .int .i64 xn, .string ⟨#[]⟩]) ∧ RdNew w R FR (encs ((L.take k).drop (n + 1))) 0 w' ∧ Kept (· = R) wr' w') := HTK
              go_wp2_with fail
              go_region_held3 (fun w' => w'.cell? ⟨g, o + n * 3, none⟩ = some (.bool false) ∧ w'.cell? ⟨g, o + n * 3 + 1, none⟩ = some (.int .i64 xn) ∧ w'.cell? ⟨g, o + n * 3 + 2, none⟩ = some (.string xs)) (first | (with_reducible exact ⟨d0, d1, d2⟩) | go_keep) (fail)
              go_wp2_with fail
              have hka : Kept (fun _ => False) wr (wr.alloc (.cells #[.bool false, .int .i64 xn, .string ⟨#[]⟩] 49)).drew := ((Kept.refl _ _).alloc _).drew
              have hbn : Blk (wr.alloc (.cells #[.bool false, .int .i64 xn, .string ⟨#[]⟩] 49)).drew wr.heap.size 49 #[.bool false, .int .i64 xn, .string ⟨#[]⟩] := Blk.new wr _ _
              generalize (wr.alloc (.cells #[.bool false, .int .i64 xn, .string ⟨#[]⟩] 49)).drew = W5 at *
              have d0 := old_cell hka d0
              have d1 := old_cell hka d1
              have d2 := old_cell hka d2
              have q0 : _ = some (Value.bool false) := hbn.cell' (i := 0) rfl
              have q1 : _ = some (Value.int .i64 xn) := hbn.cell' (i := 1) rfl
              have q2 : _ = some (Value.string ⟨#[]⟩) := hbn.cell' (i := 2) rfl
              have hkk := hka.drew
              clear hka hbn
              go_region_held3 (fun w' => w'.cell? ⟨g, o + n * 3, none⟩ = some (.bool false) ∧ w'.cell? ⟨g, o + n * 3 + 1, none⟩ = some (.int .i64 xn) ∧ w'.cell? ⟨g, o + n * 3 + 2, none⟩ = some (.string xs) ∧ w'.cell? ⟨wr.heap.size, 0, none⟩ = some (.bool false) ∧ w'.cell? ⟨wr.heap.size, 1, none⟩ = some (.int .i64 xn) ∧ w'.cell? ⟨wr.heap.size, 2, none⟩ = some (.string ⟨#[]⟩)) (first | (with_reducible exact ⟨d0, d1, d2, q0, q1, q2⟩) | exact ⟨d0, d1, d2, q0, q1, q2⟩)
                (first | (go_simp; go_at_call 35; refine (HTK.out _ hkk).mono ?_; rintro e' w6 ⟨rfl, hr6, hk6⟩; have d0 := far_cell hk6 hgR d0; have d1 := far_cell hk6 hgR d1; have d2 := far_cell hk6 hgR d2; have q0 := far_cell hk6 hwR q0; have q1 := far_cell hk6 hwR q1; have q2 := far_cell hk6 hwR q2; have HR6 := Lib.hid hr6; clear hr6 hk6 hkk))
              go_wp2_with fail
              go_roundw
              case rel => exact ⟨n + 1, by go_num, by omega, HR6.out⟩
              case measure => simp [intOf] <;> omega
          case neg =>
            obtain rfl : n = k := by omega
            rw [List.drop_eq_nil_of_le (by rw [List.length_take]; omega)] at hR
            have hend := rend_any hR.1
            rw [show endE 0 (encs []).length = 0 by decide] at hend
            have K1 := Lib.hid hR.kept
            clear hR
            go_wp2_with fail
            refine hend.mono ?_
            rintro e' w' ⟨rfl, rfl⟩
            clear hend
            have hread := read_any (HB.out.kept K1.out) (by omega)
            go_wp2_with fail
            refine hread.mono ?_
            rintro e' w2 ⟨R2, FR2, rfl, hR2, hFR2, hk2⟩
            have hk3 : Kept (fun _ => False) w2 (w2.alloc (.cells #[.slice none 0 0, .int .i64 0] 46)) := (Kept.refl _ _).alloc _
            have hb0 : Both w w2.heap.size R2 FR2 [] B 0 (w2.alloc (.cells #[.slice none 0 0, .int .i64 0] 46)) := by
              have hnew : ∀ b, FR2 b → w.heap.size ≤ b ∧ b < w2.heap.size := fun b hb => ⟨by have := (hFR2 b hb).1; have := K1.out.size; omega, (hFR2 b hb).2⟩
              have hr2 : RdNew w R2 FR2 B 0 w2 := ⟨hR2, hnew, K1.out.trans hk2 (fun _ _ h => h)⟩
              refine ⟨_, wr_zero w2, fun b hb => ?_, hr2.on hk3⟩
              have hb : b = w2.heap.size := hb
              exact ⟨by have := K1.out.size; have := hk2.size; omega, fun h => by have := (hnew b h).2; omega⟩
            have B0 := Lib.hid hb0
            clear hread hR2 hFR2 hk2 hk3 hb0 K1
            go_upto_block 4 with (fail)
            generalize hA : w2.heap.size = A at *
            clear hA
            go_cut [15] (fun _ wx => ∃ (data rem : List UInt8) (e : Int), B = data ++ rem ∧ Both w A R2 FR2 data rem e wx)
            case first =>
              go_wp2_with fail
              go_loopw [15] (fun iv wr => ∃ n : Nat, iv = .int .i64 n ∧ n ≤ L.length ∧ ∃ (data rem : List UInt8), B = data ++ rem ∧ Both w A R2 FR2 data rem 0 wr) (fun iv _ => L.length - (intOf iv).toNat)
              case atStart => exact ⟨0, rfl, Nat.zero_le _, [], B, rfl, B0.out⟩
              case round =>
                clear B0
                obtain ⟨n, rfl, hn, data, rem, hBe, hbo⟩ := hrel
                have hn0 : (0 : Int) ≤ n := by omega
                have BE := Lib.hid hBe
                have BO := Lib.hid hbo
                have hlenB : B.length ≤ data.length + rem.length ∧ data.length + rem.length ≤ B.length := by rw [hBe, List.length_append]; exact ⟨Nat.le_refl _, Nat.le_refl _⟩
                obtain ⟨hlB1, hlB2⟩ := hlenB
                clear hBe hbo
                by_cases h1 : n < L.length
                case pos =>
                  obtain ⟨x, hx⟩ := get_of_lt h1
                  obtain ⟨g, o, ci, hv, hglt, hcs⟩ := SlAt.item HS.out (by omega)
                  cases hv
                  have CC := Lib.hid (hcs n x hx)
                  have hnl : (n : Int) < L.length := by omega
                  obtain ⟨F, hwr, hF, hrd⟩ := BO.out
                  have d0 := old_cell hrd.kept CC.out.1
                  have d1 := old_cell hrd.kept CC.out.2.1
                  have d2 := old_cell hrd.kept CC.out.2.2
                  have htk := hrd.takes (by omega) x (Kept.refl _ _)
                  obtain ⟨xt, xn, xs⟩ := x
                  have hback := fun (y : St.Item) (r : List UInt8) (h : rdI rem 0 xt = (y, r, 0)) => rdI_back h
                  have hfail := fun (h : (rdI rem 0 xt).2.2 ≠ 0) => rdI_fail h
                  have htk : Calls Try.prog 35 #[.pointer (some ⟨R2, 0, none⟩), .agg #[.bool xt, .int .i64 xn, .string xs]] wr fun e' w' => e' = .returned (.agg #[.bool (rdI rem 0 xt).1.text, .int .i64 (rdI rem 0 xt).1.n, .string (rdI rem 0 xt).1.s]) ∧ RdNew w R2 FR2 (rdI rem 0 xt).2.1 (rdI rem 0 xt).2.2 w' ∧ Kept (· = R2) wr w' := htk
                  generalize rdI rem 0 xt = T at *
                  obtain ⟨⟨it, ix, is⟩, rem', te⟩ := T
                  simp only at htk hfail
                  have HBK := Lib.hid hback
                  have HFL := Lib.hid hfail
                  clear hx hcs hwr hF hrd hback hfail
                  go_wp2_with fail
                  refine htk.mono ?_
                  rintro e' w5 ⟨rfl, hr5, hk5⟩
                  have hbo5 := BO.out.took hr5 hk5
                  have hk6 : Kept (fun _ => False) w5 (w5.alloc (.cells #[.bool it, .int .i64 ix, .string is] 49)) := (Kept.refl _ _).alloc _
                  have hbo6 := hbo5.kept hk6
                  have herr := rerr_any hbo6.rd.1
                  have B6 := Lib.hid hbo6
                  clear htk hr5 hk5 hbo5 hk6 hbo6 BO d0 d1 d2
                  go_wp2_with fail
                  refine herr.mono ?_
                  rintro e' w' ⟨rfl, hw⟩
                  obtain rfl := hw
                  clear herr
                  by_cases hte : te = 0
                  · subst hte
                    obtain ⟨hgd, hrm, hix, his⟩ := HBK.out _ _ rfl
                    have his' : is.size ≤ rem.length := his
                    obtain ⟨F6, hwr6, hF6, hrd6⟩ := B6.out
                    have hlay := lay_any hwr6 ⟨it, ix, is⟩ hix (by show is.size ≤ _; omega) (by omega)
                    rw [layI_good hgd] at hlay
                    have BB := Lib.hid (show B = (data ++ St.encI ⟨it, ix, is⟩) ++ rem' by rw [BE.out, hrm, List.append_assoc])
                    have HF6 := Lib.hid hF6
                    have HRD6 := Lib.hid hrd6
                    clear hgd hrm hix his hwr6 hF6 hrd6 HBK HFL
                    go_wp2_with fail
                    refine hlay.mono ?_
                    rintro e' w7 ⟨rfl, hg7⟩
                    have hb7 := Lib.hid (Both.laid HF6.out HRD6.out hg7)
                    clear hlay hg7 HF6 HRD6 B6
                    go_wp2_with fail
                    go_roundw
                    case rel => exact ⟨n + 1, by go_num, by omega, _, _, BB.out, hb7.out⟩
                    case measure => simp [intOf] <;> omega
                  · have hne : (te != 0) = true := by simpa using hte
                    have hrr := HFL.out hte
                    subst hrr
                    clear hte HBK HFL
                    go_wp2_with fail
                    go_meet
                    case rel => exact ⟨_, _, _, BE.out, B6.out⟩
                case neg =>
                  have hnl : ¬ (n : Int) < L.length := by omega
                  go_wp2_with fail
                  go_meet
                  case rel => exact ⟨_, _, _, BE.out, BO.out⟩
            case rest =>
              obtain ⟨data, rem, e, hBe, hbo⟩ := hcut
              have BE := Lib.hid hBe
              have hlenB : B.length ≤ data.length + rem.length ∧ data.length + rem.length ≤ B.length := by rw [hBe, List.length_append]; exact ⟨Nat.le_refl _, Nat.le_refl _⟩
              obtain ⟨hlB1, hlB2⟩ := hlenB
              obtain ⟨F, hwr, hF, hrd⟩ := hbo
              have hdata := wdata_any hwr (by omega)
              have HW := Lib.hid hwr
              have HR := Lib.hid hrd
              clear hBe hwr hF hrd B0
              go_wp2_with fail
              refine hdata.mono ?_
              rintro e' w5 ⟨v5, rfl, ho5, hk5⟩
              have hs5 := owns_slAt (E := byteE) ho5
              obtain ⟨a5, c5, rfl⟩ := owns_sl ho5
              have herr := werr_any (HW.out.keep hk5 (fun _ _ h => h))
              have hrd5 := HR.out.on hk5
              have hleft := rleft_any hrd5.1
              have hpre : SlAt byteE w5 (.slice ub data.length uc) data := by
                have h1 := HB.out.kept hrd5.kept
                have h2 := slAt_pre h1 data.length (by omega)
                rw [BE.out, List.take_left] at h2
                exact h2
              have hby := bytes_same hs5 hpre (by omega)
              have K5 := Lib.hid hrd5.kept
              have hq1 : ((data.length : Int) != (B.length : Int) - rem.length) = false := by simp; omega
              have hd0 : (0 : Int) ≤ data.length := by omega
              have hdc : (data.length : Int) ≤ uc := by have := UB.out; omega
              clear hdata ho5 hk5 hs5 hrd5 hpre HW HR
              go_wp2_with fail
              refine herr.mono ?_
              rintro e' w' ⟨rfl, rfl⟩
              go_wp2_with fail
              refine hleft.mono ?_
              rintro e' w' ⟨rfl, rfl⟩
              go_wp2_with fail
              refine hby.mono ?_
              rintro e' w' ⟨rfl, q5, rfl⟩
              have K6 := Lib.hid (K5.out.drewN q5)
              clear herr hleft hby K5
              generalize w5.drewN q5 = W6 at *
              have hcas : (p < 0 ∨ q < 0) ∨ (0 ≤ p ∧ 0 ≤ q) := by omega
              rcases hcas with hneg | ⟨hp0, hq0⟩
              · rcases (show p < 0 ∨ (0 ≤ p ∧ q < 0) by omega) with h | ⟨h, h'⟩
                all_goals
                  clear hneg
                  go_wp2_with fail
                  refine (known_any _).mono ?_
                  rintro e' w' ⟨rfl, hk6⟩
                  go_wp2_with fail
                  go_ret
                  exact ⟨rfl, K6.out.trans hk6 (fun _ _ h => h)⟩
              · obtain ⟨p', rfl⟩ : ∃ m : Nat, p = m := ⟨p.toNat, by omega⟩
                obtain ⟨q', rfl⟩ : ∃ m : Nat, q = m := ⟨q.toNat, by omega⟩
                have hp9 : p' < 9223372036854775808 := by have := hp.2; omega
                have hq9 : q' < 9223372036854775808 := by have := hq.2; omega
                have hk7 : Kept (fun _ => False) W6 (W6.alloc (.cells #[.slice none 0 0, .int .i64 0] 46)) := (Kept.refl _ _).alloc _
                have hk8 : Kept (fun _ => False) (W6.alloc (.cells #[.slice none 0 0, .int .i64 0] 46)) ((W6.alloc (.cells #[.slice none 0 0, .int .i64 0] 46)).alloc (.cells #[.slice none 0 0, .int .i64 0] 46)) := (Kept.refl _ _).alloc _
                have hw1 := (wr_zero W6).keep hk8 (fun _ _ h => h)
                have hw2 := wr_zero (W6.alloc (.cells #[.slice none 0 0, .int .i64 0] 46))
                rw [World.size_alloc] at hw2
                have hn1 := wnum_any hw1 p' hp (by simp)
                rw [layN_ok, List.nil_append] at hn1
                have HW2 := Lib.hid hw2
                have K8 := Lib.hid (K6.out.trans (hk7.trans hk8 (fun _ _ h => h)) (fun _ _ h => h))
                have hsz8 : W6.heap.size + 2 ≤ ((W6.alloc (.cells #[.slice none 0 0, .int .i64 0] 46)).alloc (.cells #[.slice none 0 0, .int .i64 0] 46)).heap.size := by simp
                have hszw : w.heap.size ≤ W6.heap.size := K6.out.size
                clear hk7 hk8 hw1 hw2 K6
                go_wp2_with fail
                generalize ((W6.alloc (.cells #[.slice none 0 0, .int .i64 0] 46)).alloc (.cells #[.slice none 0 0, .int .i64 0] 46)) = W8 at *
                refine hn1.mono ?_
                rintro e' w9 ⟨rfl, F9, h9, hF9, hk9⟩
                have hF9' : ∀ b, F9 b → ¬ b = W6.heap.size + 1 := fun b hb e => by
                  subst e
                  have : W6.heap.size + 1 = W6.heap.size := hF9 _ (by omega) hb
                  omega
                have hn2 := wnum_any (HW2.out.keep hk9 (fun b hb h => by have h1 : b = W6.heap.size + 1 := hb; have h2 : b = W6.heap.size := h; omega)) q' hq (by simp)
                rw [layN_ok, List.nil_append] at hn2
                have K9 := Lib.hid (K8.out.over hk9 (fun b hb => by have h2 : b = W6.heap.size := hb; omega))
                have H9 := Lib.hid h9
                clear h9 hF9 hk9 hn1 HW2 K8
                go_wp2_with fail
                refine hn2.mono ?_
                rintro e' w10 ⟨rfl, F10, h10, hF10, hk10⟩
                have hd1 := wdata_any (H9.out.keep hk10 (fun b hb h => hF9' b hb (by have h2 : b = W6.heap.size + 1 := h; exact h2))) (by have := numL_nine hp9; omega)
                have K10 := Lib.hid (K9.out.over hk10 (fun b hb => by have h2 : b = W6.heap.size + 1 := hb; omega))
                have H10 := Lib.hid h10
                clear h10 hF10 hk10 hn2 H9 K9 hF9'
                go_wp2_with fail
                refine hd1.mono ?_
                rintro e' w11 ⟨v11, rfl, ho11, hk11⟩
                have hd2 := wdata_any (H10.out.keep hk11 (fun _ _ h => h)) (by have := numL_nine hq9; omega)
                have hs11 := owns_slAt (E := byteE) ho11
                obtain ⟨a11, c11, rfl⟩ := owns_sl ho11
                have S11 := Lib.hid hs11
                have K11 := Lib.hid (K10.out.trans hk11 (fun _ _ h => h))
                clear hd1 ho11 hk11 hs11 H10 K10
                go_wp2_with fail
                refine hd2.mono ?_
                rintro e' w12 ⟨v12, rfl, ho12, hk12⟩
                have hs12 := owns_slAt (E := byteE) ho12
                obtain ⟨a12, c12, rfl⟩ := owns_sl ho12
                obtain ⟨_, _, hcq, hcap12, _⟩ := hs12.sl
                cases hcq
                have S12 := Lib.hid hs12
                have S11' := Lib.hid (S11.out.kept hk12)
                have K12 := Lib.hid (K11.out.trans hk12 (fun _ _ h => h))
                clear hd2 ho12 hk12 hs12 S11 K11
                have hx0 : (0 : Int) ≤ (numL p').length := by omega
                have hlp := numL_nine hp9
                by_cases hle : (numL p').length ≤ (numL q').length
                · have hleI : ((numL p').length : Int) ≤ (numL q').length := by omega
                  have hcI : ((numL p').length : Int) ≤ c12 := by omega
                  have hby := bytes_eq S11'.out (slAt_pre S12.out (numL p').length hle) (by omega)
                  have hdec : (decide (numL p' = (numL q').take (numL p').length) == ((q' : Int) == p')) = true := by
                    by_cases hpq : q' = p'
                    · subst hpq; rw [List.take_length]; simp
                    · have h1 : ¬ numL p' = (numL q').take (numL p').length := fun h => hpq (num_prefix hq9 hp9 (r := (numL q').drop (numL p').length) (by
                        conv => lhs; rw [← List.take_append_drop (numL p').length (numL q'), ← h]))
                      have h2 : ¬ (q' : Int) = p' := by omega
                      simp [h1, h2]
                  generalize decide (numL p' = (numL q').take (numL p').length) = d1 at *
                  clear hle
                  go_wp2_with fail
                  refine hby.mono ?_
                  rintro e' w' ⟨rfl, q13, rfl⟩
                  have K13 := Lib.hid (K12.out.drewN q13)
                  clear hby K12 S12 S11'
                  go_wp2_with fail
                  refine (known_any _).mono ?_
                  rintro e' w' ⟨rfl, hk14⟩
                  go_wp2_with fail
                  go_ret
                  exact ⟨rfl, K13.out.trans hk14 (fun _ _ h => h)⟩
                · have hleI : ¬ ((numL p').length : Int) ≤ (numL q').length := by omega
                  have hpq : ((q' : Int) == p') = false := by
                    rw [beq_eq_false_iff_ne]
                    intro h
                    have : q' = p' := by omega
                    subst this
                    exact hle (Nat.le_refl _)
                  clear hle
                  go_wp2_with fail
                  refine (known_any _).mono ?_
                  rintro e' w' ⟨rfl, hk14⟩
                  go_wp2_with fail
                  go_ret
                  exact ⟨rfl, K12.out.trans hk14 (fun _ _ h => h)⟩
end stampBack
end Go.Proofs.Ytdbnohlignpeaaa
