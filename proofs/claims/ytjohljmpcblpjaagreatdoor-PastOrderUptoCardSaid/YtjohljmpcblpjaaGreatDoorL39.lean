/- much: what the law plays is little. turned: a row in another order. The three operations that the law knows, plainly. The law's own row of operations. -/
import Derived.Test.YtjohljmpcblpjaaGreatDoorL32
import Derived.Test.YtjohljmpcblpjaaGreatDoorL22
import Derived.Test.YtjohljmpcblpjaaGreatDoorL3
import Derived.Test.YtjohljmpcblpjaaGreatDoorL8
import Derived.Test.YtjohljmpcblpjaaGreatDoorL33
import Derived.Test.YtjohljmpcblpjaaGreatDoorL38
namespace Go.Proofs.YtjohljmpcblpjaaGreatDoor.Pa
open Go.RowKit Go.Proofs.YtjohljmpcblpjaaGreatDoor.St Go.Proofs.YtjohljmpcblpjaaGreatDoor Go.Proofs.YtjohljmpcblpjaaGreatDoor.Tr
attribute [local go_sem] Oper.semAt_some
def sizeE (e : Ent) : Nat := e.v.text.size + e.v.deps.n + 10 * e.v.gone.n
def muchN (l : List Ent) : Nat := (l.map sizeE).sum
theorem muchN_snoc (L : List Ent) (x : Ent) : muchN (L ++ [x]) = muchN L + sizeE x := by simp [muchN]
theorem sum_le {α : Type} (f g : α → Nat) (h : ∀ x, f x ≤ g x) : ∀ L : List α, (L.map f).sum ≤ (L.map g).sum
  | [] => Nat.le_refl _
  | x :: L => by have := sum_le f g h L; have := h x; simp only [List.map_cons, List.sum_cons]; omega
theorem textN_much (l : List Ent) : textN l ≤ muchN l := sum_le _ _ (fun e => by unfold sizeE; omega) l
/-- little -/
structure FewE (l : List Ent) (n : Nat) : Prop where
  len : l.length ≤ 60
  vec : n ≤ 20000
  each : ∀ e ∈ l, e.v.text.size ≤ 20000 ∧ e.v.deps.n ≤ 20000 ∧ e.v.gone.n ≤ 20000
  all : muchN l ≤ 20000
def MuchPost (w : World) (L : List Ent) (vn : Nat) (r : Ending) (w' : World) : Prop := (∃ b, r = .returned (.bool b) ∧ (b = false ↔ FewE L vn)) ∧ Kept (fun _ => False) w w'
set_option maxRecDepth 100000 in
set_option maxHeartbeats 4000000 in
theorem much_any {w : World} {v va : Value} {vs : Option Addr} {vn vc : Nat} {L : List Ent} (h : SlAt entE w v L) (hvn : va = .slice vs vn vc) (ht : ∀ s ∈ L, s.v.text.size ≤ maxLen) :
    Calls Tryz.prog 9 #[v, va] w (MuchPost w L vn) := by
  subst hvn
  obtain ⟨a, c, rfl, _, _⟩ := h.sl
  have HL := Lib.hid h
  have HT := Lib.hid ht
  clear h ht
  by_cases h1 : 60 < L.length
  · have e1 : (60 : Int) < L.length := by omega
    go_enter Tryz.func9, Tryz.ntmps9
    go_wp2_with fail
    go_ret
    exact ⟨⟨true, rfl, fun h => (by cases h), fun h => absurd h.len (by omega)⟩, Kept.refl _ _⟩
  have e1 : ¬ (60 : Int) < L.length := by omega
  by_cases h2 : 20000 < vn
  · have e2 : (20000 : Int) < vn := by omega
    clear h1
    go_enter Tryz.func9, Tryz.ntmps9
    go_wp2_with fail
    go_ret
    exact ⟨⟨true, rfl, fun h => (by cases h), fun h => absurd h.vec (by omega)⟩, Kept.refl _ _⟩
  have e2 : ¬ (20000 : Int) < vn := by omega
  go_enter Tryz.func9, Tryz.ntmps9
  go_wp2_with fail
  clear e1 e2
  go_loopw [5, 6] (fun kv iv wr => ∃ n : Nat, iv = .int .i64 n ∧ kv = .int .i64 (muchN (L.take n)) ∧ n ≤ L.length ∧ muchN (L.take n) ≤ 240000 * n ∧ (∀ s ∈ L.take n, s.v.text.size ≤ 20000 ∧ s.v.deps.n ≤ 20000 ∧ s.v.gone.n ≤ 20000) ∧ Kept (fun _ => False) w wr) (fun _ iv _ => L.length - (intOf iv).toNat)
  case atStart => exact ⟨0, rfl, by simp [muchN], Nat.zero_le _, by simp [muchN], fun s hs => by simp at hs, Kept.refl _ _⟩
  case round =>
    obtain ⟨n, rfl, rfl, hn, hnt, hno, hk⟩ := hrel
    have NO := Lib.hid hno
    have HK := Lib.hid hk
    clear hno
    have hn0 : (0 : Int) ≤ n := by omega
    by_cases hlt : n < L.length
    case neg =>
      have hltI : ¬ (n : Int) < L.length := by omega
      have hn9 : n = L.length := by omega
      have e9 : L.take n = L := by rw [hn9, List.take_length]
      have NO2 := Lib.hid (e9 ▸ NO.out)
      rw [e9] at hnt ⊢
      obtain ⟨mn, hmn⟩ : ∃ mn, muchN L = mn := ⟨_, rfl⟩
      rw [hmn] at hnt ⊢
      have HM := Lib.hid hmn
      clear hn9 e9 hmn hk
      by_cases q3 : (20000 : Int) < mn
      · go_wp2_with fail
        go_ret
        exact ⟨⟨true, rfl, fun h => (by cases h), fun h => absurd h.all (by rw [HM.out]; omega)⟩, HK.out⟩
      · go_wp2_with fail
        go_ret
        exact ⟨⟨false, rfl, fun _ => ⟨by omega, by omega, NO2.out, by rw [HM.out]; omega⟩, fun _ => rfl⟩, HK.out⟩
    case pos =>
      have hltI : (n : Int) < L.length := by omega
      obtain ⟨x, hx⟩ := get_of_lt hlt
      obtain ⟨g, o, c', e2, hcs⟩ := SlAt.opc (HL.out.kept hk) (by omega)
      cases e2
      obtain ⟨_, _, c2, _, _, _, _, _, c8, c9, _⟩ := hcs n x hx
      have htk : L.take (n + 1) = L.take n ++ [x] := by rw [List.take_add_one, hx]; rfl
      have NX := Lib.hid (fun h : FewE L vn => h.each x (List.mem_of_getElem? hx))
      have TN : Hid (muchN (L.take (n + 1)) = muchN (L.take n) + (x.v.text.size + x.v.deps.n + 10 * x.v.gone.n)) := Lib.hid (by rw [htk, muchN_snoc]; rfl)
      have EA : Hid (x.v.text.size ≤ 20000 ∧ x.v.deps.n ≤ 20000 ∧ x.v.gone.n ≤ 20000 → ∀ s ∈ L.take (n + 1), s.v.text.size ≤ 20000 ∧ s.v.deps.n ≤ 20000 ∧ s.v.gone.n ≤ 20000) := Lib.hid (fun hh s hs => by
        rw [htk] at hs
        rcases List.mem_append.1 hs with hs | hs
        · exact NO.out s hs
        · rw [List.mem_singleton.1 hs]; exact hh)
      obtain ⟨tn, htn⟩ : ∃ tn, muchN (L.take n) = tn := ⟨_, rfl⟩
      rw [htn] at TN hnt ⊢
      have hw1 : IntKind.i64.wrap ((n : Int) + 1) = (n : Int) + 1 := IntWalk.i64_in _ (by omega)
      obtain ⟨ts, hts⟩ : ∃ ts, x.v.text.size = ts := ⟨_, rfl⟩
      obtain ⟨dn, hdn⟩ : ∃ dn, x.v.deps.n = dn := ⟨_, rfl⟩
      obtain ⟨gn, hgn⟩ : ∃ gn, x.v.gone.n = gn := ⟨_, rfl⟩
      obtain ⟨tx, htx⟩ : ∃ tx, x.v.text = tx := ⟨_, rfl⟩
      rw [htx] at hts c8
      rw [hdn] at c2 TN EA NX
      rw [hgn] at c9 TN EA NX
      rw [htx, hts] at TN EA NX
      clear hcs hx htk htn hdn hgn htx hk
      by_cases q1 : (20000 : Int) < ts
      · go_wp2_with fail
        go_ret
        exact ⟨⟨true, rfl, fun h => (by cases h), fun h => absurd (NX.out h) (by omega)⟩, HK.out⟩
      · by_cases q2 : (20000 : Int) < dn
        · go_wp2_with fail
          go_ret
          exact ⟨⟨true, rfl, fun h => (by cases h), fun h => absurd (NX.out h) (by omega)⟩, HK.out⟩
        · by_cases q3 : (20000 : Int) < gn
          · go_wp2_with fail
            go_ret
            exact ⟨⟨true, rfl, fun h => (by cases h), fun h => absurd (NX.out h) (by omega)⟩, HK.out⟩
          · have hn60 : n < 60 := by omega
            have a1 : IntKind.i64.wrap ((tn : Int) + ts) = (tn : Int) + ts := IntWalk.i64_in _ (by omega)
            have a2 : IntKind.i64.wrap ((tn : Int) + ts + dn) = (tn : Int) + ts + dn := IntWalk.i64_in _ (by omega)
            have a3 : IntKind.i64.wrap (10 * (gn : Int)) = 10 * (gn : Int) := IntWalk.i64_in _ (by omega)
            have a4 : IntKind.i64.wrap ((tn : Int) + ts + dn + 10 * gn) = (tn : Int) + ts + dn + 10 * gn := IntWalk.i64_in _ (by omega)
            have NB : Hid (tn + (ts + dn + 10 * gn) ≤ 240000 * (n + 1)) := Lib.hid (by omega)
            have EB := Lib.hid (EA.out ⟨by omega, by omega, by omega⟩)
            clear hnt
            go_upto_region 9 with fail
            go_quiet (fail)
            go_wp2
            go_roundw
            case rel => exact ⟨n + 1, by go_num, by rw [TN.out]; push_cast; rw [Int.add_assoc, Int.add_assoc, Int.add_assoc], by omega, by rw [TN.out]; exact NB.out, EB.out, HK.out.drewN _⟩
            case measure => simp [intOf]; omega
theorem much_no {w : World} {v : Value} {vs : Option Addr} {vn vc : Nat} {L : List Ent} (h : SlAt entE w v L) (ht : ∀ s ∈ L, s.v.text.size ≤ maxLen) (hf : FewE L vn) :
    Calls Tryz.prog 9 #[v, .slice vs vn vc] w fun r w' => r = .returned (.bool false) ∧ Kept (fun _ => False) w w' :=
  (much_any h rfl ht).mono fun r w' ⟨⟨b, h1, h2⟩, h3⟩ => ⟨by rw [h1, h2.2 hf], h3⟩
theorem much_yes {w : World} {v : Value} {vs : Option Addr} {vn vc : Nat} {L : List Ent} (h : SlAt entE w v L) (ht : ∀ s ∈ L, s.v.text.size ≤ maxLen) (hf : ¬ FewE L vn) :
    Calls Tryz.prog 9 #[v, .slice vs vn vc] w fun r w' => r = .returned (.bool true) ∧ Kept (fun _ => False) w w' :=
  (much_any h rfl ht).mono fun r w' ⟨⟨b, h1, h2⟩, h3⟩ => ⟨by cases b with | false => exact absurd (h2.1 rfl) hf | true => exact h1, h3⟩
end Go.Proofs.YtjohljmpcblpjaaGreatDoor.Pa
namespace Go.Proofs.YtjohljmpcblpjaaGreatDoor.Pa
open Go.RowKit Go.Proofs.YtjohljmpcblpjaaGreatDoor.St Go.Proofs.YtjohljmpcblpjaaGreatDoor Go.Proofs.YtjohljmpcblpjaaGreatDoor.Tr
attribute [local go_sem] Oper.semAt_some
def TurnedPost (w : World) (l : List Ent) (e : Ending) (w' : World) : Prop := (∃ v m, e = .returned v ∧ SlAt entE w' v m ∧ m.Perm l) ∧ Kept (fun _ => False) w w'
set_option maxRecDepth 100000 in
set_option maxHeartbeats 8000000 in
theorem turned_any {w : World} {lv tv : Value} {l : List Ent} {T : List Int} (hl : SlAt entE w lv l) (hT : SlAt intE w tv T) (hI : ∀ t ∈ T, I64 t) (hlen : l.length ≤ 60) (hTl : T.length ≤ 200) :
    Calls Tryz.prog 30 #[lv, tv] w (TurnedPost w l) := by
  obtain ⟨ta, tc, rfl, _, _⟩ := hT.sl
  have HL := Lib.hid hl
  have HT := Lib.hid hT
  have HI := Lib.hid hI
  clear hl hT hI
  go_enter Tryz.func30, Tryz.ntmps30
  go_wp2_with (at_builtin; refine wpList_append_row entE rfl (.tmp 9) (.tmp 10) 22 rfl w.heap.size 62 _ 128 Tryz.underlying22 info_op rfl (D := []) rfl rfl (World.ownsRow_nil ..) HL.out (by have : l.length ≤ 60 := hlen; show 0 + l.length ≤ maxLen; unfold maxLen; omega) (by show (0 + l.length) * 128 ≤ 140737488355328; omega) (Nat.le_refl _) ?_; intro v1 w1 ho1 hk1)
  have k1 : Kept (fun _ => False) w w1 := hk1.mono fun b _ hb => by cases hb
  rw [List.nil_append] at ho1
  clear hk1
  by_cases hnil : l = []
  · subst hnil
    have SV := owns_slAt (E := entE) ho1
    obtain ⟨va, vc, rfl, _, _⟩ := SV.sl
    have S2 := Lib.hid SV
    have K1 := Lib.hid k1
    clear SV k1 ho1
    go_loopw [6] (fun iv wr => iv = .int .i64 0 ∧ w1 = wr) (fun _ _ => 0)
    case atStart => exact ⟨rfl, rfl⟩
    case round =>
      obtain ⟨rfl, rfl⟩ := hrel
      by_cases hT0 : (0 : Int) < T.length
      all_goals
        go_wp2_with fail
        go_ret
        exact ⟨⟨_, [], rfl, S2.out, List.Perm.refl _⟩, K1.out⟩
  have hlp := List.length_pos_iff.2 hnil
  obtain ⟨_, hv⟩ := own_of ho1
  rcases hv with ⟨_, hn⟩ | ⟨g, cap, rfl, hg, ho⟩
  · exact absurd hn hnil
  have K1 := Lib.hid k1
  have HO := Lib.hid ho
  clear k1 ho ho1 hnil
  have hl9 : (0 : Int) < (l.length : Int) := by omega
  go_loopw [6] (fun iv wr => ∃ (n : Nat) (m : List Ent), iv = .int .i64 n ∧ n ≤ T.length ∧ Kept (fun _ => False) w wr ∧ OwnAt entE wr 62 g cap m ∧ m.Perm l) (fun iv _ => T.length - (intOf iv).toNat)
  case atStart => exact ⟨0, l, rfl, Nat.zero_le _, K1.out, HO.out, List.Perm.refl _⟩
  case round =>
    obtain ⟨n, m, rfl, hn, hk, ho, hp⟩ := hrel
    have hn0 : (0 : Int) ≤ n := by omega
    have hml := hp.length_eq
    have KW := Lib.hid hk
    have HM := Lib.hid ho
    have HP := Lib.hid hp
    clear hk ho hp
    by_cases hlt : n < T.length
    case neg =>
      have hltI : ¬ (n : Int) < T.length := by omega
      have FIN := Lib.hid HM.out.slAt
      rw [hml] at FIN
      clear hml
      go_wp2_with fail
      go_ret
      exact ⟨⟨_, m, rfl, FIN.out, HP.out⟩, KW.out⟩
    case pos =>
      have hltI : (n : Int) < T.length := by omega
      obtain ⟨t, ht⟩ := get_of_lt hlt
      obtain ⟨g2, o2, c2, e2, hcs⟩ := SlAt.intc (HT.out.kept KW.out) (by omega)
      cases e2
      have ct := hcs n t ht
      have hti := HI.out t (List.mem_of_getElem? ht)
      have hr1 := Int.lt_tmod_of_pos t hl9
      have hr2 := Int.tmod_lt_of_pos t hl9
      obtain ⟨r, hr⟩ : ∃ r, t.tmod (l.length : Int) = r := ⟨_, rfl⟩
      rw [hr] at hr1 hr2
      obtain ⟨k, hkk⟩ : ∃ k : Nat, (k : Int) = if r < 0 then r + l.length else r := ⟨(if r < 0 then r + (l.length : Int) else r).toNat, by split <;> omega⟩
      have hkl : k < m.length := by rw [hml]; split at hkk <;> omega
      have hkl2 : (k : Int) < l.length := by omega
      have hk0 : (0 : Int) ≤ k := by omega
      obtain ⟨xk, hxk⟩ := get_of_lt hkl
      have h0l : 0 < m.length := by omega
      obtain ⟨x0, hx0⟩ := get_of_lt h0l
      have SW : Hid (((m.set 0 xk).set k x0).Perm m) := Lib.hid (by
        have h9 := swap_perm h0l hkl
        rw [(List.getElem?_eq_some_iff.1 hxk).2, (List.getElem?_eq_some_iff.1 hx0).2] at h9
        exact h9)
      have HX0 := Lib.hid hx0
      have HXK := Lib.hid hxk
      have HH0 := Lib.hid h0l
      have HKL := Lib.hid hkl
      have HKK := Lib.hid hkk
      have hn9 : ¬ (l.length : Int) = 0 := by omega
      have a1 : IntKind.i64.wrap r = r := IntWalk.i64_in _ (by omega)
      have a2 : IntKind.i64.wrap (r + l.length) = r + l.length := IntWalk.i64_in _ (by omega)
      have a3 : IntKind.i64.wrap ((n : Int) + 1) = (n : Int) + 1 := IntWalk.i64_in _ (by omega)
      obtain ⟨⟨⟨ds, dq⟩, ⟨da, dn, dc⟩, kd, ⟨it, is⟩, ⟨rt, rs⟩, tx, ⟨ga, gn, gc⟩, st⟩, D, G⟩ := x0
      have c0 : wr.cell? ⟨g, 0, none⟩ = some (.int .i64 ds) := HM.out.ent hx0 (j := 0) rfl
      have c1 : wr.cell? ⟨g, 1, none⟩ = some (.int .i64 dq) := HM.out.ent hx0 (j := 1) rfl
      have c2 : wr.cell? ⟨g, 2, none⟩ = some (.slice da dn dc) := HM.out.ent hx0 (j := 2) rfl
      have c3 : wr.cell? ⟨g, 3, none⟩ = some (.int .i64 kd) := HM.out.ent hx0 (j := 3) rfl
      have c4 : wr.cell? ⟨g, 4, none⟩ = some (.int .i64 it) := HM.out.ent hx0 (j := 4) rfl
      have c5 : wr.cell? ⟨g, 5, none⟩ = some (.int .i64 is) := HM.out.ent hx0 (j := 5) rfl
      have c6 : wr.cell? ⟨g, 6, none⟩ = some (.int .i64 rt) := HM.out.ent hx0 (j := 6) rfl
      have c7 : wr.cell? ⟨g, 7, none⟩ = some (.int .i64 rs) := HM.out.ent hx0 (j := 7) rfl
      have c8 : wr.cell? ⟨g, 8, none⟩ = some (.string tx) := HM.out.ent hx0 (j := 8) rfl
      have c9 : wr.cell? ⟨g, 9, none⟩ = some (.slice ga gn gc) := HM.out.ent hx0 (j := 9) rfl
      have c10 : wr.cell? ⟨g, 10, none⟩ = some (.int .i64 st) := HM.out.ent hx0 (j := 10) rfl
      have k1 : Kept (fun _ => False) wr (wr.alloc (.cells #[.int .i64 ds, .int .i64 dq, .slice da dn dc, .int .i64 kd, .int .i64 it, .int .i64 is, .int .i64 rt, .int .i64 rs, .string tx, .slice ga gn gc, .int .i64 st] 62)) := (Kept.refl _ _).alloc _
      have b1 := Blk.new wr 62 #[.int .i64 ds, .int .i64 dq, .slice da dn dc, .int .i64 kd, .int .i64 it, .int .i64 is, .int .i64 rt, .int .i64 rs, .string tx, .slice ga gn gc, .int .i64 st]
      have HGL := Lib.hid HM.out.lt
      clear hcs ht hti hxk hx0 h0l hkl hkk
      by_cases hneg : r < 0
      case' pos =>
        have hkk : r + l.length = k := by have := HKK.out; rw [if_pos hneg] at this; omega
        replace a2 := a2.trans hkk
        clear hkk
      case' neg =>
        have hkk : (k : Int) = r := by have := HKK.out; rw [if_neg hneg] at this; exact this
        subst hkk
        clear a2
      all_goals
        go_upto_region 10 with fail
        clear c0 c1 c2 c3 c4 c5 c6 c7 c8 c9 c10
        obtain ⟨W1, hW1⟩ : ∃ W1, wr.alloc (.cells #[.int .i64 ds, .int .i64 dq, .slice da dn dc, .int .i64 kd, .int .i64 it, .int .i64 is, .int .i64 rt, .int .i64 rs, .string tx, .slice ga gn gc, .int .i64 st] 62) = W1 := ⟨_, rfl⟩
        obtain ⟨z, hz⟩ : ∃ z, wr.heap.size = z := ⟨_, rfl⟩
        rw [hW1] at k1 b1 ⊢
        rw [hz] at b1 HGL ⊢
        have B1 := Lib.hid b1
        have K2 := Lib.hid k1
        have OA : Hid (OwnAt entE W1 62 g cap m) := Lib.hid (HM.out.keep k1 (fun h => h))
        clear hW1 hz k1 b1
        go_upto_region 11 with (first
          | (refine wpList_load_elem (E := entE) (z := xk) (i := k) rfl 62 _ rfl rfl OA.out HXK.out Tryz.underlying62 rfl size_op ?_)
          | (refine wpList_store_elem (E := entE) (i := 0) rfl 62 _ _ rfl xk rfl rfl OA.out HH0.out size_op ?_; intro W2 hoa hka))
        have b2 : Blk W2 z 62 #[.int .i64 ds, .int .i64 dq, .slice da dn dc, .int .i64 kd, .int .i64 it, .int .i64 is, .int .i64 rt, .int .i64 rs, .string tx, .slice ga gn gc, .int .i64 st] := hka.blk (by have := HGL.out; omega) B1.out
        have z0 : W2.cell? ⟨z, 0, none⟩ = some (.int .i64 ds) := b2.cell' (i := 0) rfl
        have z1 : W2.cell? ⟨z, 1, none⟩ = some (.int .i64 dq) := b2.cell' (i := 1) rfl
        have z2 : W2.cell? ⟨z, 2, none⟩ = some (.slice da dn dc) := b2.cell' (i := 2) rfl
        have z3 : W2.cell? ⟨z, 3, none⟩ = some (.int .i64 kd) := b2.cell' (i := 3) rfl
        have z4 : W2.cell? ⟨z, 4, none⟩ = some (.int .i64 it) := b2.cell' (i := 4) rfl
        have z5 : W2.cell? ⟨z, 5, none⟩ = some (.int .i64 is) := b2.cell' (i := 5) rfl
        have z6 : W2.cell? ⟨z, 6, none⟩ = some (.int .i64 rt) := b2.cell' (i := 6) rfl
        have z7 : W2.cell? ⟨z, 7, none⟩ = some (.int .i64 rs) := b2.cell' (i := 7) rfl
        have z8 : W2.cell? ⟨z, 8, none⟩ = some (.string tx) := b2.cell' (i := 8) rfl
        have z9 : W2.cell? ⟨z, 9, none⟩ = some (.slice ga gn gc) := b2.cell' (i := 9) rfl
        have z10 : W2.cell? ⟨z, 10, none⟩ = some (.int .i64 st) := b2.cell' (i := 10) rfl
        have OB := Lib.hid hoa
        have KB := Lib.hid hka
        have KL2 : Hid (k < (m.set 0 xk).length) := Lib.hid (by rw [List.length_set]; exact HKL.out)
        clear hoa hka b2
        go_wp2_with (refine wpList_store_elem (E := entE) (i := k) rfl 62 _ _ rfl ⟨⟨⟨ds, dq⟩, ⟨da, dn, dc⟩, kd, ⟨it, is⟩, ⟨rt, rs⟩, tx, ⟨ga, gn, gc⟩, st⟩, D, G⟩ rfl rfl OB.out KL2.out size_op ?_; intro W3 hoc hkc)
        have KK : Hid (Kept (fun b => b = g) wr W3) := Lib.hid (((K2.out.mono (S' := fun b => b = g) fun _ _ h => h.elim).trans KB.out fun _ _ h => h).trans hkc fun _ _ h => h)
        have OC := Lib.hid hoc
        clear hoc hkc z0 z1 z2 z3 z4 z5 z6 z7 z8 z9 z10
        go_roundw
        case rel => exact ⟨n + 1, _, by go_num, by omega, KW.out.over KK.out fun b hb => by omega, OC.out, SW.out.trans HP.out⟩
        case measure => simp [intOf]; omega
end Go.Proofs.YtjohljmpcblpjaaGreatDoor.Pa
namespace Go.Proofs.YtjohljmpcblpjaaGreatDoor.Pa
open Go.RowKit Go.Proofs.YtjohljmpcblpjaaGreatDoor.St Go.Proofs.YtjohljmpcblpjaaGreatDoor Go.Proofs.YtjohljmpcblpjaaGreatDoor.Tr
def kE1 (a g : Option Addr) : Ent := ⟨⟨⟨1, 3⟩, ⟨a, 1, 1⟩, 2, ⟨0, 0⟩, ⟨0, 0⟩, ⟨#[]⟩, ⟨g, 1, 1⟩, 0⟩, [⟨1, 2⟩], [⟨⟨1, 1⟩, 1⟩]⟩
def kE2 (a : Option Addr) : Ent := ⟨⟨⟨1, 2⟩, ⟨a, 1, 1⟩, 1, ⟨1, 1⟩, ⟨0, 0⟩, ⟨#[97, 98]⟩, ⟨none, 0, 0⟩, 0⟩, [⟨1, 1⟩], []⟩
def kE3 : Ent := ⟨⟨⟨1, 1⟩, ⟨none, 0, 0⟩, 3, ⟨0, 0⟩, ⟨0, 0⟩, ⟨#[]⟩, ⟨none, 0, 0⟩, 1⟩, [], []⟩
def kL (a g b : Option Addr) : List Ent := [kE1 a g, kE2 b, kE3]
theorem kgood : St.Good [⟨⟨1, 1⟩, 1⟩] := fun n x h => by
  cases n with
  | zero =>
    simp only [List.getElem?_cons_zero, Option.some.injEq] at h
    subst h
    show why [] ⟨⟨1, 1⟩, 1⟩ = 0
    unfold why
    rw [if_neg (by decide), if_neg (fun ⟨p, h, _⟩ => by simp at h), if_neg (fun ⟨p, h, _⟩ => by simp at h)]
  | succ n => simp at h
variable (a g b : Option Addr)
theorem kok1 : opOk (kE1 a g).v (kE1 a g).D (kE1 a g).G := ⟨by show Dot.Ok ⟨1, 3⟩; decide, by show chkV 0 [⟨1, 2⟩] = 0; decide, by show getV [⟨1, 2⟩] 1 = 3 - 1; decide, .inr (.inl ⟨rfl, ⟨rfl, rfl, rfl, rfl, rfl, rfl⟩, by show 0 < 1; decide, by show 1 ≤ 1024; decide, kgood⟩)⟩
theorem kok2 : opOk (kE2 b).v (kE2 b).D (kE2 b).G := ⟨by show Dot.Ok ⟨1, 2⟩; decide, by show chkV 0 [⟨1, 1⟩] = 0; decide, by show getV [⟨1, 1⟩] 1 = 2 - 1; decide, .inl ⟨rfl, rfl, rfl, by show 0 < Gl.countR ⟨#[97, 98]⟩; decide +kernel, by show Gl.countR ⟨#[97, 98]⟩ ≤ 1024; decide +kernel, by show Gl.badFrom ⟨#[97, 98]⟩ 0 < 0; decide +kernel, rfl, by show (⟨1, 1⟩ : ID).after ((Gl.countR ⟨#[97, 98]⟩ : Int) - 1) ≠ ⟨0, 0⟩; decide +kernel, .inl rfl, by show (0 : Int) < 1; decide⟩⟩
theorem kok3 : opOk kE3.v kE3.D kE3.G := ⟨by decide, by decide, by decide, .inr (.inr (.inl ⟨rfl, rfl, rfl, rfl, rfl, rfl, rfl, by decide, by decide⟩))⟩
theorem kwhole {K D : List Dot} {n : Int} (hD : D = [⟨1, n⟩]) (hK : ∀ k : Int, 1 ≤ k → k ≤ n → (⟨1, k⟩ : Dot) ∈ K) : wholeP K D := fun d hd k h1 h2 => by
  subst hD
  obtain rfl := List.mem_singleton.1 hd
  exact hK k h1 h2
theorem kk1 {n : Int} (h : ¬ (2 : Int) = n) : ¬ (kE1 a g).v.kind = n := h
theorem kk2 {n : Int} (h : ¬ (1 : Int) = n) : ¬ (kE2 b).v.kind = n := h
theorem kdots : (kL a g b).map dotOf = [⟨1, 3⟩, ⟨1, 2⟩, ⟨1, 1⟩] := rfl
theorem kmem {k n : Int} (h1 : 1 ≤ k) (h2 : k ≤ n) (h3 : n ≤ 3) : (⟨1, k⟩ : Dot) ∈ ([⟨1, 3⟩, ⟨1, 2⟩, ⟨1, 1⟩] : List Dot) := by
  have : k = 1 ∨ k = 2 ∨ k = 3 := by omega
  rcases this with rfl | rfl | rfl <;> simp
theorem kbad : ∀ e ∈ kL a g b, ¬ badE e := fun e he h => by
  simp only [kL, List.mem_cons, List.not_mem_nil, or_false] at he
  rcases he with rfl | rfl | rfl
  · exact h (kok1 a g)
  · exact h (kok2 b)
  · exact h kok3
theorem kclosed : closedE (kL a g b) = 0 := closedC_is (kbad a g b) (by rw [kdots]; decide) fun e he => by
  rw [kdots]
  simp only [kL, List.mem_cons, List.not_mem_nil, or_false] at he
  rcases he with rfl | rfl | rfl
  · exact kwhole (n := 2) rfl fun k h1 h2 => kmem h1 h2 (by decide)
  · exact kwhole (n := 1) rfl fun k h1 h2 => kmem h1 h2 (by decide)
  · exact fun d hd => absurd hd (by simp [depOf, kE3])
theorem kopen : closedE [kE1 a g] = 20 := by
  unfold closedE closedC
  rw [if_neg (fun ⟨e, he, hb⟩ => by obtain rfl := List.mem_singleton.1 he; exact hb (kok1 a g)), if_neg (fun h => h (by simp)), if_pos]
  refine ⟨kE1 a g, by simp, fun h => ?_⟩
  have := h ⟨1, 2⟩ (by simp [depOf, kE1]) 1 (by decide) (by decide)
  revert this
  simp [dotOf, kE1]
theorem krow : rowL (kL a g b) = [kE3, kE2 b, kE1 a g] := by kernel_rfl
def kD1 : List Nd := [kn 1 1 0 0 97 1, kn 2 1 1 1 98 1]
def kD2 : List Nd := [kn 1 1 0 0 97 2, kn 2 1 1 1 98 1]
def kD3 : List Nd := [kn 1 1 0 0 97 3, kn 2 1 1 1 98 1]
theorem runes_ab : runesL ⟨#[97, 98]⟩ 0 = [97, 98] := by decide +kernel
theorem kins : insL [] ⟨1, 1⟩ ⟨0, 0⟩ (ByteArray.mk #[97, 98]).size (badB ⟨#[97, 98]⟩) (runesL ⟨#[97, 98]⟩ 0) = kD1 := by
  have h : insE [] ⟨1, 1⟩ ⟨0, 0⟩ (ByteArray.mk #[97, 98]).size (badB ⟨#[97, 98]⟩) (runesL ⟨#[97, 98]⟩ 0) = 0 := insE_is0 (by decide) (by decide +kernel) (by rw [runes_ab]; decide) (by decide) (.inl rfl) (by rw [runes_ab]; decide +kernel)
  unfold insL
  rw [if_neg (fun hh => hh h), runes_ab]
  decide +kernel
theorem kdoc : docP (kL a g b) = kD2 := by
  unfold docP
  have e1 : stepD [] kE3 = [] := by unfold stepD; rw [if_neg (by decide), if_neg (by decide)]
  have e2 : stepD [] (kE2 b) = kD1 := by unfold stepD; rw [if_pos (show (kE2 b).v.kind = 1 from rfl)]; exact kins
  have e3 : stepD kD1 (kE1 a g) = kD2 := by unfold stepD; rw [if_neg (kk1 a g (n := 1) (by decide)), if_pos (show (kE1 a g).v.kind = 2 from rfl)]; show kD1.map (turnF [⟨⟨1, 1⟩, 1⟩] 1 2) = kD2; decide +kernel
  rw [krow, List.foldl_cons, List.foldl_cons, List.foldl_cons, List.foldl_nil, e1, e2, e3]
theorem kdocS : docS (kL a g b) = kD2 := by unfold docS; rw [if_pos (kclosed a g b), kdoc]
theorem ktext : textB (shL kD2) = [98] := by decide +kernel
theorem kmemS : memS (kL a g b) = [1] := by
  unfold memS memP
  rw [if_pos (kclosed a g b), krow]
  show intsL (bitsL ((stepM (stepM (stepM (0#32, 0#32) kE3) (kE2 b)) (kE1 a g)).1 &&& ~~~(stepM (stepM (stepM (0#32, 0#32) kE3) (kE2 b)) (kE1 a g)).2)) = [1]
  have e1 : stepM (0#32, 0#32) kE3 = (2#32, 0#32) := by decide
  have e2 : stepM (2#32, 0#32) (kE2 b) = (2#32, 0#32) := by unfold stepM; rw [if_neg (kk2 b (n := 3) (by decide)), if_neg (kk2 b (n := 4) (by decide))]
  have e3 : stepM (2#32, 0#32) (kE1 a g) = (2#32, 0#32) := by unfold stepM; rw [if_neg (kk1 a g (n := 3) (by decide)), if_neg (kk1 a g (n := 4) (by decide))]
  rw [e1, e2, e3]
  decide
theorem kupto3 : uptoL [⟨1, 3⟩] (kL a g b) = kL a g b := by kernel_rfl
theorem kupto2 : uptoL [⟨1, 2⟩] (kL a g b) = [kE2 b, kE3] := by kernel_rfl
theorem knodesC : nodesC (kL a g b) [⟨1, 3⟩] = 0 := by
  unfold nodesC
  rw [if_neg (fun h => h (kclosed a g b)), if_neg (by decide), if_neg]
  rintro (h | h)
  · exact h (by rw [kdots]; exact kwhole (n := 3) rfl fun k h1 h2 => kmem h1 h2 (by decide))
  · exact h (by rw [kupto3]; exact kclosed a g b)
theorem knodes : nodesS (kL a g b) [⟨1, 3⟩] = kD3 := by
  unfold nodesS
  rw [if_pos (knodesC a g b), kupto3, kdoc]
  show collR (setD (setD (setD kD2 (kE1 a g)) (kE2 b)) kE3) = kD3
  have e1 : setD kD2 (kE1 a g) = kD3 := by unfold setD; rw [if_pos (show (kE1 a g).v.kind = 2 from rfl)]; show kD2.map (turnF [⟨⟨1, 1⟩, 1⟩] 2 3) = kD3; decide +kernel
  have e2 : setD kD3 (kE2 b) = kD3 := by unfold setD; rw [if_neg (kk2 b (n := 2) (by decide))]
  have e3 : setD kD3 kE3 = kD3 := by unfold setD; rw [if_neg (show ¬ kE3.v.kind = 2 by decide)]
  rw [e1, e2, e3]
  decide +kernel
theorem kuptoS : uptoS [⟨1, 2⟩] (kL a g b) = [kE2 b, kE3] := by unfold uptoS; rw [if_pos (by decide), kupto2]
end Go.Proofs.YtjohljmpcblpjaaGreatDoor.Pa
namespace Go.Proofs.YtjohljmpcblpjaaGreatDoor.Pa
open Go.RowKit Go.Proofs.YtjohljmpcblpjaaGreatDoor.St Go.Proofs.YtjohljmpcblpjaaGreatDoor Go.Proofs.YtjohljmpcblpjaaGreatDoor.Tr
attribute [local go_sem] Oper.semAt_some
set_option maxRecDepth 100000 in
set_option maxHeartbeats 4000000 in
theorem lrow_any (w : World) : Calls Tryz.prog 41 #[] w fun e w' => (∃ v, e = .returned v ∧ v = .slice (some ⟨w.heap.size + 3, 0, none⟩) 3 3 ∧ ∃ a g b, SlAt entE w' v (kL a g b) ∧ ∀ e ∈ kL a g b, OpIn w' e) ∧ Kept (fun _ => False) w w' := by
  go_enter Tryz.func41, Tryz.ntmps41
  go_wp2
  go_ret
  have d1 := SlAt.lit (E := dotE) (w := w) (t := 29) [⟨1, 2⟩] #[.int .i64 1, .int .i64 2] rfl (by show 1 ≤ maxLen; decide)
  obtain ⟨w1, hw1⟩ : ∃ w1, w.alloc (.cells #[.int .i64 1, .int .i64 2] 29) = w1 := ⟨_, rfl⟩
  have k1 : Kept (fun _ => False) w w1 := by rw [← hw1]; exact (Kept.refl _ _).alloc _
  have s1 : w1.heap.size = w.heap.size + 1 := by rw [← hw1]; simp
  rw [hw1] at d1 ⊢
  have d2 := SlAt.lit (E := runE) (w := w1) (t := 89) [⟨⟨1, 1⟩, 1⟩] #[.int .i64 1, .int .i64 1, .int .i64 1] rfl (by show 1 ≤ maxLen; decide)
  obtain ⟨w2, hw2⟩ : ∃ w2, w1.alloc (.cells #[.int .i64 1, .int .i64 1, .int .i64 1] 89) = w2 := ⟨_, rfl⟩
  have k2 : Kept (fun _ => False) w1 w2 := by rw [← hw2]; exact (Kept.refl _ _).alloc _
  have s2 : w2.heap.size = w.heap.size + 2 := by rw [← hw2]; simp; omega
  rw [hw2] at d2 ⊢
  rw [s1] at d2
  have d3 := SlAt.lit (E := dotE) (w := w2) (t := 29) [⟨1, 1⟩] #[.int .i64 1, .int .i64 1] rfl (by show 1 ≤ maxLen; decide)
  obtain ⟨w3, hw3⟩ : ∃ w3, w2.alloc (.cells #[.int .i64 1, .int .i64 1] 29) = w3 := ⟨_, rfl⟩
  have k3 : Kept (fun _ => False) w2 w3 := by rw [← hw3]; exact (Kept.refl _ _).alloc _
  have s3 : w3.heap.size = w.heap.size + 3 := by rw [← hw3]; simp; omega
  rw [hw3] at d3 ⊢
  rw [s2] at d3
  have d4 := SlAt.lit (E := entE) (w := w3) (t := 62) (kL (some ⟨w.heap.size, 0, none⟩) (some ⟨w.heap.size + 1, 0, none⟩) (some ⟨w.heap.size + 2, 0, none⟩)) _ rfl (by show 3 ≤ maxLen; decide)
  have k4 : Kept (fun _ => False) w3 (w3.alloc (.cells (entE.flat (kL (some ⟨w.heap.size, 0, none⟩) (some ⟨w.heap.size + 1, 0, none⟩) (some ⟨w.heap.size + 2, 0, none⟩))).toArray 62)) := (Kept.refl _ _).alloc _
  have e4 : w3.alloc (.cells (entE.flat (kL (some ⟨w.heap.size, 0, none⟩) (some ⟨w.heap.size + 1, 0, none⟩) (some ⟨w.heap.size + 2, 0, none⟩))).toArray 62) = w3.alloc (.cells #[.int .i64 1, .int .i64 3, .slice (some ⟨w.heap.size, 0, none⟩) 1 1, .int .i64 2, .int .i64 0, .int .i64 0, .int .i64 0, .int .i64 0, .string ⟨#[]⟩, .slice (some ⟨w.heap.size + 1, 0, none⟩) 1 1, .int .i64 0, .int .i64 1, .int .i64 2, .slice (some ⟨w.heap.size + 2, 0, none⟩) 1 1, .int .i64 1, .int .i64 1, .int .i64 1, .int .i64 0, .int .i64 0, .string ⟨#[97, 98]⟩, .slice none 0 0, .int .i64 0, .int .i64 1, .int .i64 1, .slice none 0 0, .int .i64 3, .int .i64 0, .int .i64 0, .int .i64 0, .int .i64 0, .string ⟨#[]⟩, .slice none 0 0, .int .i64 1] 62) := rfl
  rw [e4] at d4 k4
  rw [s3] at d4
  have k24 := (k2.trans k3 fun _ _ h => h).trans k4 fun _ _ h => h
  have i0 : I64 0 := by constructor <;> decide
  have i1 : I64 1 := by constructor <;> decide
  have i2 : I64 2 := by constructor <;> decide
  have i3 : I64 3 := by constructor <;> decide
  refine ⟨⟨_, rfl, rfl, _, _, _, d4, fun e he => ?_⟩, k1.trans k24 fun _ _ h => h⟩
  simp only [kL, List.mem_cons, List.not_mem_nil, or_false] at he
  rcases he with rfl | rfl | rfl
  · exact ⟨⟨d1.kept k24, d2.kept (k3.trans k4 fun _ _ h => h)⟩, fun r hr => by obtain rfl := List.mem_singleton.1 hr; exact ⟨i1, i1, i1⟩, by show 0 ≤ maxLen; decide, fun d hd => by obtain rfl := List.mem_singleton.1 hd; exact ⟨i1, i2⟩, ⟨i1, i3, i2, i0⟩, ⟨i0, i0⟩, i0, i0⟩
  · exact ⟨⟨d3.kept k4, .inl ⟨rfl, rfl⟩⟩, fun r hr => absurd hr (by simp [kE2]), by show 2 ≤ maxLen; decide, fun d hd => by obtain rfl := List.mem_singleton.1 hd; exact ⟨i1, i1⟩, ⟨i1, i2, i1, i0⟩, ⟨i1, i1⟩, i0, i0⟩
  · exact ⟨⟨.inl ⟨rfl, rfl⟩, .inl ⟨rfl, rfl⟩⟩, fun r hr => absurd hr (by simp [kE3]), by show 0 ≤ maxLen; decide, fun d hd => absurd hd (by simp [kE3]), ⟨i1, i1, i3, i1⟩, ⟨i0, i0⟩, i0, i0⟩
end Go.Proofs.YtjohljmpcblpjaaGreatDoor.Pa
