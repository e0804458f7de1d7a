/- hearsaylaw6.StampForm, walked (under way). -/
import Derived.Test.YtdbnohlignpeaaaStForm4
import Derived.Test.YtdbnohlignpeaaaStKnown
import Derived.Laws.EntriesVeiled
namespace Go.Proofs.Ytdbnohlignpeaaa
open Go.RowKit Go.Proofs.Ytdbnohlignpeaaa.St
namespace stampForm
open Go.Proofs.Ytdbnohlignpeaaa.St.stampForm
def intE : Enc Int := ⟨1, fun x => [.int .i64 x], fun _ => rfl, by decide, fun x u hu => by rw [List.mem_singleton.1 hu]; rfl⟩
theorem eq_func : ∀ (fn : Fn) (fs cs : Array Value) (w : World), (binOp .eql 77 (.func fn fs cs) .nilFunc).run Try.prog w = .ok (.bool false) w := fun _ _ _ _ => by kernel_rfl
theorem is_open (t s : Int) (w : World) : Calls Try.prog 47 #[.agg #[.int .i64 t, .int .i64 s]] w fun e w' => e = .returned (.bool (decide (ID.Is ⟨t, s⟩))) ∧ Kept (fun _ => False) w w' := is_any ⟨t, s⟩ w
theorem among_open {W : World} {v : Value} {L : List ID} (h : SlAt idE W v L) (hb : L.length ≤ 1000000) (w : World) (hk : Kept (fun _ => False) W w) (t s : Int) :
    Calls Try.prog 48 #[v, .agg #[.int .i64 t, .int .i64 s]] w fun e w' => e = .returned (.bool (L.any fun y => decide (y = ⟨t, s⟩))) ∧ Kept (fun _ => False) w w' := among_any (h.kept hk) hb ⟨t, s⟩
theorem any_of {L : List ID} {x : ID} (h : x ∈ L) : (L.any fun y => decide (y = x)) = true := by
  rw [List.any_eq_true]; exact ⟨x, h, by simp⟩
theorem any_not {L : List ID} {x : ID} (h : x ∉ L) : (L.any fun y => decide (y = x)) = false := by
  rw [List.any_eq_false]; intro y hy e; rw [of_decide_eq_true e] at hy; exact h hy
theorem slAt_take {w : World} {g o c n : Nat} {L : List ID} (h : SlAt idE w (.slice (some ⟨g, o, none⟩) L.length c) L) (hn : n ≤ L.length) : SlAt idE w (.slice (some ⟨g, o, none⟩) n c) (L.take n) := by
  rcases h with ⟨h, _⟩ | ⟨x, d, h, h1, h2, h3, h4⟩
  · cases h
  · injection h with e1 e2 e3
    injection e1 with e1
    subst e1
    subst e3
    have hl : (L.take n).length = n := by rw [List.length_take]; omega
    refine .inr ⟨⟨g, o, none⟩, c, by rw [hl], by omega, h2, fun _ => rfl, fun i y hy j u hu => h4 i y ?_ j u hu⟩
    rw [List.getElem?_take] at hy
    split at hy
    · exact hy
    · cases hy
theorem not_before {U : List ID} {n : Nat} {x : ID} (hn : U.Nodup) (hx : U[n]? = some x) : x ∉ U.take n := by
  intro h
  obtain ⟨k, hk, hkx⟩ := take_mem h
  have hkl : k < U.length := (List.getElem?_eq_some_iff.1 hkx).1
  have := (List.getElem?_inj hkl hn).1 (hkx.trans hx.symm)
  omega
theorem has_open {W : World} {v : Value} {P : List Run} {S l : List ID} (h : SlAt runE W v P) (hP : PI P S) (hS : SetOf l S) (hin : ∀ r ∈ P, r.In) (hb : P.length ≤ 1000000000) (w : World) (hk : Kept (fun _ => False) W w) (t s : Int) (hx : (⟨t, s⟩ : ID) ∈ l) :
    Calls Try.prog 24 #[v, .agg #[.int .i64 t, .int .i64 s]] w fun e w' => e = .returned (.bool (decide (ID.Is ⟨t, s⟩))) ∧ Kept (fun _ => False) w w' :=
  (has_any (h.kept hk) hin hb ⟨t, s⟩).mono fun e w' ⟨b, he, hb, hk⟩ => by
    refine ⟨?_, hk⟩
    have h1 := (hP.has hb).trans (hS.2 ⟨t, s⟩)
    rw [he]
    by_cases hI : ID.Is ⟨t, s⟩
    · rw [decide_eq_true hI, h1.2 ⟨hx, hI⟩]
    · have : b = false := by
        cases b with
        | false => rfl
        | true => exact absurd (h1.1 rfl).2 hI
      rw [decide_eq_false hI, this]
theorem ok_in {r : Run} (h : r.Ok) : r.In := by
  unfold Run.Ok ID.Is at h
  unfold Run.In I64
  omega
theorem set_len' : ∀ {S M : List ID}, S.Nodup → (∀ x ∈ S, x ∈ M) → S.length ≤ M.length
  | [], _, _, _ => Nat.zero_le _
  | x :: S, M, hn, hs => by
    obtain ⟨h1, h2⟩ := List.nodup_cons.1 hn
    have hm := hs x (List.mem_cons_self ..)
    have := set_len' (M := M.erase x) h2 (fun y hy => (List.mem_erase_of_ne (fun e => h1 (by rw [← e]; exact hy))).2 (hs y (List.mem_cons_of_mem _ hy)))
    rw [List.length_erase_of_mem hm] at this
    have := List.length_pos_of_mem hm
    simp only [List.length_cons]
    omega
theorem setOf_len' {M S : List ID} (h : SetOf M S) : S.length ≤ M.length := set_len' h.nodup (fun x hx => ((h.2 x).1 hx).1)
theorem asc_at {P : List Run} {S : List ID} (h : PI P S) {n : Nat} {p q : Run} (hp : P[n]? = some p) (hq : P[n + 1]? = some q) : p.id.lt q.id := by
  obtain ⟨h1, rfl⟩ := List.getElem?_eq_some_iff.1 hp
  obtain ⟨h2, rfl⟩ := List.getElem?_eq_some_iff.1 hq
  exact (List.pairwise_iff_getElem.1 h.asc n (n + 1) h1 h2 (by omega)).1
theorem mem_swap {α : Type} {M : List α} {i k : Nat} {x z : α} (hx : M[i]? = some x) (hz : M[k]? = some z) (y : α) : y ∈ (M.set i z).set k x ↔ y ∈ M := by
  have hi : i < M.length := (List.getElem?_eq_some_iff.1 hx).1
  have hk : k < M.length := (List.getElem?_eq_some_iff.1 hz).1
  constructor
  · intro h
    rcases List.mem_or_eq_of_mem_set h with h | rfl
    · rcases List.mem_or_eq_of_mem_set h with h | rfl
      · exact h
      · exact List.mem_of_getElem? hz
    · exact List.mem_of_getElem? hx
  · intro h
    obtain ⟨j, hj⟩ := List.mem_iff_getElem?.1 h
    by_cases hjk : k = j
    · subst hjk
      obtain rfl := Option.some.inj (hz.symm.trans hj)
      by_cases hik : k = i
      · subst hik
        obtain rfl := Option.some.inj (hx.symm.trans hj)
        exact List.mem_of_getElem? (i := k) (by rw [List.getElem?_set_self (by simpa using hk)])
      · exact List.mem_of_getElem? (i := i) (by rw [List.getElem?_set_ne hik, List.getElem?_set_self hi])
    · by_cases hij : i = j
      · subst hij
        obtain rfl := Option.some.inj (hx.symm.trans hj)
        exact List.mem_of_getElem? (i := k) (by rw [List.getElem?_set_self (by simpa using hk)])
      · exact List.mem_of_getElem? (i := j) (by rw [List.getElem?_set_ne hjk, List.getElem?_set_ne hij]; exact hj)
theorem set_at {α : Type} {M : List α} {i k : Nat} {x z : α} (hk : k < M.length) : ((M.set i z).set k x)[k]? = some x := List.getElem?_set_self (by simpa using hk)
set_option maxRecDepth 100000 in
set_option maxHeartbeats 40000000 in
theorem walk_core {w : World} {v vt : Value} {l : List ID} {ts : List Int} (h : SlAt idE w v l) (ht : SlAt intE w vt ts) (hti : ∀ x ∈ ts, I64 x) :
    Calls Try.prog 12 #[v, vt] w fun e w' => e = .returned (.bool true) ∧ Kept (fun _ => False) w w' := by
  have hqf := eq_func
  obtain ⟨a, c, rfl, hac, hcm⟩ := h.sl
  obtain ⟨ta, tc, rfl, _, _⟩ := ht.sl
  have hk0 : Kept (fun _ => False) w (w.alloc (.cells #[.slice a l.length c] 28)) := (Kept.refl _ _).alloc _
  have H0 := Lib.hid (h.kept hk0)
  have T0 := Lib.hid ht
  have B0 := Lib.hid (Blk.new w 28 #[.slice a l.length c])
  have x0 : _ = some (Value.slice a l.length c) := B0.out.cell' (i := 0) rfl
  have K0 := Lib.hid hk0
  have TI := Lib.hid hti
  clear h ht hk0 hti
  by_cases hbig : 120 < l.length
  · have hbI : (120 : Int) < l.length := by omega
    go_enter Try.func12, Try.ntmps12
    go_wp2_with fail
    refine (known_any _).mono ?_
    rintro e w1 ⟨rfl, hk⟩
    go_wp2_with fail
    go_ret
    exact ⟨rfl, K0.out.trans hk (fun _ _ h => h)⟩
  have hbI : (l.length : Int) ≤ 120 := by omega
  by_cases hbig2 : 400 < ts.length
  · have hbJ : (400 : Int) < ts.length := by omega
    go_enter Try.func12, Try.ntmps12
    go_wp2_with fail
    refine (known_any _).mono ?_
    rintro e w1 ⟨rfl, hk⟩
    go_wp2_with fail
    go_ret
    exact ⟨rfl, K0.out.trans hk (fun _ _ h => h)⟩
  have hbJ : (ts.length : Int) ≤ 400 := by omega
  have hpack := pack_any H0.out (by omega)
  go_enter Try.func12, Try.ntmps12
  go_wp2_with fail
  refine hpack.mono ?_
  rintro e w1 ⟨va, S, rfl, hS, ho1, hk1⟩
  have hPI := packL_of hS
  have hSl := setOf_len' hS
  have hPl := packL_len S
  have hin : ∀ r ∈ packL S, r.In := fun r hr => ok_in (hPI.ok r hr)
  generalize hPS : packL S = P at *
  have HPS := Lib.hid hPS
  clear hPS
  have hch := check_any (owns_slAt (E := runE) ho1) hin (by omega)
  obtain ⟨pa, pc, rfl⟩ := owns_sl ho1
  have HPI := Lib.hid hPI
  have HSET := Lib.hid hS
  have O1 := Lib.hid ho1
  have K1 := Lib.hid hk1
  have HIN := Lib.hid hin
  clear hpack hS ho1 hk1 hPI hin
  go_wp2_with fail
  refine hch.mono ?_
  rintro e w2 ⟨r, rfl, hci, hk2⟩
  obtain rfl : r = 0 := hci.good.1 HPI.out.good
  have S1 := Lib.hid (hk2.size)
  have S12 := Lib.hid ((K1.out.trans hk2 (fun _ _ h => h)).size)
  have k23 : Kept (fun _ => False) w2 (w2.alloc (.cells #[.slice none 0 0] 28)) := (Kept.refl _ _).alloc _
  have ho3 := owns_keep (owns_keep O1.out hk2 (fun _ _ h => h)) k23 (fun _ _ h => h)
  have hea := each_any (owns_slAt (E := runE) ho3) HIN.out (by omega)
  have A3 := Lib.hid (Blk.new w2 28 #[.slice none 0 0])
  have O3 := Lib.hid ho3
  have K3 := Lib.hid (((K0.out.trans K1.out (fun _ _ h => h)).trans hk2 (fun _ _ h => h)).trans k23 (fun _ _ h => h))
  have KB := Lib.hid ((K1.out.trans hk2 (fun _ _ h => h)).trans k23 (fun _ _ h => h))
  clear hch hci hk2 k23 ho3
  go_wp2_with fail
  refine hea.mono ?_
  rintro e w4 ⟨Bl, vl, rfl, hBl, hbl, hlr, hvl, hk4⟩
  rw [goodL_pos HPI.out.good] at hlr
  have a4 := hk4.blk (fun h => h) A3.out
  have q4 := (KB.out.trans hk4 (fun _ _ h => h)).blk (fun h => h) B0.out
  have hidl : (idsOf P).length = S.length := HPI.out.perm.length_eq
  have s2 : w.heap.size < w2.heap.size := by have h1 := S12.out; simp at h1; omega
  have s3 : w2.heap.size + 1 ≤ Bl := by simpa using hBl
  have hit := it4_any hbl hlr HPI.out.ok (by omega) q4 a4 (by omega) (by omega) (by omega) (by omega) (fun b hb => by have h1 := hvl b hb; have h2 := hbl.lt; simp at h1; omega)
  have K4 := Lib.hid (K3.out.trans hk4 (fun _ _ h => h))
  have L4 := Lib.hid (H0.out.kept (KB.out.trans hk4 (fun _ _ h => h)))
  have KX := Lib.hid hk4
  have OP := Lib.hid (fun b hb => (O1.out.lt b hb).2 |> fun h => Nat.lt_of_lt_of_le h S1.out)
  have O4 := Lib.hid (owns_keep O3.out hk4 (fun _ _ h => h))
  have Q4 := Lib.hid q4
  clear hea hbl hlr hvl hk4 a4 q4 x0
  go_wp2_with fail
  refine hit.mono ?_
  rintro e w5 ⟨rfl, hk5, vall, ha5, ho5⟩
  obtain ⟨U, hU⟩ : ∃ U, U = idsOf P := ⟨_, rfl⟩
  rw [← hU] at ho5
  have hperm : U.Perm S := by rw [hU]; exact HPI.out.perm
  have hUl : U.length = S.length := hperm.length_eq
  have hUn : U.Nodup := hperm.nodup_iff.2 HSET.out.nodup
  have hUm : ∀ x ∈ U, x ∈ l ∧ x.Is := fun x hx => (HSET.out.2 x).1 (hperm.mem_iff.1 hx)
  have hsl5 := owns_slAt (E := idE) ho5
  obtain ⟨ua, uc, rfl⟩ := owns_sl ho5
  have q5 := hk5.blk (fun h => by have h : w.heap.size = w2.heap.size := h; omega) Q4.out
  have s5 : (w.alloc (.cells #[.slice a l.length c] 28)).heap.size = w.heap.size + 1 := by simp
  have l5 := H0.out.far L4.out hk5 (fun b hb h => by have h : b = w2.heap.size := h; omega)
  have P5 := Lib.hid (owns_keep O4.out hk5 (fun b hb h => by have h : b = w2.heap.size := h; have h1 := OP.out b hb; omega))
  have K5 := Lib.hid ((K0.out.trans ((KB.out.trans KX.out (fun _ _ h => h))) (fun _ _ h => h)).over hk5 (fun b hb => by have hb : b = w2.heap.size := hb; omega))
  have IS5 := Lib.hid (fun (w' : World) (hk : Kept (fun _ => False) w5 w') t s => among_open l5 (by omega) w' hk t s)
  have QB := Lib.hid q5
  have AB := Lib.hid ha5
  have LR := Lib.hid l5
  have UR := Lib.hid hsl5
  have UN := Lib.hid hUn
  have UM := Lib.hid hUm
  have PERM := Lib.hid hperm
  clear q5 ha5 l5 hsl5 hUn hUm hperm ho5 hk5 hit
  clear hqf
  go_wp2_with fail
  go_loopw [8] (fun iv wr => ∃ n : Nat, iv = .int .i64 n ∧ n ≤ U.length ∧ Kept (fun _ => False) w5 wr) (fun iv _ => U.length - (intOf iv).toNat)
  case atStart => exact ⟨0, rfl, Nat.zero_le _, Kept.refl _ _⟩
  case round =>
    obtain ⟨n, rfl, hn, hkn⟩ := hrel
    have hn0 : (0 : Int) ≤ n := by omega
    have y0 : wr.cell? ⟨w2.heap.size, 0, none⟩ = some (.slice ua U.length uc) := (hkn.blk (fun h => h) AB.out).cell' (i := 0) rfl
    have y1 : wr.cell? ⟨w.heap.size, 0, none⟩ = some (.slice a l.length c) := (hkn.blk (fun h => h) QB.out).cell' (i := 0) rfl
    by_cases hlt : n < U.length
    case pos =>
      have hltI : (n : Int) < U.length := by omega
      obtain ⟨x, hx⟩ := get_of_lt hlt
      have hul : U.length ≤ uc ∧ uc ≤ maxLen := by obtain ⟨_, _, e, h1, h2⟩ := UR.out.sl; injection e with _ _ e3; rw [e3]; exact ⟨h1, h2⟩
      obtain ⟨g, o, c', hv, hg, hc⟩ := SlAt.id (UR.out.kept hkn) (by omega)
      cases hv
      obtain ⟨c0, c1⟩ := hc n x hx
      have mx := UM.out x (List.mem_of_getElem? hx)
      have nb := not_before UN.out hx
      have PR := Lib.hid (fun (w' : World) (hk : Kept (fun _ => False) w5 w') t s => among_open (slAt_take UR.out hn) (by rw [List.length_take]; omega) w' hk t s)
      obtain ⟨xt, xs⟩ := x
      have e1 : decide (ID.Is ⟨xt, xs⟩) = true := decide_eq_true mx.2
      have e2 := any_of mx.1
      have e3 := any_not nb
      have KN := Lib.hid hkn
      clear hx hc mx nb hkn
      have hnu : (n : Int) ≤ uc := by omega
      have hul2 : (U.length : Int) ≤ uc := by omega
      have KD : Kept (fun _ => False) w5 wr.drew := KN.out.drew
      go_wp2_with fail
      go_region_held3 (fun w' => Kept (fun _ => False) w5 w' ∧ w'.cell? ⟨w2.heap.size, 0, none⟩ = some (.slice (some ⟨g, o, none⟩) U.length uc) ∧ w'.cell? ⟨w.heap.size, 0, none⟩ = some (.slice a l.length c) ∧ w'.cell? ⟨g, o + n * 2, none⟩ = some (.int .i64 xt) ∧ w'.cell? ⟨g, o + n * 2 + 1, none⟩ = some (.int .i64 xs)) (first | (with_reducible exact ⟨KN.out, y0, y1, c0, c1⟩) | go_keep)
        (first
          | (go_simp; go_at_call 48; refine (PR.out _ KB2 xt xs).mono ?_; rintro e w8 ⟨rfl, hk8⟩; rw [e3]; have KC2 := KB2.trans hk8 (fun _ _ h => h); have y0 := old_cell hk8 y0; have y1 := old_cell hk8 y1; have c0 := old_cell hk8 c0; have c1 := old_cell hk8 c1)
          | (go_simp; go_at_call 48; refine (IS5.out _ KA2 xt xs).mono ?_; rintro e w7 ⟨rfl, hk7⟩; rw [e2]; have KB2 := KA2.trans hk7 (fun _ _ h => h); have y0 := old_cell hk7 y0; have y1 := old_cell hk7 y1; have c0 := old_cell hk7 c0; have c1 := old_cell hk7 c1)
          | (go_simp; go_at_call 47; refine (is_open xt xs _).mono ?_; rintro e w6 ⟨rfl, hk6⟩; rw [e1]; have KA2 := KD.trans hk6 (fun _ _ h => h); have y0 := old_cell hk6 y0; have y1 := old_cell hk6 y1; have c0 := old_cell hk6 c0; have c1 := old_cell hk6 c1))
      have KE : Hid (Kept (fun _ => False) w5 w8) := Lib.hid KC2
      clear y0 y1 c0 c1
      go_wp2_with fail
      go_roundw
      case rel => exact ⟨n + 1, by go_num, by omega, KE.out⟩
      case measure => simp [intOf] <;> omega
    case neg =>
      have hnl : ¬ (n : Int) < U.length := by omega
      have K6 := Lib.hid hkn
      clear hkn
      go_wp2_with fail
      clear y0 y1
      go_loopw [9] (fun iv wr => ∃ n : Nat, iv = .int .i64 n ∧ n ≤ l.length ∧ Kept (fun _ => False) w5 wr) (fun iv _ => l.length - (intOf iv).toNat)
      case atStart => exact ⟨0, rfl, Nat.zero_le _, K6.out⟩
      case round =>
        clear K6
        obtain ⟨n, rfl, hn, hkn⟩ := hrel
        have hn0 : (0 : Int) ≤ n := by omega
        have y0 : wr.cell? ⟨w2.heap.size, 0, none⟩ = some (.slice ua U.length uc) := (hkn.blk (fun h => h) AB.out).cell' (i := 0) rfl
        have y1 : wr.cell? ⟨w.heap.size, 0, none⟩ = some (.slice a l.length c) := (hkn.blk (fun h => h) QB.out).cell' (i := 0) rfl
        by_cases hlt : n < l.length
        case neg =>
          have hnl : ¬ (n : Int) < l.length := by omega
          have K7 := Lib.hid hkn
          clear hkn
          go_wp2_with fail
          clear y0 y1
          go_loopw [10] (fun iv wr => ∃ n : Nat, iv = .int .i64 n ∧ n ≤ P.length ∧ Kept (fun _ => False) w5 wr) (fun iv _ => P.length - (intOf iv).toNat)
          case atStart => exact ⟨0, rfl, Nat.zero_le _, K7.out⟩
          case round =>
            clear K7
            obtain ⟨n, rfl, hn, hkn⟩ := hrel
            have hn0 : (0 : Int) ≤ n := by omega
            have y1 : wr.cell? ⟨w.heap.size, 0, none⟩ = some (.slice a l.length c) := (hkn.blk (fun h => h) QB.out).cell' (i := 0) rfl
            by_cases hlt : n + 1 < P.length
            case pos =>
              have hltI : (n : Int) + 1 < P.length := by omega
              have hnI : (n : Int) < P.length := by omega
              have hn1 : (0 : Int) ≤ (n : Int) + 1 := by omega
              have hw1 : IntKind.i64.wrap ((n : Int) + 1) = (n : Int) + 1 := IntWalk.i64_in _ (by omega)
              obtain ⟨p, hp⟩ := get_of_lt (show n < P.length by omega)
              obtain ⟨q, hq⟩ := get_of_lt hlt
              obtain ⟨_, ⟨_, hno⟩ | ⟨g, cap, hv, hg, hO⟩⟩ := own_of (E := runE) (owns_keep P5.out hkn (fun _ _ h => h))
              · rw [hno] at hp; simp at hp
              cases hv
              obtain ⟨c0, c1, c2⟩ := St.OwnAt.run hO hp
              obtain ⟨d0, d1, d2⟩ := St.OwnAt.run hO hq
              have hcmp : p.id.cmp q.id < 0 := cmp_lt.2 (asc_at HPI.out hp hq)
              have hd : decide ((0 : Int) ≤ p.id.cmp q.id) = false := decide_eq_false (by omega)
              have KN := Lib.hid hkn
              have KD : Kept (fun _ => False) w5 wr.drew := KN.out.drew
              clear hp hq hO hkn c2 d2 hcmp
              go_wp2_with fail
              go_region_held3 (fun w' => Kept (fun _ => False) w5 w' ∧ w'.cell? ⟨g, n * 3, none⟩ = some (.int .i64 p.id.t) ∧ w'.cell? ⟨g, n * 3 + 1, none⟩ = some (.int .i64 p.id.s) ∧ w'.cell? ⟨g, (n + 1) * 3, none⟩ = some (.int .i64 q.id.t) ∧ w'.cell? ⟨g, (n + 1) * 3 + 1, none⟩ = some (.int .i64 q.id.s)) (first | (with_reducible exact ⟨KD, c0, c1, d0, d1⟩) | go_keep)
                (first | (go_simp; go_at_call 13; refine (compare_any p.id q.id _).mono ?_; rintro e w6 ⟨rfl, hg6⟩; have KA2 := KD.trans hg6.kept (fun _ _ h => h); have c0 := old_cell hg6.kept c0; have c1 := old_cell hg6.kept c1; have d0 := old_cell hg6.kept d0; have d1 := old_cell hg6.kept d1))
              have KE : Hid (Kept (fun _ => False) w5 w6) := Lib.hid KA2
              clear c0 c1 d0 d1 y1
              go_wp2_with fail
              go_roundw
              case rel => exact ⟨n + 1, by go_num, by omega, KE.out⟩
              case measure => simp [intOf] <;> omega
            case neg =>
              have hnl : ¬ (n : Int) + 1 < P.length := by omega
              have K8 := Lib.hid hkn
              have L8 := Lib.hid (LR.out.kept hkn)
              have Z8 := Lib.hid hkn.size
              clear hkn
              go_wp2_with (at_builtin; (refine wpList_append_row idE rfl (.tmp 119) (.tmp 120) 28 rfl w5.heap.size 23 (.agg #[.int .i64 0, .int .i64 0]) 16 Try.underlying28 info_id rfl rfl rfl (D := []) (World.ownsRow_nil _ _ _ _) L8.out (by unfold maxLen; simp; omega) (by simp; omega) Z8.out ?_); intro v9 w9 ho9 hk9; rw [List.nil_append] at ho9; obtain ⟨ma, mc, rfl⟩ := owns_sl ho9; have K9 := Lib.hid (K8.out.trans hk9 (fun b hb h => by cases h)); have O9 := Lib.hid ho9; clear hk9 ho9 K8 L8 Z8)
              go_loopw [11, 12] (fun mv iv wr => ∃ (k : Nat) (M : List ID), iv = .int .i64 k ∧ k ≤ ts.length ∧ l.length ≤ M.length ∧ M.length ≤ 2 * l.length ∧ (∀ x, x ∈ M ↔ x ∈ l) ∧ wr.ownsRow w5.heap.size 23 idE.k mv M.length (idE.flat M) ∧ Kept (fun _ => False) w5 wr) (fun _ iv _ => ts.length - (intOf iv).toNat)
              case atStart => exact ⟨0, l, rfl, Nat.zero_le _, Nat.le_refl _, by omega, fun _ => Iff.rfl, O9.out, K9.out⟩
              case round =>
                clear O9 K9
                obtain ⟨k, M, rfl, hk, hM1, hM2, hMm, ho, hkz⟩ := hrel
                have hk0 : (0 : Int) ≤ k := by omega
                have y0 : wr.cell? ⟨w2.heap.size, 0, none⟩ = some (.slice ua U.length uc) := (hkz.blk (fun h => h) AB.out).cell' (i := 0) rfl
                have y1 : wr.cell? ⟨w.heap.size, 0, none⟩ = some (.slice a l.length c) := (hkz.blk (fun h => h) QB.out).cell' (i := 0) rfl
                by_cases hgo : k < ts.length ∧ 0 < l.length
                case pos =>
                  obtain ⟨hkt, hl0⟩ := hgo
                  have hktI : (k : Int) < ts.length := by omega
                  have hl0I : (0 : Int) < l.length := by omega
                  obtain ⟨tg, to, tc', hv, _, _, _, htc⟩ := (T0.out.kept (K5.out.trans hkz (fun _ _ h => h))).one (by omega)
                  cases hv
                  obtain ⟨u, hu⟩ := get_of_lt hkt
                  have ut := htc k u hu 0 _ rfl
                  simp only [intE, Nat.mul_one, Nat.add_zero] at ut
                  have uI := TI.out u (List.mem_of_getElem? hu)
                  unfold I64 at uI
                  have hLp : (0 : Int) < M.length := by omega
                  have hL0b : ((M.length : Int) == 0) = false := beq_eq_false_iff_ne.2 (by omega)
                  have hrlt := Int.tmod_lt_of_pos u hLp
                  have hrgt : -(M.length : Int) < u.tmod M.length := by
                    have := Int.neg_tmod u M.length
                    have := Int.tmod_lt_of_pos (-u) hLp
                    omega
                  have hcase : ∃ kk : Nat, kk < M.length ∧ ((u.tmod M.length < 0 ∧ u.tmod M.length + M.length = (kk : Int)) ∨ (¬ u.tmod M.length < 0 ∧ u.tmod M.length = (kk : Int))) := by
                    by_cases hneg : u.tmod M.length < 0
                    · exact ⟨(u.tmod M.length + M.length).toNat, by omega, .inl ⟨hneg, by omega⟩⟩
                    · exact ⟨(u.tmod M.length).toNat, by omega, .inr ⟨hneg, by omega⟩⟩
                  obtain ⟨kk, hkM, hcase⟩ := hcase
                  have hkkl : (kk : Int) < M.length := by omega
                  have hkk0 : (0 : Int) ≤ kk := by omega
                  obtain ⟨_, ⟨_, hno⟩ | ⟨g, cap, hv, hg, hO⟩⟩ := own_of (E := idE) ho
                  · rw [hno] at hkM; simp at hkM
                  cases hv
                  obtain ⟨x, hx⟩ := get_of_lt (show 0 < M.length by omega)
                  obtain ⟨z, hz⟩ := get_of_lt hkM
                  obtain ⟨a0, a1⟩ := OwnAt.id hO hx
                  rw [Nat.zero_mul] at a0 a1
                  have hgl := hO.lt
                  have KA : Kept (fun _ => False) wr (wr.alloc (.cells #[.int .i64 x.t, .int .i64 x.s] 23)) := (Kept.refl _ _).alloc _
                  have XB := Lib.hid (Blk.new wr 23 #[.int .i64 x.t, .int .i64 x.s])
                  have HO := Lib.hid (hO.keep KA (fun h => h))
                  have HZ := Lib.hid hz
                  have HX := Lib.hid hx
                  have HW := Lib.hid hg
                  have HK := Lib.hid (hkz.trans KA (fun _ _ h => h))
                  have HMM := Lib.hid hMm
                  have Y0 := Lib.hid (old_cell KA y0)
                  have Y1 := Lib.hid (old_cell KA y1)
                  have hne1 : wr.heap.size ≠ g := by omega
                  have hne2 : g ≠ wr.heap.size := by omega
                  clear hu hx hz hO ho hkz htc hrlt hrgt hMm hgl KA
                  rcases hcase with ⟨hneg, hkk⟩ | ⟨hneg, hkk⟩
                  have hw : IntKind.i64.wrap (u.tmod M.length + M.length) = (kk : Int) := by rw [hkk]; exact IntWalk.i64_in _ (by omega)
                  all_goals
                    go_upto_region 35 with (fail)
                    clear a0 a1 y0 y1 ut
                    generalize wr.alloc (.cells #[.int .i64 x.t, .int .i64 x.s] 23) = w10 at *
                    have y1 := Y1.out
                    obtain ⟨b0, b1⟩ := OwnAt.id HO.out HZ.out
                    obtain ⟨a0, a1⟩ := OwnAt.id HO.out HX.out
                    rw [Nat.zero_mul] at a0 a1
                    have f0 := HO.out.frozen 0
                    have f1 := HO.out.frozen 1
                    go_upto_region 36 with (fail)
                    have K11 : Kept (fun b => b = g) w10 ((w10.setCell ⟨g, 0, none⟩ (.int .i64 z.t)).setCell ⟨g, 1, none⟩ (.int .i64 z.s)) := ((Kept.refl (fun b => b = g) w10).setCell (p := ⟨g, 0, none⟩) (fun _ => rfl) _).setCell (p := ⟨g, 1, none⟩) (fun _ => rfl) _
                    have HO1 : Hid (OwnAt idE ((w10.setCell ⟨g, 0, none⟩ (.int .i64 z.t)).setCell ⟨g, 1, none⟩ (.int .i64 z.s)) 23 g cap (M.set 0 z)) := Lib.hid (by
                      have := OwnAt.set2 HO.out (i := 0) (x := z) (a := .int .i64 z.t) (b := .int .i64 z.s) (by omega) rfl rfl
                      rw [Nat.zero_mul] at this
                      exact this)
                    have HK1 := Lib.hid (Kept.newer HK.out K11 HW.out)
                    have XB1 := Lib.hid (K11.blk (fun e => hne1 e) XB.out)
                    have z10 : w5.heap.size ≤ w10.heap.size := HK.out.size
                    have YY := Lib.hid ((HK.out.trans K11 (fun b hb e => by have := HW.out; omega)).blk (fun h => h) QB.out)
                    clear y1 a0 a1 b0 b1 f0 f1 K11 Y1 Y0 HO HK XB
                    generalize ((w10.setCell ⟨g, 0, none⟩ (.int .i64 z.t)).setCell ⟨g, 1, none⟩ (.int .i64 z.s)) = w11 at *
                    have hk1 : kk < (M.set 0 z).length := by simpa using hkM
                    obtain ⟨z2, hz2⟩ := get_of_lt hk1
                    obtain ⟨b0, b1⟩ := OwnAt.id HO1.out hz2
                    have f2 := HO1.out.frozen (kk * 2)
                    have f3 := HO1.out.frozen (kk * 2 + 1)
                    have x0 : w11.cell? ⟨wr.heap.size, 0, none⟩ = some (.int .i64 x.t) := XB1.out.cell' (i := 0) rfl
                    have x1 : w11.cell? ⟨wr.heap.size, 1, none⟩ = some (.int .i64 x.s) := XB1.out.cell' (i := 1) rfl
                    clear hz2 hk1
                    go_upto_region 37 with (fail)
                    have K12 : Kept (fun b => b = g) w11 ((w11.setCell ⟨g, kk * 2, none⟩ (.int .i64 x.t)).setCell ⟨g, kk * 2 + 1, none⟩ (.int .i64 x.s)) := ((Kept.refl (fun b => b = g) w11).setCell (p := ⟨g, kk * 2, none⟩) (fun _ => rfl) _).setCell (p := ⟨g, kk * 2 + 1, none⟩) (fun _ => rfl) _
                    have HO2 := Lib.hid (OwnAt.set2 HO1.out (i := kk) (x := x) (a := .int .i64 x.t) (b := .int .i64 x.s) (by simpa using hkM) rfl rfl)
                    have HK2 := Lib.hid (Kept.newer HK1.out K12 HW.out)
                    have z11 : w5.heap.size ≤ w11.heap.size := HK1.out.size
                    have Y2 : Hid (((w11.setCell ⟨g, kk * 2, none⟩ (.int .i64 x.t)).setCell ⟨g, kk * 2 + 1, none⟩ (.int .i64 x.s)).cell? ⟨w.heap.size, 0, none⟩ = some (.slice a l.length c)) := Lib.hid ((K12.blk (fun e => by have e : w.heap.size = g := e; have := HW.out; have := QB.out.lt; omega) YY.out).cell' (i := 0) rfl)
                    clear b0 b1 f2 f3 x0 x1 K12 HO1 XB1 YY
                    generalize ((w11.setCell ⟨g, kk * 2, none⟩ (.int .i64 x.t)).setCell ⟨g, kk * 2 + 1, none⟩ (.int .i64 x.s)) = w12 at *
                    have hmem : ∀ y, y ∈ (M.set 0 z).set kk x ↔ y ∈ l := fun y => (mem_swap HX.out HZ.out y).trans (HMM.out y)
                    have hlen2 : ((M.set 0 z).set kk x).length = M.length := by simp
                    have hat2 : ((M.set 0 z).set kk x)[kk]? = some x := set_at hkM
                    generalize (M.set 0 z).set kk x = M2 at *
                    have MM := Lib.hid hmem
                    have LL := Lib.hid hlen2
                    have AT := Lib.hid hat2
                    have y1 := Y2.out
                    clear hmem hlen2 hat2
                    have hmod : (k : Int).tmod 3 = ((k % 3 : Nat) : Int) := by rw [Int.tmod_eq_emod_of_nonneg (by omega)]; omega
                    have hw2 : IntKind.i64.wrap (2 * (l.length : Int)) = 2 * (l.length : Int) := IntWalk.i64_in _ (by omega)
                    have OW : Hid (w12.ownsRow w5.heap.size 23 idE.k (.slice (some ⟨g, 0, none⟩) M.length cap) M2.length (idE.flat M2)) := Lib.hid (by rw [← LL.out]; exact HO2.out.owns HW.out)
                    by_cases h3 : k % 3 = 0
                    by_cases h4 : M.length < 2 * l.length
                    · have h3I : (k : Int).tmod 3 = 0 := by omega
                      have h4I : (M.length : Int) < 2 * (l.length : Int) := by omega
                      obtain ⟨b0, b1⟩ := OwnAt.id HO2.out AT.out
                      have LI := Lib.hid (lit_id w12 x.t x.s)
                      have z12 : Hid (w5.heap.size ≤ w12.heap.size) := Lib.hid HK2.out.size
                      clear hmod
                      go_wp2_with (at_builtin; (refine wpList_append_row idE rfl (.tmp 170) (.tmp 175) 28 rfl w5.heap.size 23 (.agg #[.int .i64 0, .int .i64 0]) 16 Try.underlying28 info_id rfl rfl rfl (v := .slice (some ⟨g, 0, none⟩) M.length cap) (D := M2) (L := [⟨x.t, x.s⟩]) (OW.out.alloc _) LI.out (by have := LL.out; unfold maxLen; simp; omega) (by have := LL.out; simp; omega) (by have := z12.out; simp; omega) ?_); intro v13 w13 ho13 hk13; have K13 : Hid (Kept (fun _ => False) w5 w13) := Lib.hid ((HK2.out.alloc _).trans hk13 (fun b hb e => by have e : some g = some b := e; injection e with e; have := HW.out; omega)); have O13 := Lib.hid ho13; clear hk13 ho13)
                      go_roundw
                      focus
                        exact ⟨k + 1, M2 ++ [⟨x.t, x.s⟩], by go_num, by omega, by have := LL.out; simp; omega, by have := LL.out; simp; omega, fun y => by rw [List.mem_append, MM.out y, List.mem_singleton]; exact ⟨fun h => h.elim id (fun e => by rw [e]; exact (MM.out x).1 (List.mem_of_getElem? AT.out)), .inl⟩, O13.out, K13.out⟩
                      focus
                        simp [intOf] <;> omega
                    have h3I : (k : Int).tmod 3 = 0 := by omega
                    have h4I : ¬ (M.length : Int) < 2 * (l.length : Int) := by omega
                    rotate_left
                    have h3I : ((k : Int).tmod 3 == 0) = false := beq_eq_false_iff_ne.2 (by omega)
                    all_goals
                      clear hmod
                      go_wp2_with fail
                      go_roundw
                      focus
                        exact ⟨k + 1, M2, by go_num, by omega, by have := LL.out; omega, by have := LL.out; omega, MM.out, OW.out, HK2.out⟩
                      focus
                        simp [intOf] <;> omega
                case neg =>
                  have HO := Lib.hid ho
                  have HK := Lib.hid hkz
                  have HMM := Lib.hid hMm
                  have hp1 := pack_any (owns_slAt (E := idE) ho) (by omega)
                  obtain ⟨ma, mc, rfl⟩ := owns_sl ho
                  clear ho hkz hMm
                  by_cases hkt : k < ts.length
                  have hktI : (k : Int) < ts.length := by omega
                  have hl0 : ¬ (0 : Int) < l.length := by omega
                  rotate_left
                  have hktI : ¬ (k : Int) < ts.length := by omega
                  rotate_left
                  all_goals
                    clear hgo
                    go_wp2_with fail
                    clear y1
                    refine hp1.mono ?_
                    rintro e w13 ⟨v13, S13, rfl, hS13, ho13, hk13⟩
                    obtain rfl : S13 = S := (HSET.out.same hS13 (fun x => (HMM.out x).symm)).symm
                    have hpl := packL_len S13
                    obtain ⟨b13, c13, rfl⟩ := owns_sl ho13
                    have k13 := HK.out.trans hk13 (fun _ _ h => h)
                    have heq := runs_eq (owns_slAt (E := runE) ho13) ((owns_slAt (E := runE) P5.out).kept k13) (by omega)
                    rw [decide_eq_true HPS.out] at heq
                    have K13 := Lib.hid k13
                    clear hk13 ho13 hS13 k13 hp1 y0
                    go_wp2_with fail
                    refine heq.mono ?_
                    rintro e w14 ⟨rfl, q14, rfl⟩
                    clear heq
                    have K14 := Lib.hid (K13.out.drewN q14)
                    generalize w13.drewN q14 = w14 at *
                    have y0 : w14.cell? ⟨w2.heap.size, 0, none⟩ = some (.slice ua U.length uc) := (K14.out.blk (fun h => h) AB.out).cell' (i := 0) rfl
                    have hp2 := pack_any (UR.out.kept K14.out) (by omega)
                    rw [hUl] at hp2
                    go_wp2_with fail
                    refine hp2.mono ?_
                    rintro e w15 ⟨v15, S15, rfl, hS15, ho15, hk15⟩
                    obtain rfl : S15 = S13 := HSET.out.again PERM.out hS15
                    obtain ⟨b15, c15, rfl⟩ := owns_sl ho15
                    have k15 := K14.out.trans hk15 (fun _ _ h => h)
                    have heq := runs_eq (owns_slAt (E := runE) ho15) ((owns_slAt (E := runE) P5.out).kept k15) (by omega)
                    rw [decide_eq_true HPS.out] at heq
                    have K15 := Lib.hid k15
                    clear hk15 ho15 hS15 k15 hp2 y0
                    go_wp2_with fail
                    refine heq.mono ?_
                    rintro e w16 ⟨rfl, q16, rfl⟩
                    clear heq
                    have K16 := Lib.hid (K15.out.drewN q16)
                    generalize w15.drewN q16 = w16 at *
                    go_wp2_with fail
                    refine (known_any _).mono ?_
                    rintro e w17 ⟨rfl, hk17⟩
                    go_wp2_with fail
                    go_ret
                    exact ⟨rfl, (K5.out.trans K16.out (fun _ _ h => h)).trans hk17 (fun _ _ h => h)⟩
        case pos =>
          have hltI : (n : Int) < l.length := by omega
          obtain ⟨x, hx⟩ := get_of_lt hlt
          obtain ⟨g, o, c', hv, hg, hc⟩ := SlAt.id (LR.out.kept hkn) (by omega)
          cases hv
          obtain ⟨c0, c1⟩ := hc n x hx
          have mx := List.mem_of_getElem? hx
          obtain ⟨xt, xs⟩ := x
          have HAS := Lib.hid (fun (w' : World) (hk : Kept (fun _ => False) w5 w') => has_open (owns_slAt (E := runE) P5.out) HPI.out HSET.out HIN.out (by omega) w' hk xt xs mx)
          have UR2 : SlAt idE w5 (.slice ua S.length uc) U := by rw [← hUl]; exact UR.out
          have AMO := Lib.hid (fun (w' : World) (hk : Kept (fun _ => False) w5 w') t s => among_open UR2 (by omega) w' hk t s)
          clear UR2
          rw [hUl] at y0
          have KN := Lib.hid hkn
          have KD : Kept (fun _ => False) w5 wr.drew := KN.out.drew
          have am : (U.any fun y => decide (y = (⟨xt, xs⟩ : ID))) = decide (ID.Is ⟨xt, xs⟩) := by
            by_cases hI : ID.Is ⟨xt, xs⟩
            · rw [decide_eq_true hI]; exact any_of (PERM.out.mem_iff.2 ((HSET.out.2 _).2 ⟨mx, hI⟩))
            · rw [decide_eq_false hI]; exact any_not fun h => hI (UM.out _ h).2
          have ISX := Lib.hid (fun (w' : World) => is_open xt xs w')
          generalize decide (ID.Is ⟨xt, xs⟩) = bb at *
          clear hx hc mx hkn
          cases bb
          all_goals (
            go_wp2_with fail
            go_region_held3 (fun w' => Kept (fun _ => False) w5 w' ∧ w'.cell? ⟨w2.heap.size, 0, none⟩ = some (.slice ua S.length uc) ∧ w'.cell? ⟨w.heap.size, 0, none⟩ = some (.slice (some ⟨g, o, none⟩) l.length c) ∧ w'.cell? ⟨g, o + n * 2, none⟩ = some (.int .i64 xt) ∧ w'.cell? ⟨g, o + n * 2 + 1, none⟩ = some (.int .i64 xs)) (first | (with_reducible exact ⟨KD, y0, y1, c0, c1⟩) | go_keep)
              (first
                | (go_simp; go_at_call 47; have KC := KC2; refine (ISX.out _).mono ?_; rintro e w9 ⟨rfl, hk9⟩; have KD2 := KC2.trans hk9 (fun _ _ h => h); have y0 := old_cell hk9 y0; have y1 := old_cell hk9 y1; have c0 := old_cell hk9 c0; have c1 := old_cell hk9 c1)
                | (go_simp; go_at_call 48; refine (AMO.out _ KB2 xt xs).mono ?_; rintro e w8 ⟨rfl, hk8⟩; rw [am]; have KC2 := KB2.trans hk8 (fun _ _ h => h); have y0 := old_cell hk8 y0; have y1 := old_cell hk8 y1; have c0 := old_cell hk8 c0; have c1 := old_cell hk8 c1)
                | (go_simp; go_at_call 47; have KA := KA2; refine (ISX.out _).mono ?_; rintro e w7 ⟨rfl, hk7⟩; have KB2 := KA2.trans hk7 (fun _ _ h => h); have y0 := old_cell hk7 y0; have y1 := old_cell hk7 y1; have c0 := old_cell hk7 c0; have c1 := old_cell hk7 c1)
                | (go_simp; go_at_call 24; refine (HAS.out _ KD).mono ?_; rintro e w6 ⟨rfl, hk6⟩; have KA2 := KD.trans hk6 (fun _ _ h => h); have y0 := old_cell hk6 y0; have y1 := old_cell hk6 y1; have c0 := old_cell hk6 c0; have c1 := old_cell hk6 c1))
            have KE : Hid (Kept (fun _ => False) w5 w9) := Lib.hid KD2
            clear y0 y1 c0 c1
            go_wp2_with fail
            go_roundw
            focus
              exact ⟨n + 1, by go_num, by omega, KE.out⟩
            focus
              simp [intOf] <;> omega)
end stampForm
end Go.Proofs.Ytdbnohlignpeaaa
