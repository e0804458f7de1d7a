/- slices.Compact of identifiers, on a row of the call's own. Keys of Pack's and Check's maps. stamp.Pack: what it does to any identifiers. -/
import Derived.Test.YtlafodnaifghcaaGreatG24
import Derived.Test.YtlafodnaifghcaaGreatG5
import Derived.Maps.AppendAt
namespace Go.Proofs.YtlafodnaifghcaaGreat.St
open Go.RowKit

/-- without those that stand behind one alike -/
def ddStep (acc : List ID) (x : ID) : List ID := if acc.getLast? = some x then acc else acc ++ [x]
def dd (l : List ID) : List ID := l.foldl ddStep []
theorem dd_snoc (l : List ID) (x : ID) : dd (l ++ [x]) = ddStep (dd l) x := by simp [dd, List.foldl_append]
theorem dd_take (D : List ID) {j : Nat} {x : ID} (h : D[j]? = some x) : dd (D.take (j + 1)) = ddStep (dd (D.take j)) x := by rw [List.take_add_one, h]; exact dd_snoc _ _
theorem snoc_ind {P : List ID → Prop} (h0 : P []) (h1 : ∀ l x, P l → P (l ++ [x])) (l : List ID) : P l := by
  have : ∀ n (l : List ID), l.length = n → P l := fun n => by
    induction n with
    | zero => intro l hl; rw [List.length_eq_zero_iff.1 hl]; exact h0
    | succ n ih =>
      intro l hl
      have hne : l ≠ [] := by rintro rfl; simp at hl
      rw [← List.dropLast_concat_getLast hne]
      exact h1 _ _ (ih _ (by simp [hl]))
  exact this _ l rfl
theorem dd_last (l : List ID) : (dd l).getLast? = l.getLast? := by
  induction l using snoc_ind with
  | h0 => rfl
  | h1 l x ih =>
    rw [dd_snoc]
    unfold ddStep
    split
    · rename_i h; rw [h]; simp
    · simp
theorem dd_mem (l : List ID) (x : ID) : x ∈ dd l ↔ x ∈ l := by
  induction l using snoc_ind with
  | h0 => simp [dd]
  | h1 l y ih =>
    rw [dd_snoc]
    unfold ddStep
    split
    · rename_i h
      rw [ih, List.mem_append]
      constructor
      · exact .inl
      · rintro (h1 | h1)
        · exact h1
        · simp at h1; subst h1
          rw [dd_last] at h
          exact List.mem_of_getLast? h
    · rw [List.mem_append, List.mem_append, ih]
theorem dd_len (l : List ID) : (dd l).length ≤ l.length := by
  induction l using snoc_ind with
  | h0 => simp [dd]
  | h1 l y ih => rw [dd_snoc]; unfold ddStep; split <;> simp <;> omega
theorem dd_rising {l : List ID} (h : Sorted l) : Rising (dd l) := by
  induction l using snoc_ind with
  | h0 => exact List.Pairwise.nil
  | h1 l y ih =>
    have hs := List.pairwise_append.1 h
    have hr := ih hs.1
    rw [dd_snoc]
    unfold ddStep
    split
    · exact hr
    · rename_i hne
      refine List.pairwise_append.2 ⟨hr, by simp, fun a ha b hb => ?_⟩
      simp at hb
      subst hb
      have hle : ¬ b.lt a := hs.2.2 a ((dd_mem l a).1 ha) b (by simp)
      rcases a.lt_or b with h1 | h1 | h1
      · exact h1
      · subst h1
        exfalso
        -- a stands in dd l, and is not the last: the last is above it, yet not above the next
        cases hl : (dd l).getLast? with
        | none => rw [List.getLast?_eq_none_iff] at hl; rw [hl] at ha; cases ha
        | some z =>
          have hz : z ∈ dd l := List.mem_of_getLast? hl
          have hza : z ≠ a := fun e => hne (by rw [hl, e])
          have hzl : ¬ a.lt z := hs.2.2 z ((dd_mem l z).1 hz) a (by simp)
          have : ∀ {m : List ID}, Rising m → m.getLast? = some z → a ∈ m → a = z ∨ a.lt z := by
            intro m hm hmz ham
            obtain ⟨m', rfl⟩ := List.getLast?_eq_some_iff.1 hmz
            rcases List.mem_append.1 ham with h | h
            · exact .inr ((List.pairwise_append.1 hm).2.2 a h z (by simp))
            · exact .inl (by simpa using h)
          rcases this hr hl ha with e | e
          · exact hza e.symm
          · exact hzl e
      · exact absurd h1 hle
theorem last_take {D : List ID} {j : Nat} {y : ID} (h : D[j]? = some y) : (dd (D.take (j + 1))).getLast? = some y := by
  rw [dd_last, List.take_add_one, h]; simp
theorem dd_same {D : List ID} {j : Nat} {y : ID} (h1 : D[j]? = some y) (h2 : D[j + 1]? = some y) : dd (D.take (j + 1 + 1)) = dd (D.take (j + 1)) := by
  rw [dd_take D h2]; unfold ddStep; rw [if_pos (last_take h1)]
theorem dd_other {D : List ID} {j : Nat} {x y : ID} (h1 : D[j]? = some y) (h2 : D[j + 1]? = some x) (hne : x ≠ y) : dd (D.take (j + 1 + 1)) = dd (D.take (j + 1)) ++ [x] := by
  rw [dd_take D h2]; unfold ddStep; rw [if_neg]; rw [last_take h1]; exact fun e => hne (Option.some.inj e).symm
theorem eq_cases (x y : ID) : x = y ∨ (x ≠ y ∧ (x.t == y.t) = false) ∨ (x ≠ y ∧ (x.t == y.t) = true ∧ (x.s == y.s) = false) := by
  by_cases h1 : x.t = y.t
  · by_cases h2 : x.s = y.s
    · exact .inl (by rw [ID.ext_iff]; exact ⟨h1, h2⟩)
    · exact .inr (.inr ⟨fun e => h2 (by rw [e]), by simpa using h1, by simpa using h2⟩)
  · exact .inr (.inl ⟨fun e => h1 (by rw [e]), by simpa using h1⟩)

/-- what Compact keeps: k written, j looked at -/
structure CoInv (D : List ID) (k j : Nat) (X : List ID) : Prop where
  len : X.length = D.length
  low : X.take k = dd (D.take j)
  kl : k = (dd (D.take j)).length
  lt : k < j
  high : ∀ m, j ≤ m + 1 → X[m]? = D[m]?
theorem CoInv.start {D : List ID} {k : Nat} {y : ID} (h : dd (D.take (k + 1)) = D.take (k + 1)) (h1 : D[k]? = some y) (h2 : D[k + 1]? = some y) : CoInv D (k + 1) (k + 1 + 1) D := by
  have hl := (List.getElem?_eq_some_iff.1 h2).1
  have e := (dd_same h1 h2).trans h
  exact ⟨rfl, e.symm, by rw [e, List.length_take]; omega, by omega, fun _ _ => rfl⟩
theorem CoInv.skip {D X : List ID} {k j : Nat} {y : ID} (h : CoInv D k (j + 1) X) (h1 : D[j]? = some y) (h2 : D[j + 1]? = some y) : CoInv D k (j + 1 + 1) X := by
  have e := dd_same h1 h2
  exact ⟨h.len, by rw [e]; exact h.low, by rw [e]; exact h.kl, by have := h.lt; omega, fun m hm => h.high m (by omega)⟩
theorem CoInv.keep {D X : List ID} {k j : Nat} {x y : ID} (h : CoInv D k (j + 1) X) (h1 : D[j]? = some y) (h2 : D[j + 1]? = some x) (hne : x ≠ y) : CoInv D (k + 1) (j + 1 + 1) (X.set k x) := by
  have hj : j + 1 < D.length := (List.getElem?_eq_some_iff.1 h2).1
  have hl := h.len
  have hk := h.lt
  have e := dd_other h1 h2 hne
  refine ⟨by simpa using hl, ?_, by rw [e, List.length_append, ← h.kl]; rfl, by omega, fun m hm => ?_⟩
  · rw [e, ← h.low, List.take_add_one, List.take_set_of_le (Nat.le_refl _), List.getElem?_set_self (by omega)]
    rfl
  · rw [List.getElem?_set_ne (by omega)]
    exact h.high m (by omega)
theorem CoInv.done {D X : List ID} {k : Nat} (h : CoInv D k D.length X) : X.take k = dd D ∧ k = (dd D).length := by
  have h1 := h.low
  have h2 := h.kl
  rw [List.take_length] at h1 h2
  exact ⟨h1, h2⟩
theorem dd_short {D : List ID} (h : D.length < 2) : dd D = D := by
  match D, h with
  | [], _ => rfl
  | [x], _ => rfl
  | _ :: _ :: _, h => simp at h; omega

set_option maxRecDepth 100000 in
set_option maxHeartbeats 2000000 in
theorem compact_short {w : World} {v : Value} {n : Nat} {a : Option Addr} {c : Nat} (hv : v = .slice a n c) (hn : n < 2) : Calls Tryz.prog 93 #[v] w fun e w' => e = .returned v ∧ w = w' := by
  subst hv
  go_enter Tryz.func93, Tryz.ntmps93
  go_wp2_with fail
  go_ret
  exact ⟨rfl, rfl⟩
set_option maxRecDepth 100000 in
set_option maxHeartbeats 2000000 in
theorem compact_id {w : World} {t : TypeId} {g cap : Nat} {D : List ID} (h : OwnAt idE w t g cap D) (hb : D.length ≤ 1000000000) (h2 : 2 ≤ D.length) :
    Calls Tryz.prog 93 #[.slice (some ⟨g, 0, none⟩) D.length cap] w fun e w' => e = .returned (.slice (some ⟨g, 0, none⟩) (dd D).length cap) ∧ OwnAt idE w' t g cap (dd D) ∧ Kept (· = g) w w' := by
  have hle := h.le
  have hl2 : ¬ (D.length : Int) < 2 := by omega
  go_enter Tryz.func93, Tryz.ntmps93
  go_wp2_with fail
  go_loopw [3] (fun kv wr => ∃ (k q : Nat), kv = .int .i64 ((k : Int) + 1) ∧ k + 1 ≤ D.length ∧ dd (D.take (k + 1)) = D.take (k + 1) ∧ wr = w.drewN q) (fun kv _ => D.length - (intOf kv).toNat)
  case atStart => exact ⟨0, 0, rfl, by omega, dd_short (by rw [List.length_take]; omega), rfl⟩
  case round =>
    obtain ⟨k, q, rfl, hk, hdd, rfl⟩ := hrel
    have DDk := Lib.hid hdd
    clear hdd
    by_cases hlt : k + 1 < D.length
    · obtain ⟨y, hy⟩ := get_of_lt (show k < D.length by omega)
      obtain ⟨x, hx⟩ := get_of_lt hlt
      obtain ⟨a0, a1⟩ := OwnAt.id h hy
      obtain ⟨b0, b1⟩ := OwnAt.id h hx
      have Y0 := Lib.hid hy
      have X0 := Lib.hid hx
      have hk0 : (0 : Int) ≤ k := by omega
      have hk1 : (k : Int) + 1 < D.length := by omega
      have hk2 : (k : Int) < D.length := by omega
      clear hy hx
      rcases eq_cases x y with rfl | ⟨hne, e1⟩ | ⟨hne, e1, e2⟩
      · go_wp2_with fail
        go_quiet (fail)
        go_wp2_with fail
        have hg2 : (Kept (· = g) w (w.drewN (q + nq))) := (Kept.refl _ _).drewN _
        have h2 : OwnAt idE (w.drewN (q + nq)) t g cap D := h.keep ((Kept.refl (fun _ => False) w).drewN _) (fun h => h)
        generalize w.drewN (q + nq) = wz at *
        clear a0 a1 b0 b1
        go_loopw [3, 5] (fun kv iv wr => ∃ (kk m : Nat) (X : List ID), kv = .int .i64 kk ∧ iv = .int .i64 ((m : Int) + 1) ∧ k + 1 + m + 1 ≤ D.length ∧ CoInv D kk (k + 1 + m + 1) X ∧ OwnAt idE wr t g cap X ∧ Kept (· = g) w wr) (fun _ iv _ => D.length - (intOf iv).toNat)
        case atStart => exact ⟨k + 1, 0, D, by go_num, rfl, by omega, CoInv.start DDk.out Y0.out X0.out, h2, hg2⟩
        case round =>
          clear h2 hg2 X0 Y0
          obtain ⟨kk, m, X, rfl, rfl, hm, hI, hO, hkp⟩ := hrel
          have hkj := hI.lt
          have hXl := hI.len
          have II := Lib.hid hI
          have hk20 : (0 : Int) ≤ kk := by omega
          have hm0 : (0 : Int) ≤ m := by omega
          by_cases hml : k + 1 + m + 1 < D.length
          · obtain ⟨y, hy⟩ := get_of_lt (show k + 1 + m < D.length by omega)
            obtain ⟨z, hz⟩ := get_of_lt hml
            obtain ⟨a0, a1⟩ := OwnAt.id hO ((hI.high (k + 1 + m) (by omega)).trans hy)
            obtain ⟨b0, b1⟩ := OwnAt.id hO ((hI.high (k + 1 + m + 1) (by omega)).trans hz)
            rw [show (k + 1 + m) * 2 = (k + 1) * 2 + m * 2 by omega] at a0 a1
            rw [show (k + 1 + m + 1) * 2 = (k + 1) * 2 + (m + 1) * 2 by omega] at b0 b1
            have Y0 := Lib.hid hy
            have Z0 := Lib.hid hz
            have hm1 : (m : Int) + 1 < ((D.length - (k + 1) : Nat) : Int) := by omega
            have hm2 : (m : Int) < ((D.length - (k + 1) : Nat) : Int) := by omega
            have hkl : (kk : Int) < D.length := by omega
            clear hy hz hI
            rcases eq_cases z y with rfl | ⟨hne, e1⟩ | ⟨hne, e1, e2⟩
            · go_wp2_with fail
              go_quiet (fail)
              go_wp2_with fail
              go_roundw
              case rel => exact ⟨kk, m + 1, X, rfl, by go_num, by omega, II.out.skip Y0.out Z0.out, hO.keep ((Kept.refl (fun _ => False) _).drewN _) (fun h => h), hkp.drewN _⟩
              case measure => simp [intOf]; omega
            all_goals
              have NE := Lib.hid hne
              clear hne
              obtain ⟨u, hu⟩ := get_of_lt (show kk < X.length by omega)
              obtain ⟨c0, c1⟩ := OwnAt.id hO hu
              have f0 := hO.frozen (kk * 2)
              have f1 := hO.frozen (kk * 2 + 1)
              have HO := Lib.hid hO
              have XL := Lib.hid hXl
              clear hu hO hXl
              go_wp2_with fail
              go_quiet (fail)
              go_wp2_with fail
              go_roundw
              case rel => exact ⟨kk + 1, m + 1, X.set kk z, by go_num, by go_num, by omega, II.out.keep Y0.out Z0.out NE.out, OwnAt.set2 (HO.out.keep ((Kept.refl (fun _ => False) _).drewN _) (fun h => h)) (by have := XL.out; omega) rfl rfl, ((hkp.drewN _).setCell (fun _ => rfl) _).setCell (fun _ => rfl) _⟩
              case measure => simp [intOf]; omega
          · have hj : k + 1 + m + 1 = D.length := by omega
            have hI2 := hI
            rw [hj] at hI2
            obtain ⟨e1, e2⟩ := hI2.done
            obtain ⟨w3, hcl, hO3, hk3⟩ := run_clear_own (P := Tryz.prog) hO 0 Tryz.underlying98 zero_id rfl (fun u hu => by rcases (show u = .int .i64 0 by simpa [Value.cells] using hu) with rfl; rfl) (i := kk) (n := D.length - kk) (c := cap - kk) (by omega)
            have hcl2 : (Builtin.clear_ #[98] 0 #[.slice (some ⟨g, kk * 2, none⟩) (D.length - kk) (cap - kk)]).run Tryz.prog wr = .ok (.tuple #[]) w3 := hcl
            have hil : (kk : Int) < D.length := by omega
            have hic : kk < cap := by omega
            have hm1 : ¬ (m : Int) + 1 < ((D.length - (k + 1) : Nat) : Int) := by omega
            rw [e1] at hO3
            have E2 := Lib.hid e2
            have O3 := Lib.hid hO3
            have K3 := Lib.hid (hkp.trans hk3 (fun _ _ h => h))
            have XL := Lib.hid hXl
            clear e1 e2 hI hI2 hO3 hk3 hkp hcl hO hml hXl hj
            go_wp2_with fail
            go_ret
            exact ⟨by rw [← E2.out]; rfl, O3.out, K3.out⟩
      all_goals
        have NE := Lib.hid hne
        clear hne
        go_wp2_with fail
        go_quiet (fail)
        go_wp2_with fail
        go_roundw
        case rel => exact ⟨k + 1, _, by go_num, by omega, by rw [dd_other Y0.out X0.out NE.out, DDk.out, List.take_add_one (i := k + 1), X0.out]; rfl, rfl⟩
        case measure => simp [intOf]; omega
    · have hge : D.length ≤ k + 1 := by omega
      have hd := DDk.out
      rw [List.take_of_length_le hge] at hd
      have E := Lib.hid hd
      clear hd
      go_wp2_with fail
      go_ret
      rw [E.out]
      exact ⟨rfl, h.keep ((Kept.refl (fun _ => False) w).drewN _) (fun h => h), (Kept.refl _ _).drewN _⟩
end Go.Proofs.YtlafodnaifghcaaGreat.St
namespace Go.Proofs.YtlafodnaifghcaaGreat.St
open Go.RowKit

theorem eqIn_id (x y : ID) (w : World) : (Op.equal 37 (idV x) (idV y)).run Tryz.prog w = .ok (decide (x = y)) w := by
  have h : decide (x = y) = (x.t == y.t && x.s == y.s) := by
    rw [Bool.eq_iff_iff]
    simp [ID.ext_iff]
  rw [h]
  obtain ⟨a, b⟩ := x
  obtain ⟨c, d⟩ := y
  show (Op.equalIn 10000 37 (.agg #[.int .i64 a, .int .i64 b]) (.agg #[.int .i64 c, .int .i64 d])).run Tryz.prog w = _
  go_simp
  by_cases h1 : a = c
  · by_cases h2 : b = d
    · simp [h1, h2]
    · simp [h1, h2]
  · simp [h1]
def idK : KeyE Tryz.prog 37 ID where
  enc := idV
  check := fun _ _ _ => by kernel_rfl
  now := fun k x d hd => .inl (by
    have e : Tryz.prog.underlying 37 = some d := hd
    rw [Tryz.underlying37] at e
    cases e
    rfl)
  ask := eqIn_id
  bits := fun k => by simp [idV, Instr.sameBits]
  und := ⟨_, Tryz.underlying37⟩
def intK : KeyE Tryz.prog 3 Int where
  enc := Value.int .i64
  check := fun _ _ _ => by kernel_rfl
  now := fun k x d hd => .inr (by
    have e : Tryz.prog.underlying 3 = some d := hd
    rw [Tryz.underlying3] at e
    cases e
    simp only [Instr.sameNow, if_pos]
    rw [show (k == x) = decide (k = x) by rw [Bool.eq_iff_iff]; simp])
  ask := fun k x w => by
    have h : decide (k = x) = (k == x) := by rw [Bool.eq_iff_iff]; simp
    rw [h]
    exact run_equalIn_int w 9999 3 .i64 .i64 k x Tryz.underlying3
  bits := fun k => by simp [Instr.sameBits]
  und := ⟨_, Tryz.underlying3⟩
end Go.Proofs.YtlafodnaifghcaaGreat.St
namespace Go.Proofs.YtlafodnaifghcaaGreat.St
open Go.RowKit

/-- the map from the identifier that would follow a run to its place -/
def GrowsOk (kvs : List (ID × Value)) (out : List Run) : Prop := KeysOk kvs ∧ ∀ x, getK kvs x = (growAt out x).map fun k : Nat => Value.int .i64 (k : Int)
theorem growAt_next {out : List Run} (hn : (out.map Run.next).Nodup) {k : Nat} {r : Run} (hk : out[k]? = some r) : growAt out r.next = some k := growAt_of hn hk rfl
theorem growAt_iff {out : List Run} (hn : (out.map Run.next).Nodup) {x : ID} {k : Nat} : growAt out x = some k ↔ ∃ r, out[k]? = some r ∧ r.next = x :=
  ⟨growAt_some, fun ⟨_, h1, h2⟩ => growAt_of hn h1 h2⟩
theorem opt_ext {α : Type} {a b : Option α} (h : ∀ k, a = some k ↔ b = some k) : a = b := by
  cases a with
  | none => cases b with
    | none => rfl
    | some y => exact absurd ((h y).2 rfl) (by simp)
  | some x => exact ((h x).1 rfl).symm
theorem modify_get {out : List Run} {k i : Nat} {r : Run} (hk : out[k]? = some r) : (out.modify k Run.up)[i]? = if k = i then some r.up else out[i]? := by
  rw [List.getElem?_modify]
  by_cases h : k = i
  · subst h; simp [hk]
  · simp [h]
/-- a run that grows -/
theorem GrowsOk.grow {kvs : List (ID × Value)} {out : List Run} {P Q : ID → Prop} {x : ID} {k : Nat} (h : GrowsOk kvs out) (ho : PackOk out P) (ho2 : PackOk (packStep out x) Q) (hg : growAt out x = some k) :
    GrowsOk (putK (delK kvs x) ⟨x.t + 1, x.s⟩ (.int .i64 (k : Int))) (packStep out x) := by
  obtain ⟨h1, h2⟩ := h
  refine ⟨(h1.del x).put _ _, fun y => ?_⟩
  rw [getK_put, getK_del h1, h2]
  have e : packStep out x = out.modify k Run.up := by unfold packStep; rw [hg]
  obtain ⟨r, hk, hr⟩ := growAt_some hg
  have hn2 := ho2.nodup
  rw [e] at hn2 ⊢
  have hup : r.up.next = ⟨x.t + 1, x.s⟩ := by
    have e1 := congrArg ID.t hr
    have e2 := congrArg ID.s hr
    simp only [Run.next] at e1 e2
    rw [ID.ext_iff]
    simp only [Run.next, Run.up]
    exact ⟨by omega, e2⟩
  have hk2 : (out.modify k Run.up)[k]? = some r.up := by rw [modify_get hk, if_pos rfl]
  by_cases hy : (⟨x.t + 1, x.s⟩ : ID) = y
  · rw [if_pos hy, growAt_of hn2 hk2 (hup.trans hy)]; rfl
  · rw [if_neg hy]
    have key : growAt (out.modify k Run.up) y = if x = y then none else growAt out y := by
      refine opt_ext fun m => ?_
      rw [growAt_iff hn2]
      by_cases hxy : x = y
      · rw [if_pos hxy]
        constructor
        · rintro ⟨q, hq, hqn⟩
          rw [modify_get hk] at hq
          split at hq
          · cases hq; exact absurd (hup.symm.trans hqn) hy
          · rename_i hkm
            have h3 : growAt out x = some m := growAt_of ho.nodup hq (hqn.trans hxy.symm)
            rw [hg] at h3
            exact absurd (Option.some.inj h3) hkm
        · intro h3; cases h3
      · rw [if_neg hxy, growAt_iff ho.nodup]
        constructor
        · rintro ⟨q, hq, hqn⟩
          rw [modify_get hk] at hq
          split at hq
          · cases hq; exact absurd (hup.symm.trans hqn) hy
          · exact ⟨q, hq, hqn⟩
        · rintro ⟨q, hq, hqn⟩
          refine ⟨q, ?_, hqn⟩
          rw [modify_get hk, if_neg]
          · exact hq
          · rintro rfl
            rw [hk] at hq
            cases hq
            exact hxy (hr.symm.trans hqn)
    rw [key]
    by_cases hxy : x = y
    · rw [if_pos hxy, if_pos hxy]; rfl
    · rw [if_neg hxy, if_neg hxy]
/-- a new run -/
theorem GrowsOk.new {kvs : List (ID × Value)} {out : List Run} {P Q : ID → Prop} {x : ID} (h : GrowsOk kvs out) (ho : PackOk out P) (ho2 : PackOk (packStep out x) Q) (hg : growAt out x = none) :
    GrowsOk (putK kvs ⟨x.t + 1, x.s⟩ (.int .i64 (out.length : Int))) (packStep out x) := by
  obtain ⟨h1, h2⟩ := h
  refine ⟨h1.put _ _, fun y => ?_⟩
  rw [getK_put, h2]
  have e : packStep out x = out ++ [⟨x, 1⟩] := by unfold packStep; rw [hg]
  have hn2 := ho2.nodup
  rw [e] at hn2 ⊢
  have hlast : (out ++ [⟨x, 1⟩])[out.length]? = some ⟨x, 1⟩ := by simp
  have hnext : Run.next ⟨x, 1⟩ = ⟨x.t + 1, x.s⟩ := rfl
  by_cases hy : (⟨x.t + 1, x.s⟩ : ID) = y
  · rw [if_pos hy, growAt_of hn2 hlast (hnext.trans hy)]; rfl
  · rw [if_neg hy]
    congr 1
    refine opt_ext fun m => ?_
    rw [growAt_iff hn2, growAt_iff ho.nodup]
    constructor
    · rintro ⟨q, hq, hqn⟩
      exact ⟨q, by rw [List.getElem?_append_left (List.getElem?_eq_some_iff.1 hq).1]; exact hq, hqn⟩
    · rintro ⟨q, hq, hqn⟩
      by_cases hm : m < out.length
      · rw [List.getElem?_append_left hm] at hq; exact ⟨q, hq, hqn⟩
      · have : m = out.length := by
          have := (List.getElem?_eq_some_iff.1 hq).1
          simp at this; omega
        subst this
        rw [hlast] at hq
        cases hq
        exact absurd (hnext.symm.trans hqn) hy
theorem packOk_take {S : List ID} (hS : Rising S) : ∀ n, n ≤ S.length → PackOk (packL (S.take n)) (fun y => y ∈ S.take n) := by
  intro n
  induction n with
  | zero => intro _; exact ⟨by simp [packL], by simp [packL], by simp [packL]⟩
  | succ n ih =>
    intro hn
    obtain ⟨x, hx⟩ := get_of_lt (show n < S.length by omega)
    have e : S.take (n + 1) = S.take n ++ [x] := by rw [List.take_add_one, hx]; rfl
    have e2 : packL (S.take (n + 1)) = packStep (packL (S.take n)) x := by rw [e]; simp [packL, List.foldl_append]
    rw [e2]
    refine packStep_ok (ih (by omega)) (fun y hy => ?_) (fun y hy => by rw [e]; exact List.mem_append_left _ hy) (by rw [e]; simp)
    rintro rfl
    rw [Rising, ← List.take_append_drop n S] at hS
    have h1 := (List.pairwise_append.1 hS).2.2 y hy y (by rw [List.drop_eq_getElem_cons (by omega)]; rw [List.getElem?_eq_getElem (by omega)] at hx; rw [Option.some.inj hx]; simp)
    exact ID.lt_irrefl _ h1
theorem packL_take_succ {S : List ID} {n : Nat} {x : ID} (hx : S[n]? = some x) : packL (S.take (n + 1)) = packStep (packL (S.take n)) x := by
  rw [List.take_add_one, hx]; simp [packL, List.foldl_append]
theorem packL_len (S : List ID) : (packL S).length ≤ S.length := by
  have : ∀ (l : List ID) (out : List Run), (l.foldl packStep out).length ≤ out.length + l.length := by
    intro l
    induction l with
    | nil => intro out; simp
    | cons x l ih =>
      intro out
      have h1 := ih (packStep out x)
      have h2 := packStep_len out x
      simp only [List.foldl_cons, List.length_cons]
      omega
  have h := this S []
  rw [List.length_nil, Nat.zero_add] at h
  exact h
theorem packL_ids (S : List ID) : ∀ r ∈ packL S, r.id ∈ S := by
  induction S using snoc_ind with
  | h0 => simp [packL]
  | h1 l x ih =>
    have e : packL (l ++ [x]) = packStep (packL l) x := by simp [packL, List.foldl_append]
    rw [e]
    unfold packStep
    cases hg : growAt (packL l) x with
    | none =>
      intro r hr
      rcases List.mem_append.1 hr with hr | hr
      · exact List.mem_append_left _ (ih r hr)
      · simp only [List.mem_cons, List.not_mem_nil, or_false] at hr
        subst hr
        exact List.mem_append_right _ (by simp)
    | some k =>
      obtain ⟨q, hk, hq⟩ := growAt_some hg
      intro r hr
      obtain ⟨i, hi⟩ := List.getElem?_of_mem hr
      have hi2 : ((packL l).modify k Run.up)[i]? = some r := hi
      rw [modify_get hk] at hi2
      split at hi2
      · cases hi2
        exact List.mem_append_left _ (ih q (List.mem_of_getElem? hk))
      · exact List.mem_append_left _ (ih r (List.mem_of_getElem? hi2))
end Go.Proofs.YtlafodnaifghcaaGreat.St
