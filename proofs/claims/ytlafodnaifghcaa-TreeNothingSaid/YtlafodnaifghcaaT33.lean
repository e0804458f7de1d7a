/- much: a script that is looked at is short. Contracts of the library at this translation: the numbers. slices.SortFunc of identifiers, on a row of the call's own. -/
import Derived.Test.YtlafodnaifghcaaT32
import Derived.Test.YtlafodnaifghcaaT8
import Derived.Test.YtlafodnaifghcaaChecked
import Derived.Shelf.SlSortCmp.NoneTotal
import Derived.Test.YtlafodnaifghcaaT16
namespace Go.Proofs.Ytlafodnaifghcaa.Tr
open Go.RowKit Go.Proofs.Ytlafodnaifghcaa.St
theorem SlAt.stepc {w : World} {v : Value} {L : List StV} (h : SlAt stE w v L) (hn : 0 < L.length) : ∃ g o c, v = .slice (some ⟨g, o, none⟩) L.length c ∧ g < w.heap.size ∧ ∀ (i : Nat) (x : StV), L[i]? = some x →
    w.cell? ⟨g, o + i * 9, none⟩ = some (.int .i64 x.kind) ∧ w.cell? ⟨g, o + i * 9 + 1, none⟩ = some (.int .i64 x.id.t) ∧ w.cell? ⟨g, o + i * 9 + 2, none⟩ = some (.int .i64 x.id.s) ∧ w.cell? ⟨g, o + i * 9 + 3, none⟩ = some (.int .i64 x.ref.t) ∧ w.cell? ⟨g, o + i * 9 + 4, none⟩ = some (.int .i64 x.ref.s) ∧
    w.cell? ⟨g, o + i * 9 + 5, none⟩ = some (.string x.text) ∧ w.cell? ⟨g, o + i * 9 + 6, none⟩ = some (.slice x.runs.a x.runs.n x.runs.c) ∧ w.cell? ⟨g, o + i * 9 + 7, none⟩ = some (.int .i64 x.i) ∧ w.cell? ⟨g, o + i * 9 + 8, none⟩ = some (.int .i64 x.n) := by
  obtain ⟨g, o, c, rfl, _, _, hg, hc⟩ := h.one hn
  exact ⟨g, o, c, rfl, hg, fun i x hx => ⟨hc i x hx 0 _ rfl, hc i x hx 1 _ rfl, hc i x hx 2 _ rfl, hc i x hx 3 _ rfl, hc i x hx 4 _ rfl, hc i x hx 5 _ rfl, hc i x hx 6 _ rfl, hc i x hx 7 _ rfl, hc i x hx 8 _ rfl⟩⟩
def textN (L : List StV) : Nat := (L.map fun s => s.text.size).sum
theorem textN_snoc (L : List StV) (x : StV) : textN (L ++ [x]) = textN L + x.text.size := by simp [textN]
/-- what is looked at -/
structure Few (L : List StV) : Prop where
  len : L.length ≤ 200
  each : ∀ s ∈ L, s.runs.n ≤ 400 ∧ s.text.size ≤ 20000
  all : textN L ≤ 20000
def MuchPost (w : World) (L : List StV) (r : Ending) (w' : World) : Prop := ∃ b, r = .returned (.bool b) ∧ (b = false → Few L) ∧ w = w'
set_option maxRecDepth 100000 in
set_option maxHeartbeats 4000000 in
theorem much_any {w : World} {v : Value} {L : List StV} (h : SlAt stE w v L) (ht : ∀ s ∈ L, s.text.size ≤ maxLen) :
    Calls Try.prog 8 #[v] w (MuchPost w L) := by
  obtain ⟨a, c, rfl, _, _⟩ := h.sl
  have HL := Lib.hid h
  have HT := Lib.hid ht
  clear h ht
  by_cases h1 : 200 < L.length
  · have e1 : (200 : Int) < L.length := by omega
    clear h1
    go_enter Try.func8, Try.ntmps8
    go_wp2_with fail
    go_ret
    exact ⟨true, rfl, (fun h => by cases h), rfl⟩
  have e1 : ¬ (200 : Int) < L.length := by omega
  go_enter Try.func8, Try.ntmps8
  go_wp2_with fail
  clear e1
  go_loopw [3, 4] (fun kv iv wr => ∃ n : Nat, iv = .int .i64 n ∧ kv = .int .i64 (textN (L.take n)) ∧ n ≤ L.length ∧ textN (L.take n) ≤ 20000 ∧ (∀ s ∈ L.take n, s.runs.n ≤ 400 ∧ s.text.size ≤ 20000) ∧ w = wr) (fun _ iv _ => L.length - (intOf iv).toNat)
  case atStart => exact ⟨0, rfl, by simp [textN], Nat.zero_le _, by simp [textN], fun s hs => by simp at hs, rfl⟩
  case round =>
    obtain ⟨n, rfl, rfl, hn, hnt, hno, rfl⟩ := hrel
    have NO := Lib.hid hno
    clear hno
    have hn0 : (0 : Int) ≤ n := by omega
    by_cases hlt : n < L.length
    case neg =>
      have hltI : ¬ (n : Int) < L.length := by omega
      have hn9 : n = L.length := by omega
      have FW : Hid (Few L) := Lib.hid (by
        have h2 := NO.out
        rw [hn9, List.take_length] at h2 hnt
        exact ⟨by omega, h2, hnt⟩)
      clear hn9
      go_wp2_with fail
      go_ret
      exact ⟨false, rfl, fun _ => FW.out, rfl⟩
    case pos =>
      have hltI : (n : Int) < L.length := by omega
      obtain ⟨x, hx⟩ := get_of_lt hlt
      obtain ⟨g, o, c', e2, _, hcs⟩ := SlAt.stepc HL.out (by omega)
      cases e2
      obtain ⟨c0, c1, c2, c3, c4, c5, c6, c7, c8⟩ := hcs n x hx
      have htx := HT.out x (List.mem_of_getElem? hx)
      have htk : L.take (n + 1) = L.take n ++ [x] := by rw [List.take_add_one, hx]; rfl
      have TN : Hid (textN (L.take (n + 1)) = textN (L.take n) + x.text.size) := Lib.hid (by rw [htk, textN_snoc])
      have EA : Hid (x.runs.n ≤ 400 ∧ x.text.size ≤ 20000 → ∀ s ∈ L.take (n + 1), s.runs.n ≤ 400 ∧ s.text.size ≤ 20000) := Lib.hid (fun hh s hs => by
        rw [htk] at hs
        rcases List.mem_append.1 hs with hs | hs
        · exact NO.out s hs
        · rw [List.mem_singleton.1 hs]; exact hh)
      obtain ⟨tn, htn⟩ : ∃ tn, textN (L.take n) = tn := ⟨_, rfl⟩
      rw [htn] at TN hnt ⊢
      have hw1 : IntKind.i64.wrap ((n : Int) + 1) = (n : Int) + 1 := IntWalk.i64_in _ (by omega)
      clear hcs hx htk htx htn
      by_cases q1 : (400 : Int) < x.runs.n
      · go_wp2_with fail
        go_ret
        exact ⟨true, rfl, (fun h => by cases h), rfl⟩
      · by_cases q2 : (20000 : Int) < x.text.size
        · go_wp2_with fail
          go_ret
          exact ⟨true, rfl, (fun h => by cases h), rfl⟩
        · have hwr : IntKind.i64.wrap ((tn : Int) + x.text.size) = (tn : Int) + x.text.size := IntWalk.i64_in _ (by omega)
          by_cases q3 : (20000 : Int) < (tn : Int) + x.text.size
          · go_wp2_with fail
            go_ret
            exact ⟨true, rfl, (fun h => by cases h), rfl⟩
          · go_wp2_with fail
            go_roundw
            case rel => exact ⟨n + 1, by go_num, by rw [TN.out]; push_cast; rfl, by omega, by rw [TN.out]; omega, EA.out ⟨by omega, by omega⟩, trivial⟩
            case measure => simp [intOf]; omega
end Go.Proofs.Ytlafodnaifghcaa.Tr
namespace Go.Proofs.Ytlafodnaifghcaa.St
def sortID_ren : Go.Shelf.Ren := ⟨fun | 6 => 60 | 15 => 79 | 14 => 78 | 28 => 96 | 29 => 97 | 20 => 88 | 21 => 89 | 22 => 90 | 23 => 91 | 24 => 92 | 25 => 93 | 26 => 94 | 27 => 95 | 46 => 100 | 47 => 101 | 48 => 102 | 49 => 103 | 50 => 104 | 57 => 106 | n => n, fun | 22 => 79 | 24 => 27 | 25 => 118 | 3 => 3 | 39 => 141 | 0 => 0 | 53 => 150 | 55 => 146 | 4 => 4 | 46 => 154 | 45 => 153 | 50 => 124 | 5 => 5 | 9 => 9 | 66 => 162 | 70 => 166 | 76 => 169 | 77 => 36 | n => n, fun | n => n⟩
theorem sortID : Go.Proofs.SlLaysF0.n6 Try.prog sortID_ren := {
  mixed := by kernel_rfl,
  f6 := ⟨Try.f60.name, by decide, Try.func60.trans (congrArg some (by kernel_rfl))⟩,
  f14 := ⟨Try.f78.name, by decide, Try.func78.trans (congrArg some (by kernel_rfl))⟩,
  f15 := Try.func79.trans (congrArg some (by kernel_rfl)),
  f20 := ⟨Try.f88.name, by decide, Try.func88.trans (congrArg some (by kernel_rfl))⟩,
  f21 := ⟨Try.f89.name, by decide, Try.func89.trans (congrArg some (by kernel_rfl))⟩,
  f22 := ⟨Try.f90.name, by decide, Try.func90.trans (congrArg some (by kernel_rfl))⟩,
  f23 := ⟨Try.f91.name, by decide, Try.func91.trans (congrArg some (by kernel_rfl))⟩,
  f24 := ⟨Try.f92.name, by decide, Try.func92.trans (congrArg some (by kernel_rfl))⟩,
  f25 := ⟨Try.f93.name, by decide, Try.func93.trans (congrArg some (by kernel_rfl))⟩,
  f26 := ⟨Try.f94.name, by decide, Try.func94.trans (congrArg some (by kernel_rfl))⟩,
  f27 := ⟨Try.f95.name, by decide, Try.func95.trans (congrArg some (by kernel_rfl))⟩,
  f28 := Try.func96.trans (congrArg some (by kernel_rfl)),
  f29 := Try.func97.trans (congrArg some (by kernel_rfl)),
  f46 := ⟨Try.f100.name, by decide, Try.func100.trans (congrArg some (by kernel_rfl))⟩,
  f47 := Try.func101.trans (congrArg some (by kernel_rfl)),
  f48 := Try.func102.trans (congrArg some (by kernel_rfl)),
  f49 := ⟨Try.f103.name, by decide, Try.func103.trans (congrArg some (by kernel_rfl))⟩,
  f50 := ⟨Try.f104.name, by decide, Try.func104.trans (congrArg some (by kernel_rfl))⟩,
  f57 := ⟨Try.f106.name, by decide, Try.func106.trans (congrArg some (by kernel_rfl))⟩,
  t0 := Try.underlying0,
  a0 := Try.isAgg0,
  z0 := Try.sizeOf0,
  v0 := Try.zeroValue0,
  t3 := Try.underlying3,
  a3 := Try.isAgg3,
  z3 := Try.sizeOf3,
  v3 := Try.zeroValue3,
  t4 := Try.underlying4,
  a4 := Try.isAgg4,
  z4 := Try.sizeOf4,
  v4 := Try.zeroValue4,
  t5 := Try.underlying5,
  a5 := Try.isAgg5,
  z5 := Try.sizeOf5,
  v5 := Try.zeroValue5,
  t9 := Try.underlying9,
  a9 := Try.isAgg9,
  z9 := Try.sizeOf9,
  v9 := Try.zeroValue9,
  t22 := Try.underlying79,
  a22 := Try.isAgg79,
  z22 := Try.sizeOf79,
  v22 := Try.zeroValue79,
  t25 := Try.underlying118,
  a25 := Try.isAgg118,
  z25 := Try.sizeOf118,
  v25 := Try.zeroValue118,
  t39 := Try.underlying141,
  a39 := Try.isAgg141,
  z39 := Try.sizeOf141,
  v39 := Try.zeroValue141,
  t45 := Try.underlying153,
  a45 := Try.isAgg153,
  z45 := Try.sizeOf153,
  v45 := Try.zeroValue153,
  t46 := Try.underlying154,
  a46 := Try.isAgg154,
  z46 := Try.sizeOf154,
  v46 := Try.zeroValue154,
  t50 := Try.underlying124,
  a50 := Try.isAgg124,
  z50 := Try.sizeOf124,
  v50 := Try.zeroValue124,
  t53 := Try.underlying150,
  a53 := Try.isAgg150,
  z53 := Try.sizeOf150,
  v53 := Try.zeroValue150,
  t55 := Try.underlying146,
  a55 := Try.isAgg146,
  z55 := Try.sizeOf146,
  v55 := Try.zeroValue146,
  t66 := Try.underlying162,
  a66 := Try.isAgg162,
  z66 := Try.sizeOf162,
  v66 := Try.zeroValue162,
  t70 := Try.underlying166,
  a70 := Try.isAgg166,
  z70 := Try.sizeOf166,
  v70 := Try.zeroValue166,
  t76 := Try.underlying169,
  a76 := Try.isAgg169,
  z76 := Try.sizeOf169,
  v76 := Try.zeroValue169,
  t77 := Try.underlying36,
  a77 := Try.isAgg36,
  z77 := Try.sizeOf36,
  v77 := Try.zeroValue36 }
end Go.Proofs.Ytlafodnaifghcaa.St
namespace Go.Proofs.Ytlafodnaifghcaa
open Go.RowKit
open Go.Sort (putRowK HoldsK flatK size_flatK get_flatK grow)
section
variable {α : Type} [Inhabited α] {E : Enc α} {w : World} {t : TypeId} {g cap : Nat} {D D' : List α}
theorem flatK_get {i j : Nat} {x : α} {u : Value} (hx : D[i]? = some x) (hu : (E.enc x)[j]? = some u) : i * E.k + j < (flatK E.enc E.k D.toArray).size ∧ (flatK E.enc E.k D.toArray)[i * E.k + j]! = u := by
  have hi : i < D.length := (List.getElem?_eq_some_iff.1 hx).1
  have hj : j < E.k := by rw [← E.len x]; exact (List.getElem?_eq_some_iff.1 hu).1
  have hlt : i * E.k + j < D.toArray.size * E.k := by
    have := Nat.mul_le_mul_right E.k (show i + 1 ≤ D.length by omega)
    rw [Nat.add_mul] at this
    simp only [List.size_toArray]
    omega
  refine ⟨by rw [size_flatK]; exact hlt, ?_⟩
  rw [get_flatK _ _ _ _ hlt]
  have e1 : (i * E.k + j) / E.k = i := by rw [Nat.mul_comm, Nat.mul_add_div E.pos, Nat.div_eq_of_lt hj, Nat.add_zero]
  have e2 : (i * E.k + j) % E.k = j := by rw [Nat.mul_comm, Nat.mul_add_mod, Nat.mod_eq_of_lt hj]
  have e3 : D.toArray[i]! = x := by
    rw [getElem!_pos D.toArray i (by simpa using hi)]
    have := (List.getElem?_eq_some_iff.1 hx).2
    simpa using this
  rw [e1, e2, e3]
  have hjl := (List.getElem?_eq_some_iff.1 hu)
  rw [getElem!_pos _ j hjl.1]
  exact hjl.2
theorem OwnAt.holdsK (h : OwnAt E w t g cap D) : HoldsK E.enc E.k w g 0 D.toArray := by
  intro m hm
  rw [size_flatK] at hm
  simp only [List.size_toArray] at hm
  have e : m = m / E.k * E.k + m % E.k := by have := Nat.div_add_mod m E.k; rw [Nat.mul_comm] at this; omega
  have hi : m / E.k < D.length := Nat.div_lt_of_lt_mul (by rw [Nat.mul_comm]; exact hm)
  have hj : m % E.k < E.k := Nat.mod_lt _ E.pos
  have hx := List.getElem?_eq_getElem hi
  have hu : (E.enc D[m / E.k])[m % E.k]? = some _ := List.getElem?_eq_getElem (by rw [E.len]; exact hj)
  have h1 := h.cell hx hu
  have h2 := (flatK_get hx hu).2
  rw [← e] at h1 h2
  rw [Nat.zero_add, h2]
  exact ⟨h1, h.frozen m⟩
theorem OwnAt.sorted (h : OwnAt E w t g cap D) (hl : D'.length = D.length) (n : Nat) (os : Array Obj) :
    OwnAt E (sortWorldK E.enc E.k w g 0 n D'.toArray os) t g cap D' ∧ Kept (· = g) w (sortWorldK E.enc E.k w g 0 n D'.toArray os) := by
  obtain ⟨cs, h1, h2, h3, h4, h5⟩ := h
  have hlt := h1.lt
  refine ⟨⟨Go.Sort.putCells id 0 (flatK E.enc E.k D'.toArray) cs, ?_, ?_, by omega, h4, ?_⟩, ⟨rfl, rfl, rfl, ?_, ?_⟩⟩
  · unfold Blk at h1 ⊢
    show (w.heap.modify g (Go.Sort.onCells (Go.Sort.putCells id 0 (flatK E.enc E.k D'.toArray))) ++ os)[g]? = _
    rw [Array.getElem?_append_left (by simpa using hlt), Array.getElem?_modify, if_pos rfl, h1]
    rfl
  · simp [Go.Sort.putCells, h2]
  · intro i x hx j u hu
    obtain ⟨g1, g2⟩ := flatK_get hx hu
    have hm : i * E.k + j < cs.size := by
      rw [size_flatK] at g1
      simp only [List.size_toArray] at g1
      have := Nat.mul_le_mul_right E.k h3
      rw [← hl] at this
      omega
    simp only [Go.Sort.putCells, Array.getElem?_mapIdx, Array.getElem?_eq_getElem hm, Option.map_some]
    rw [if_pos ⟨Nat.zero_le _, by omega⟩, Nat.sub_zero, g2]
    rfl
  · simp [sortWorldK, grow, putRowK, Go.Sort.putRow, Go.Sort.mapBlock, Go.Sort.ahead]
  · intro k hk hne
    have : ¬ g = k := fun e => hne e.symm
    show (w.heap.modify g (Go.Sort.onCells (Go.Sort.putCells id 0 (flatK E.enc E.k D'.toArray))) ++ os)[k]? = _
    rw [Array.getElem?_append_left (by simpa using hk), Array.getElem?_modify, if_neg this]
end
namespace St
open Go.Sort (SWO)
theorem lt_of (x y : ID) : Go.Proofs.ltOf ID.cmp x y = decide (x.lt y) := by
  unfold Go.Proofs.ltOf
  rw [decide_eq_decide]
  exact cmp_lt
theorem swo_id : SWO (Go.Proofs.ltOf ID.cmp) where
  irrefl x := by rw [lt_of]; simpa using ID.lt_irrefl x
  trans x y z h1 h2 := by rw [lt_of] at *; simp only [decide_eq_true_eq] at *; exact ID.lt_trans h1 h2
  ntrans x y z h1 h2 := by
    rw [lt_of] at *
    simp only [decide_eq_false_iff_not] at *
    unfold ID.lt at *
    omega
theorem part_id (x y : ID) (h1 : Go.Proofs.ltOf ID.cmp x y = false) (h2 : Go.Proofs.ltOf ID.cmp y x = false) : x = y := by
  rw [lt_of] at h1 h2
  simp only [decide_eq_false_iff_not] at h1 h2
  rcases x.lt_or y with h | h | h
  · exact absurd h h1
  · exact h
  · exact absurd h h2
/-- no later one is lower -/
def Sorted (l : List ID) : Prop := l.Pairwise fun a b => ¬ b.lt a
theorem merge_id (D : List ID) : (D.mergeSort fun x y => !Go.Proofs.ltOf ID.cmp y x).Perm D ∧ Sorted (D.mergeSort fun x y => !Go.Proofs.ltOf ID.cmp y x) := by
  refine ⟨List.mergeSort_perm .., ?_⟩
  have := List.pairwise_mergeSort (le := fun x y => !Go.Proofs.ltOf ID.cmp y x) (fun a b c h1 h2 => by
    simp only [Bool.not_eq_true'] at *
    exact swo_id.ntrans c b a h2 h1) (fun a b => by
    simp only [Bool.or_eq_true, Bool.not_eq_true', lt_of, decide_eq_false_iff_not]
    by_cases h : b.lt a
    · exact .inr fun h' => ID.lt_irrefl _ (ID.lt_trans h h')
    · exact .inl h) D
  refine this.imp fun {a b} h => ?_
  simpa [lt_of] using h
theorem cmpLays_id (g n : Nat) (w : World) : CmpLays Try.prog 53 #[] idE.enc 2 ID.cmp g 0 n w := fun _ _ _ _ x y => compare_any x y _
theorem aggId : ∀ w, (isAgg (sortID_ren.t 24)).run Try.prog w = .ok true w := fun _ => by kernel_rfl
theorem sizeId : ∀ w, (Go.sizeOf (sortID_ren.t 24)).run Try.prog w = .ok 2 w := fun _ => by kernel_rfl
theorem sort_id {w : World} {t : TypeId} {g cap : Nat} {D : List ID} (h : OwnAt idE w t g cap D) (hb : D.length ≤ 1000000000) :
    Calls Try.prog 60 #[.slice (some ⟨g, 0, none⟩) D.length cap, .func (.func 53) #[] #[]] w fun e w' => e = .returned (.tuple #[]) ∧ ∃ D', D'.Perm D ∧ Sorted D' ∧ OwnAt idE w' t g cap D' ∧ Kept (· = g) w w' := by
  have eg : ∀ args w, (callFunc 53 args).run Try.prog w = .ok (.enter 53 args) w := enters_of Try.func53 (by kernel_rfl) rfl
  have hcon := AnyQ.slices_SortFunc_total sortID 2 aggId sizeId idE.enc idE.len idE.one ID.cmp swo_id 53 #[] g 0 cap D.toArray w eg (cmpLays_id g _ w) h.holdsK h.lt (by simp; omega) part_id
  refine hcon.mono ?_
  rintro e w' ⟨rfl, n, os, rfl⟩
  obtain ⟨h1, h2⟩ := merge_id D
  obtain ⟨h3, h4⟩ := h.sorted (D' := D.mergeSort fun x y => !Go.Proofs.ltOf ID.cmp y x) (by simp) n os
  exact ⟨rfl, _, h1, h2, h3, h4⟩
end St
end Go.Proofs.Ytlafodnaifghcaa
