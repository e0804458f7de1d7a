/- A document with all its blocks in a set: what each call does to it. Contracts of the library at this translation: the numbers. slices.SortFunc of identifiers, on a row of the call's own. -/
import Derived.Test.YtlafodnaifghcaaK19
import Derived.Test.YtlafodnaifghcaaK27
import Derived.Test.YtlafodnaifghcaaChecked
import Derived.Shelf.SlSortCmp.NoneTotal
import Derived.Test.YtlafodnaifghcaaK8
namespace Go.Proofs.Ytlafodnaifghcaa.Tr
open Go.RowKit Go.Proofs.Ytlafodnaifghcaa.St Go.Proofs.Ytlafodnaifghcaa.Gl Go.Proofs.Ytlafodnaifghcaa
theorem fresh_doc : ∀ (rs : List Int) (i ref : ID) (L : List Nd), Doc L → Ref L ref → ref.lt i → (∀ k : Nat, k < rs.length → (⟨i.t + k, i.s⟩ : ID) ∉ ids L) → Doc (puts L (freshL i ref rs))
  | [], _, _, _, h, _, _, _ => h
  | r :: rs, i, ref, L, h, hr, hl, hn => by
    have hx : i ∉ ids L := by
      have h9 := hn 0 (Nat.succ_pos _)
      simpa using h9
    have h1 := (h.put (x := ⟨i, ref, r, 1⟩) hr hl hx).1
    refine fresh_doc rs ⟨i.t + 1, i.s⟩ i (put L (placeP L i ref) ⟨i, ref, r, 1⟩) h1 (.inr (put_ids.2 (.inl rfl))) (.inl (by show i.t < i.t + 1; omega)) fun k hk hm => ?_
    rcases put_ids.1 hm with h2 | h2
    · have := congrArg ID.t h2
      have h3 : i.t + 1 + (k : Int) = i.t := this
      omega
    · refine hn (k + 1) (Nat.succ_lt_succ hk) ?_
      have e : (⟨i.t + ((k + 1 : Nat) : Int), i.s⟩ : ID) = ⟨i.t + 1 + (k : Int), i.s⟩ := by
        rw [ID.ext_iff]
        exact ⟨by show i.t + ((k + 1 : Nat) : Int) = i.t + 1 + (k : Int); omega, rfl⟩
      rw [e]
      exact h2
theorem insL_doc {L : List Nd} (h : Doc L) (i ref : ID) (sz : Nat) (bad : Bool) (rs : List Int) : Doc (insL L i ref sz bad rs) := by
  unfold insL
  by_cases he : insE L i ref sz bad rs = 0
  · rw [if_neg (fun hh => hh he)]
    obtain ⟨h1, h2, h3, h4, h5, h6, h7, h8⟩ := insE_ok he
    cases rs with
    | nil => simpa [freshL] using h
    | cons r rs =>
      rw [← ins_puts h h1 h8]
      exact fresh_doc _ _ _ _ h h7 h6 fun k hk hm => h8 ⟨k, hk, hm⟩
  · rw [if_pos he]
    exact h
theorem insL_is {L : List Nd} (h : ∀ n ∈ L, n.id.Is) (i ref : ID) (sz : Nat) (bad : Bool) (rs : List Int) : ∀ n ∈ insL L i ref sz bad rs, n.id.Is := by
  unfold insL
  by_cases he : insE L i ref sz bad rs = 0
  · rw [if_neg (fun hh => hh he)]
    obtain ⟨h1, _, _, _, h5, _⟩ := insE_ok he
    intro n hn
    rcases List.mem_append.1 hn with hn | hn
    · rcases List.mem_append.1 hn with hn | hn
      · exact h n (List.mem_of_mem_take hn)
      · obtain ⟨k, hk, e⟩ := (freshL_id i ref rs n.id).1 (List.mem_map.2 ⟨n, hn, rfl⟩)
        rw [e]
        obtain ⟨q1, q2, q3, q4⟩ := h1
        exact ⟨by show 1 ≤ i.t + (k : Int); omega, by show i.t + (k : Int) ≤ 2147483647; omega, q3, q4⟩
    · exact h n (List.mem_of_mem_drop hn)
  · rw [if_pos he]
    exact h
theorem insL_len (L : List Nd) (i ref : ID) (sz : Nat) (bad : Bool) (rs : List Int) : (insL L i ref sz bad rs).length ≤ L.length + rs.length := by
  unfold insL
  split
  · omega
  · rw [List.length_append, List.length_append, freshL_len, List.length_take, List.length_drop]
    omega
def grown (M : Nat → Prop) (w w' : World) (b : Nat) : Prop := M b ∨ (w.heap.size ≤ b ∧ b < w'.heap.size)
/-- a document, its blocks in F -/
structure TBox (w : World) (g : Nat) (L : List Nd) (F : Nat → Prop) : Prop where
  at_ : ∃ A S mp, TAt w g L A S mp ∧ ∀ b, foot g L A S mp b → F b
  doc : Doc L
  is : ∀ n ∈ L, n.id.Is
variable {w w' : World} {g : Nat} {L : List Nd} {F : Nat → Prop}
theorem TBox.keep {Y : Nat → Prop} (h : TBox w g L F) (hk : Kept Y w w') (hY : ∀ b, F b → ¬ Y b) : TBox w' g L F := by
  obtain ⟨A, S, mp, h1, h2⟩ := h.at_
  exact ⟨⟨A, S, mp, h1.keep hk fun b hb => hY b (h2 b hb), h2⟩, h.doc, h.is⟩
theorem TBox.still (h : TBox w g L F) (hk : Kept (fun _ => False) w w') : TBox w' g L F := h.keep hk fun _ _ h => h
theorem TBox.mono {F' : Nat → Prop} (h : TBox w g L F) (hF : ∀ b, F b → F' b) : TBox w g L F' := by
  obtain ⟨A, S, mp, h1, h2⟩ := h.at_
  exact ⟨⟨A, S, mp, h1, fun b hb => hF b (h2 b hb)⟩, h.doc, h.is⟩
/-- the blocks that are -/
theorem TBox.low (h : TBox w g L F) : TBox w g L fun b => F b ∧ b < w.heap.size := by
  obtain ⟨A, S, mp, h1, h2⟩ := h.at_
  exact ⟨⟨A, S, mp, h1, fun b hb => ⟨h2 b hb, h1.lt b hb⟩⟩, h.doc, h.is⟩
theorem TBox.top (h : TBox w g L F) : F g := by
  obtain ⟨A, S, mp, h1, h2⟩ := h.at_
  exact h2 g (.inl rfl)
theorem TBox.made (w : World) : TBox (w.alloc (.cells #[.slice none 0 0, .map none] 88)) w.heap.size [] (· = w.heap.size) := by
  refine ⟨⟨_, _, _, new_at w, fun b hb => ?_⟩, Doc.nil, fun n hn => (List.not_mem_nil hn).elim⟩
  rcases hb with h | h | ⟨y, hy, _⟩ | ⟨r, _, h⟩
  · exact h
  · cases h
  · simp [ids] at hy
  · cases h
theorem TBox.insert (h : TBox w g L F) (i ref : ID) (s : ByteArray) (hs : s.size ≤ maxLen) (hlen : L.length + countR s ≤ 900000) :
    Calls Try.prog 13 #[.pointer (some ⟨g, 0, none⟩), idV i, idV ref, .string s] w fun e w' => e = .returned (.int .i64 (insE L i ref s.size (badB s) (runesL s 0))) ∧
      TBox w' g (insL L i ref s.size (badB s) (runesL s 0)) (grown F w w') ∧ Kept F w w' := by
  obtain ⟨A, S, mp, h1, h2⟩ := h.at_
  refine (insert_any h1 h.doc i ref s hs hlen).mono ?_
  rintro e w' ⟨he, A', S', mp', h3, h4, h5⟩
  refine ⟨he, ⟨⟨A', S', mp', h3, fun b hb => ?_⟩, insL_doc h.doc .., insL_is h.is _ _ _ _ _⟩, h5.mono fun b _ hb => h2 b hb⟩
  rcases h4 b hb with h6 | h6
  · exact .inl (h2 b h6)
  · exact .inr ⟨h6, h3.lt b hb⟩
theorem eltM_foot {A : ID → Nat} {S : ID → Rw} {mp : Option Nat} {b : Nat} (h : eltM L A b) : foot g L A S mp b := .inr (.inr (.inl h))
theorem map_turn_is {rs : List Run} {fr tz : Int} (h : ∀ n ∈ L, n.id.Is) : ∀ n ∈ L.map (turnF rs fr tz), n.id.Is := fun n hn => by
  obtain ⟨m, hm, rfl⟩ := List.mem_map.1 hn
  unfold turnF
  split
  · exact h m hm
  · exact h m hm
theorem turn_foot {A : ID → Nat} {S : ID → Rw} {mp : Option Nat} {rs : List Run} {fr tz : Int} {b : Nat} (h : foot g (L.map (turnF rs fr tz)) A S mp b) : foot g L A S mp b := by
  have hi : ids (L.map (turnF rs fr tz)) = ids L := by
    unfold ids
    rw [List.map_map]
    exact List.map_congr_left fun n _ => by
      show (turnF rs fr tz n).id = n.id
      unfold turnF
      split <;> rfl
  unfold foot Ref at *
  rw [hi] at h
  exact h
theorem turn_doc {rs : List Run} {fr tz : Int} (h : Doc L) : Doc (L.map (turnF rs fr tz)) := h.map fun n => by
  unfold turnF
  split <;> exact ⟨rfl, rfl⟩
theorem TBox.delete (h : TBox w g L F) (hlen : L.length ≤ 900000) {v : Value} {rs : List Run} (hv : SlAt runE w v rs) (hin : ∀ r ∈ rs, r.In) (hrl : rs.length ≤ 1000000000) (hvb : ∀ b, v.ownBlock = some b → b < w.heap.size → ¬ F b) :
    Calls Try.prog 14 #[.pointer (some ⟨g, 0, none⟩), v] w fun e w' => e = .returned (.int .i64 (turnN rs 1 L)) ∧ TBox w' g (L.map (turnF rs 1 2)) F ∧ Kept F w w' := by
  obtain ⟨A, S, mp, h1, h2⟩ := h.at_
  refine (delete_any h1 h.doc hlen (fun n hn => by have := h.is n hn; exact ⟨by have := this.1; omega, this.2.1⟩) hv hin hrl fun b hb hl he => hvb b hb hl (h2 b (eltM_foot he))).mono ?_
  rintro e w' ⟨he, h3, h4⟩
  exact ⟨he, ⟨⟨A, S, mp, h3, fun b hb => h2 b (turn_foot hb)⟩, turn_doc h.doc, map_turn_is h.is⟩, h4.mono fun b _ hb => h2 b (eltM_foot hb)⟩
theorem TBox.settle (h : TBox w g L F) (hlen : L.length ≤ 900000) {v : Value} {rs : List Run} (hv : SlAt runE w v rs) (hin : ∀ r ∈ rs, r.In) (hrl : rs.length ≤ 1000000000) (hvb : ∀ b, v.ownBlock = some b → b < w.heap.size → ¬ F b) :
    Calls Try.prog 15 #[.pointer (some ⟨g, 0, none⟩), v] w fun e w' => e = .returned (.int .i64 (turnN rs 2 L)) ∧ TBox w' g (L.map (turnF rs 2 3)) F ∧ Kept F w w' := by
  obtain ⟨A, S, mp, h1, h2⟩ := h.at_
  refine (settle_any h1 h.doc hlen (fun n hn => by have := h.is n hn; exact ⟨by have := this.1; omega, this.2.1⟩) hv hin hrl fun b hb hl he => hvb b hb hl (h2 b (eltM_foot he))).mono ?_
  rintro e w' ⟨he, h3, h4⟩
  exact ⟨he, ⟨⟨A, S, mp, h3, fun b hb => h2 b (turn_foot hb)⟩, turn_doc h.doc, map_turn_is h.is⟩, h4.mono fun b _ hb => h2 b (eltM_foot hb)⟩
theorem TBox.collect (h : TBox w g L F) (hlen : L.length ≤ 900000) :
    Calls Try.prog 16 #[.pointer (some ⟨g, 0, none⟩)] w fun e w' => e = .returned (.int .i64 (collN L)) ∧ TBox w' g (collR L) F ∧ Kept F w w' := by
  obtain ⟨A, S, mp, h1, h2⟩ := h.at_
  refine (coll_any h1 h.doc hlen).mono ?_
  rintro e w' ⟨he, ⟨S', h3, h4⟩, h5⟩
  have hd : Doc (collR L) := by have h9 := coll_doc L [] (by simpa using h.doc); simpa using h9
  exact ⟨he, ⟨⟨A, S', mp, h3, fun b hb => h2 b (h4 b hb)⟩, hd, fun n hn => h.is n ((collR_sub L).subset hn)⟩, h5.mono fun b _ hb => h2 b hb⟩
end Go.Proofs.Ytlafodnaifghcaa.Tr
namespace Go.Proofs.Ytlafodnaifghcaa.St
def sortID_ren : Go.Shelf.Ren := ⟨fun | 6 => 60 | 15 => 79 | 14 => 78 | 28 => 96 | 29 => 97 | 20 => 88 | 21 => 89 | 22 => 90 | 23 => 91 | 24 => 92 | 25 => 93 | 26 => 94 | 27 => 95 | 46 => 100 | 47 => 101 | 48 => 102 | 49 => 103 | 50 => 104 | 57 => 106 | n => n, fun | 22 => 79 | 24 => 27 | 25 => 118 | 3 => 3 | 39 => 141 | 0 => 0 | 53 => 150 | 55 => 146 | 4 => 4 | 46 => 154 | 45 => 153 | 50 => 124 | 5 => 5 | 9 => 9 | 66 => 162 | 70 => 166 | 76 => 169 | 77 => 36 | n => n, fun | n => n⟩
theorem sortID : Go.Proofs.SlLaysF0.n6 Try.prog sortID_ren := {
  mixed := by kernel_rfl,
  f6 := ⟨Try.f60.name, by decide, Try.func60.trans (congrArg some (by kernel_rfl))⟩,
  f14 := ⟨Try.f78.name, by decide, Try.func78.trans (congrArg some (by kernel_rfl))⟩,
  f15 := Try.func79.trans (congrArg some (by kernel_rfl)),
  f20 := ⟨Try.f88.name, by decide, Try.func88.trans (congrArg some (by kernel_rfl))⟩,
  f21 := ⟨Try.f89.name, by decide, Try.func89.trans (congrArg some (by kernel_rfl))⟩,
  f22 := ⟨Try.f90.name, by decide, Try.func90.trans (congrArg some (by kernel_rfl))⟩,
  f23 := ⟨Try.f91.name, by decide, Try.func91.trans (congrArg some (by kernel_rfl))⟩,
  f24 := ⟨Try.f92.name, by decide, Try.func92.trans (congrArg some (by kernel_rfl))⟩,
  f25 := ⟨Try.f93.name, by decide, Try.func93.trans (congrArg some (by kernel_rfl))⟩,
  f26 := ⟨Try.f94.name, by decide, Try.func94.trans (congrArg some (by kernel_rfl))⟩,
  f27 := ⟨Try.f95.name, by decide, Try.func95.trans (congrArg some (by kernel_rfl))⟩,
  f28 := Try.func96.trans (congrArg some (by kernel_rfl)),
  f29 := Try.func97.trans (congrArg some (by kernel_rfl)),
  f46 := ⟨Try.f100.name, by decide, Try.func100.trans (congrArg some (by kernel_rfl))⟩,
  f47 := Try.func101.trans (congrArg some (by kernel_rfl)),
  f48 := Try.func102.trans (congrArg some (by kernel_rfl)),
  f49 := ⟨Try.f103.name, by decide, Try.func103.trans (congrArg some (by kernel_rfl))⟩,
  f50 := ⟨Try.f104.name, by decide, Try.func104.trans (congrArg some (by kernel_rfl))⟩,
  f57 := ⟨Try.f106.name, by decide, Try.func106.trans (congrArg some (by kernel_rfl))⟩,
  t0 := Try.underlying0,
  a0 := Try.isAgg0,
  z0 := Try.sizeOf0,
  v0 := Try.zeroValue0,
  t3 := Try.underlying3,
  a3 := Try.isAgg3,
  z3 := Try.sizeOf3,
  v3 := Try.zeroValue3,
  t4 := Try.underlying4,
  a4 := Try.isAgg4,
  z4 := Try.sizeOf4,
  v4 := Try.zeroValue4,
  t5 := Try.underlying5,
  a5 := Try.isAgg5,
  z5 := Try.sizeOf5,
  v5 := Try.zeroValue5,
  t9 := Try.underlying9,
  a9 := Try.isAgg9,
  z9 := Try.sizeOf9,
  v9 := Try.zeroValue9,
  t22 := Try.underlying79,
  a22 := Try.isAgg79,
  z22 := Try.sizeOf79,
  v22 := Try.zeroValue79,
  t25 := Try.underlying118,
  a25 := Try.isAgg118,
  z25 := Try.sizeOf118,
  v25 := Try.zeroValue118,
  t39 := Try.underlying141,
  a39 := Try.isAgg141,
  z39 := Try.sizeOf141,
  v39 := Try.zeroValue141,
  t45 := Try.underlying153,
  a45 := Try.isAgg153,
  z45 := Try.sizeOf153,
  v45 := Try.zeroValue153,
  t46 := Try.underlying154,
  a46 := Try.isAgg154,
  z46 := Try.sizeOf154,
  v46 := Try.zeroValue154,
  t50 := Try.underlying124,
  a50 := Try.isAgg124,
  z50 := Try.sizeOf124,
  v50 := Try.zeroValue124,
  t53 := Try.underlying150,
  a53 := Try.isAgg150,
  z53 := Try.sizeOf150,
  v53 := Try.zeroValue150,
  t55 := Try.underlying146,
  a55 := Try.isAgg146,
  z55 := Try.sizeOf146,
  v55 := Try.zeroValue146,
  t66 := Try.underlying162,
  a66 := Try.isAgg162,
  z66 := Try.sizeOf162,
  v66 := Try.zeroValue162,
  t70 := Try.underlying166,
  a70 := Try.isAgg166,
  z70 := Try.sizeOf166,
  v70 := Try.zeroValue166,
  t76 := Try.underlying169,
  a76 := Try.isAgg169,
  z76 := Try.sizeOf169,
  v76 := Try.zeroValue169,
  t77 := Try.underlying36,
  a77 := Try.isAgg36,
  z77 := Try.sizeOf36,
  v77 := Try.zeroValue36 }
end Go.Proofs.Ytlafodnaifghcaa.St
namespace Go.Proofs.Ytlafodnaifghcaa
open Go.RowKit
open Go.Sort (putRowK HoldsK flatK size_flatK get_flatK grow)
section
variable {α : Type} [Inhabited α] {E : Enc α} {w : World} {t : TypeId} {g cap : Nat} {D D' : List α}
theorem flatK_get {i j : Nat} {x : α} {u : Value} (hx : D[i]? = some x) (hu : (E.enc x)[j]? = some u) : i * E.k + j < (flatK E.enc E.k D.toArray).size ∧ (flatK E.enc E.k D.toArray)[i * E.k + j]! = u := by
  have hi : i < D.length := (List.getElem?_eq_some_iff.1 hx).1
  have hj : j < E.k := by rw [← E.len x]; exact (List.getElem?_eq_some_iff.1 hu).1
  have hlt : i * E.k + j < D.toArray.size * E.k := by
    have := Nat.mul_le_mul_right E.k (show i + 1 ≤ D.length by omega)
    rw [Nat.add_mul] at this
    simp only [List.size_toArray]
    omega
  refine ⟨by rw [size_flatK]; exact hlt, ?_⟩
  rw [get_flatK _ _ _ _ hlt]
  have e1 : (i * E.k + j) / E.k = i := by rw [Nat.mul_comm, Nat.mul_add_div E.pos, Nat.div_eq_of_lt hj, Nat.add_zero]
  have e2 : (i * E.k + j) % E.k = j := by rw [Nat.mul_comm, Nat.mul_add_mod, Nat.mod_eq_of_lt hj]
  have e3 : D.toArray[i]! = x := by
    rw [getElem!_pos D.toArray i (by simpa using hi)]
    have := (List.getElem?_eq_some_iff.1 hx).2
    simpa using this
  rw [e1, e2, e3]
  have hjl := (List.getElem?_eq_some_iff.1 hu)
  rw [getElem!_pos _ j hjl.1]
  exact hjl.2
theorem OwnAt.holdsK (h : OwnAt E w t g cap D) : HoldsK E.enc E.k w g 0 D.toArray := by
  intro m hm
  rw [size_flatK] at hm
  simp only [List.size_toArray] at hm
  have e : m = m / E.k * E.k + m % E.k := by have := Nat.div_add_mod m E.k; rw [Nat.mul_comm] at this; omega
  have hi : m / E.k < D.length := Nat.div_lt_of_lt_mul (by rw [Nat.mul_comm]; exact hm)
  have hj : m % E.k < E.k := Nat.mod_lt _ E.pos
  have hx := List.getElem?_eq_getElem hi
  have hu : (E.enc D[m / E.k])[m % E.k]? = some _ := List.getElem?_eq_getElem (by rw [E.len]; exact hj)
  have h1 := h.cell hx hu
  have h2 := (flatK_get hx hu).2
  rw [← e] at h1 h2
  rw [Nat.zero_add, h2]
  exact ⟨h1, h.frozen m⟩
theorem OwnAt.sorted (h : OwnAt E w t g cap D) (hl : D'.length = D.length) (n : Nat) (os : Array Obj) :
    OwnAt E (sortWorldK E.enc E.k w g 0 n D'.toArray os) t g cap D' ∧ Kept (· = g) w (sortWorldK E.enc E.k w g 0 n D'.toArray os) := by
  obtain ⟨cs, h1, h2, h3, h4, h5⟩ := h
  have hlt := h1.lt
  refine ⟨⟨Go.Sort.putCells id 0 (flatK E.enc E.k D'.toArray) cs, ?_, ?_, by omega, h4, ?_⟩, ⟨rfl, rfl, rfl, ?_, ?_⟩⟩
  · unfold Blk at h1 ⊢
    show (w.heap.modify g (Go.Sort.onCells (Go.Sort.putCells id 0 (flatK E.enc E.k D'.toArray))) ++ os)[g]? = _
    rw [Array.getElem?_append_left (by simpa using hlt), Array.getElem?_modify, if_pos rfl, h1]
    rfl
  · simp [Go.Sort.putCells, h2]
  · intro i x hx j u hu
    obtain ⟨g1, g2⟩ := flatK_get hx hu
    have hm : i * E.k + j < cs.size := by
      rw [size_flatK] at g1
      simp only [List.size_toArray] at g1
      have := Nat.mul_le_mul_right E.k h3
      rw [← hl] at this
      omega
    simp only [Go.Sort.putCells, Array.getElem?_mapIdx, Array.getElem?_eq_getElem hm, Option.map_some]
    rw [if_pos ⟨Nat.zero_le _, by omega⟩, Nat.sub_zero, g2]
    rfl
  · simp [sortWorldK, grow, putRowK, Go.Sort.putRow, Go.Sort.mapBlock, Go.Sort.ahead]
  · intro k hk hne
    have : ¬ g = k := fun e => hne e.symm
    show (w.heap.modify g (Go.Sort.onCells (Go.Sort.putCells id 0 (flatK E.enc E.k D'.toArray))) ++ os)[k]? = _
    rw [Array.getElem?_append_left (by simpa using hk), Array.getElem?_modify, if_neg this]
end
namespace St
open Go.Sort (SWO)
theorem lt_of (x y : ID) : Go.Proofs.ltOf ID.cmp x y = decide (x.lt y) := by
  unfold Go.Proofs.ltOf
  rw [decide_eq_decide]
  exact cmp_lt
theorem swo_id : SWO (Go.Proofs.ltOf ID.cmp) where
  irrefl x := by rw [lt_of]; simpa using ID.lt_irrefl x
  trans x y z h1 h2 := by rw [lt_of] at *; simp only [decide_eq_true_eq] at *; exact ID.lt_trans h1 h2
  ntrans x y z h1 h2 := by
    rw [lt_of] at *
    simp only [decide_eq_false_iff_not] at *
    unfold ID.lt at *
    omega
theorem part_id (x y : ID) (h1 : Go.Proofs.ltOf ID.cmp x y = false) (h2 : Go.Proofs.ltOf ID.cmp y x = false) : x = y := by
  rw [lt_of] at h1 h2
  simp only [decide_eq_false_iff_not] at h1 h2
  rcases x.lt_or y with h | h | h
  · exact absurd h h1
  · exact h
  · exact absurd h h2
/-- no later one is lower -/
def Sorted (l : List ID) : Prop := l.Pairwise fun a b => ¬ b.lt a
theorem merge_id (D : List ID) : (D.mergeSort fun x y => !Go.Proofs.ltOf ID.cmp y x).Perm D ∧ Sorted (D.mergeSort fun x y => !Go.Proofs.ltOf ID.cmp y x) := by
  refine ⟨List.mergeSort_perm .., ?_⟩
  have := List.pairwise_mergeSort (le := fun x y => !Go.Proofs.ltOf ID.cmp y x) (fun a b c h1 h2 => by
    simp only [Bool.not_eq_true'] at *
    exact swo_id.ntrans c b a h2 h1) (fun a b => by
    simp only [Bool.or_eq_true, Bool.not_eq_true', lt_of, decide_eq_false_iff_not]
    by_cases h : b.lt a
    · exact .inr fun h' => ID.lt_irrefl _ (ID.lt_trans h h')
    · exact .inl h) D
  refine this.imp fun {a b} h => ?_
  simpa [lt_of] using h
theorem cmpLays_id (g n : Nat) (w : World) : CmpLays Try.prog 53 #[] idE.enc 2 ID.cmp g 0 n w := fun _ _ _ _ x y => compare_any x y _
theorem aggId : ∀ w, (isAgg (sortID_ren.t 24)).run Try.prog w = .ok true w := fun _ => by kernel_rfl
theorem sizeId : ∀ w, (Go.sizeOf (sortID_ren.t 24)).run Try.prog w = .ok 2 w := fun _ => by kernel_rfl
theorem sort_id {w : World} {t : TypeId} {g cap : Nat} {D : List ID} (h : OwnAt idE w t g cap D) (hb : D.length ≤ 1000000000) :
    Calls Try.prog 60 #[.slice (some ⟨g, 0, none⟩) D.length cap, .func (.func 53) #[] #[]] w fun e w' => e = .returned (.tuple #[]) ∧ ∃ D', D'.Perm D ∧ Sorted D' ∧ OwnAt idE w' t g cap D' ∧ Kept (· = g) w w' := by
  have eg : ∀ args w, (callFunc 53 args).run Try.prog w = .ok (.enter 53 args) w := enters_of Try.func53 (by kernel_rfl) rfl
  have hcon := AnyQ.slices_SortFunc_total sortID 2 aggId sizeId idE.enc idE.len idE.one ID.cmp swo_id 53 #[] g 0 cap D.toArray w eg (cmpLays_id g _ w) h.holdsK h.lt (by simp; omega) part_id
  refine hcon.mono ?_
  rintro e w' ⟨rfl, n, os, rfl⟩
  obtain ⟨h1, h2⟩ := merge_id D
  obtain ⟨h3, h4⟩ := h.sorted (D' := D.mergeSort fun x y => !Go.Proofs.ltOf ID.cmp y x) (by simp) n os
  exact ⟨rfl, _, h1, h2, h3, h4⟩
end St
end Go.Proofs.Ytlafodnaifghcaa
