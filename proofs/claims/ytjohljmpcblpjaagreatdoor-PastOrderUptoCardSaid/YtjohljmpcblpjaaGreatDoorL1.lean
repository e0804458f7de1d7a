/- Identifiers and runs of them: plain laws, no program in sight. Words of 32 bits as sets of sites. They speak of no program. Words for memory: a block known whole; what a step keeps; maps keyed by numbers. They speak of no program of their own. -/
import Derived.Laws.BitsLemmas
import Derived.Laws.Entries
import Derived.WalkKit
import Derived.Deep.Draws
namespace Go.Proofs.YtjohljmpcblpjaaGreatDoor.St

/-- below 0, 0, above 0 -/
def cmpI (a b : Int) : Int := if a < b then -1 else if b < a then 1 else 0
/-- the first that is not 0 -/
def orL : List Int → Int
  | [] => 0
  | x :: r => if x = 0 then orL r else x

@[ext] structure ID where
  t : Int
  s : Int
deriving DecidableEq, Inhabited
@[ext] structure Run where
  id : ID
  c : Int
deriving DecidableEq, Inhabited
def ID.zero : ID := ⟨0, 0⟩
def ID.cmp (a b : ID) : Int := orL [cmpI a.t b.t, cmpI a.s b.s]
def ID.lt (a b : ID) : Prop := a.t < b.t ∨ a.t = b.t ∧ a.s < b.s
def ID.Is (a : ID) : Prop := 1 ≤ a.t ∧ a.t ≤ 2147483647 ∧ 1 ≤ a.s ∧ a.s ≤ 16
instance (a : ID) : Decidable a.Is := by unfold ID.Is; infer_instance
instance (a b : ID) : Decidable (a.lt b) := by unfold ID.lt; infer_instance
def isB (a : ID) : Bool := decide a.Is
def ID.after (a : ID) (n : Int) : ID := if a.Is ∧ 0 ≤ n ∧ n ≤ 2147483647 - a.t then ⟨a.t + n, a.s⟩ else ID.zero

theorem ID.lt_irrefl (a : ID) : ¬ a.lt a := by unfold ID.lt; omega
theorem ID.lt_trans {a b c : ID} (h : a.lt b) (h' : b.lt c) : a.lt c := by unfold ID.lt at *; omega
theorem ID.lt_or (a b : ID) : a.lt b ∨ a = b ∨ b.lt a := by
  unfold ID.lt
  rw [ID.ext_iff]
  omega
theorem cmp_eq (a b : ID) : a.cmp b = if a.lt b then -1 else if b.lt a then 1 else 0 := by
  unfold ID.cmp orL cmpI orL orL ID.lt
  by_cases h1 : a.t < b.t
  · simp [h1]
  · by_cases h2 : b.t < a.t
    · have : ¬ (a.t = b.t ∧ a.s < b.s) := by omega
      simp [h1, h2, this]
    · have h3 : a.t = b.t := by omega
      by_cases h4 : a.s < b.s
      · simp [h3, h4]
      · by_cases h5 : b.s < a.s
        · simp [h3, h4, h5]
        · simp [h3, h4, h5]
theorem cmp_lt {a b : ID} : a.cmp b < 0 ↔ a.lt b := by
  rw [cmp_eq]
  by_cases h1 : a.lt b
  · simp [h1]
  · by_cases h2 : b.lt a <;> simp [h1, h2]
theorem cmp_gt {a b : ID} : 0 < a.cmp b ↔ b.lt a := by
  rw [cmp_eq]
  by_cases h1 : a.lt b
  · have : ¬ b.lt a := fun h => a.lt_irrefl (ID.lt_trans h1 h)
    simp [h1, this]
  · by_cases h2 : b.lt a <;> simp [h1, h2]
theorem cmp_zero {a b : ID} : a.cmp b = 0 ↔ a = b := by
  rw [cmp_eq]
  constructor
  · intro h
    rcases a.lt_or b with h1 | h1 | h1
    · simp [h1] at h
    · exact h1
    · have : ¬ a.lt b := fun h => a.lt_irrefl (ID.lt_trans h h1)
      simp [h1, this] at h
  · rintro rfl
    simp [ID.lt_irrefl]
theorem cmp_swap (a b : ID) : b.cmp a = - a.cmp b := by
  rw [cmp_eq, cmp_eq]
  rcases a.lt_or b with h | h | h
  · have : ¬ b.lt a := fun h' => a.lt_irrefl (ID.lt_trans h h')
    simp [h, this]
  · subst h; simp [ID.lt_irrefl]
  · have : ¬ a.lt b := fun h' => a.lt_irrefl (ID.lt_trans h' h)
    simp [h, this]
theorem cmp_bd (a b : ID) : -1 ≤ a.cmp b ∧ a.cmp b ≤ 1 := by
  rw [cmp_eq]; split <;> (try split) <;> omega

/-! ### rising lists -/
def Rising (l : List ID) : Prop := l.Pairwise ID.lt
/-- S is the identifiers among ids, rising, each once -/
def SetOf (ids S : List ID) : Prop := Rising S ∧ ∀ x, x ∈ S ↔ x ∈ ids ∧ x.Is
theorem rising_unique : ∀ {S T : List ID}, Rising S → Rising T → (∀ x, x ∈ S ↔ x ∈ T) → S = T
  | [], [], _, _, _ => rfl
  | [], y :: T, _, _, h => absurd ((h y).2 (List.mem_cons_self ..)) (by simp)
  | x :: S, [], _, _, h => absurd ((h x).1 (List.mem_cons_self ..)) (by simp)
  | x :: S, y :: T, hS, hT, h => by
    obtain ⟨s1, s2⟩ := List.pairwise_cons.1 hS
    obtain ⟨t1, t2⟩ := List.pairwise_cons.1 hT
    have e : x = y := by
      rcases List.mem_cons.1 ((h x).1 (List.mem_cons_self ..)) with e | e
      · exact e
      · rcases List.mem_cons.1 ((h y).2 (List.mem_cons_self ..)) with e' | e'
        · exact e'.symm
        · exact absurd (ID.lt_trans (s1 y e') (t1 x e)) (ID.lt_irrefl _)
    subst e
    have hST : ∀ z, z ∈ S ↔ z ∈ T := fun z => by
      constructor
      · intro hz
        rcases List.mem_cons.1 ((h z).1 (List.mem_cons_of_mem _ hz)) with e | e
        · subst e; exact absurd (s1 z hz) (ID.lt_irrefl _)
        · exact e
      · intro hz
        rcases List.mem_cons.1 ((h z).2 (List.mem_cons_of_mem _ hz)) with e | e
        · subst e; exact absurd (t1 z hz) (ID.lt_irrefl _)
        · exact e
    rw [rising_unique s2 t2 hST]
theorem SetOf.unique {ids S T : List ID} (h : SetOf ids S) (h' : SetOf ids T) : S = T := rising_unique h.1 h'.1 fun x => (h.2 x).trans (h'.2 x).symm

/-! ### runs -/
/-- the identifier that would follow a run -/
def Run.next (r : Run) : ID := ⟨r.id.t + r.c, r.id.s⟩
def Run.fin (r : Run) : ID := ⟨r.id.t + r.c - 1, r.id.s⟩
def Run.up (r : Run) : Run := ⟨r.id, r.c + 1⟩
/-- the place of the first run that an identifier would follow -/
def growAt (out : List Run) (x : ID) : Option Nat := out.findIdx? fun r => decide (r.next = x)
def packStep (out : List Run) (x : ID) : List Run :=
  match growAt out x with
  | some k => out.modify k Run.up
  | none => out ++ [⟨x, 1⟩]
def packL (S : List ID) : List Run := S.foldl packStep []
/-- what packStep keeps, all that is to come being above -/
structure PackOk (out : List Run) (P : ID → Prop) : Prop where
  nodup : (out.map Run.next).Nodup
  fin : ∀ r ∈ out, P r.fin
  pos : ∀ r ∈ out, 1 ≤ r.c
theorem growAt_some {out : List Run} {x : ID} {k : Nat} (h : growAt out x = some k) : ∃ r, out[k]? = some r ∧ r.next = x := by
  unfold growAt at h
  rw [List.findIdx?_eq_some_iff_getElem] at h
  obtain ⟨hk, h1, _⟩ := h
  exact ⟨out[k], by simp [hk], by simpa using h1⟩
theorem growAt_none {out : List Run} {x : ID} (h : growAt out x = none) : ∀ r ∈ out, r.next ≠ x := by
  unfold growAt at h
  rw [List.findIdx?_eq_none_iff] at h
  intro r hr
  simpa using h r hr
theorem growAt_of {out : List Run} {x : ID} {k : Nat} {r : Run} (hn : (out.map Run.next).Nodup) (hk : out[k]? = some r) (hr : r.next = x) : growAt out x = some k := by
  cases h : growAt out x with
  | none => exact absurd hr (growAt_none h r (List.mem_of_getElem? hk))
  | some j =>
    obtain ⟨q, hj, hq⟩ := growAt_some h
    have hj' : j < out.length := (List.getElem?_eq_some_iff.1 hj).1
    have : j = k := (List.getElem?_inj (by simpa using hj') hn).1 (by simp [List.getElem?_map, hj, hk, hq, hr])
    rw [this]
theorem packStep_ok {out : List Run} {P Q : ID → Prop} {x : ID} (h : PackOk out P) (hx : ∀ y, P y → y ≠ x) (hPQ : ∀ y, P y → Q y) (hQ : Q x) : PackOk (packStep out x) Q := by
  have hnx : ∀ r ∈ out, r.next ≠ ⟨x.t + 1, x.s⟩ := fun r hr e => by
    have h1 := hx _ (h.fin r hr)
    apply h1
    have e1 := congrArg ID.t e
    have e2 := congrArg ID.s e
    simp only [Run.next] at e1 e2
    rw [ID.ext_iff]
    simp only [Run.fin]
    exact ⟨by omega, e2⟩
  unfold packStep
  cases hg : growAt out x with
  | none =>
    refine ⟨?_, fun r hr => ?_, fun r hr => ?_⟩
    · simp only [List.map_append, List.map_cons, List.map_nil]
      rw [List.nodup_append]
      refine ⟨h.nodup, by simp, fun a ha b hb => ?_⟩
      obtain ⟨r, hr, rfl⟩ := List.mem_map.1 ha
      simp only [List.mem_cons, List.not_mem_nil, or_false] at hb
      subst hb
      exact hnx r hr
    · rcases List.mem_append.1 hr with hr | hr
      · exact hPQ _ (h.fin r hr)
      · simp only [List.mem_cons, List.not_mem_nil, or_false] at hr
        subst hr
        have : Run.fin ⟨x, 1⟩ = x := by rw [ID.ext_iff]; exact ⟨by simp only [Run.fin]; omega, rfl⟩
        rw [this]; exact hQ
    · rcases List.mem_append.1 hr with hr | hr
      · exact h.pos r hr
      · simp only [List.mem_cons, List.not_mem_nil, or_false] at hr
        subst hr
        exact Int.le_refl _
  | some k =>
    obtain ⟨r, hk, hr⟩ := growAt_some hg
    have hkl : k < out.length := (List.getElem?_eq_some_iff.1 hk).1
    have hup : r.up.next = ⟨x.t + 1, x.s⟩ := by
      have e1 := congrArg ID.t hr
      have e2 := congrArg ID.s hr
      simp only [Run.next] at e1 e2
      rw [ID.ext_iff]
      simp only [Run.next, Run.up]
      exact ⟨by omega, e2⟩
    have hmod : out.modify k Run.up = out.set k r.up := by
      apply List.ext_getElem?
      intro i
      rw [List.getElem?_modify, List.getElem?_set]
      by_cases hi : k = i
      · subst hi
        have e : out[k] = r := Option.some.inj ((List.getElem?_eq_getElem hkl).symm.trans hk)
        simp [hkl, e]
      · simp [hi]
    show PackOk (out.modify k Run.up) Q
    rw [hmod]
    have hmem : ∀ q ∈ out.set k r.up, q = r.up ∨ q ∈ out := fun q hq => (List.mem_or_eq_of_mem_set hq).symm
    refine ⟨?_, fun q hq => ?_, fun q hq => ?_⟩
    · rw [List.map_set, hup]
      unfold List.Nodup
      rw [List.pairwise_iff_getElem]
      intro i j hi hj hij e
      simp only [List.length_set, List.length_map] at hi hj
      rw [List.getElem_set, List.getElem_set] at e
      by_cases h1 : k = i
      · have h2 : k ≠ j := by omega
        rw [if_pos h1, if_neg h2, List.getElem_map] at e
        exact hnx _ (List.getElem_mem (by omega)) e.symm
      · by_cases h2 : k = j
        · rw [if_neg h1, if_pos h2, List.getElem_map] at e
          exact hnx _ (List.getElem_mem (by omega)) e
        · rw [if_neg h1, if_neg h2] at e
          exact (List.pairwise_iff_getElem.1 h.nodup) i j (by simpa using hi) (by simpa using hj) hij e
    · rcases hmem q hq with rfl | hq
      · have : r.up.fin = x := by
          have e1 := congrArg ID.t hr
          have e2 := congrArg ID.s hr
          simp only [Run.next] at e1 e2
          rw [ID.ext_iff]
          simp only [Run.fin, Run.up]
          exact ⟨by omega, e2⟩
        rw [this]; exact hQ
      · exact hPQ _ (h.fin q hq)
    · rcases hmem q hq with rfl | hq
      · have := h.pos r (List.mem_of_getElem? hk)
        simp only [Run.up]; omega
      · exact h.pos q hq
theorem packStep_len (out : List Run) (x : ID) : (packStep out x).length ≤ out.length + 1 := by
  unfold packStep; split <;> simp
theorem get_of_lt {α : Type} {l : List α} {i : Nat} (h : i < l.length) : ∃ x, l[i]? = some x := ⟨_, List.getElem?_eq_getElem h⟩
/-- numbers that an int holds -/
def I64 (n : Int) : Prop := -9223372036854775808 ≤ n ∧ n ≤ 9223372036854775807
def Run.In (r : Run) : Prop := I64 r.id.t ∧ I64 r.id.s ∧ I64 r.c
end Go.Proofs.YtjohljmpcblpjaaGreatDoor.St
namespace Go.Proofs.YtjohljmpcblpjaaGreatDoor.Pa
def u32V (x : BitVec 32) : Value := .int .u32 (x.toNat : Int)
theorem ofInt_u32 (x : BitVec 32) : BitVec.ofInt 32 (x.toNat : Int) = x := by
  rw [BitVec.ofInt_natCast]
  simp
theorem wrap_nat32 (x : BitVec 32) : IntKind.u32.wrap (x.toNat : Int) = x.toNat := by
  have := x.isLt
  rw [IntKind.wrap_u32]
  omega
theorem and_u32 (x y : BitVec 32) : bits .and .u32 (x.toNat : Int) (y.toNat : Int) = ((x &&& y).toNat : Int) := by
  show IntKind.u32.wrap _ = _
  simp only [IntKind.bits, ofInt_u32]
  exact wrap_nat32 _
theorem or_u32 (x y : BitVec 32) : bits .or .u32 (x.toNat : Int) (y.toNat : Int) = ((x ||| y).toNat : Int) := by
  show IntKind.u32.wrap _ = _
  simp only [IntKind.bits, ofInt_u32]
  exact wrap_nat32 _
theorem andNot_u32 (x y : BitVec 32) : bits .andNot .u32 (x.toNat : Int) (y.toNat : Int) = ((x &&& ~~~y).toNat : Int) := by
  show IntKind.u32.wrap _ = _
  simp only [IntKind.bits, ofInt_u32]
  exact wrap_nat32 _
theorem sub1_u32 {x : BitVec 32} (h : x ≠ 0) : IntKind.u32.wrap ((x.toNat : Int) - 1) = ((x - 1#32).toNat : Int) := by
  have h1 : x.toNat ≠ 0 := fun e => h (BitVec.eq_of_toNat_eq (by simpa using e))
  have h2 := x.isLt
  rw [IntKind.wrap_u32, BitVec.toNat_sub]
  have h3 : (1#32).toNat = 1 := rfl
  rw [h3]
  omega
theorem neg_u32 (x : BitVec 32) : IntKind.u32.wrap (-(x.toNat : Int)) = ((-x).toNat : Int) := by
  have h2 := x.isLt
  rw [IntKind.wrap_u32, BitVec.toNat_neg]
  omega
theorem bit_u32 {n : Nat} (h : n ≤ 16) : IntKind.u32.wrap (1 * 2 ^ n) = ((BitVec.twoPow 32 n).toNat : Int) := by
  rw [BitVec.toNat_twoPow_of_lt (by omega), IntKind.wrap_u32]
  have : (2 : Nat) ^ n ≤ 2 ^ 16 := Nat.pow_le_pow_right (by decide) h
  have e : ((2 ^ n : Nat) : Int) = 2 ^ n := by simp
  rw [← e, Int.one_mul]
  have h5 : (0 : Int) ≤ ((2 ^ n : Nat) : Int) := Int.natCast_nonneg _
  have h6 : ((2 ^ n : Nat) : Int) ≤ 65536 := Int.ofNat_le.2 this
  omega
/-- the least bit -/
theorem low_bit {x : BitVec 32} {k : Nat} (hk : x.getLsbD k = true) (hl : ∀ j, j < k → x.getLsbD j = false) : x &&& -x = BitVec.twoPow 32 k := by
  have hk32 : k < 32 := BitVec.lt_of_getLsbD hk
  refine BitVec.eq_of_getLsbD_eq fun i hi => ?_
  rw [BitVec.getLsbD_and, BitVec.getLsbD_neg, BitVec.getLsbD_twoPow]
  rcases Nat.lt_trichotomy i k with h | rfl | h
  · rw [hl i h]
    simp
    omega
  · have hno : ¬ ∃ j, j < i ∧ x.getLsbD j = true := fun ⟨j, h1, h2⟩ => by rw [hl j h1] at h2; cases h2
    rw [decide_eq_false hno]
    simp [hk, hi]
  · have hex : ∃ j, j < i ∧ x.getLsbD j = true := ⟨k, h, hk⟩
    have hd : decide (∃ j, j < i ∧ x.getLsbD j = true) = true := decide_eq_true hex
    rw [hd]
    have : (decide (k < 32) && decide (k = i)) = false := by simp; omega
    rw [this]
    cases x.getLsbD i <;> simp [hi]
theorem drop_low {x : BitVec 32} {k : Nat} (hk : x.getLsbD k = true) (hl : ∀ j, j < k → x.getLsbD j = false) (i : Nat) : (x &&& (x - 1#32)).getLsbD i = (x.getLsbD i && !decide (i = k)) := by
  rw [← BitVec.not_neg, BitVec.getLsbD_and, BitVec.getLsbD_not, BitVec.getLsbD_neg]
  rcases Nat.lt_trichotomy i k with h | rfl | h
  · rw [hl i h]
    simp
  · have hno : ¬ ∃ j, j < i ∧ x.getLsbD j = true := fun ⟨j, h1, h2⟩ => by rw [hl j h1] at h2; cases h2
    rw [decide_eq_false hno]
    simp [hk]
  · have hex : ∃ j, j < i ∧ x.getLsbD j = true := ⟨k, h, hk⟩
    have hd : decide (∃ j, j < i ∧ x.getLsbD j = true) = true := decide_eq_true hex
    rw [hd]
    have h2 : ¬ i = k := by omega
    by_cases hi : i < 32
    · cases x.getLsbD i <;> simp [hi, h2]
    · rw [BitVec.getLsbD_of_ge x i (by omega)]
      simp
end Go.Proofs.YtjohljmpcblpjaaGreatDoor.Pa
namespace Go.Proofs.YtjohljmpcblpjaaGreatDoor
open Go.RowKit

/-- block g is just the cells cs of element type t, none frozen -/
def Blk (w : World) (g : Nat) (t : TypeId) (cs : Array Value) : Prop := w.heap[g]? = some (.cells cs t (0, 0))
section
variable {w w' : World} {g : Nat} {t : TypeId} {cs : Array Value}
theorem Blk.lt (h : Blk w g t cs) : g < w.heap.size := by
  rcases Nat.lt_or_ge g w.heap.size with hlt | hge
  · exact hlt
  · unfold Blk at h; rw [Array.getElem?_eq_none hge] at h; cases h
theorem Blk.cell (h : Blk w g t cs) (i : Nat) : w.cell? ⟨g, i, none⟩ = cs[i]? := cell_of_row w g i cs t (0, 0) h
theorem Blk.cell' (h : Blk w g t cs) {i : Nat} {v : Value} (hv : cs[i]? = some v) : w.cell? ⟨g, i, none⟩ = some v := (h.cell i).trans hv
theorem Blk.frozen (h : Blk w g t cs) (i : Nat) : w.frozen? ⟨g, i, none⟩ = false := by
  unfold Blk at h
  simp [World.frozen?, h]
theorem Blk.new (w : World) (t : TypeId) (cs : Array Value) : Blk (w.alloc (.cells cs t)) w.heap.size t cs := heap_alloc_new w _
theorem Blk.drewN (h : Blk w g t cs) (n : Nat) : Blk (w.drewN n) g t cs := h
theorem Blk.alloc (h : Blk w g t cs) (o : Obj) : Blk (w.alloc o) g t cs := (Below.heap_alloc w o g h.lt).trans h
theorem Blk.set_ (h : Blk w g t cs) (i : Nat) (u : Value) : Blk (w.setCell ⟨g, i, none⟩ u) g t (cs.setIfInBounds i u) := by
  unfold Blk at h ⊢
  simp [World.setCell, Array.getElem?_modify, h]
theorem Blk.far (h : Blk w g t cs) {p : Addr} (hp : g ≠ p.block) (u : Value) : Blk (w.setCell p u) g t cs := (Below.heap_setCell w p u g hp).trans h
theorem Blk.ne_ {g' : Nat} {t' : TypeId} {cs' : Array Value} (h : Blk w g t cs) (h' : Blk w g' t' cs') (hne : t ≠ t') : g ≠ g' := by
  rintro rfl
  unfold Blk at h h'
  rw [h] at h'
  injection h' with h'
  injection h' with _ ht
  exact hne ht
theorem Blk.inj {t' : TypeId} {cs' : Array Value} (h : Blk w g t cs) (h' : Blk w g t' cs') : cs = cs' := by
  unfold Blk at h h'
  rw [h] at h'
  injection h' with h'
  injection h' with hc _
end

theorem own_blk_ne {w : World} {g : Nat} {t : TypeId} {cs : Array Value} {base : Nat} {e : TypeId} {size n : Nat} {v : Value} {xs : List Value} (h : w.ownsRow base e size v n xs) (hg : Blk w g t cs) (hne : e ≠ t) : v.ownBlock ≠ some g := by
  rcases h.2 with ⟨rfl, _⟩ | ⟨g', cap, cur, rfl, _, hh, _⟩
  · simp [Value.ownBlock]
  · intro he
    have : g' = g := by simpa [Value.ownBlock] using he
    subst this
    exact Blk.ne_ (t := e) hh hg hne rfl
theorem Blk.grown {w w' : World} {g : Nat} {t : TypeId} {cs : Array Value} {row : Option Nat} (h : Blk w g t cs) (hb : w.grownBy w' row) (hg : row ≠ some g) : Blk w' g t cs := (hb.block g h.lt (fun e => hg e.symm)).trans h

/-- what stood outside S stands; the streams are as they were -/
structure Kept (S : Nat → Prop) (w w' : World) : Prop where
  os : w'.os = w.os
  tape : w'.tape = w.tape
  output : w'.output = w.output
  size : w.heap.size ≤ w'.heap.size
  block : ∀ k, k < w.heap.size → ¬ S k → w'.heap[k]? = w.heap[k]?
section
variable {S S' : Nat → Prop} {w w' w'' : World}
theorem Kept.refl (S : Nat → Prop) (w : World) : Kept S w w := ⟨rfl, rfl, rfl, Nat.le_refl _, fun _ _ _ => rfl⟩
theorem Kept.trans (h : Kept S w w') (k : Kept S' w' w'') (hs : ∀ i, i < w.heap.size → S' i → S i) : Kept S w w'' :=
  ⟨k.os.trans h.os, k.tape.trans h.tape, k.output.trans h.output, Nat.le_trans h.size k.size,
    fun i hi hn => (k.block i (Nat.lt_of_lt_of_le hi h.size) fun x => hn (hs i hi x)).trans (h.block i hi hn)⟩
theorem Kept.mono (h : Kept S w w') (hs : ∀ i, i < w.heap.size → S i → S' i) : Kept S' w w' :=
  ⟨h.os, h.tape, h.output, h.size, fun i hi hn => h.block i hi fun x => hn (hs i hi x)⟩
theorem Kept.drewN (h : Kept S w w') (n : Nat) : Kept S w (w'.drewN n) := ⟨h.os, h.tape, h.output, h.size, h.block⟩
theorem Kept.drew (h : Kept S w w') : Kept S w w'.drew := ⟨h.os, h.tape, h.output, h.size, h.block⟩
theorem Kept.alloc (h : Kept S w w') (o : Obj) : Kept S w (w'.alloc o) :=
  ⟨h.os, h.tape, h.output, Nat.le_trans h.size (by simp), fun i hi hn => (Below.heap_alloc w' o i (Nat.lt_of_lt_of_le hi h.size)).trans (h.block i hi hn)⟩
theorem Kept.setCell (h : Kept S w w') {p : Addr} (hp : p.block < w.heap.size → S p.block) (u : Value) : Kept S w (w'.setCell p u) :=
  ⟨h.os, h.tape, h.output, by simpa [World.setCell] using h.size, fun i hi hn => (Below.heap_setCell w' p u i (by rintro rfl; exact hn (hp hi))).trans (h.block i hi hn)⟩
theorem Kept.grown {row : Option Nat} (h : Kept S w w') (hg : w'.grownBy w'' row) (hr : ∀ k, row = some k → k < w.heap.size → S k) : Kept S w w'' :=
  ⟨hg.os.trans h.os, hg.tape.trans h.tape, hg.output.trans h.output, Nat.le_trans h.size hg.size,
    fun i hi hn => (hg.block i (Nat.lt_of_lt_of_le hi h.size) (fun e => hn (hr i e.symm hi))).trans (h.block i hi hn)⟩
theorem Kept.blk {g : Nat} {t : TypeId} {cs : Array Value} (h : Kept S w w') (hg : ¬ S g) (hb : Blk w g t cs) : Blk w' g t cs := (h.block g hb.lt hg).trans hb
theorem Kept.below {B : Nat} (h : Kept S w w') (hB : B ≤ w.heap.size) (hs : ∀ i, i < B → ¬ S i) : Below B w w' :=
  ⟨h.os, h.tape, h.output, h.size, fun k hk => h.block k (by omega) (hs k hk)⟩
theorem Kept.of_below {B : Nat} (h : Below B w w') (hs : ∀ i, i < w.heap.size → ¬ S i → i < B) : Kept S w w' :=
  ⟨h.os, h.tape, h.output, h.size, fun k hk hn => h.block k (hs k hk hn)⟩
end

/-! ### maps keyed by int -/
/-- block b is a map whose entries are, in their order, kvs -/
def MapI (w : World) (b : Nat) (kvs : List (Int × Value)) : Prop :=
  ∃ es clk, w.heap[b]? = some (.map es clk) ∧ es.toList.map (fun e => (e.key, e.val)) = kvs.map (fun x => (Value.int .i64 x.1, x.2))
def getI (kvs : List (Int × Value)) (k : Int) : Option Value := (kvs.find? fun x => x.1 == k).map (·.2)
def putI : List (Int × Value) → Int → Value → List (Int × Value)
  | [], k, v => [(k, v)]
  | x :: r, k, v => if x.1 = k then (k, v) :: r else x :: putI r k v
def delI : List (Int × Value) → Int → List (Int × Value)
  | [], _ => []
  | x :: r, k => if x.1 = k then r else x :: delI r k
def findI : List (Int × Value) → Int → Nat → Option (Nat × Value)
  | [], _, _ => none
  | x :: r, k, i => if x.1 = k then some (i, x.2) else findI r k (i + 1)
theorem findI_get (kvs : List (Int × Value)) (k : Int) : ∀ i, (findI kvs k i).map (·.2) = getI kvs k := by
  induction kvs with
  | nil => intro i; rfl
  | cons x r ih =>
    intro i
    by_cases h : x.1 = k
    · simp [findI, getI, h]
    · have := ih (i + 1)
      simp only [getI] at this
      simp [findI, getI, h, this]
theorem findNow_int (k : Int) : ∀ (l : List MapEntry) (kvs : List (Int × Value)) (i : Nat), l.map (fun e => (e.key, e.val)) = kvs.map (fun x => (Value.int .i64 x.1, x.2)) →
    Instr.findNow (.int .i64) (.int .i64 k) l i = some (findI kvs k i) := by
  intro l
  induction l with
  | nil => intro kvs i h; cases kvs with | nil => rfl | cons x r => simp at h
  | cons e l ih =>
    intro kvs i h
    cases kvs with
    | nil => simp at h
    | cons x r =>
      simp only [List.map_cons, List.cons.injEq, Prod.mk.injEq] at h
      obtain ⟨⟨h1, h2⟩, h3⟩ := h
      by_cases hx : x.1 = k
      · subst hx; simp [Instr.findNow, Instr.sameNow, h1, h2, findI]
      · have : (k == x.1) = false := by simpa using fun e : k = x.1 => hx e.symm
        simp [Instr.findNow, Instr.sameNow, h1, findI, hx, this, ih r (i + 1) h3]
theorem findI_spec (kvs : List (Int × Value)) (k : Int) : ∀ i n v, findI kvs k i = some (n, v) → i ≤ n ∧ ∃ x, kvs[n - i]? = some x ∧ x.1 = k ∧ x.2 = v := by
  induction kvs with
  | nil => intro i n v h; simp [findI] at h
  | cons x r ih =>
    intro i n v h
    by_cases hx : x.1 = k
    · simp [findI, hx] at h
      obtain ⟨rfl, rfl⟩ := h
      exact ⟨Nat.le_refl _, x, by simp, hx, rfl⟩
    · simp [findI, hx] at h
      obtain ⟨h1, y, h2, h3, h4⟩ := ih _ _ _ h
      exact ⟨by omega, y, by rw [show n - i = (n - (i + 1)) + 1 by omega]; simpa using h2, h3, h4⟩
theorem putI_found (kvs : List (Int × Value)) (k : Int) (v : Value) : ∀ i n u, findI kvs k i = some (n, u) → putI kvs k v = kvs.set (n - i) (k, v) := by
  induction kvs with
  | nil => intro i n u h; simp [findI] at h
  | cons x r ih =>
    intro i n u h
    by_cases hx : x.1 = k
    · simp [findI, hx] at h
      obtain ⟨rfl, _⟩ := h
      simp [putI, hx]
    · simp [findI, hx] at h
      have := findI_spec r k _ _ _ h
      rw [show n - i = (n - (i + 1)) + 1 by omega]
      simp [putI, hx, ih _ _ _ h]
theorem putI_none (kvs : List (Int × Value)) (k : Int) (v : Value) : ∀ i, findI kvs k i = none → putI kvs k v = kvs ++ [(k, v)] := by
  induction kvs with
  | nil => intro i h; rfl
  | cons x r ih =>
    intro i h
    by_cases hx : x.1 = k
    · simp [findI, hx] at h
    · simp [findI, hx] at h
      simp [putI, hx, ih _ h]
theorem delI_found (kvs : List (Int × Value)) (k : Int) : ∀ i n u, findI kvs k i = some (n, u) → delI kvs k = kvs.eraseIdx (n - i) := by
  induction kvs with
  | nil => intro i n u h; simp [findI] at h
  | cons x r ih =>
    intro i n u h
    by_cases hx : x.1 = k
    · simp [findI, hx] at h
      obtain ⟨rfl, _⟩ := h
      simp [delI, hx]
    · simp [findI, hx] at h
      have := findI_spec r k _ _ _ h
      rw [show n - i = (n - (i + 1)) + 1 by omega]
      simp [delI, hx, ih _ _ _ h]
theorem delI_none (kvs : List (Int × Value)) (k : Int) : ∀ i, findI kvs k i = none → delI kvs k = kvs := by
  induction kvs with
  | nil => intro i h; rfl
  | cons x r ih =>
    intro i h
    by_cases hx : x.1 = k
    · simp [findI, hx] at h
    · simp [findI, hx] at h
      simp [delI, hx, ih _ h]
theorem findI_none_iff (kvs : List (Int × Value)) (k : Int) (i : Nat) : findI kvs k i = none ↔ getI kvs k = none := by
  rw [← findI_get kvs k i]; cases findI kvs k i <;> simp

section
variable {P : Program} {w : World} {T kt et : TypeId} {b : Nat} {kvs : List (Int × Value)} {k : Int}
theorem run_findKey_int (hk : P.underlying kt = some (.int .i64)) {es : List MapEntry} (he : es.map (fun e => (e.key, e.val)) = kvs.map (fun x => (Value.int .i64 x.1, x.2))) :
    (Instr.findKey kt (.int .i64 k) es).run P w = .ok (findI kvs k 0) w := by
  simp [Instr.findKey, run_underlying hk, findNow_int k es kvs 0 he]
theorem run_checkKey_int (hk : P.underlying kt = some (.int .i64)) (e : Bool) : (Instr.checkKey e 10000 kt (.int .i64 k)).run P w = .ok () w := by
  have h : ∀ d : Nat, (Instr.checkKey e (d + 1) kt (.int .i64 k)).run P w = .ok () w := fun d => by simp [Instr.checkKey, run_underlying hk]
  exact h 9999
theorem run_lookupI (ht : P.underlying T = some (.map kt et)) (hk : P.underlying kt = some (.int .i64)) (hm : MapI w b kvs) {v : Value} (hv : getI kvs k = some v) :
    (Instr.lookup T (.map (some b)) (.int .i64 k) false).run P w = .ok v w := by
  obtain ⟨es, clk, hb, he⟩ := hm
  have hg := findI_get kvs k 0
  rw [hv] at hg
  obtain ⟨⟨n, u⟩, hf, rfl⟩ : ∃ x, findI kvs k 0 = some x ∧ x.2 = v := by cases h : findI kvs k 0 <;> simp_all
  simp [Instr.lookup, run_underlying ht, MapKept.run_getObj_map hb, Result.andThen, run_checkKey_int hk, run_findKey_int hk he, hf]
theorem run_lookupI_none (ht : P.underlying T = some (.map kt et)) (hk : P.underlying kt = some (.int .i64)) (hm : MapI w b kvs) (hv : getI kvs k = none) {z : Value} (hz : (zeroValue et).run P w = .ok z w) :
    (Instr.lookup T (.map (some b)) (.int .i64 k) false).run P w = .ok z w := by
  obtain ⟨es, clk, hb, he⟩ := hm
  simp [Instr.lookup, run_underlying ht, MapKept.run_getObj_map hb, Result.andThen, run_checkKey_int hk, run_findKey_int hk he, (findI_none_iff kvs k 0).2 hv, hz]
theorem run_lookupI_nil (ht : P.underlying T = some (.map kt et)) (hk : P.underlying kt = some (.int .i64)) {z : Value} (hz : (zeroValue et).run P w = .ok z w) :
    (Instr.lookup T (.map none) (.int .i64 k) false).run P w = .ok z w := by
  simp [Instr.lookup, run_underlying ht, run_checkKey_int hk, run_findKey_int (kvs := []) hk (by rfl : ([] : List MapEntry).map _ = _), findI, hz]
theorem run_updateI (ht : P.underlying T = some (.map kt et)) (hk : P.underlying kt = some (.int .i64)) (hm : MapI w b kvs) (v : Value) :
    ∃ w', (Instr.mapUpdate T (.map (some b)) (.int .i64 k) v).run P w = .ok () w' ∧ MapI w' b (putI kvs k v) ∧ Kept (· = b) w w' := by
  obtain ⟨es, clk, hb, he⟩ := hm
  have hlt : b < w.heap.size := by
    rcases Nat.lt_or_ge b w.heap.size with h | h
    · exact h
    · simp [Array.getElem?_eq_none h] at hb
  have kp : ∀ o : Obj, Kept (· = b) w { w with heap := w.heap.setIfInBounds b o } := fun o => ⟨rfl, rfl, rfl, by simp, fun i _ hn => by
    show (w.heap.setIfInBounds b o)[i]? = _
    rw [Array.getElem?_setIfInBounds_ne (fun e => hn e.symm)]⟩
  cases hf : findI kvs k 0 with
  | none =>
    refine ⟨{ w with heap := w.heap.setIfInBounds b (.map (es.push { key := .int .i64 k, val := v, born := clk }) (clk + 1)) }, ?_, ⟨es.push { key := .int .i64 k, val := v, born := clk }, clk + 1, ?_, ?_⟩, kp _⟩
    · simp [Instr.mapUpdate, run_underlying ht, MapKept.run_getObj_map hb, Result.andThen, run_checkKey_int hk, run_findKey_int hk he, hf, MapKept.run_setObj_map _ hb]
    · simp [hlt]
    · rw [putI_none kvs k v 0 hf]; simp [he]
  | some x =>
    obtain ⟨n, u⟩ := x
    obtain ⟨-, x, hx, rfl, rfl⟩ := findI_spec kvs k 0 n u hf
    have hn : n < kvs.length := by
      rcases Nat.lt_or_ge n kvs.length with h | h
      · exact h
      · rw [List.getElem?_eq_none (by omega)] at hx; cases hx
    have hlen : es.size = kvs.length := by have := congrArg List.length he; simpa using this
    have hkey : es[n].key = .int .i64 x.1 := by
      have h0 := congrArg (·[n]?) he
      simp only [List.getElem?_map] at h0
      rw [Nat.sub_zero] at hx
      rw [hx] at h0
      simp [Array.getElem?_eq_getElem (show n < es.size by omega)] at h0
      exact h0.1
    refine ⟨{ w with heap := w.heap.setIfInBounds b (.map (es.modify n fun e => { e with key := .int .i64 x.1, val := v }) clk) }, ?_, ⟨es.modify n fun e => { e with key := .int .i64 x.1, val := v }, clk, ?_, ?_⟩, kp _⟩
    · simp [Instr.mapUpdate, run_underlying ht, MapKept.run_getObj_map hb, Result.andThen, run_checkKey_int hk, run_findKey_int hk he, hf, MapKept.run_setObj_map _ hb, Array.getElem?_eq_getElem (show n < es.size by omega), hkey, Instr.keyThatStays, Instr.sameBits]
    · simp [hlt]
    · rw [putI_found kvs x.1 v 0 n _ hf]
      apply List.ext_getElem?
      intro i
      have h0 := congrArg (·[i]?) he
      simp only [List.getElem?_map] at h0 ⊢
      rw [Nat.sub_zero, Array.getElem?_toList, Array.getElem?_modify, List.getElem?_set]
      rw [Array.getElem?_toList] at h0
      by_cases hi : n = i
      · subst hi
        simp [hn, Array.getElem?_eq_getElem (show n < es.size by omega)]
      · simp [hi, h0]
theorem run_deleteI (ht : P.underlying T = some (.map kt et)) (hk : P.underlying kt = some (.int .i64)) (ty : TypeId) (hm : MapI w b kvs) :
    ∃ w', (Builtin.delete_ #[T, kt] ty #[.map (some b), .int .i64 k]).run P w = .ok (.tuple #[]) w' ∧ MapI w' b (delI kvs k) ∧ Kept (· = b) w w' := by
  obtain ⟨es, clk, hb, he⟩ := hm
  have hlt : b < w.heap.size := by
    rcases Nat.lt_or_ge b w.heap.size with h | h
    · exact h
    · simp [Array.getElem?_eq_none h] at hb
  have kp : ∀ o : Obj, Kept (· = b) w { w with heap := w.heap.setIfInBounds b o } := fun o => ⟨rfl, rfl, rfl, by simp, fun i _ hn => by
    show (w.heap.setIfInBounds b o)[i]? = _
    rw [Array.getElem?_setIfInBounds_ne (fun e => hn e.symm)]⟩
  cases hf : findI kvs k 0 with
  | none =>
    refine ⟨{ w with heap := w.heap.setIfInBounds b (.map es clk) }, ?_, ⟨es, clk, ?_, ?_⟩, kp _⟩
    · simp [Builtin.delete_, run_underlying ht, MapKept.run_getObj_map hb, Result.andThen, run_checkKey_int hk, run_findKey_int hk he, hf, MapKept.run_setObj_map _ hb]
    · simp [hlt]
    · rw [delI_none kvs k 0 hf]; exact he
  | some x =>
    obtain ⟨n, u⟩ := x
    refine ⟨{ w with heap := w.heap.setIfInBounds b (.map (es.eraseIdxIfInBounds n) clk) }, ?_, ⟨es.eraseIdxIfInBounds n, clk, ?_, ?_⟩, kp _⟩
    · simp [Builtin.delete_, run_underlying ht, MapKept.run_getObj_map hb, Result.andThen, run_checkKey_int hk, run_findKey_int hk he, hf, MapKept.run_setObj_map _ hb]
    · simp [hlt]
    · rw [delI_found kvs k 0 n _ hf, Array.toList_eraseIdxIfInBounds, Nat.sub_zero, Go.ChangeMaps.map_eraseIdx, he, ← Go.ChangeMaps.map_eraseIdx]
end
theorem MapI.keep {S : Nat → Prop} {w w' : World} {b : Nat} {kvs : List (Int × Value)} (h : MapI w b kvs) (hk : Kept S w w') (hb : ¬ S b) : MapI w' b kvs := by
  obtain ⟨es, clk, h1, h2⟩ := h
  refine ⟨es, clk, ?_, h2⟩
  rw [hk.block b ?_ hb]; exact h1
  rcases Nat.lt_or_ge b w.heap.size with h | h
  · exact h
  · simp [Array.getElem?_eq_none h] at h1
theorem MapI.lt {w : World} {b : Nat} {kvs : List (Int × Value)} (h : MapI w b kvs) : b < w.heap.size := by
  obtain ⟨es, clk, h1, h2⟩ := h
  rcases Nat.lt_or_ge b w.heap.size with h | h
  · exact h
  · simp [Array.getElem?_eq_none h] at h1
theorem MapI.ne_blk {w : World} {b g : Nat} {kvs : List (Int × Value)} {t : TypeId} {cs : Array Value} (h : MapI w b kvs) (hb : Blk w g t cs) : g ≠ b := by
  rintro rfl
  obtain ⟨es, clk, h1, h2⟩ := h
  unfold Blk at hb
  rw [hb] at h1
  cases h1
end Go.Proofs.YtjohljmpcblpjaaGreatDoor
