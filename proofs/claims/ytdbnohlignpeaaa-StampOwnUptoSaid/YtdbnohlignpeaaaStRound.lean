/- What is laid is taken again, and the other way round. Plain laws. -/
import Derived.Test.YtdbnohlignpeaaaStTell
import Derived.Test.YtdbnohlignpeaaaStPair
namespace Go.Proofs.Ytdbnohlignpeaaa.St
open Go.RowKit

theorem takeN_numL (u : Nat) : ∀ (i v : Nat) (rest : List UInt8), (0 < u ∨ i = 0) → (numL u).length + i ≤ 9 → takeN (numL u ++ rest) i v = (0, v + u * 128 ^ i, rest) := by
  induction u using Nat.strongRecOn with
  | _ u ih =>
    intro i v rest hu hl
    by_cases h : u < 128
    · rw [numL_lt h]
      have hc : (UInt8.ofNat u).toNat = u := by have := ofNat_toNat (v := u) (by omega); omega
      show takeN (UInt8.ofNat u :: rest) i v = _
      unfold takeN
      rw [hc, if_neg (by omega), if_neg (by omega)]
    · rw [numL_ge h] at hl ⊢
      simp only [List.length_cons] at hl
      have hc : (UInt8.ofNat (u % 128 + 128)).toNat = u % 128 + 128 := by have := ofNat_toNat (v := u % 128 + 128) (by omega); omega
      have hpos : 1 ≤ (numL (u / 128)).length := by
        by_cases h2 : u / 128 < 128
        · rw [numL_lt h2]; simp
        · rw [numL_ge h2]; simp
      show takeN (UInt8.ofNat (u % 128 + 128) :: (numL (u / 128) ++ rest)) i v = _
      unfold takeN
      rw [hc, if_pos (by omega), if_neg (by omega)]
      rw [ih (u / 128) (by omega) (i + 1) _ rest (by omega) (by omega)]
      have e : u = u % 128 + 128 * (u / 128) := by omega
      have e2 : u * 128 ^ i = (u % 128) * 128 ^ i + (u / 128) * 128 ^ (i + 1) := by
        conv => lhs; rw [e]
        rw [Nat.add_mul, Nat.pow_succ, Nat.mul_comm 128 (u / 128), Nat.mul_assoc, Nat.mul_comm 128 (128 ^ i)]
      rw [show u % 128 + 128 - 128 = u % 128 by omega, Nat.add_assoc, ← e2]
theorem numL_takeN : ∀ (L : List UInt8) (i v t : Nat) (rest : List UInt8), takeN L i v = (0, t, rest) → ∃ u, t = v + u * 128 ^ i ∧ L = numL u ++ rest ∧ (0 < i → 0 < u)
  | [], _, _, _, _, h => by simp [takeN] at h
  | c :: r, i, v, t, rest, h => by
    have hc := UInt8.toNat_lt c
    unfold takeN at h
    split at h
    · rename_i h128
      split at h
      · cases h
      · obtain ⟨u', h1, h2, h3⟩ := numL_takeN r (i + 1) _ t rest h
        have hu' := h3 (by omega)
        refine ⟨(c.toNat - 128) + 128 * u', ?_, ?_, fun _ => by omega⟩
        · rw [h1, Nat.add_mul, Nat.pow_succ, Nat.mul_comm 128 u', Nat.mul_assoc, Nat.mul_comm 128 (128 ^ i), Nat.add_assoc]
        · rw [numL_ge (by omega), h2]
          have e1 : (c.toNat - 128 + 128 * u') % 128 + 128 = c.toNat := by omega
          have e2 : (c.toNat - 128 + 128 * u') / 128 = u' := by omega
          rw [e1, e2]
          simp
    · rename_i h128
      split at h
      · cases h
      · rename_i h0
        simp only [Prod.mk.injEq] at h
        obtain ⟨_, rfl, rfl⟩ := h
        refine ⟨c.toNat, rfl, ?_, fun hi => by omega⟩
        rw [numL_lt (by omega)]
        simp
theorem numL_nine {v : Nat} (h : v < 9223372036854775808) : (numL v).length ≤ 9 := by
  have h9 : (128 : Nat) ^ 9 = 9223372036854775808 := by decide
  exact numL_len 9 v (by omega) (by omega)
theorem take_num {v : Nat} (h : v < 9223372036854775808) (rest : List UInt8) : takeN (numL v ++ rest) 0 0 = (0, v, rest) := by
  rw [takeN_numL v 0 0 rest (.inr rfl) (by have := numL_nine h; omega)]
  simp
theorem num_take {L : List UInt8} {t : Nat} {rest : List UInt8} (h : takeN L 0 0 = (0, t, rest)) : L = numL t ++ rest := by
  obtain ⟨u, h1, h2, _⟩ := numL_takeN L 0 0 t rest h
  simp at h1
  subst h1
  exact h2
theorem takeN_lt : ∀ (L : List UInt8) (i v : Nat), v < 128 ^ i → i ≤ 8 → (takeN L i v).2.1 < 128 ^ 9
  | [], i, v, _, _ => by simp [takeN]
  | c :: r, i, v, hv, hi => by
    have hc := UInt8.toNat_lt c
    unfold takeN
    split
    · split
      · simp
      · rename_i h1 h2
        refine takeN_lt r (i + 1) _ ?_ (by omega)
        have : (c.toNat - 128) * 128 ^ i ≤ 127 * 128 ^ i := Nat.mul_le_mul_right _ (by omega)
        rw [Nat.pow_succ]
        omega
    · split
      · simp
      · rename_i h1 h2
        have h3 : c.toNat * 128 ^ i ≤ 127 * 128 ^ i := Nat.mul_le_mul_right _ (by omega)
        have h4 : (128 : Nat) ^ (i + 1) ≤ 128 ^ 9 := Nat.pow_le_pow_right (by decide) (by omega)
        rw [Nat.pow_succ] at h4
        show v + c.toNat * 128 ^ i < 128 ^ 9
        omega
/-- no row of a number is the beginning of another one's -/
theorem num_prefix {u v : Nat} (hu : u < 9223372036854775808) (hv : v < 9223372036854775808) {r : List UInt8} (h : numL u = numL v ++ r) : u = v := by
  have h1 := take_num hu []
  rw [List.append_nil, h, take_num hv] at h1
  simp only [Prod.mk.injEq, true_and] at h1
  exact h1.1.symm

/-! things -/
def Item.Good (x : Item) : Prop := x.text = true ∨ 0 ≤ x.n
instance (x : Item) : Decidable x.Good := by unfold Item.Good; infer_instance
def encI (x : Item) : List UInt8 := if x.text then numL x.s.size ++ x.s.data.toList else numL x.n.toNat
def normI (x : Item) : Item := if x.text then ⟨true, 0, x.s⟩ else ⟨false, x.n, ⟨#[]⟩⟩
theorem layI_good {bs : List UInt8} {x : Item} (h : x.Good) : layI (bs, 0) x = (bs ++ encI x, 0) := by
  unfold layI encI
  by_cases ht : x.text = true
  · rw [if_pos ht, if_pos ht, layT_ok, List.append_assoc]
  · rw [if_neg ht, if_neg ht]
    have hn : 0 ≤ x.n := by rcases h with h | h; exact absurd h ht; exact h
    obtain ⟨m, hm⟩ : ∃ m : Nat, x.n = m := ⟨x.n.toNat, by omega⟩
    rw [hm, layN_ok]
    rfl
theorem layI_bad {bs : List UInt8} {x : Item} (h : ¬ x.Good) : layI (bs, 0) x = (bs, 1) := by
  unfold layI
  unfold Item.Good at h
  rw [if_neg (fun ht => h (.inl ht)), layN_neg (by omega)]
theorem strOf_data (s : ByteArray) : strOf s.data.toList = s := by unfold strOf; rfl
theorem rdI_enc {x : Item} (h : x.Good) (hn : I64 x.n) (hs : x.s.size ≤ 50000) (rest : List UInt8) : rdI (encI x ++ rest) 0 x.text = (normI x, rest, 0) := by
  unfold rdI encI normI
  by_cases ht : x.text = true
  · rw [if_pos ht, if_pos ht, if_pos ht, List.append_assoc]
    have hk := take_num (v := x.s.size) (by omega) (x.s.data.toList ++ rest)
    rw [rdT_ok (by rw [hk]) (by rw [hk]; simp), hk]
    have e1 : (x.s.data.toList ++ rest).take x.s.size = x.s.data.toList := by rw [← size_data, List.take_left]
    have e2 : (x.s.data.toList ++ rest).drop x.s.size = rest := by rw [← size_data, List.drop_left]
    simp only [e1, e2, strOf_data]
  · rw [if_neg ht, if_neg ht, if_neg ht]
    have hn0 : 0 ≤ x.n := by rcases h with h | h; exact absurd h ht; exact h
    have hk := take_num (v := x.n.toNat) (by have := hn.2; omega) rest
    rw [rdN_ok (by rw [hk]), hk]
    simp only [show ((x.n.toNat : Nat) : Int) = x.n by omega]
/-- what is taken without error, laid again, is what was taken -/
theorem rdI_back {L : List UInt8} {t : Bool} {x : Item} {rest : List UInt8} (h : rdI L 0 t = (x, rest, 0)) : x.Good ∧ L = encI x ++ rest ∧ I64 x.n ∧ x.s.size ≤ L.length := by
  unfold rdI at h
  cases t with
  | true =>
    rw [if_pos rfl] at h
    by_cases h1 : (takeN L 0 0).1 = 0
    · by_cases h2 : (takeN L 0 0).2.2.length < (takeN L 0 0).2.1
      · rw [rdT_short h1 h2] at h
        simp at h
      · rw [rdT_ok h1 h2] at h
        simp only [Prod.mk.injEq, and_true] at h
        obtain ⟨rfl, rfl⟩ := h
        have hL := num_take (L := L) (t := (takeN L 0 0).2.1) (rest := (takeN L 0 0).2.2) (by rw [← h1])
        generalize (takeN L 0 0).2.1 = n at *
        generalize (takeN L 0 0).2.2 = R at *
        have hsz : (strOf (R.take n)).size = n := by
          show (R.take n).toArray.size = n
          simp
          omega
        refine ⟨.inl rfl, ?_, ⟨by simp, by simp⟩, ?_⟩
        · unfold encI
          rw [if_pos rfl, hsz, List.append_assoc]
          rw [show (strOf (R.take n)).data.toList = R.take n from rfl, List.take_append_drop]
          exact hL
        · show (strOf (R.take n)).size ≤ _
          rw [hsz, hL, List.length_append]
          omega
    · rw [rdT_bad h1] at h
      simp only [Prod.mk.injEq] at h
      exact absurd h.2.2 h1
  | false =>
    rw [if_neg (by simp)] at h
    by_cases h1 : (takeN L 0 0).1 = 0
    · rw [rdN_ok h1] at h
      simp only [Prod.mk.injEq, and_true] at h
      obtain ⟨rfl, rfl⟩ := h
      have hL := num_take (L := L) (t := (takeN L 0 0).2.1) (rest := (takeN L 0 0).2.2) (by rw [← h1])
      have hlt := takeN_lt L 0 0 (by decide) (by decide)
      have h9 : (128 : Nat) ^ 9 = 9223372036854775808 := by decide
      refine ⟨.inr (by simp), ?_, ⟨by show (-9223372036854775808 : Int) ≤ ((takeN L 0 0).2.1 : Int); omega, by show ((takeN L 0 0).2.1 : Int) ≤ 9223372036854775807; omega⟩, Nat.zero_le _⟩
      unfold encI
      rw [if_neg (by simp)]
      simpa using hL
    · rw [rdN_bad h1] at h
      simp only [Prod.mk.injEq] at h
      exact absurd h.2.2 h1
theorem rdI_fail {L : List UInt8} {t : Bool} (h : (rdI L 0 t).2.2 ≠ 0) : (rdI L 0 t).2.1 = L := by
  unfold rdI at h ⊢
  cases t with
  | true =>
    rw [if_pos rfl] at h ⊢
    by_cases h1 : (takeN L 0 0).1 = 0
    · by_cases h2 : (takeN L 0 0).2.2.length < (takeN L 0 0).2.1
      · rw [rdT_short h1 h2]
      · rw [rdT_ok h1 h2] at h
        exact absurd rfl h
    · rw [rdT_bad h1]
  | false =>
    rw [if_neg (by simp)] at h ⊢
    by_cases h1 : (takeN L 0 0).1 = 0
    · rw [rdN_ok h1] at h
      exact absurd rfl h
    · rw [rdN_bad h1]
/-- the rows of things, one behind the other -/
def encs (L : List Item) : List UInt8 := L.flatMap encI
theorem encs_cons (x : Item) (L : List Item) : encs (x :: L) = encI x ++ encs L := by simp [encs]
theorem encs_snoc {L : List Item} {n : Nat} {x : Item} (h : L[n]? = some x) : encs (L.take (n + 1)) = encs (L.take n) ++ encI x := by
  rw [List.take_add_one, h]
  simp [encs]
theorem encI_len {x : Item} (hn : I64 x.n) (hs : x.s.size ≤ 50000) : (encI x).length ≤ 9 + x.s.size := by
  unfold encI
  split
  · have := numL_nine (v := x.s.size) (by omega)
    simp
    omega
  · have := numL_nine (v := x.n.toNat) (by have := hn.2; omega)
    omega
theorem encs_len {L : List Item} (hI : ∀ x ∈ L, I64 x.n) (hs : ∀ x ∈ L, x.s.size ≤ 50000) : (encs L).length ≤ L.length * 9 + total L := by
  induction L with
  | nil => simp [encs]
  | cons x r ih =>
    have h1 := encI_len (hI x (List.mem_cons_self ..)) (hs x (List.mem_cons_self ..))
    have h2 := ih (fun y hy => hI y (List.mem_cons_of_mem _ hy)) (fun y hy => hs y (List.mem_cons_of_mem _ hy))
    rw [encs_cons, List.length_append]
    unfold total at *
    simp only [List.map_cons, List.sum_cons, List.length_cons]
    omega
theorem encs_small {L : List Item} (hI : ∀ x ∈ L, I64 x.n) {m : Nat} (h : Small L m) (n : Nat) : (encs (L.take n)).length ≤ 60000 := by
  obtain ⟨h1, h2, h3, h4⟩ := h
  have := encs_len (L := L.take n) (fun x hx => hI x (List.mem_of_mem_take hx)) (fun x hx => h3 x (List.mem_of_mem_take hx))
  have h5 := total_le L n
  have h6 : (L.take n).length ≤ 400 := by rw [List.length_take]; omega
  omega
end Go.Proofs.Ytdbnohlignpeaaa.St
