/- glyph.Count and BadAt. Runs: why they are none; which identifiers they have. Plain laws. The document's Compare and After; stamp.last. -/
import Derived.Test.YtaaeomapbigfgaaW26
import Derived.Test.YtaaeomapbigfgaaW2
import Derived.Test.YtaaeomapbigfgaaW3
namespace Go.Proofs.Ytaaeomapbigfgaa
open Go.RowKit Go.Proofs.Ytaaeomapbigfgaa.Gl
namespace Gl
/-- how far the next piece is -/
def stepW (s : ByteArray) (i : Nat) : Nat := if runeW s i = 0 then 1 else runeW s i
theorem stepW_pos (s : ByteArray) (i : Nat) : 1 ≤ stepW s i := by unfold stepW; split <;> omega
theorem stepW_in {s : ByteArray} {i : Nat} (h : i < s.size) : i + stepW s i ≤ s.size := by
  unfold stepW
  split
  · omega
  · rename_i hn
    unfold runeW at hn ⊢
    split
    · omega
    · rename_i h1
      rw [if_neg h1] at hn
      split
      · rename_i h2
        rw [if_pos h2] at hn
        exact absurd rfl hn
      · rename_i h2
        rw [if_neg h2] at hn
        split
        · rename_i h3
          unfold inB at h3
          unfold tailN at h3 ⊢
          split
          · omega
          · split
            · rename_i h4 h5
              have := (h3.2.1 (by rw [if_neg h4, if_pos h5]; omega)).1
              omega
            · rename_i h4 h5
              have := (h3.2.2 (by rw [if_neg h4, if_neg h5]; omega)).1
              omega
        · rename_i h3
          rw [if_neg h3] at hn
          exact absurd rfl hn
/-- where pieces begin -/
def startsN (s : ByteArray) : Nat → Nat → List Nat
  | 0, _ => []
  | n + 1, i => if i < s.size then i :: startsN s n (i + stepW s i) else []
theorem startsN_same (s : ByteArray) : ∀ (n m i : Nat), s.size - i ≤ n → s.size - i ≤ m → startsN s n i = startsN s m i
  | 0, m, i, h, _ => by
    have hi : ¬ i < s.size := by omega
    cases m with
    | zero => rfl
    | succ m => simp [startsN, hi]
  | n + 1, 0, i, _, h => by
    have hi : ¬ i < s.size := by omega
    simp [startsN, hi]
  | n + 1, m + 1, i, h1, h2 => by
    unfold startsN
    split
    · have := stepW_pos s i
      rw [startsN_same s n m (i + stepW s i) (by omega) (by omega)]
    · rfl
def pieces (s : ByteArray) (i : Nat) : List Nat := startsN s (s.size - i) i
theorem pieces_end {s : ByteArray} {i : Nat} (h : ¬ i < s.size) : pieces s i = [] := by
  unfold pieces
  rw [show s.size - i = 0 by omega]
  rfl
theorem pieces_next {s : ByteArray} {i : Nat} (h : i < s.size) : pieces s i = i :: pieces s (i + stepW s i) := by
  unfold pieces
  rw [show s.size - i = (s.size - i - 1) + 1 by omega]
  unfold startsN
  rw [if_pos h]
  have := stepW_pos s i
  rw [startsN_same s (s.size - i - 1) (s.size - (i + stepW s i)) _ (by omega) (by omega)]
  cases hh : s.size - (i + stepW s i) with
  | zero => rfl
  | succ n => rfl
def countR (s : ByteArray) : Nat := (pieces s 0).length
theorem pieces_len (s : ByteArray) (n : Nat) : ∀ i : Nat, s.size - i ≤ n → (pieces s i).length ≤ s.size - i := by
  induction n with
  | zero =>
    intro i hn
    rw [pieces_end (by omega)]
    exact Nat.zero_le _
  | succ n ih =>
    intro i hn
    by_cases h : i < s.size
    · have h1 := stepW_pos s i
      have := ih (i + stepW s i) (by omega)
      rw [pieces_next h, List.length_cons]
      omega
    · rw [pieces_end h]; exact Nat.zero_le _
theorem countR_le (s : ByteArray) : countR s ≤ s.size := by
  have := pieces_len s s.size 0 (by omega)
  unfold countR
  omega
/-- the first piece that is no rune; -1: there is none -/
def badFrom (s : ByteArray) (i : Nat) : Int := match (pieces s i).find? (fun j => decide (runeW s j = 0)) with
  | some j => j
  | none => -1
theorem badFrom_end {s : ByteArray} {i : Nat} (h : ¬ i < s.size) : badFrom s i = -1 := by unfold badFrom; rw [pieces_end h]; rfl
theorem badFrom_bad {s : ByteArray} {i : Nat} (h : i < s.size) (hb : runeW s i = 0) : badFrom s i = i := by
  unfold badFrom
  rw [pieces_next h, List.find?_cons_of_pos (by simpa using hb)]
theorem badFrom_good {s : ByteArray} {i : Nat} (h : i < s.size) (hb : runeW s i ≠ 0) : badFrom s i = badFrom s (i + stepW s i) := by
  unfold badFrom
  rw [pieces_next h, List.find?_cons_of_neg (by simpa using hb)]
end Gl
theorem iter_kept (w : World) (s : ByteArray) (p : Nat) : Kept (fun _ => False) w (w.iter s p) := (Kept.refl _ _).alloc _
set_option maxRecDepth 100000 in
set_option maxHeartbeats 2000000 in
theorem count_any (s : ByteArray) (hs : s.size ≤ maxLen) (w : World) : Calls Try.prog 92 #[.string s] w fun e w' => e = .returned (.int .i64 (countR s)) ∧ ∃ p, w' = w.iter s p := by
  unfold maxLen at hs
  have hcl := countR_le s
  go_enter Try.func92, Try.ntmps92
  go_wp2_with fail
  go_loopw [3] (fun nv wr => ∃ (k i : Nat), nv = .int .i64 k ∧ i ≤ s.size ∧ wr = w.iter s i ∧ k + (pieces s i).length = countR s) (fun nv _ => countR s - (intOf nv).toNat)
  case atStart => exact ⟨0, 0, rfl, Nat.zero_le _, rfl, by unfold countR; omega⟩
  case round =>
    obtain ⟨k, i, rfl, hi, rfl, hk⟩ := hrel
    by_cases hlt : i < s.size
    · have hnx := fun ty => run_next_any (P := Try.prog) w s i ty hlt
      have hd := decode_runeW s i
      have hst : (Utf8.decode s i).2 = stepW s i := hd.1
      have hin := stepW_in hlt
      rw [pieces_next hlt, List.length_cons] at hk
      have HK := Lib.hid hk
      rw [hst] at hnx
      have hkl : k + 1 ≤ s.size := by omega
      have hk0 : (0 : Int) ≤ k := by omega
      generalize (Utf8.decode s i).1 = r at *
      clear hd hst hk
      go_wp2_with fail
      go_roundw
      case rel => exact ⟨k + 1, i + stepW s i, by go_num, hin, rfl, by have := HK.out; omega⟩
      case measure => have := HK.out; simp [intOf]; omega
    · obtain rfl : i = s.size := by omega
      have hnx := fun ty => run_next_end (P := Try.prog) w s s.size ty hlt
      rw [pieces_end hlt] at hk
      have HK := Lib.hid (show k = countR s from hk)
      clear hk
      go_wp2_with fail
      go_ret
      exact ⟨by rw [HK.out]; rfl, _, rfl⟩
/-- width of what is left from a place on -/
theorem width_from (s : ByteArray) (i : Nat) (h : i < s.size) (hs : s.size ≤ maxLen) {n : Nat} (hn : runeW s i = n) (w : World) : Calls Try.prog 96 #[.string (s.extract i s.size)] w fun e w' => e = .returned (.int .i64 n) ∧ w' = w := by
  have := width_any (s.extract i s.size) (by simp; omega) (by simp; omega) w
  rw [runeW_extract s i (by omega), hn] at this
  exact this
set_option maxRecDepth 100000 in
set_option maxHeartbeats 4000000 in
theorem badAt_any (s : ByteArray) (hs : s.size ≤ maxLen) (w : World) : Calls Try.prog 94 #[.string s] w fun e w' => e = .returned (.int .i64 (badFrom s 0)) ∧ ∃ p, w' = w.iter s p := by
  have hs2 := hs
  unfold maxLen at hs
  go_enter Try.func94, Try.ntmps94
  go_wp2_with fail
  go_loopw [3] (fun _ wr => ∃ i : Nat, i ≤ s.size ∧ wr = w.iter s i ∧ badFrom s 0 = badFrom s i) (fun _ wr => s.size - wr.iterPos w.heap.size)
  case atStart => exact ⟨0, Nat.zero_le _, rfl, rfl⟩
  case round =>
    obtain ⟨i, hi, rfl, hb⟩ := hrel
    have HB := Lib.hid hb
    clear hb
    by_cases hlt : i < s.size
    case neg =>
      obtain rfl : i = s.size := by omega
      have hnx := fun ty => run_next_end (P := Try.prog) w s s.size ty hlt
      have HE := Lib.hid (badFrom_end hlt)
      go_wp2_with fail
      go_ret
      exact ⟨by rw [HB.out, HE.out]; rfl, _, rfl⟩
    case pos =>
      have hnx := fun ty => run_next_any (P := Try.prog) w s i ty hlt
      have hd := decode_runeW s i
      have hst : (Utf8.decode s i).2 = stepW s i := hd.1
      have hin := stepW_in hlt
      have hsp := stepW_pos s i
      have hltI : (i : Int) < s.size := by omega
      have hleI : (i : Int) ≤ s.size := by omega
      have hi0 : (0 : Int) ≤ i := by omega
      rw [hst] at hnx
      by_cases h0 : runeW s i = 0
      case pos =>
        have hr := hd.2 h0
        rw [hr] at hnx
        have HE := Lib.hid (badFrom_bad hlt h0)
        have HF := Lib.hid (fun (w' : World) => width_from s i hlt hs2 h0 w')
        clear hd hst hr h0 hsp hin
        go_wp2_with (go_at_call 96; refine (HF.out _).mono ?_; rintro e w' ⟨rfl, rfl⟩)
        go_ret
        exact ⟨by rw [HB.out, HE.out]; rfl, _, rfl⟩
      case neg =>
        have HE := Lib.hid (badFrom_good hlt h0)
        by_cases h1 : (Utf8.decode s i).1 = 65533
        · rw [h1] at hnx
          obtain ⟨n, hn⟩ : ∃ n, runeW s i = n := ⟨_, rfl⟩
          have hnb : ((n : Int) == 0) = false := beq_eq_false_iff_ne.2 (by omega)
          have HF := Lib.hid (fun (w' : World) => width_from s i hlt hs2 hn w')
          clear hd hst h1 hn h0
          go_wp2_with (go_at_call 96; refine (HF.out _).mono ?_; rintro e w' ⟨rfl, rfl⟩)
          go_roundw
          case rel => exact ⟨i + stepW s i, hin, rfl, by rw [HB.out, HE.out]⟩
          case measure => simp; omega
        · generalize (Utf8.decode s i).1 = r at *
          have hrb : ((r : Int) == 65533) = false := beq_eq_false_iff_ne.2 (by omega)
          clear hd hst h1 h0
          go_wp2_with fail
          go_roundw
          case rel => exact ⟨i + stepW s i, hin, rfl, by rw [HB.out, HE.out]⟩
          case measure => simp; omega
end Go.Proofs.Ytaaeomapbigfgaa
namespace Go.Proofs.Ytaaeomapbigfgaa.St

def Run.Ok (r : Run) : Prop := 1 ≤ r.c ∧ r.id.Is ∧ r.c - 1 ≤ 2147483647 - r.id.t
instance Run.decOk (r : Run) : Decidable r.Ok := by unfold Run.Ok; infer_instance
def Run.last (r : Run) : ID := if r.c < 1 then ID.zero else r.id.after (r.c - 1)
theorem last_ok {r : Run} (h : r.Ok) : r.last = ⟨r.id.t + r.c - 1, r.id.s⟩ := by
  unfold Run.Ok at h
  unfold Run.last ID.after
  rw [if_neg (by omega), if_pos ⟨h.2.1, by omega, h.2.2⟩, ID.ext_iff]
  exact ⟨by show r.id.t + (r.c - 1) = r.id.t + r.c - 1; omega, rfl⟩
theorem last_zero {r : Run} : r.last = ID.zero ↔ ¬ r.Ok := by
  constructor
  · intro h hok
    rw [last_ok hok] at h
    have h1 := congrArg ID.s h
    have h2 := hok.2.1
    unfold ID.Is at h2
    simp only [ID.zero] at h1
    omega
  · intro h
    unfold Run.last
    split
    · rfl
    · rename_i hc
      unfold ID.after
      rw [if_neg]
      rintro ⟨h1, h2, h3⟩
      exact h ⟨by omega, h1, h3⟩
/-- why a run may not stand behind these -/
def why (pre : List Run) (x : Run) : Int :=
  if ¬ x.Ok then 1 else if ∃ p, pre.getLast? = some p ∧ ¬ p.id.lt x.id then 9 else if ∃ p ∈ pre, p.id.s = x.id.s ∧ x.id.t ≤ p.id.t + p.c then 6 else 0
def Good (l : List Run) : Prop := ∀ (n : Nat) (x : Run), l[n]? = some x → why (l.take n) x = 0
def CheckIs (l : List Run) (e : Int) : Prop := (e = 0 ∧ Good l) ∨ ∃ (n : Nat) (x : Run), l[n]? = some x ∧ Good (l.take n) ∧ why (l.take n) x = e ∧ e ≠ 0
theorem good_take {l : List Run} {n : Nat} : Good (l.take n) ↔ ∀ (j : Nat) (x : Run), j < n → l[j]? = some x → why (l.take j) x = 0 := by
  unfold Good
  constructor
  · intro h j x hj hx
    have := h j x (by rw [List.getElem?_take, if_pos hj]; exact hx)
    rwa [List.take_take, Nat.min_eq_left (Nat.le_of_lt hj)] at this
  · intro h j x hx
    rw [List.getElem?_take] at hx
    split at hx
    · rename_i hj
      rw [List.take_take, Nat.min_eq_left (Nat.le_of_lt hj)]
      exact h j x hj hx
    · cases hx
theorem good_all {l : List Run} (h : Good l) (n : Nat) : Good (l.take n) := good_take.2 fun j x _ hx => h j x hx
theorem good_snoc {l : List Run} {x : Run} : Good (l ++ [x]) ↔ Good l ∧ why l x = 0 := by
  constructor
  · intro h
    constructor
    · have := good_all h l.length
      rwa [List.take_left] at this
    · have := h l.length x (by simp)
      rwa [List.take_left] at this
  · rintro ⟨h1, h2⟩ n y hy
    by_cases hn : n < l.length
    · rw [List.getElem?_append_left hn] at hy
      rw [List.take_append_of_le_length (by omega)]
      exact h1 n y hy
    · have hl := (List.getElem?_eq_some_iff.1 hy).1
      simp at hl
      obtain rfl : n = l.length := by omega
      simp at hy
      subst hy
      rw [List.take_left]
      exact h2
theorem CheckIs.unique {l : List Run} {e f : Int} (h : CheckIs l e) (h' : CheckIs l f) : e = f := by
  rcases h with ⟨rfl, h⟩ | ⟨n, x, h1, h2, h3, h4⟩ <;> rcases h' with ⟨rfl, h'⟩ | ⟨m, y, g1, g2, g3, g4⟩
  · rfl
  · exact absurd (g3.symm.trans (h m y g1)) g4
  · exact absurd (h3.symm.trans (h' n x h1)) h4
  · rcases Nat.lt_trichotomy n m with hl | rfl | hl
    · exact absurd (h3.symm.trans (good_take.1 g2 n x hl h1)) h4
    · rw [h1] at g1; cases g1; exact h3.symm.trans g3
    · exact absurd (g3.symm.trans (good_take.1 h2 m y hl g1)) g4
theorem CheckIs.range {l : List Run} {e : Int} (h : CheckIs l e) : e = 0 ∨ e = 1 ∨ e = 9 ∨ e = 6 := by
  rcases h with ⟨rfl, _⟩ | ⟨n, x, _, _, h, _⟩
  · exact .inl rfl
  · unfold why at h
    split at h
    · exact .inr (.inl h.symm)
    · split at h
      · exact .inr (.inr (.inl h.symm))
      · split at h
        · exact .inr (.inr (.inr h.symm))
        · exact .inl h.symm
theorem why_ok {pre : List Run} {x : Run} (h : why pre x = 0) : x.Ok ∧ (∀ p, pre.getLast? = some p → p.id.lt x.id) ∧ ∀ p ∈ pre, p.id.s = x.id.s → p.id.t + p.c < x.id.t := by
  unfold why at h
  split at h
  · cases h
  · split at h
    · cases h
    · split at h
      · cases h
      · rename_i h1 h2 h3
        refine ⟨by simpa using h1, fun p hp => ?_, fun p hp hs => ?_⟩
        · by_cases hl : p.id.lt x.id
          · exact hl
          · exact absurd ⟨p, hp, hl⟩ h2
        · by_cases hl : p.id.t + p.c < x.id.t
          · exact hl
          · exact absurd ⟨p, hp, hs, by omega⟩ h3
theorem snocR {P : List Run → Prop} (h0 : P []) (h1 : ∀ l x, P l → P (l ++ [x])) (l : List Run) : P l := by
  have : ∀ n (l : List Run), l.length = n → P l := fun n => by
    induction n with
    | zero => intro l hl; rw [List.length_eq_zero_iff.1 hl]; exact h0
    | succ n ih =>
      intro l hl
      have hne : l ≠ [] := by rintro rfl; simp at hl
      rw [← List.dropLast_concat_getLast hne]
      exact h1 _ _ (ih _ (by simp [hl]))
  exact this _ l rfl
theorem Good.ok {l : List Run} (h : Good l) : ∀ r ∈ l, r.Ok := fun r hr => by
  obtain ⟨n, hn⟩ := List.getElem?_of_mem hr
  exact (why_ok (h n r hn)).1
/-- the last one of a site -/
def lastOf (l : List Run) (s : Int) : Option Run := (l.filter fun r => decide (r.id.s = s)).getLast?
theorem lastOf_snoc (l : List Run) (x : Run) (s : Int) : lastOf (l ++ [x]) s = if x.id.s = s then some x else lastOf l s := by
  unfold lastOf
  rw [List.filter_append]
  by_cases h : x.id.s = s
  · rw [if_pos h]; simp [h]
  · rw [if_neg h]; simp [h]
theorem lastOf_mem {l : List Run} {s : Int} {r : Run} (h : lastOf l s = some r) : r ∈ l ∧ r.id.s = s := by
  have := List.mem_of_getLast? h
  rw [List.mem_filter] at this
  exact ⟨this.1, by simpa using this.2⟩
theorem lastOf_none {l : List Run} {s : Int} (h : lastOf l s = none) : ∀ p ∈ l, p.id.s ≠ s := by
  unfold lastOf at h
  rw [List.getLast?_eq_none_iff, List.filter_eq_nil_iff] at h
  intro p hp e
  exact h p hp (by simpa using e)
theorem lastOf_max {l : List Run} (hg : Good l) {s : Int} {r : Run} (h : lastOf l s = some r) : ∀ p ∈ l, p.id.s = s → p.id.t + p.c ≤ r.id.t + r.c := by
  induction l using snocR generalizing r with
  | h0 => intro p hp; cases hp
  | h1 l x ih =>
    obtain ⟨g1, g2⟩ := good_snoc.1 hg
    obtain ⟨w1, w2, w3⟩ := why_ok g2
    rw [lastOf_snoc] at h
    intro p hp hs
    split at h
    · rename_i hx
      cases h
      rcases List.mem_append.1 hp with hp | hp
      · have := w3 p hp (hs.trans hx.symm)
        have := w1.1
        omega
      · simp only [List.mem_cons, List.not_mem_nil, or_false] at hp
        subst hp; exact Int.le_refl _
    · rename_i hx
      rcases List.mem_append.1 hp with hp | hp
      · exact ih g1 h p hp hs
      · simp only [List.mem_cons, List.not_mem_nil, or_false] at hp
        subst hp; exact absurd hs hx
theorem form_iff {l : List Run} (hg : Good l) (x : Run) : (∃ p ∈ l, p.id.s = x.id.s ∧ x.id.t ≤ p.id.t + p.c) ↔ ∃ r, lastOf l x.id.s = some r ∧ x.id.t ≤ r.id.t + r.c := by
  constructor
  · rintro ⟨p, hp, hs, ht⟩
    cases h : lastOf l x.id.s with
    | none => exact absurd hs (lastOf_none h p hp)
    | some r => exact ⟨r, rfl, by have := lastOf_max hg h p hp hs; omega⟩
  · rintro ⟨r, hr, ht⟩
    exact ⟨r, (lastOf_mem hr).1, (lastOf_mem hr).2, ht⟩

/-- has a run this identifier? -/
def Run.has (r : Run) (x : ID) : Bool := decide (r.id.s = x.s ∧ r.id.t ≤ x.t ∧ x.t ≤ r.last.t)
def HasIs (l : List Run) (x : ID) (b : Bool) : Prop := b = true ↔ Good l ∧ ∃ r ∈ l, r.id.s = x.s ∧ r.id.t ≤ x.t ∧ x.t < r.id.t + r.c
theorem HasIs.unique {l : List Run} {x : ID} {b c : Bool} (h : HasIs l x b) (h' : HasIs l x c) : b = c := by
  rw [Bool.eq_iff_iff]; exact h.trans h'.symm
theorem has_ok {r : Run} (h : r.Ok) (x : ID) : r.has x = true ↔ r.id.s = x.s ∧ r.id.t ≤ x.t ∧ x.t < r.id.t + r.c := by
  unfold Run.has
  rw [decide_eq_true_iff, last_ok h]
  simp only
  omega
theorem hasIs_bad {l : List Run} {x : ID} (h : ¬ Good l) : HasIs l x false := ⟨fun e => (nomatch e), fun e => absurd e.1 h⟩
theorem hasIs_any {l : List Run} {x : ID} (h : Good l) : HasIs l x (l.any fun r => r.has x) := by
  unfold HasIs
  rw [List.any_eq_true]
  constructor
  · rintro ⟨r, hr, hh⟩
    exact ⟨h, r, hr, (has_ok (h.ok r hr) x).1 hh⟩
  · rintro ⟨_, r, hr, hh⟩
    exact ⟨r, hr, (has_ok (h.ok r hr) x).2 hh⟩
theorem CheckIs.good {l : List Run} {e : Int} (h : CheckIs l e) : Good l ↔ e = 0 := by
  constructor
  · intro hg; exact h.unique (.inl ⟨rfl, hg⟩)
  · rintro rfl
    rcases h with ⟨_, h⟩ | ⟨n, x, _, _, _, h⟩
    · exact h
    · exact absurd rfl h
end Go.Proofs.Ytaaeomapbigfgaa.St
namespace Go.Proofs.Ytaaeomapbigfgaa.St
open Go.RowKit

theorem last_core (t s c : Int) (hc1 : -9223372036854775808 ≤ c) (hc2 : c ≤ 9223372036854775807) (w : World) : Calls Try.prog 104 #[.agg #[.int .i64 t, .int .i64 s, .int .i64 c]] w fun e w' => e = .returned (idV (if c < 1 then ID.zero else ID.after ⟨t, s⟩ (c - 1))) ∧ Grew w w' := by
  have hg := Grew.alloc (Grew.alloc (Grew.refl w) (.cells #[.int .i64 t, .int .i64 s, .int .i64 c] 55)) (.cells #[.int .i64 0, .int .i64 0] 31)
  have hb1 := Blk.new (w.alloc (.cells #[.int .i64 t, .int .i64 s, .int .i64 c] 55)) 31 #[.int .i64 0, .int .i64 0]
  rw [World.size_alloc] at hb1
  by_cases h : c < 1
  · rw [if_pos h]
    have G := Lib.hid hg
    clear hg hb1
    go_enter Try.func104, Try.ntmps104
    go_wp2_with fail
    exact bodyPost_ret (v := .agg #[.int .i64 0, .int .i64 0]) (by simp [results, Try.results104, go_sem]) rfl ⟨rfl, G.out⟩
  · rw [if_neg h]
    have ha := after_core t s (c - 1) (by omega) (by omega) ((w.alloc (.cells #[.int .i64 t, .int .i64 s, .int .i64 c] 55)).alloc (.cells #[.int .i64 0, .int .i64 0] 31))
    generalize ID.after ⟨t, s⟩ (c - 1) = a at ha ⊢
    obtain ⟨x, y⟩ := a
    have G0 := Lib.hid hg
    have H1 := Lib.hid hb1
    clear hg hb1
    go_enter Try.func104, Try.ntmps104
    go_wp2_with fail
    refine ha.mono ?_
    rintro e w' ⟨rfl, hg2⟩
    have hb1 := hg2.box H1.out
    have c0 : _ = some (Value.int .i64 0) := hb1.cell' (i := 0) rfl
    have c1 : _ = some (Value.int .i64 0) := hb1.cell' (i := 1) rfl
    have f0 := hb1.frozen 0
    have f1 := hb1.frozen 1
    have G := Lib.hid (G0.out.trans hg2)
    clear hg2 hb1
    unfold idV
    go_wp2_with fail
    refine bodyPost_ret (v := .agg #[.int .i64 x, .int .i64 y]) (by simp [results, Try.results104, go_sem, c0, c1]) rfl ⟨rfl, (G.out.setCell (by simp) _).setCell (by simp) _⟩
end Go.Proofs.Ytaaeomapbigfgaa.St
