/- An Alarm in memory; what only reads it: Len, Next, Gap. -/
import Derived.Test.YtmfjeeogeilgfaaAlOps
namespace Go.Proofs.Ytmfjeeogeilgfaa.Al
open Go.RowKit

/-- an entry of the map -/
def kv (x : Nat × T) : Int × Value := (x.2.key, .pointer (some ⟨x.1, 0, none⟩))
def MapAt (w : World) (mv : Value) (X : Row) (F : Nat → Prop) : Prop :=
  (mv = .map none ∧ X = [] ∧ F = fun _ => False) ∨ ∃ mb kvs, mv = .map (some mb) ∧ MapI w mb kvs ∧ kvs.Perm (X.map kv) ∧ F = fun b => b = mb
def TOk (l m : Int) (t : T) : Prop := l ≤ t.gap ∧ t.gap ≤ m ∧ 0 ≤ t.due ∧ t.due ≤ 2147487743
def LM (l m : Int) : Prop := 0 ≤ l ∧ l ≤ m ∧ m ≤ 4096
/-- an Alarm: its row, its map; F: its blocks -/
structure AlarmAt (w : World) (A : Nat) (l m : Int) (X : Row) (F : Nat → Prop) : Prop where
  ex : ∃ mv F0 F1, RowAt w A l m mv X F0 ∧ MapAt w mv X F1 ∧ F = fun b => F0 b ∨ F1 b
  keys : (X.map (·.2.key)).Nodup
  ok : ∀ x ∈ X, TOk l m x.2
  lm : LM l m
  none0 : l = 0 → X = []

theorem getI_of_mem : ∀ {kvs : List (Int × Value)} {k : Int} {v : Value}, (kvs.map (·.1)).Nodup → (k, v) ∈ kvs → getI kvs k = some v := by
  intro kvs
  induction kvs with
  | nil => intro k v _ h; cases h
  | cons x r ih =>
    intro k v hn h
    simp only [List.map_cons, List.nodup_cons] at hn
    unfold getI
    rw [List.find?_cons]
    rcases List.mem_cons.1 h with h | h
    · subst h; simp
    · have hne : (x.1 == k) = false := by
        simp only [beq_eq_false_iff_ne]
        rintro rfl
        exact hn.1 (List.mem_map.2 ⟨_, h, rfl⟩)
      rw [hne]
      exact ih hn.2 h
theorem getI_none {kvs : List (Int × Value)} {k : Int} (h : ∀ x ∈ kvs, x.1 ≠ k) : getI kvs k = none := by
  unfold getI
  rw [List.find?_eq_none.2 fun x hx => by simpa using h x hx]
  rfl
theorem get_kv {kvs : List (Int × Value)} {X : Row} (hp : kvs.Perm (X.map kv)) (hn : (X.map (·.2.key)).Nodup) {x : Nat × T} (hx : x ∈ X) : getI kvs x.2.key = some (.pointer (some ⟨x.1, 0, none⟩)) :=
  getI_of_mem ((hp.map (·.1)).nodup_iff.2 (by simpa [kv, Function.comp_def] using hn)) (hp.mem_iff.2 (List.mem_map.2 ⟨x, hx, rfl⟩))
theorem get_kv_none {kvs : List (Int × Value)} {X : Row} (hp : kvs.Perm (X.map kv)) {k : Int} (hx : ∀ x ∈ X, x.2.key ≠ k) : getI kvs k = none :=
  getI_none fun y hy => by
    obtain ⟨x, h, rfl⟩ := List.mem_map.1 (hp.mem_iff.1 hy)
    exact hx x h

section
variable {w : World} {A : Nat} {l m : Int} {mv : Value} {X : Row} {F : Nat → Prop}
theorem RowAt.slice (h : RowAt w A l m mv X F) : ∃ a c, w.cell? ⟨A, 3, none⟩ = some (.slice a X.length c) := by
  rcases h with ⟨rfl, hA, _⟩ | ⟨sb, cap, hH, _, _⟩
  · exact ⟨_, _, hA.cell' rfl⟩
  · exact ⟨_, _, hH.sl⟩
theorem RowAt.blk (h : RowAt w A l m mv X F) : ∃ v, Blk w A 42 #[.int .i64 l, .int .i64 m, mv, v] := by
  rcases h with ⟨rfl, hA, _⟩ | ⟨sb, cap, hH, _, _⟩
  · exact ⟨_, hA⟩
  · exact ⟨_, hH.top⟩
theorem RowAt.drewN (h : RowAt w A l m mv X F) (q : Nat) : RowAt (w.drewN q) A l m mv X F := by
  rcases h with ⟨e, hA, f⟩ | ⟨sb, cap, hH, ho, f⟩
  · exact .inl ⟨e, hA.drewN q, f⟩
  · exact .inr ⟨sb, cap, hH.drewN q, ho, f⟩
theorem AlarmAt.drewN (h : AlarmAt w A l m X F) (q : Nat) : AlarmAt (w.drewN q) A l m X F := by
  obtain ⟨mv, F0, F1, h1, h2, h3⟩ := h.ex
  exact ⟨⟨mv, F0, F1, h1.drewN q, h2, h3⟩, h.keys, h.ok, h.lm, h.none0⟩

theorem alen_any (h : AlarmAt w A l m X F) : Calls Try.prog 20 #[.pointer (some ⟨A, 0, none⟩)] w fun e w' => e = .returned (.int .i64 X.length) ∧ w = w' := by
  obtain ⟨mv, F0, F1, h1, h2, h3⟩ := h.ex
  obtain ⟨a, c, hs⟩ := h1.slice
  go_enter Try.func20, Try.ntmps20
  go_wp2
  go_ret
  exact ⟨rfl, rfl⟩
theorem alen_nil (w : World) : Calls Try.prog 20 #[.pointer none] w fun e w' => e = .returned (.int .i64 0) ∧ w = w' := by
  go_enter Try.func20, Try.ntmps20
  go_wp2
  go_ret
  exact ⟨rfl, rfl⟩

theorem next_none (h : AlarmAt w A l m [] F) : Calls Try.prog 16 #[.pointer (some ⟨A, 0, none⟩)] w fun e w' => e = .returned (.tuple #[.int .i64 0, .int .i64 0, .bool false]) ∧ w = w' := by
  obtain ⟨mv, F0, F1, h1, h2, h3⟩ := h.ex
  obtain ⟨a, c, hs⟩ := h1.slice
  go_enter Try.func16, Try.ntmps16
  go_wp2
  go_ret3
  exact ⟨rfl, rfl⟩
theorem next_nil (w : World) : Calls Try.prog 16 #[.pointer none] w fun e w' => e = .returned (.tuple #[.int .i64 0, .int .i64 0, .bool false]) ∧ w = w' := by
  go_enter Try.func16, Try.ntmps16
  go_wp2
  go_ret3
  exact ⟨rfl, rfl⟩
theorem next_walk {sb cap n b : Nat} {k d : Int} (hs : w.cell? ⟨A, 3, none⟩ = some (.slice (some ⟨sb, 0, none⟩) (n + 1) cap)) (hp : w.cell? ⟨sb, 0, none⟩ = some (.pointer (some ⟨b, 0, none⟩)))
    (hk : w.cell? ⟨b, 0, none⟩ = some (.int .i64 k)) (hd : w.cell? ⟨b, 2, none⟩ = some (.int .i64 d)) :
    Calls Try.prog 16 #[.pointer (some ⟨A, 0, none⟩)] w fun e w' => e = .returned (.tuple #[.int .i64 k, .int .i64 d, .bool true]) ∧ ∃ q, w' = w.drewN q := by
  have h0 : (0 : Int) < (n : Int) + 1 := by omega
  have h1 : ((n : Int) + 1 == 0) = false := by simp; omega
  go_enter Try.func16, Try.ntmps16
  go_wp2
  go_quiet (fail)
  go_wp2
  go_ret3
  exact ⟨rfl, _, rfl⟩
theorem next_some {x : Nat × T} {r : Row} (h : AlarmAt w A l m (x :: r) F) : Calls Try.prog 16 #[.pointer (some ⟨A, 0, none⟩)] w fun e w' =>
    e = .returned (.tuple #[.int .i64 x.2.key, .int .i64 x.2.due, .bool true]) ∧ ∃ q, w' = w.drewN q := by
  obtain ⟨mv, F0, F1, h1, h2, h3⟩ := h.ex
  rcases h1 with ⟨e, _⟩ | ⟨sb, cap, hH, hok, rfl⟩
  · cases e
  · exact next_walk hH.sl (hH.ptr (i := 0) (x := x) rfl) ((hH.tim 0 x rfl).cell' rfl) ((hH.tim 0 x rfl).cell' rfl)

theorem zero_ptr (w : World) : (zeroValue 60).run Try.prog w = .ok (.pointer none) w := by kernel_rfl
theorem under_map : Try.prog.underlying 38 = some (.map 3 60) := by kernel_rfl
theorem under_int : Try.prog.underlying 3 = some (.int .i64) := by kernel_rfl

/-- what the look-up of a key gives -/
theorem look_found (hM : MapAt w mv X F) (hn : (X.map (·.2.key)).Nodup) {x : Nat × T} (hx : x ∈ X) :
    ∃ mb, mv = .map (some mb) ∧ (Instr.lookup 38 (.map (some mb)) (.int .i64 x.2.key) false).run Try.prog w = .ok (.pointer (some ⟨x.1, 0, none⟩)) w := by
  rcases hM with ⟨_, rfl, _⟩ | ⟨mb, kvs, rfl, hm, hp, _⟩
  · cases hx
  · exact ⟨mb, rfl, run_lookupI under_map under_int hm (get_kv hp hn hx)⟩
theorem look_none (hM : MapAt w mv X F) {k : Int} (hx : ∀ x ∈ X, x.2.key ≠ k) :
    ∃ r, mv = .map r ∧ (Instr.lookup 38 (.map r) (.int .i64 k) false).run Try.prog w = .ok (.pointer none) w := by
  rcases hM with ⟨rfl, rfl, _⟩ | ⟨mb, kvs, rfl, hm, hp, _⟩
  · exact ⟨none, rfl, run_lookupI_nil under_map under_int (zero_ptr w)⟩
  · exact ⟨some mb, rfl, run_lookupI_none under_map under_int hm (get_kv_none hp hx) (zero_ptr w)⟩

theorem gap_nil (k : Int) (w : World) : Calls Try.prog 15 #[.pointer none, .int .i64 k] w fun e w' => e = .returned (.tuple #[.int .i64 0, .int .i64 0]) ∧ w = w' := by
  go_enter Try.func15, Try.ntmps15
  go_wp2
  go_ret2
  exact ⟨rfl, rfl⟩
theorem gap_none (h : AlarmAt w A l m X F) {k : Int} (hx : ∀ x ∈ X, x.2.key ≠ k) : Calls Try.prog 15 #[.pointer (some ⟨A, 0, none⟩), .int .i64 k] w fun e w' =>
    e = .returned (.tuple #[.int .i64 0, .int .i64 0]) ∧ w = w' := by
  obtain ⟨mv, F0, F1, h1, h2, h3⟩ := h.ex
  obtain ⟨r, rfl, hl⟩ := look_none h2 hx
  obtain ⟨v, hA⟩ := h1.blk
  have c2 : w.cell? ⟨A, 2, none⟩ = some (.map r) := hA.cell' rfl
  clear hA h1 h2 h3 h
  go_enter Try.func15, Try.ntmps15
  go_wp2
  go_ret2
  exact ⟨rfl, rfl⟩
theorem gap_walk {mb b : Nat} {k g d : Int} (c2 : w.cell? ⟨A, 2, none⟩ = some (.map (some mb))) (hl : ∀ q, (Instr.lookup 38 (.map (some mb)) (.int .i64 k) false).run Try.prog (w.drewN q) = .ok (.pointer (some ⟨b, 0, none⟩)) (w.drewN q))
    (c1 : w.cell? ⟨b, 1, none⟩ = some (.int .i64 g)) (c3 : w.cell? ⟨b, 2, none⟩ = some (.int .i64 d)) :
    Calls Try.prog 15 #[.pointer (some ⟨A, 0, none⟩), .int .i64 k] w fun e w' => e = .returned (.tuple #[.int .i64 g, .int .i64 d]) ∧ ∃ q, w' = w.drewN q := by
  have hl0 : (Instr.lookup 38 (.map (some mb)) (.int .i64 k) false).run Try.prog w = .ok (.pointer (some ⟨b, 0, none⟩)) w := hl 0
  have hl1 : (Instr.lookup 38 (.map (some mb)) (.int .i64 k) false).run Try.prog w.drew = .ok (.pointer (some ⟨b, 0, none⟩)) w.drew := hl 1
  go_enter Try.func15, Try.ntmps15
  go_wp2
  go_quiet (fail)
  go_wp2
  go_ret2
  exact ⟨rfl, _, rfl⟩
theorem gap_some (h : AlarmAt w A l m X F) {x : Nat × T} (hx : x ∈ X) : Calls Try.prog 15 #[.pointer (some ⟨A, 0, none⟩), .int .i64 x.2.key] w fun e w' =>
    e = .returned (.tuple #[.int .i64 x.2.gap, .int .i64 x.2.due]) ∧ ∃ q, w' = w.drewN q := by
  obtain ⟨mv, F0, F1, h1, h2, h3⟩ := h.ex
  obtain ⟨mb, rfl, hl⟩ := look_found h2 h.keys hx
  have hl' : ∀ q, (Instr.lookup 38 (.map (some mb)) (.int .i64 x.2.key) false).run Try.prog (w.drewN q) = .ok (.pointer (some ⟨x.1, 0, none⟩)) (w.drewN q) := fun q => by
    obtain ⟨mb', e, hl⟩ := look_found (w := w.drewN q) (X := X) (F := F1) h2 h.keys hx
    cases e
    exact hl
  rcases h1 with ⟨rfl, _⟩ | ⟨sb, cap, hH, hok, rfl⟩
  · cases hx
  · obtain ⟨i, hi⟩ := List.getElem?_of_mem hx
    exact gap_walk (hH.top.cell' rfl) hl' ((hH.tim i x hi).cell' rfl) ((hH.tim i x hi).cell' rfl)
end
end Go.Proofs.Ytmfjeeogeilgfaa.Al
