/- Arguments opened: a script's steps, runs, nodes, pieces, numbers. much: a script that is looked at is short. hearsaylaw11.does: a step of no kind that there is. hearsaylaw11.does: a step that inserts. -/
import Derived.Test.YtlafodnaifghcaaGreatH6
import Derived.Test.YtlafodnaifghcaaGreatH11
import Derived.Test.YtlafodnaifghcaaGreatChecked
import Derived.Deep.Slices
import Derived.Deep.Fields
import Derived.ChangeSame
import Derived.Lib.SmallJoins
import Derived.OpenShut
import Derived.Test.YtlafodnaifghcaaGreatH36
import Derived.Deep.DeepCutAuto
namespace Go.Proofs.YtlafodnaifghcaaGreat.Tr
open Go.RowKit Go.Proofs.YtlafodnaifghcaaGreat.St
section
open Go.ChangeShapes Go.WideShapes Go.Deep
variable {H : Type} {enc : TypeId × Value → H} {w : World} {base b0 : Nat} {spare : Nat → Bool} {held : Bool} {P : Program}
theorem list_of_all {α : Type} : ∀ (n : Nat) (P : Nat → α → Prop), (∀ i, i < n → ∃ s, P i s) → ∃ L : List α, L.length = n ∧ ∀ (i : Nat) (s : α), L[i]? = some s → P i s
  | 0, _, _ => ⟨[], rfl, fun i s hs => by simp at hs⟩
  | n + 1, P, h => by
    obtain ⟨L, hL, hP⟩ := list_of_all n P (fun i hi => h i (by omega))
    obtain ⟨s, hs⟩ := h n (by omega)
    refine ⟨L ++ [s], by simp [hL], fun i t ht => ?_⟩
    by_cases hi : i < L.length
    · rw [List.getElem?_append_left hi] at ht; exact hP i t ht
    · rw [List.getElem?_append_right (by omega)] at ht
      have : i - L.length = 0 := by have := (List.getElem?_eq_some_iff.1 ht).1; simp at this; omega
      rw [this] at ht
      simp at ht
      subst ht
      have : i = n := by omega
      subst this
      exact hs
theorem open_rows {α : Type} (E : Enc α) {Q : α → Prop} {t e : TypeId} (ht : P.underlying t = some (.slice e)) (hC : P.cellsOf e = E.k)
    (hel : ∀ n cs d, DataW.trod enc P w base spare held n e cs = some d → ∃ x, cs = E.enc x ∧ Q x) {r : Reach} {v : Value} {d : DataW H} {ps : List MemPlace} (hv : Value.okWide P w r b0 t v)
    (h : DataW.Trod enc P w base spare held t v d ps) : ∃ L, SlAt E w v L ∧ ∀ x ∈ L, Q x := by
  obtain ⟨a, len, cap, rfl⟩ := okWide_slice ht hv
  obtain ⟨fuel, hf⟩ := h
  rcases open_slice ht hf with ⟨hcs, _⟩ | ⟨x, l, c, m, n, D, Pl, hcs, _, hl, hm, hmm, _, hi⟩
  · simp [Value.cells] at hcs
    obtain ⟨rfl, rfl, rfl⟩ := hcs
    exact ⟨[], .inl ⟨rfl, rfl⟩, fun x hx => by simp at hx⟩
  · simp [Value.cells] at hcs
    obtain ⟨rfl, rfl, rfl⟩ := hcs
    have hml : len ≤ m := by rw [hmm]; split <;> omega
    have hall : ∀ i, i < len → ∃ y : α, Q y ∧ ∀ (j : Nat) (u : Value), (E.enc y)[j]? = some u → w.cell? (x.add (i * E.k + j)) = some u := by
      intro i hil
      obtain ⟨cs, hc, hd⟩ := hi i (by omega)
      obtain ⟨y, rfl, hq⟩ := hel _ _ _ hd
      obtain ⟨_, _, hat⟩ := World.cells?_some hc
      refine ⟨y, hq, fun j u hu => ?_⟩
      have hj : j < P.cellsOf e := by rw [hC, ← E.len y]; exact (List.getElem?_eq_some_iff.1 hu).1
      have := hat j hj
      rw [Go.Deep.add_add, hC] at this
      rw [this, hu]
    obtain ⟨L, hL, hS⟩ := list_of_all len _ hall
    subst hL
    have hsp : L ≠ [] → x.spot = none := fun hne => by
      obtain ⟨y, r, rfl⟩ : ∃ y r, L = y :: r := by cases L with | nil => exact absurd rfl hne | cons y r => exact ⟨y, r, rfl⟩
      obtain ⟨_, h0⟩ := hS 0 y rfl
      have hlt : 0 < (E.enc y).length := by rw [E.len]; exact E.pos
      have := h0 0 _ (List.getElem?_eq_getElem hlt)
      rw [Nat.zero_mul, Nat.zero_add, Addr.add_zero'] at this
      exact World.cell?_spot this
    refine ⟨L, .inr ⟨x, cap, rfl, hl, hm, hsp, fun i y hy j u hu => ?_⟩, fun y hy => ?_⟩
    · have h1 := (hS i y hy).2 j u hu
      have hs := hsp (by rintro rfl; simp at hy)
      obtain ⟨g, o, s⟩ := x
      obtain rfl : s = none := hs
      rw [Addr.add_lit] at h1
      exact h1
    · obtain ⟨i, hi⟩ := List.getElem?_of_mem hy
      exact (hS i y hi).1
theorem open_part {α : Type} (E : Enc α) {Q : α → Prop} {t e : TypeId} (ht : P.underlying t = some (.slice e)) (hC : P.cellsOf e = E.k)
    (hel : ∀ n cs d, DataW.trod enc P w base spare held n e cs = some d → ∃ x, cs = E.enc x ∧ Q x) {n : Nat} {cs : List Value} {d : DataW H × List MemPlace}
    (h : DataW.trod enc P w base spare held n t cs = some d) : ∃ a len cap L, cs = [.slice a len cap] ∧ SlAt E w (.slice a len cap) L ∧ ∀ x ∈ L, Q x := by
  rcases open_slice ht h with ⟨rfl, _⟩ | ⟨x, len, cap, m, n, D, Pl, rfl, _, hl, hm, hmm, _, hi⟩
  · exact ⟨none, 0, 0, [], rfl, .inl ⟨rfl, rfl⟩, fun x hx => by simp at hx⟩
  · have hml : len ≤ m := by rw [hmm]; split <;> omega
    have hall : ∀ i, i < len → ∃ y : α, Q y ∧ ∀ (j : Nat) (u : Value), (E.enc y)[j]? = some u → w.cell? (x.add (i * E.k + j)) = some u := by
      intro i hil
      obtain ⟨cs, hc, hd⟩ := hi i (by omega)
      obtain ⟨y, rfl, hq⟩ := hel _ _ _ hd
      obtain ⟨_, _, hat⟩ := World.cells?_some hc
      refine ⟨y, hq, fun j u hu => ?_⟩
      have hj : j < P.cellsOf e := by rw [hC, ← E.len y]; exact (List.getElem?_eq_some_iff.1 hu).1
      have := hat j hj
      rw [Go.Deep.add_add, hC] at this
      rw [this, hu]
    obtain ⟨L, hL, hS⟩ := list_of_all len _ hall
    subst hL
    have hsp : L ≠ [] → x.spot = none := fun hne => by
      obtain ⟨y, r, rfl⟩ : ∃ y r, L = y :: r := by cases L with | nil => exact absurd rfl hne | cons y r => exact ⟨y, r, rfl⟩
      obtain ⟨_, h0⟩ := hS 0 y rfl
      have hlt : 0 < (E.enc y).length := by rw [E.len]; exact E.pos
      have := h0 0 _ (List.getElem?_eq_getElem hlt)
      rw [Nat.zero_mul, Nat.zero_add, Addr.add_zero'] at this
      exact World.cell?_spot this
    refine ⟨some x, L.length, cap, L, rfl, .inr ⟨x, cap, rfl, hl, hm, hsp, fun i y hy j u hu => ?_⟩, fun y hy => ?_⟩
    · have h1 := (hS i y hy).2 j u hu
      have hs := hsp (by rintro rfl; simp at hy)
      obtain ⟨g, o, s⟩ := x
      obtain rfl : s = none := hs
      rw [Addr.add_lit] at h1
      exact h1
    · obtain ⟨i, hi⟩ := List.getElem?_of_mem hy
      exact (hS i y hi).1
end
section
open Go.ChangeShapes Go.WideShapes Go.Deep
variable {H : Type} {enc : TypeId × Value → H} {w : World} {base b0 : Nat} {spare : Nat → Bool} {held : Bool}
theorem fields_id2 : ∃ f0 f1 : Field, Tryz.prog.underlying 37 = some (.struct #[f0, f1]) ∧ f0.offset = 0 ∧ f1.offset = 1 ∧ f0.type = 3 ∧ f1.type = 3 :=
  ⟨_, _, Tryz.underlying37, rfl, rfl, rfl, rfl⟩
theorem fields_run2 : ∃ f0 f1 : Field, Tryz.prog.underlying 69 = some (.struct #[f0, f1]) ∧ f0.offset = 0 ∧ f1.offset = 2 ∧ f0.type = 37 ∧ f1.type = 3 :=
  ⟨_, _, Tryz.underlying69, rfl, rfl, rfl, rfl⟩
theorem fields_step : ∃ f0 f1 f2 f3 f4 f5 f6 : Field, Tryz.prog.underlying 40 = some (.struct #[f0, f1, f2, f3, f4, f5, f6]) ∧ (f0.offset = 0 ∧ f1.offset = 1 ∧ f2.offset = 3 ∧ f3.offset = 5 ∧ f4.offset = 6 ∧ f5.offset = 7 ∧ f6.offset = 8) ∧
    f0.type = 3 ∧ f1.type = 37 ∧ f2.type = 37 ∧ f3.type = 9 ∧ f4.type = 38 ∧ f5.type = 3 ∧ f6.type = 3 :=
  ⟨_, _, _, _, _, _, _, Tryz.underlying40, ⟨rfl, rfl, rfl, rfl, rfl, rfl, rfl⟩, rfl, rfl, rfl, rfl, rfl, rfl, rfl⟩
theorem cells_int : Tryz.prog.cellsOf 3 = 1 := by kernel_rfl
theorem cells_string : Tryz.prog.cellsOf 9 = 1 := by kernel_rfl
theorem cells_id : Tryz.prog.cellsOf 37 = 2 := by kernel_rfl
theorem cells_run : Tryz.prog.cellsOf 69 = 3 := by kernel_rfl
theorem cells_runs : Tryz.prog.cellsOf 38 = 1 := by kernel_rfl
theorem cells_step : Tryz.prog.cellsOf 40 = 9 := by kernel_rfl
set_option maxRecDepth 100000 in
theorem elem_id2 (n : Nat) (cs : List Value) (d : DataW H × List MemPlace) (h : DataW.trod enc Tryz.prog w base spare held n 37 cs = some d) : ∃ x : ID, cs = idE.enc x ∧ I64 x.t ∧ I64 x.s := by
  obtain ⟨f0, f1, hs, o0, o1, e0, e1⟩ := fields_id2
  obtain ⟨ys, n', _, _, hlen, hyl, hg⟩ := DataW.trod_struct hs h
  rw [cells_id] at hlen
  match cs, hlen with
  | [c0, c1], _ =>
    match ys, hyl with
    | [y0, y1], _ =>
      have g0 := hg 0 f0 rfl
      have g1 := hg 1 f1 rfl
      rw [o0, e0, cells_int] at g0
      rw [o1, e1, cells_int] at g1
      obtain ⟨n0, z0, _, w0⟩ := DataW.trod_int Tryz.underlying3 g0
      obtain ⟨n1, z1, _, w1⟩ := DataW.trod_int Tryz.underlying3 g1
      simp at z0 z1
      subst z0 z1
      exact ⟨⟨n0, n1⟩, rfl, bounds_i64 w0, bounds_i64 w1⟩
set_option maxRecDepth 100000 in
theorem elem_run2 (n : Nat) (cs : List Value) (d : DataW H × List MemPlace) (h : DataW.trod enc Tryz.prog w base spare held n 69 cs = some d) : ∃ x : Run, cs = runE.enc x ∧ x.In := by
  obtain ⟨f0, f1, hs, o0, o1, e0, e1⟩ := fields_run2
  obtain ⟨ys, n', _, _, hlen, hyl, hg⟩ := DataW.trod_struct hs h
  rw [cells_run] at hlen
  match cs, hlen with
  | [c0, c1, c2], _ =>
    match ys, hyl with
    | [y0, y1], _ =>
      have g0 := hg 0 f0 rfl
      have g1 := hg 1 f1 rfl
      rw [o0, e0, cells_id] at g0
      rw [o1, e1, cells_int] at g1
      obtain ⟨x, hx, hi⟩ := elem_id2 _ _ _ g0
      obtain ⟨n1, z1, _, w1⟩ := DataW.trod_int Tryz.underlying3 g1
      simp at z1
      subst z1
      simp [idE] at hx
      obtain ⟨rfl, rfl⟩ := hx
      exact ⟨⟨x, n1⟩, rfl, hi.1, hi.2, bounds_i64 w1⟩
/-- a step as it lies in memory -/
structure StV where
  kind : Int
  id : ID
  ref : ID
  text : ByteArray
  runs : Rw
  i : Int
  n : Int
def stC (s : StV) : List Value := [.int .i64 s.kind, .int .i64 s.id.t, .int .i64 s.id.s, .int .i64 s.ref.t, .int .i64 s.ref.s, .string s.text, s.runs.v, .int .i64 s.i, .int .i64 s.n]
def stE : Enc StV := ⟨9, stC, fun _ => rfl, by decide, fun s u hu => by
  simp [stC] at hu
  rcases hu with rfl | rfl | rfl | rfl | rfl | rfl | rfl | rfl | rfl <;> rfl⟩
/-- what there is to know of a step that was given -/
structure StepIn (w : World) (s : StV) (rs : List Run) : Prop where
  row : SlAt runE w s.runs.v rs
  rin : ∀ r ∈ rs, r.In
  text : s.text.size ≤ maxLen
  nums : I64 s.kind ∧ I64 s.i ∧ I64 s.n
  ids : (I64 s.id.t ∧ I64 s.id.s) ∧ I64 s.ref.t ∧ I64 s.ref.s
set_option maxRecDepth 100000 in
theorem elem_step (n : Nat) (cs : List Value) (d : DataW H × List MemPlace) (h : DataW.trod enc Tryz.prog w base spare held n 40 cs = some d) : ∃ s : StV, cs = stE.enc s ∧ ∃ rs, StepIn w s rs := by
  obtain ⟨f0, f1, f2, f3, f4, f5, f6, hs, ⟨o0, o1, o2, o3, o4, o5, o6⟩, e0, e1, e2, e3, e4, e5, e6⟩ := fields_step
  obtain ⟨ys, n', _, _, hlen, hyl, hg⟩ := DataW.trod_struct hs h
  rw [cells_step] at hlen
  match cs, hlen with
  | [c0, c1, c2, c3, c4, c5, c6, c7, c8], _ =>
    match ys, hyl with
    | [y0, y1, y2, y3, y4, y5, y6], _ =>
      have g0 := hg 0 f0 rfl
      have g1 := hg 1 f1 rfl
      have g2 := hg 2 f2 rfl
      have g3 := hg 3 f3 rfl
      have g4 := hg 4 f4 rfl
      have g5 := hg 5 f5 rfl
      have g6 := hg 6 f6 rfl
      rw [o0, e0, cells_int] at g0
      rw [o1, e1, cells_id] at g1
      rw [o2, e2, cells_id] at g2
      rw [o3, e3, cells_string] at g3
      rw [o4, e4, cells_runs] at g4
      rw [o5, e5, cells_int] at g5
      rw [o6, e6, cells_int] at g6
      obtain ⟨n0, z0, _, w0⟩ := DataW.trod_int Tryz.underlying3 g0
      obtain ⟨x1, z1, hx1⟩ := elem_id2 _ _ _ g1
      obtain ⟨x2, z2, hx2⟩ := elem_id2 _ _ _ g2
      obtain ⟨s3, z3, _, w3⟩ := DataW.trod_string Tryz.underlying9 g3
      obtain ⟨a4, l4, k4, L4, z4, hs4, hx4⟩ := open_part runE Tryz.underlying38 cells_run elem_run2 g4
      obtain ⟨n5, z5, _, w5⟩ := DataW.trod_int Tryz.underlying3 g5
      obtain ⟨n6, z6, _, w6⟩ := DataW.trod_int Tryz.underlying3 g6
      simp at z0 z3 z4 z5 z6
      simp [idE] at z1 z2
      obtain ⟨rfl, rfl⟩ := z1
      obtain ⟨rfl, rfl⟩ := z2
      subst z0 z3 z4 z5 z6
      exact ⟨⟨n0, x1, x2, s3, ⟨a4, l4, k4⟩, n5, n6⟩, rfl, L4, ⟨hs4, hx4, w3, ⟨bounds_i64 w0, bounds_i64 w5, bounds_i64 w6⟩, hx1, hx2⟩⟩
set_option maxRecDepth 100000 in
theorem open_steps {r : Reach} {v : Value} {d : DataW H} {ps : List MemPlace} (hv : Value.okWide Tryz.prog w r b0 22 v)
    (h : DataW.Trod enc Tryz.prog w base spare held 22 v d ps) : ∃ L, SlAt stE w v L ∧ ∀ s ∈ L, ∃ rs, StepIn w s rs :=
  open_rows stE Tryz.underlying22 cells_step elem_step hv h
end
end Go.Proofs.YtlafodnaifghcaaGreat.Tr
namespace Go.Proofs.YtlafodnaifghcaaGreat.Tr
open Go.RowKit Go.Proofs.YtlafodnaifghcaaGreat.St
theorem SlAt.stepc {w : World} {v : Value} {L : List StV} (h : SlAt stE w v L) (hn : 0 < L.length) : ∃ g o c, v = .slice (some ⟨g, o, none⟩) L.length c ∧ g < w.heap.size ∧ ∀ (i : Nat) (x : StV), L[i]? = some x →
    w.cell? ⟨g, o + i * 9, none⟩ = some (.int .i64 x.kind) ∧ w.cell? ⟨g, o + i * 9 + 1, none⟩ = some (.int .i64 x.id.t) ∧ w.cell? ⟨g, o + i * 9 + 2, none⟩ = some (.int .i64 x.id.s) ∧ w.cell? ⟨g, o + i * 9 + 3, none⟩ = some (.int .i64 x.ref.t) ∧ w.cell? ⟨g, o + i * 9 + 4, none⟩ = some (.int .i64 x.ref.s) ∧
    w.cell? ⟨g, o + i * 9 + 5, none⟩ = some (.string x.text) ∧ w.cell? ⟨g, o + i * 9 + 6, none⟩ = some (.slice x.runs.a x.runs.n x.runs.c) ∧ w.cell? ⟨g, o + i * 9 + 7, none⟩ = some (.int .i64 x.i) ∧ w.cell? ⟨g, o + i * 9 + 8, none⟩ = some (.int .i64 x.n) := by
  obtain ⟨g, o, c, rfl, _, _, hg, hc⟩ := h.one hn
  exact ⟨g, o, c, rfl, hg, fun i x hx => ⟨hc i x hx 0 _ rfl, hc i x hx 1 _ rfl, hc i x hx 2 _ rfl, hc i x hx 3 _ rfl, hc i x hx 4 _ rfl, hc i x hx 5 _ rfl, hc i x hx 6 _ rfl, hc i x hx 7 _ rfl, hc i x hx 8 _ rfl⟩⟩
def textN (L : List StV) : Nat := (L.map fun s => s.text.size).sum
theorem textN_snoc (L : List StV) (x : StV) : textN (L ++ [x]) = textN L + x.text.size := by simp [textN]
/-- what is looked at -/
structure Few (L : List StV) : Prop where
  len : L.length ≤ 200
  each : ∀ s ∈ L, s.runs.n ≤ 400 ∧ s.text.size ≤ 20000
  all : textN L ≤ 20000
def MuchPost (w : World) (L : List StV) (r : Ending) (w' : World) : Prop := ∃ b, r = .returned (.bool b) ∧ (b = false → Few L) ∧ w = w'
set_option maxRecDepth 100000 in
set_option maxHeartbeats 4000000 in
theorem much_any {w : World} {v : Value} {L : List StV} (h : SlAt stE w v L) (ht : ∀ s ∈ L, s.text.size ≤ maxLen) :
    Calls Tryz.prog 7 #[v] w (MuchPost w L) := by
  obtain ⟨a, c, rfl, _, _⟩ := h.sl
  have HL := Lib.hid h
  have HT := Lib.hid ht
  clear h ht
  by_cases h1 : 200 < L.length
  · have e1 : (200 : Int) < L.length := by omega
    clear h1
    go_enter Tryz.func7, Tryz.ntmps7
    go_wp2_with fail
    go_ret
    exact ⟨true, rfl, (fun h => by cases h), rfl⟩
  have e1 : ¬ (200 : Int) < L.length := by omega
  go_enter Tryz.func7, Tryz.ntmps7
  go_wp2_with fail
  clear e1
  go_loopw [3, 4] (fun kv iv wr => ∃ n : Nat, iv = .int .i64 n ∧ kv = .int .i64 (textN (L.take n)) ∧ n ≤ L.length ∧ textN (L.take n) ≤ 20000 ∧ (∀ s ∈ L.take n, s.runs.n ≤ 400 ∧ s.text.size ≤ 20000) ∧ w = wr) (fun _ iv _ => L.length - (intOf iv).toNat)
  case atStart => exact ⟨0, rfl, by simp [textN], Nat.zero_le _, by simp [textN], fun s hs => by simp at hs, rfl⟩
  case round =>
    obtain ⟨n, rfl, rfl, hn, hnt, hno, rfl⟩ := hrel
    have NO := Lib.hid hno
    clear hno
    have hn0 : (0 : Int) ≤ n := by omega
    by_cases hlt : n < L.length
    case neg =>
      have hltI : ¬ (n : Int) < L.length := by omega
      have hn9 : n = L.length := by omega
      have FW : Hid (Few L) := Lib.hid (by
        have h2 := NO.out
        rw [hn9, List.take_length] at h2 hnt
        exact ⟨by omega, h2, hnt⟩)
      clear hn9
      go_wp2_with fail
      go_ret
      exact ⟨false, rfl, fun _ => FW.out, rfl⟩
    case pos =>
      have hltI : (n : Int) < L.length := by omega
      obtain ⟨x, hx⟩ := get_of_lt hlt
      obtain ⟨g, o, c', e2, _, hcs⟩ := SlAt.stepc HL.out (by omega)
      cases e2
      obtain ⟨c0, c1, c2, c3, c4, c5, c6, c7, c8⟩ := hcs n x hx
      have htx := HT.out x (List.mem_of_getElem? hx)
      have htk : L.take (n + 1) = L.take n ++ [x] := by rw [List.take_add_one, hx]; rfl
      have TN : Hid (textN (L.take (n + 1)) = textN (L.take n) + x.text.size) := Lib.hid (by rw [htk, textN_snoc])
      have EA : Hid (x.runs.n ≤ 400 ∧ x.text.size ≤ 20000 → ∀ s ∈ L.take (n + 1), s.runs.n ≤ 400 ∧ s.text.size ≤ 20000) := Lib.hid (fun hh s hs => by
        rw [htk] at hs
        rcases List.mem_append.1 hs with hs | hs
        · exact NO.out s hs
        · rw [List.mem_singleton.1 hs]; exact hh)
      obtain ⟨tn, htn⟩ : ∃ tn, textN (L.take n) = tn := ⟨_, rfl⟩
      rw [htn] at TN hnt ⊢
      have hw1 : IntKind.i64.wrap ((n : Int) + 1) = (n : Int) + 1 := IntWalk.i64_in _ (by omega)
      clear hcs hx htk htx htn
      by_cases q1 : (400 : Int) < x.runs.n
      · go_wp2_with fail
        go_ret
        exact ⟨true, rfl, (fun h => by cases h), rfl⟩
      · by_cases q2 : (20000 : Int) < x.text.size
        · go_wp2_with fail
          go_ret
          exact ⟨true, rfl, (fun h => by cases h), rfl⟩
        · have hwr : IntKind.i64.wrap ((tn : Int) + x.text.size) = (tn : Int) + x.text.size := IntWalk.i64_in _ (by omega)
          by_cases q3 : (20000 : Int) < (tn : Int) + x.text.size
          · go_wp2_with fail
            go_ret
            exact ⟨true, rfl, (fun h => by cases h), rfl⟩
          · go_wp2_with fail
            go_roundw
            case rel => exact ⟨n + 1, by go_num, by rw [TN.out]; push_cast; rfl, by omega, by rw [TN.out]; omega, EA.out ⟨by omega, by omega⟩, trivial⟩
            case measure => simp [intOf]; omega
end Go.Proofs.YtlafodnaifghcaaGreat.Tr
namespace Go.Proofs.YtlafodnaifghcaaGreat.Tr
open Go.RowKit Go.Sort Go.Proofs.YtlafodnaifghcaaGreat.St Go.Proofs.YtlafodnaifghcaaGreat Go.Proofs.YtlafodnaifghcaaGreat.Gl
attribute [local go_sem] Oper.semAt_some
set_option maxRecDepth 100000 in
set_option maxHeartbeats 8000000 in
theorem does0_any {X : Nat → Prop} {w0 w : World} {g : Nat} {L : List Nd} {v rv : Value} {Y : Nat → Prop} (h : PT X w0 w g L L v Y) (hlen : L.length ≤ 600000) (hI : ∀ n ∈ L, n.id.Is) (i ref : ID) (s : ByteArray) (a b : Int) {k : Int} (hk1 : ¬ k = 1) (hk2 : ¬ k = 2) (hk3 : ¬ k = 3) (hk4 : ¬ k = 4) (hk5 : ¬ k = 5) (hk6 : ¬ k = 6) (hk7 : ¬ k = 7) (hk8 : ¬ k = 8) :
    Calls Tryz.prog 10 #[.pointer (some ⟨g, 0, none⟩), .agg #[v], .agg #[.int .i64 k, .int .i64 i.t, .int .i64 i.s, .int .i64 ref.t, .int .i64 ref.s, .string s, rv, .int .i64 a, .int .i64 b]] w fun e w' =>
      ∃ u, e = .returned (.tuple #[.pointer (some ⟨g, 0, none⟩), .agg #[u], .bool true]) ∧ PT X w0 w' g L L u (grown Y w w') ∧ Kept (chg X Y) w w' := by
  obtain ⟨it, is⟩ := i
  obtain ⟨rt, rs⟩ := ref
  show Calls _ _ #[_, _, .agg #[.int .i64 k, .int .i64 it, .int .i64 is, .int .i64 rt, .int .i64 rs, .string s, rv, .int .i64 a, .int .i64 b]] _ _
  have hI' := Lib.hid hI
  obtain ⟨va, vc, hv0, _, _⟩ := h.row.sl
  have HV0 := Lib.hid hv0
  clear hv0
  obtain ⟨hb, hk0⟩ := DB.made w v (.int .i64 k) (.int .i64 it) (.int .i64 is) (.int .i64 rt) (.int .i64 rs) (.string s) rv (.int .i64 a) (.int .i64 b) (.slice none 0 0)
  go_enter Tryz.func10, Tryz.ntmps10
  go_upto_region 1 with fail
  obtain ⟨z, hz⟩ : ∃ z, w.heap.size = z := ⟨_, rfl⟩
  obtain ⟨W, hW⟩ : ∃ W, ((w.alloc (.cells #[v] 33)).alloc (.cells #[.int .i64 k, .int .i64 it, .int .i64 is, .int .i64 rt, .int .i64 rs, .string s, rv, .int .i64 a, .int .i64 b] 40)).alloc (.cells #[.slice none 0 0] 33) = W := ⟨_, rfl⟩
  rw [hW, hz] at hb
  rw [hW] at hk0
  rw [hz, hW]
  have HZ : Hid (w.heap.size = z ∧ z + 1 + 1 < W.heap.size) := Lib.hid ⟨hz, hb.b2.lt⟩
  have D0 := Lib.hid (h.dt hk0)
  have B0 := Lib.hid hb
  have K0 := Lib.hid hk0
  obtain ⟨c0, ck, c1, c2, c3, c4, c5, cr, ca, cb⟩ := hb.cells
  clear hW hz hb hk0
  have hl9 := Lib.hid hlen
  clear h hI hl9
  have B4 := B0
  have D4 := D0
  go_upto_region 39 with fail
  have hv0 := HV0.out
  clear HV0
  subst hv0
  have x0 := B4.out.cells.1
  obtain ⟨y0, f0⟩ := B4.out.ans
  clear c0 ck c1 c2 c3 c4 c5 cr ca cb
  have x10 := (B4.out.set_ (.slice va L.length vc)).cells.1
  go_wp2_with fail
  go_region_held3 (fun W : World => W.cell? ⟨z, 0, none⟩ = some (.slice va L.length vc)) (first | exact x0 | exact x10) (fail)
  all_goals go_wp2_with fail
  have c9 := (B4.out.set_ (.slice va L.length vc)).b2.cell' (i := 0) (v := .slice va L.length vc) rfl
  have hk9 := kept_cell W (z + 1 + 1) (.slice va L.length vc)
  obtain ⟨hp9, hq9⟩ := (D4.out.store (x := z + 1 + 1) (by have := HZ.out.1; omega) HZ.out.2 hk9.drew).fin
  exact bodyPost_ret (v := .tuple #[.pointer (some ⟨g, 0, none⟩), .agg #[.slice va L.length vc], .bool true]) (by simp [results, Tryz.results10, go_sem, c9]) rfl ⟨_, rfl, hp9, hq9⟩
end Go.Proofs.YtlafodnaifghcaaGreat.Tr
namespace Go.Proofs.YtlafodnaifghcaaGreat.Tr
open Go.RowKit Go.Sort Go.Proofs.YtlafodnaifghcaaGreat.St Go.Proofs.YtlafodnaifghcaaGreat Go.Proofs.YtlafodnaifghcaaGreat.Gl
attribute [local go_sem] Oper.semAt_some
set_option maxRecDepth 100000 in
set_option maxHeartbeats 8000000 in
theorem does1_any {X : Nat → Prop} {w0 w : World} {g : Nat} {L : List Nd} {v rv : Value} {Y : Nat → Prop} (h : PT X w0 w g L L v Y) (hlen : L.length ≤ 600000) (hI : ∀ n ∈ L, n.id.Is) (i ref : ID) (s : ByteArray) (a b : Int) (hs : s.size ≤ 100000) :
    Calls Tryz.prog 10 #[.pointer (some ⟨g, 0, none⟩), .agg #[v], .agg #[.int .i64 1, .int .i64 i.t, .int .i64 i.s, .int .i64 ref.t, .int .i64 ref.s, .string s, rv, .int .i64 a, .int .i64 b]] w fun e w' =>
      ∃ u, e = .returned (.tuple #[.pointer (some ⟨g, 0, none⟩), .agg #[u], .bool true]) ∧ PT X w0 w' g (insL L i ref s.size (badB s) (runesL s 0)) (insL L i ref s.size (badB s) (runesL s 0)) u (grown Y w w') ∧ Kept (chg X Y) w w' := by
  obtain ⟨it, is⟩ := i
  obtain ⟨rt, rs⟩ := ref
  show Calls _ _ #[_, _, .agg #[.int .i64 1, .int .i64 it, .int .i64 is, .int .i64 rt, .int .i64 rs, .string s, rv, .int .i64 a, .int .i64 b]] _ _
  have hI' := Lib.hid hI
  obtain ⟨M, hM⟩ : ∃ M, insL L ⟨it, is⟩ ⟨rt, rs⟩ s.size (badB s) (runesL s 0) = M := ⟨_, rfl⟩
  rw [hM]
  obtain ⟨hb, hk0⟩ := DB.made w v (.int .i64 1) (.int .i64 it) (.int .i64 is) (.int .i64 rt) (.int .i64 rs) (.string s) rv (.int .i64 a) (.int .i64 b) (.slice none 0 0)
  go_enter Tryz.func10, Tryz.ntmps10
  go_upto_region 1 with fail
  obtain ⟨z, hz⟩ : ∃ z, w.heap.size = z := ⟨_, rfl⟩
  obtain ⟨W, hW⟩ : ∃ W, ((w.alloc (.cells #[v] 33)).alloc (.cells #[.int .i64 1, .int .i64 it, .int .i64 is, .int .i64 rt, .int .i64 rs, .string s, rv, .int .i64 a, .int .i64 b] 40)).alloc (.cells #[.slice none 0 0] 33) = W := ⟨_, rfl⟩
  rw [hW, hz] at hb
  rw [hW] at hk0
  rw [hz, hW]
  have HZ : Hid (w.heap.size = z ∧ z + 1 + 1 < W.heap.size) := Lib.hid ⟨hz, hb.b2.lt⟩
  have D0 := Lib.hid (h.dt hk0)
  have B0 := Lib.hid hb
  have K0 := Lib.hid hk0
  obtain ⟨c0, ck, c1, c2, c3, c4, c5, cr, ca, cb⟩ := hb.cells
  clear hW hz hb hk0
  obtain ⟨E, hE⟩ : ∃ E, insE L ⟨it, is⟩ ⟨rt, rs⟩ s.size (badB s) (runesL s 0) = E := ⟨_, rfl⟩
  have hcs := countR_le s
  have INS := Lib.hid (D0.out.pt.ins ⟨it, is⟩ ⟨rt, rs⟩ s (by unfold maxLen; omega) (by omega))
  rw [hE, hM] at INS
  have RIN := Lib.hid (fun (W1 : World) (h1 : PT X w0 W1 g M L v (grown Y W W1)) => h1.rins (by omega) hI ⟨it, is⟩ ⟨rt, rs⟩ s hs)
  rw [hE, hM] at RIN
  clear h hI hE hM hcs
  go_upto_region 4 with (go_at_call 19; refine INS.out.mono ?_; rintro e w2 ⟨rfl, hp, hk⟩; have D2 := Lib.hid (D0.out.op hp hk); have B2 := Lib.hid (B0.out.op D0.out hk HZ.out.1 HZ.out.2); (obtain ⟨d0, dk, d1, d2, d3, d4, d5, dr, da, db⟩ := B2.out.cells); clear hp hk)
  clear c0 ck c1 c2 c3 c4 c5 cr ca cb
  go_upto_region 5 with (go_at_call 31; refine (RIN.out _ D2.out.pt).mono ?_; rintro e w3 ⟨u, rfl, hp, hk3⟩; (obtain ⟨ua, uc, rfl, _, _⟩ := hp.row.sl); have D3 := Lib.hid (D2.out.next hp hk3); have B3 := Lib.hid (B2.out.still hk3); clear hp)
  clear d0 dk d1 d2 d3 d4 d5 dr da db
  have kx : Kept (fun _ => False) w3 (w3.alloc (.cells #[.slice ua M.length uc] 33)) := (Kept.refl _ _).alloc _
  have bx := Blk.new w3 33 #[.slice ua M.length uc]
  have hzx1 : z + 1 + 1 < w3.heap.size := B3.out.b2.lt
  obtain ⟨w4, hw4⟩ : ∃ w4, w3.alloc (.cells #[.slice ua M.length uc] 33) = w4 := ⟨_, rfl⟩
  obtain ⟨zx, hzx⟩ : ∃ zx, w3.heap.size = zx := ⟨_, rfl⟩
  rw [hw4] at kx bx ⊢
  rw [hzx] at bx hzx1 ⊢
  have DX := Lib.hid (D3.out.still kx)
  have BX := Lib.hid (B3.out.still kx)
  have hne : ¬ zx = z + 1 + 1 := by omega
  have x0 := bx.cell' (i := 0) (v := .slice ua M.length uc) rfl
  have x1 := ((kept_cell w4 (z + 1 + 1) (.slice ua M.length uc)).blk hne bx).cell' (i := 0) (v := .slice ua M.length uc) rfl
  obtain ⟨y0, f0⟩ := BX.out.ans
  clear kx bx hw4 hzx hzx1 hne
  go_wp2_with fail
  go_region_held3 (fun W : World => W.cell? ⟨zx, 0, none⟩ = some (.slice ua M.length uc)) (first | exact x0 | exact x1) (fail)
  all_goals go_wp2_with fail
  have c9 := (BX.out.set_ (.slice ua M.length uc)).b2.cell' (i := 0) (v := .slice ua M.length uc) rfl
  have hk9 := kept_cell w4 (z + 1 + 1) (.slice ua M.length uc)
  obtain ⟨hp9, hq9⟩ := (DX.out.store (x := z + 1 + 1) (by have := HZ.out.1; omega) HZ.out.2 hk9.drew).fin
  exact bodyPost_ret (v := .tuple #[.pointer (some ⟨g, 0, none⟩), .agg #[.slice ua M.length uc], .bool true]) (by simp [results, Tryz.results10, go_sem, c9]) rfl ⟨_, rfl, hp9, hq9⟩
end Go.Proofs.YtlafodnaifghcaaGreat.Tr
