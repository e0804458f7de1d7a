/- A script's steps as an argument, opened. hearsaylaw13.CausalOwn returns true at every number and every script of steps, and what there was reads as before. -/
import Derived.Test.YtaaeomapbigfgaaW23
import Derived.Deep.Slices
import Derived.Deep.Fields
import Derived.ChangeSame
import Derived.Lib.SmallJoins
import Derived.OpenShut
import Derived.Test.YtaaeomapbigfgaaW39
import Derived.Test.YtaaeomapbigfgaaRows
import Derived.WalkKit
import Derived.ProofKit
import Derived.ShutString
import Derived.ChangeOld
import Derived.Below
namespace Go.Proofs.Ytaaeomapbigfgaa
open Go.RowKit Go.Proofs.Ytaaeomapbigfgaa.St
section
open Go.ChangeShapes Go.WideShapes Go.Deep
variable {H : Type} {enc : TypeId × Value → H} {w : World} {base b0 : Nat} {spare : Nat → Bool} {held : Bool} {P : Program}
theorem list_of_all {α : Type} : ∀ (n : Nat) (P : Nat → α → Prop), (∀ i, i < n → ∃ s, P i s) → ∃ L : List α, L.length = n ∧ ∀ (i : Nat) (s : α), L[i]? = some s → P i s
  | 0, _, _ => ⟨[], rfl, fun i s hs => by simp at hs⟩
  | n + 1, P, h => by
    obtain ⟨L, hL, hP⟩ := list_of_all n P (fun i hi => h i (by omega))
    obtain ⟨s, hs⟩ := h n (by omega)
    refine ⟨L ++ [s], by simp [hL], fun i t ht => ?_⟩
    by_cases hi : i < L.length
    · rw [List.getElem?_append_left hi] at ht; exact hP i t ht
    · rw [List.getElem?_append_right (by omega)] at ht
      have : i - L.length = 0 := by have := (List.getElem?_eq_some_iff.1 ht).1; simp at this; omega
      rw [this] at ht
      simp at ht
      subst ht
      have : i = n := by omega
      subst this
      exact hs
theorem open_rows {α : Type} (E : Enc α) {Q : α → Prop} {t e : TypeId} (ht : P.underlying t = some (.slice e)) (hC : P.cellsOf e = E.k)
    (hel : ∀ n cs d, DataW.trod enc P w base spare held n e cs = some d → ∃ x, cs = E.enc x ∧ Q x) {r : Reach} {v : Value} {d : DataW H} {ps : List MemPlace} (hv : Value.okWide P w r b0 t v)
    (h : DataW.Trod enc P w base spare held t v d ps) : ∃ L, SlAt E w v L ∧ ∀ x ∈ L, Q x := by
  obtain ⟨a, len, cap, rfl⟩ := okWide_slice ht hv
  obtain ⟨fuel, hf⟩ := h
  rcases open_slice ht hf with ⟨hcs, _⟩ | ⟨x, l, c, m, n, D, Pl, hcs, _, hl, hm, hmm, _, hi⟩
  · simp [Value.cells] at hcs
    obtain ⟨rfl, rfl, rfl⟩ := hcs
    exact ⟨[], .inl ⟨rfl, rfl⟩, fun x hx => by simp at hx⟩
  · simp [Value.cells] at hcs
    obtain ⟨rfl, rfl, rfl⟩ := hcs
    have hml : len ≤ m := by rw [hmm]; split <;> omega
    have hall : ∀ i, i < len → ∃ y : α, Q y ∧ ∀ (j : Nat) (u : Value), (E.enc y)[j]? = some u → w.cell? (x.add (i * E.k + j)) = some u := by
      intro i hil
      obtain ⟨cs, hc, hd⟩ := hi i (by omega)
      obtain ⟨y, rfl, hq⟩ := hel _ _ _ hd
      obtain ⟨_, _, hat⟩ := World.cells?_some hc
      refine ⟨y, hq, fun j u hu => ?_⟩
      have hj : j < P.cellsOf e := by rw [hC, ← E.len y]; exact (List.getElem?_eq_some_iff.1 hu).1
      have := hat j hj
      rw [Go.Deep.add_add, hC] at this
      rw [this, hu]
    obtain ⟨L, hL, hS⟩ := list_of_all len _ hall
    subst hL
    have hsp : L ≠ [] → x.spot = none := fun hne => by
      obtain ⟨y, r, rfl⟩ : ∃ y r, L = y :: r := by cases L with | nil => exact absurd rfl hne | cons y r => exact ⟨y, r, rfl⟩
      obtain ⟨_, h0⟩ := hS 0 y rfl
      have hlt : 0 < (E.enc y).length := by rw [E.len]; exact E.pos
      have := h0 0 _ (List.getElem?_eq_getElem hlt)
      rw [Nat.zero_mul, Nat.zero_add, Addr.add_zero'] at this
      exact World.cell?_spot this
    refine ⟨L, .inr ⟨x, cap, rfl, hl, hm, hsp, fun i y hy j u hu => ?_⟩, fun y hy => ?_⟩
    · have h1 := (hS i y hy).2 j u hu
      have hs := hsp (by rintro rfl; simp at hy)
      obtain ⟨g, o, s⟩ := x
      obtain rfl : s = none := hs
      rw [Addr.add_lit] at h1
      exact h1
    · obtain ⟨i, hi⟩ := List.getElem?_of_mem hy
      exact (hS i y hi).1
theorem open_part {α : Type} (E : Enc α) {Q : α → Prop} {t e : TypeId} (ht : P.underlying t = some (.slice e)) (hC : P.cellsOf e = E.k)
    (hel : ∀ n cs d, DataW.trod enc P w base spare held n e cs = some d → ∃ x, cs = E.enc x ∧ Q x) {n : Nat} {cs : List Value} {d : DataW H × List MemPlace}
    (h : DataW.trod enc P w base spare held n t cs = some d) : ∃ a len cap L, cs = [.slice a len cap] ∧ SlAt E w (.slice a len cap) L ∧ ∀ x ∈ L, Q x := by
  rcases open_slice ht h with ⟨rfl, _⟩ | ⟨x, len, cap, m, n, D, Pl, rfl, _, hl, hm, hmm, _, hi⟩
  · exact ⟨none, 0, 0, [], rfl, .inl ⟨rfl, rfl⟩, fun x hx => by simp at hx⟩
  · have hml : len ≤ m := by rw [hmm]; split <;> omega
    have hall : ∀ i, i < len → ∃ y : α, Q y ∧ ∀ (j : Nat) (u : Value), (E.enc y)[j]? = some u → w.cell? (x.add (i * E.k + j)) = some u := by
      intro i hil
      obtain ⟨cs, hc, hd⟩ := hi i (by omega)
      obtain ⟨y, rfl, hq⟩ := hel _ _ _ hd
      obtain ⟨_, _, hat⟩ := World.cells?_some hc
      refine ⟨y, hq, fun j u hu => ?_⟩
      have hj : j < P.cellsOf e := by rw [hC, ← E.len y]; exact (List.getElem?_eq_some_iff.1 hu).1
      have := hat j hj
      rw [Go.Deep.add_add, hC] at this
      rw [this, hu]
    obtain ⟨L, hL, hS⟩ := list_of_all len _ hall
    subst hL
    have hsp : L ≠ [] → x.spot = none := fun hne => by
      obtain ⟨y, r, rfl⟩ : ∃ y r, L = y :: r := by cases L with | nil => exact absurd rfl hne | cons y r => exact ⟨y, r, rfl⟩
      obtain ⟨_, h0⟩ := hS 0 y rfl
      have hlt : 0 < (E.enc y).length := by rw [E.len]; exact E.pos
      have := h0 0 _ (List.getElem?_eq_getElem hlt)
      rw [Nat.zero_mul, Nat.zero_add, Addr.add_zero'] at this
      exact World.cell?_spot this
    refine ⟨some x, L.length, cap, L, rfl, .inr ⟨x, cap, rfl, hl, hm, hsp, fun i y hy j u hu => ?_⟩, fun y hy => ?_⟩
    · have h1 := (hS i y hy).2 j u hu
      have hs := hsp (by rintro rfl; simp at hy)
      obtain ⟨g, o, s⟩ := x
      obtain rfl : s = none := hs
      rw [Addr.add_lit] at h1
      exact h1
    · obtain ⟨i, hi⟩ := List.getElem?_of_mem hy
      exact (hS i y hi).1
end
section
open Go.ChangeShapes Go.WideShapes Go.Deep
variable {H : Type} {enc : TypeId × Value → H} {w : World} {base b0 : Nat} {spare : Nat → Bool} {held : Bool}
theorem fields_dot2 : ∃ f0 f1 : Field, Try.prog.underlying 27 = some (.struct #[f0, f1]) ∧ f0.offset = 0 ∧ f1.offset = 1 ∧ f0.type = 3 ∧ f1.type = 3 :=
  ⟨_, _, Try.underlying27, rfl, rfl, rfl, rfl⟩
theorem fields_id2 : ∃ f0 f1 : Field, Try.prog.underlying 31 = some (.struct #[f0, f1]) ∧ f0.offset = 0 ∧ f1.offset = 1 ∧ f0.type = 3 ∧ f1.type = 3 :=
  ⟨_, _, Try.underlying31, rfl, rfl, rfl, rfl⟩
theorem fields_run2 : ∃ f0 f1 : Field, Try.prog.underlying 55 = some (.struct #[f0, f1]) ∧ f0.offset = 0 ∧ f1.offset = 2 ∧ f0.type = 31 ∧ f1.type = 3 :=
  ⟨_, _, Try.underlying55, rfl, rfl, rfl, rfl⟩
theorem fields_op2 : ∃ f0 f1 f2 f3 f4 f5 f6 f7 : Field, Try.prog.underlying 34 = some (.struct #[f0, f1, f2, f3, f4, f5, f6, f7]) ∧ (f0.offset = 0 ∧ f1.offset = 2 ∧ f2.offset = 3 ∧ f3.offset = 4 ∧ f4.offset = 6 ∧ f5.offset = 8 ∧ f6.offset = 9 ∧ f7.offset = 10) ∧
    f0.type = 27 ∧ f1.type = 29 ∧ f2.type = 3 ∧ f3.type = 31 ∧ f4.type = 31 ∧ f5.type = 9 ∧ f6.type = 32 ∧ f7.type = 3 :=
  ⟨_, _, _, _, _, _, _, _, Try.underlying34, ⟨rfl, rfl, rfl, rfl, rfl, rfl, rfl, rfl⟩, rfl, rfl, rfl, rfl, rfl, rfl, rfl, rfl⟩
theorem fields_step2 : ∃ f0 f1 f2 : Field, Try.prog.underlying 50 = some (.struct #[f0, f1, f2]) ∧ f0.offset = 0 ∧ f1.offset = 11 ∧ f2.offset = 12 ∧ f0.type = 34 ∧ f1.type = 4 ∧ f2.type = 3 :=
  ⟨_, _, _, Try.underlying50, rfl, rfl, rfl, rfl, rfl, rfl⟩
theorem cells_int : Try.prog.cellsOf 3 = 1 := by kernel_rfl
theorem cells_bool : Try.prog.cellsOf 4 = 1 := by kernel_rfl
theorem cells_string : Try.prog.cellsOf 9 = 1 := by kernel_rfl
theorem cells_id : Try.prog.cellsOf 31 = 2 := by kernel_rfl
theorem cells_dot : Try.prog.cellsOf 27 = 2 := by kernel_rfl
theorem cells_run : Try.prog.cellsOf 55 = 3 := by kernel_rfl
theorem cells_op : Try.prog.cellsOf 34 = 11 := by kernel_rfl
theorem cells_vec : Try.prog.cellsOf 29 = 1 := by kernel_rfl
theorem cells_runs : Try.prog.cellsOf 32 = 1 := by kernel_rfl
theorem cells_step : Try.prog.cellsOf 50 = 13 := by kernel_rfl
set_option maxRecDepth 100000 in
theorem elem_dot2 (n : Nat) (cs : List Value) (d : DataW H × List MemPlace) (h : DataW.trod enc Try.prog w base spare held n 27 cs = some d) : ∃ x : Dot, cs = dotE.enc x ∧ I64 x.site ∧ I64 x.seq := by
  obtain ⟨f0, f1, hs, o0, o1, e0, e1⟩ := fields_dot2
  obtain ⟨ys, n', _, _, hlen, hyl, hg⟩ := DataW.trod_struct hs h
  rw [cells_dot] at hlen
  match cs, hlen with
  | [c0, c1], _ =>
    match ys, hyl with
    | [y0, y1], _ =>
      have g0 := hg 0 f0 rfl
      have g1 := hg 1 f1 rfl
      rw [o0, e0, cells_int] at g0
      rw [o1, e1, cells_int] at g1
      obtain ⟨n0, z0, _, w0⟩ := DataW.trod_int Try.underlying3 g0
      obtain ⟨n1, z1, _, w1⟩ := DataW.trod_int Try.underlying3 g1
      simp at z0 z1
      subst z0 z1
      exact ⟨⟨n0, n1⟩, rfl, bounds_i64 w0, bounds_i64 w1⟩
set_option maxRecDepth 100000 in
theorem elem_id2 (n : Nat) (cs : List Value) (d : DataW H × List MemPlace) (h : DataW.trod enc Try.prog w base spare held n 31 cs = some d) : ∃ x : ID, cs = idE.enc x ∧ I64 x.t ∧ I64 x.s := by
  obtain ⟨f0, f1, hs, o0, o1, e0, e1⟩ := fields_id2
  obtain ⟨ys, n', _, _, hlen, hyl, hg⟩ := DataW.trod_struct hs h
  rw [cells_id] at hlen
  match cs, hlen with
  | [c0, c1], _ =>
    match ys, hyl with
    | [y0, y1], _ =>
      have g0 := hg 0 f0 rfl
      have g1 := hg 1 f1 rfl
      rw [o0, e0, cells_int] at g0
      rw [o1, e1, cells_int] at g1
      obtain ⟨n0, z0, _, w0⟩ := DataW.trod_int Try.underlying3 g0
      obtain ⟨n1, z1, _, w1⟩ := DataW.trod_int Try.underlying3 g1
      simp at z0 z1
      subst z0 z1
      exact ⟨⟨n0, n1⟩, rfl, bounds_i64 w0, bounds_i64 w1⟩
set_option maxRecDepth 100000 in
theorem elem_run2 (n : Nat) (cs : List Value) (d : DataW H × List MemPlace) (h : DataW.trod enc Try.prog w base spare held n 55 cs = some d) : ∃ x : Run, cs = runE.enc x ∧ x.In := by
  obtain ⟨f0, f1, hs, o0, o1, e0, e1⟩ := fields_run2
  obtain ⟨ys, n', _, _, hlen, hyl, hg⟩ := DataW.trod_struct hs h
  rw [cells_run] at hlen
  match cs, hlen with
  | [c0, c1, c2], _ =>
    match ys, hyl with
    | [y0, y1], _ =>
      have g0 := hg 0 f0 rfl
      have g1 := hg 1 f1 rfl
      rw [o0, e0, cells_id] at g0
      rw [o1, e1, cells_int] at g1
      obtain ⟨x, hx, hi⟩ := elem_id2 _ _ _ g0
      obtain ⟨n1, z1, _, w1⟩ := DataW.trod_int Try.underlying3 g1
      simp at z1
      subst z1
      simp [idE] at hx
      obtain ⟨rfl, rfl⟩ := hx
      exact ⟨⟨x, n1⟩, rfl, hi.1, hi.2, bounds_i64 w1⟩
/-- what there is to know of an operation that was given -/
structure OpIn (w : World) (e : Ent) : Prop where
  at_ : e.At w
  runs : ∀ r ∈ e.G, r.In
  text : e.v.text.size ≤ maxLen
  dots : ∀ d ∈ e.D, I64 d.site ∧ I64 d.seq
  nums : I64 e.v.dot.site ∧ I64 e.v.dot.seq ∧ I64 e.v.kind ∧ I64 e.v.site
  ids : (I64 e.v.id.t ∧ I64 e.v.id.s) ∧ I64 e.v.ref.t ∧ I64 e.v.ref.s
set_option maxRecDepth 100000 in
theorem elem_op2 (n : Nat) (cs : List Value) (d : DataW H × List MemPlace) (h : DataW.trod enc Try.prog w base spare held n 34 cs = some d) : ∃ e : Ent, cs = entE.enc e ∧ OpIn w e := by
  obtain ⟨f0, f1, f2, f3, f4, f5, f6, f7, hs, ⟨o0, o1, o2, o3, o4, o5, o6, o7⟩, e0, e1, e2, e3, e4, e5, e6, e7⟩ := fields_op2
  obtain ⟨ys, n', _, _, hlen, hyl, hg⟩ := DataW.trod_struct hs h
  rw [cells_op] at hlen
  match cs, hlen with
  | [c0, c1, c2, c3, c4, c5, c6, c7, c8, c9, c10], _ =>
    match ys, hyl with
    | [y0, y1, y2, y3, y4, y5, y6, y7], _ =>
      have g0 := hg 0 f0 rfl
      have g1 := hg 1 f1 rfl
      have g2 := hg 2 f2 rfl
      have g3 := hg 3 f3 rfl
      have g4 := hg 4 f4 rfl
      have g5 := hg 5 f5 rfl
      have g6 := hg 6 f6 rfl
      have g7 := hg 7 f7 rfl
      rw [o0, e0, cells_dot] at g0
      rw [o1, e1, cells_vec] at g1
      rw [o2, e2, cells_int] at g2
      rw [o3, e3, cells_id] at g3
      rw [o4, e4, cells_id] at g4
      rw [o5, e5, cells_string] at g5
      rw [o6, e6, cells_runs] at g6
      rw [o7, e7, cells_int] at g7
      obtain ⟨x0, z0, hx0⟩ := elem_dot2 _ _ _ g0
      obtain ⟨a1, l1, k1, L1, z1, hs1, hx1⟩ := open_part dotE Try.underlying29 cells_dot elem_dot2 g1
      obtain ⟨n2, z2, _, w2⟩ := DataW.trod_int Try.underlying3 g2
      obtain ⟨x3, z3, hx3⟩ := elem_id2 _ _ _ g3
      obtain ⟨x4, z4, hx4⟩ := elem_id2 _ _ _ g4
      obtain ⟨s5, z5, _, w5⟩ := DataW.trod_string Try.underlying9 g5
      obtain ⟨a6, l6, k6, L6, z6, hs6, hx6⟩ := open_part runE Try.underlying32 cells_run elem_run2 g6
      obtain ⟨n7, z7, _, w7⟩ := DataW.trod_int Try.underlying3 g7
      simp [dotE] at z0
      simp at z1 z2 z5 z6 z7
      simp [idE] at z3 z4
      obtain ⟨rfl, rfl⟩ := z0
      obtain ⟨rfl, rfl⟩ := z3
      obtain ⟨rfl, rfl⟩ := z4
      subst z1 z2 z5 z6 z7
      exact ⟨⟨⟨x0, ⟨a1, l1, k1⟩, n2, x3, x4, s5, ⟨a6, l6, k6⟩, n7⟩, L1, L6⟩, rfl, ⟨⟨hs1, hs6⟩, hx6, w5, hx1, ⟨hx0.1, hx0.2, bounds_i64 w2, bounds_i64 w7⟩, hx3, hx4⟩⟩
set_option maxRecDepth 100000 in
theorem elem_step2 (n : Nat) (cs : List Value) (d : DataW H × List MemPlace) (h : DataW.trod enc Try.prog w base spare held n 50 cs = some d) : ∃ s : StV, cs = stE.enc s ∧ OpIn w s.e ∧ I64 s.tk := by
  obtain ⟨f0, f1, f2, hs, o0, o1, o2, e0, e1, e2⟩ := fields_step2
  obtain ⟨ys, n', _, _, hlen, hyl, hg⟩ := DataW.trod_struct hs h
  rw [cells_step] at hlen
  match cs, hlen with
  | [c0, c1, c2, c3, c4, c5, c6, c7, c8, c9, c10, c11, c12], _ =>
    match ys, hyl with
    | [y0, y1, y2], _ =>
      have g0 := hg 0 f0 rfl
      have g1 := hg 1 f1 rfl
      have g2 := hg 2 f2 rfl
      rw [o0, e0, cells_op] at g0
      rw [o1, e1, cells_bool] at g1
      rw [o2, e2, cells_int] at g2
      obtain ⟨x0, z0, hx0⟩ := elem_op2 _ _ _ g0
      obtain ⟨b1, z1, _⟩ := DataW.trod_bool Try.underlying4 g1
      obtain ⟨n2, z2, _, w2⟩ := DataW.trod_int Try.underlying3 g2
      simp at z1 z2
      subst z1 z2
      refine ⟨⟨x0, b1, n2⟩, ?_, hx0, bounds_i64 w2⟩
      show _ = x0.v.cells ++ [.bool b1, .int .i64 n2]
      have z0' : [c0, c1, c2, c3, c4, c5, c6, c7, c8, c9, c10] = x0.v.cells := z0
      rw [← z0']
      rfl
set_option maxRecDepth 100000 in
theorem open_steps {r : Reach} {v : Value} {d : DataW H} {ps : List MemPlace} (hv : Value.okWide Try.prog w r b0 47 v)
    (h : DataW.Trod enc Try.prog w base spare held 47 v d ps) : ∃ L, SlAt stE w v L ∧ ∀ s ∈ L, OpIn w s.e ∧ I64 s.tk :=
  open_rows stE Try.underlying47 cells_step elem_step2 hv h
end
end Go.Proofs.Ytaaeomapbigfgaa
namespace Go.Proofs.Ytaaeomapbigfgaa
open Go.RowKit Go.Proofs.Ytaaeomapbigfgaa.St
namespace causalOwn
set_option maxRecDepth 100000 in
set_option maxHeartbeats 4000000 in
/-- a script that is more than is looked at -/
theorem over_much {w : World} {hold : Int} {lv : Value} {L : List StV} (hL : SlAt stE w lv L) (hM : muchP L) : Calls Try.prog 4 #[.int .i64 hold, lv] w (Post w) := by
  have HMU := Lib.hid (much_any hL)
  rw [decide_eq_true hM] at HMU
  obtain ⟨la, lc, rfl, _, _⟩ := hL.sl
  clear hL hM
  go_enter Try.func4, Try.ntmps4
  go_wp2_with (first
    | (go_at_call 13; refine HMU.out.mono ?_; rintro r w0 ⟨rfl, hk0⟩)
    | (go_at_call 5; refine (known_any _).mono ?_; rintro r w1 ⟨rfl, hk1⟩))
  go_ret
  exact ⟨rfl, hk0.trans hk1 (fun _ _ h => h)⟩
set_option maxRecDepth 100000 in
set_option maxHeartbeats 4000000 in
/-- a number for which there is no Queue -/
theorem no_queue {w : World} {hold : Int} {lv : Value} {L : List StV} (hL : SlAt stE w lv L) (hM : ¬ muchP L) (hh : newC hold [] ≠ 0) : Calls Try.prog 4 #[.int .i64 hold, lv] w (Post w) := by
  have HMU := Lib.hid (much_any hL)
  rw [decide_eq_false hM] at HMU
  obtain ⟨la, lc, rfl, _, _⟩ := hL.sl
  have HN := Lib.hid (fun (w' : World) => (new_any (w := w') (hold := hold) (SlAt.nil w') (by simp)).mono (R' := fun r w'' => r = .returned (.tuple #[.pointer none, .int .i64 (newC hold [])]) ∧ Kept (fun _ => False) w' w'') (fun r w'' h => by
    rcases h with ⟨hk, ⟨_, h1⟩ | ⟨h0, _⟩⟩
    · exact ⟨h1, hk⟩
    · exact absurd h0 hh))
  generalize newC hold [] = c at *
  clear hL hM
  go_enter Try.func4, Try.ntmps4
  go_upto_region 3 with (go_at_call 13; refine HMU.out.mono ?_; rintro r w0 ⟨rfl, hk0⟩)
  go_upto_region 4 with (go_at_call 7; refine (HN.out w0).mono ?_; rintro r w1 ⟨rfl, hk1⟩)
  go_wp2_with (first
    | (go_at_call 5; refine (known_any _).mono ?_; rintro r w3 ⟨rfl, hk3⟩)
    | (go_at_call 7; refine (HN.out w1).mono ?_; rintro r w2 ⟨rfl, hk2⟩))
  go_ret
  exact ⟨rfl, ((hk0.trans hk1 (fun _ _ h => h)).trans hk2 (fun _ _ h => h)).trans hk3 (fun _ _ h => h)⟩
theorem walk (a0 : Int) (v1 : Value) (z1 : List StV) (_w0 : (Lit.int .i64 a0).wf = true) {w1 : World} (h1 : SlAt stE w1 v1 z1 ∧ ∀ s ∈ z1, OpIn w1 s.e ∧ I64 s.tk) (w : World) (hw : w = w1 := by first | assumption | rfl) :
    Calls Try.prog 4 #[.int .i64 a0, v1] w fun e w' => e = .returned (.bool true) ∧ Below w.heap.size w w' := by
  subst hw
  have hp : Calls Try.prog 4 #[.int .i64 a0, v1] w (Post w) := by
    by_cases hm : muchP z1
    · exact over_much h1.1 hm
    by_cases hh : newC a0 [] = 0
    · exact small h1.1 (fun s hs => ⟨(h1.2 s hs).1.at_, (h1.2 s hs).1.runs, (h1.2 s hs).1.text, fun hb => hm (.inr ⟨s, hs, hb⟩)⟩) (Nat.le_of_not_lt fun h => hm (.inl h)) hh
    · exact no_queue h1.1 hm hh
  exact hp.mono fun e w' ⟨he, hk⟩ => ⟨he, hk.below (Nat.le_refl _) (fun _ _ h => h)⟩
end causalOwn

namespace causalOwn
open Go.ChangeShapes Go.WideShapes Go.ChangeAt Go.RowKit
open Go.ChangeMaps (open_string shut_string)
theorem own : ownKnob Try.prog.godebug = none := by kernel_rfl
theorem laidOut : laidOutB Try.prog = true := by kernel_rfl
set_option maxRecDepth 100000 in
theorem lifted (os : Os) (started : os.Started) (H : Type) (enc : TypeId × Value → H) :
    ReturnsInHanded {} Try.checked os 4 .any (Rows.causalOwnSpec.pre6 enc Try.prog Try.f4 Rows.causalOwnRow.domain false) (Rows.causalOwnSpec.post enc Try.prog Try.f4 false true false false) := by
  refine returnsInHanded_of_change (C := Try.checked) own started (by kernel_rfl) Try.func4
    (ChangeSpec.witness6 (enc := enc) (C := Try.checked) false ⟨#[], #[.int .i64 0, .slice none 0 0], []⟩ 8 (by kernel_rfl) (by kernel_rfl) (by kernel_rfl) (by kernel_rfl)) ?_
  intro W base args ds gs before hval0 hW hcnd _
  have hval : ∀ (j : Nat) t v, Try.f4.params[j]? = some t → args[j]? = some v → Value.okWide Try.prog W .any base t v := hval0
  have hW' := hW
  obtain ⟨p, q, hA0, hV, rfl, hfz, hnd⟩ := hW
  have hA : DataW.TrodAll enc Try.prog W 0 (fun _ => true) true Try.f4.params.toList args.toList ds p := hA0
  rw [Try.params4] at hA hval
  obtain ⟨v0, vs0, d0, ds0, p0, q0, hargs, rfl, rfl, h0, r0⟩ := trodAll_cons hA
  obtain ⟨v1, vs1, d1, ds1, p1, q1, rfl, rfl, rfl, h1, r1⟩ := trodAll_cons r0
  obtain ⟨rfl, rfl, rfl⟩ := trodAll_nil r1
  obtain rfl : args = #[v0, v1] := by cases args; simp_all
  obtain ⟨rfl, rfl⟩ := trodVars_none hV
  obtain ⟨a0, rfl, rfl, rfl, w0⟩ := open_int Try.underlying3 (hval 0 3 v0 rfl rfl) h0
  have k1 := h1
  have lt1 : ∀ x ∈ p1, x.block < W.heap.size := by obtain ⟨m, hm⟩ := k1; exact DataW.trod_lt m _ _ _ hm
  obtain ⟨z1, w1⟩ := open_steps (hval 1 47 v1 rfl rfl) h1
  clear hA0 hval0
  refine (walk a0 v1 z1 w0 w1 W rfl).mono fun e W' ⟨he, bel⟩ => ?_
  subst he
  exact ⟨_, rfl, _, _, _, [], _, [], hW', trodAll_mk1 (shut_bool Try.underlying4 _), (trodAll_cons_mk (shut_int Try.underlying3 w0) (trodAll_cons_mk (Below.trod laidOut (by kernel_rfl) (of_decide_eq_true (by kernel_rfl)) k1 bel lt1) trodAll_mk0)), rfl, bel.frame _, fun h => by cases h⟩

theorem over : Rows.causalOwnRow.holds Try.pinned (OpenSpec.ofChange Rows.causalOwnSpec) :=
  OpenClaim.holds_of_wide 4 Try.f4 rfl rfl rfl rfl rfl rfl rfl ⟨rfl, rfl, rfl, rfl, rfl⟩ rfl rfl rfl rfl rfl (by kernel_rfl) Try.func4 (by kernel_rfl)
    (of_decide_eq_true (by kernel_rfl)) (by unfold Func.isWrapper; first | (rw [if_pos (by decide +kernel)]; kernel_rfl) | (rw [if_neg (by decide +kernel)]; exact ⟨rfl, rfl⟩))
    (fun os started H enc _ => lifted os started H enc)
theorem proved : Rows.CausalOwnSaid := over
end causalOwn


end Go.Proofs.Ytaaeomapbigfgaa
