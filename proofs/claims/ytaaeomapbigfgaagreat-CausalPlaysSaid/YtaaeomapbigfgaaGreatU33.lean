/- Steps in memory; hearsaylaw13.big and much. A script's steps as an argument, opened. -/
import Derived.Test.YtaaeomapbigfgaaGreatU6
import Derived.Test.YtaaeomapbigfgaaGreatU12
import Derived.Deep.Slices
import Derived.Deep.Fields
import Derived.ChangeSame
import Derived.Lib.SmallJoins
import Derived.OpenShut
namespace Go.Proofs.YtaaeomapbigfgaaGreat
open Go.RowKit Go.Proofs.YtaaeomapbigfgaaGreat.St
/-- a step of a script -/
structure StV where
  e : Ent
  no : Bool
  tk : Int
def stE : Enc StV := ⟨13, fun s => s.e.v.cells ++ [.bool s.no, .int .i64 s.tk], fun _ => rfl, by decide, fun s u hu => by
  rcases List.mem_append.1 hu with h | h
  · exact entE.one s.e u h
  · rcases List.mem_cons.1 h with rfl | h
    · rfl
    · rw [List.mem_singleton.1 h]; rfl⟩
def bigP (x : OpV) : Prop := 3000 < x.deps.n ∨ 3000 < x.gone.n ∨ 3000 < x.text.size
instance (x : OpV) : Decidable (bigP x) := by unfold bigP; infer_instance
def muchP (L : List StV) : Prop := 300 < L.length ∨ ∃ s ∈ L, bigP s.e.v
instance (L : List StV) : Decidable (muchP L) := by unfold muchP; infer_instance
set_option maxRecDepth 100000 in
set_option maxHeartbeats 2000000 in
theorem big_any {w : World} (x : OpV) : Calls Tryz.prog 25 #[.agg (opA x)] w fun r w' => r = .returned (.bool (decide (bigP x))) ∧ Kept (fun _ => False) w w' := by
  have hB := Blk.new w 42 (opA x)
  have k0 : Kept (fun _ => False) w (w.alloc (.cells (opA x) 42)) := (Kept.refl _ _).alloc _
  have b2 : (w.alloc (.cells (opA x) 42)).cell? ⟨w.heap.size, 2, none⟩ = some (.slice x.deps.a x.deps.n x.deps.c) := hB.cell' (i := 2) rfl
  have b8 : (w.alloc (.cells (opA x) 42)).cell? ⟨w.heap.size, 8, none⟩ = some (.string x.text) := hB.cell' (i := 8) rfl
  have b9 : (w.alloc (.cells (opA x) 42)).cell? ⟨w.heap.size, 9, none⟩ = some (.slice x.gone.a x.gone.n x.gone.c) := hB.cell' (i := 9) rfl
  clear hB
  by_cases h1 : 3000 < x.deps.n
  · have ANS := Lib.hid (show decide (bigP x) = true from decide_eq_true (.inl h1))
    have e1 : (3000 : Int) < x.deps.n := by omega
    clear h1
    go_enter Tryz.func25, Tryz.ntmps25
    go_wp2_with fail
    go_ret
    exact ⟨by rw [ANS.out]; rfl, k0⟩
  have e1 : ¬ (3000 : Int) < x.deps.n := by omega
  by_cases h2 : 3000 < x.gone.n
  · have ANS := Lib.hid (show decide (bigP x) = true from decide_eq_true (.inr (.inl h2)))
    have e2 : (3000 : Int) < x.gone.n := by omega
    clear h1 h2
    go_enter Tryz.func25, Tryz.ntmps25
    go_wp2_with fail
    go_ret
    exact ⟨by rw [ANS.out]; rfl, k0⟩
  have e2 : ¬ (3000 : Int) < x.gone.n := by omega
  by_cases h3 : 3000 < x.text.size
  · have ANS := Lib.hid (show decide (bigP x) = true from decide_eq_true (.inr (.inr h3)))
    have e3 : (3000 : Int) < x.text.size := by omega
    clear h1 h2 h3
    go_enter Tryz.func25, Tryz.ntmps25
    go_wp2_with fail
    go_ret
    exact ⟨by rw [ANS.out]; rfl, k0⟩
  · have ANS := Lib.hid (show decide (bigP x) = false from decide_eq_false (fun h => by unfold bigP at h; omega))
    have e3 : ¬ (3000 : Int) < x.text.size := by omega
    clear h1 h2 h3
    go_enter Tryz.func25, Tryz.ntmps25
    go_wp2_with fail
    go_ret
    exact ⟨by rw [ANS.out]; rfl, k0⟩
/-- a struct that lies in cells one behind the other is loaded whole -/
theorem wpList_load_at {P : Program} {α : Type} {E : Enc α} {w : World} {ops : Array Oper} {rest : List Oper} {o : Oper} {a : Act} {Q : Exit → Act → World → Prop} (hgd : o.guard = none) (ty : TypeId) (x : Operand) (ho : o.op = .load ty x) {g off : Nat} {z : α} {d : TypeDesc}
    (hx : a.eval x = .pointer (some ⟨g, off, none⟩)) (hc : ∀ j u, (E.enc z)[j]? = some u → w.cell? ⟨g, off + j, none⟩ = some u) (hu : P.underlying ty = some d) (hd : (match d with | .struct _ | .array _ _ => true | _ => false) = true) (hinfo : (P.info? ty).map (·.size) = some E.k)
    (h : wpList P ops Q rest (a.put o.dst (.agg (E.enc z).toArray)) w) : wpList P ops Q (o :: rest) a w :=
  wpList_plain hgd fun _ hK => by
    unfold Oper.wp execOp
    simp only [ho, hx, Instr.loadAt, Instr.sureAddr, Sem.run_bind, Sem.run_pure, Result.andThen_ok, run_loadVar_elem (P := P) (E := E) (z := z) (g := g) (off := off) hc hu hd hinfo]
    exact hK _ _ h
/-- what a row of steps holds -/
theorem SlAt.step {w : World} {v : Value} {L : List StV} (h : SlAt stE w v L) (hn : 0 < L.length) : ∃ g o c, v = .slice (some ⟨g, o, none⟩) L.length c ∧ ∀ (i : Nat) (x : StV), L[i]? = some x →
    (∀ j u, (entE.enc x.e)[j]? = some u → w.cell? ⟨g, o + i * 13 + j, none⟩ = some u) ∧ w.cell? ⟨g, o + i * 13 + 11, none⟩ = some (.bool x.no) ∧ w.cell? ⟨g, o + i * 13 + 12, none⟩ = some (.int .i64 x.tk) := by
  obtain ⟨g, o, c, rfl, _, _, _, hc⟩ := h.one hn
  refine ⟨g, o, c, rfl, fun i x hx => ⟨fun j u hu => ?_, hc i x hx 11 _ rfl, hc i x hx 12 _ rfl⟩⟩
  have hj : j < (x.e.v.cells).length := (List.getElem?_eq_some_iff.1 hu).1
  have h2 := hc i x hx j u (by show (x.e.v.cells ++ _)[j]? = some u; rw [List.getElem?_append_left hj]; exact hu)
  rw [← Nat.add_assoc] at h2
  exact h2
set_option maxRecDepth 100000 in
set_option maxHeartbeats 2000000 in
theorem much_any {w : World} {v : Value} {L : List StV} (h : SlAt stE w v L) : Calls Tryz.prog 7 #[v] w fun r w' => r = .returned (.bool (decide (muchP L))) ∧ Kept (fun _ => False) w w' := by
  obtain ⟨a, c, rfl, _, _⟩ := h.sl
  have HL := Lib.hid h
  clear h
  by_cases h1 : 300 < L.length
  · have ANS := Lib.hid (show decide (muchP L) = true from decide_eq_true (.inl h1))
    have e1 : (300 : Int) < L.length := by omega
    clear h1
    go_enter Tryz.func7, Tryz.ntmps7
    go_wp2_with fail
    go_ret
    exact ⟨by rw [ANS.out]; rfl, Kept.refl _ _⟩
  have e1 : ¬ (300 : Int) < L.length := by omega
  go_enter Tryz.func7, Tryz.ntmps7
  go_wp2_with fail
  clear e1
  go_loopw [3] (fun iv wr => ∃ n : Nat, iv = .int .i64 n ∧ n ≤ L.length ∧ (∀ s ∈ L.take n, ¬ bigP s.e.v) ∧ Kept (fun _ => False) w wr) (fun iv _ => L.length - (intOf iv).toNat)
  case atStart => exact ⟨0, rfl, Nat.zero_le _, fun s hs => by simp at hs, Kept.refl _ _⟩
  case round =>
    obtain ⟨n, rfl, hn, hno, hk⟩ := hrel
    have NO := Lib.hid hno
    have KW := Lib.hid hk
    clear hno hk
    have hn0 : (0 : Int) ≤ n := by omega
    by_cases hlt : n < L.length
    case neg =>
      have hltI : ¬ (n : Int) < L.length := by omega
      have ANS := Lib.hid (show decide (muchP L) = false from decide_eq_false (fun h => by
        rcases h with h | ⟨s, hs, hb⟩
        · exact h1 h
        · exact NO.out s (by rw [List.take_of_length_le (by omega)]; exact hs) hb))
      go_wp2_with fail
      go_ret
      exact ⟨by rw [ANS.out]; rfl, KW.out⟩
    case pos =>
      have hltI : (n : Int) < L.length := by omega
      obtain ⟨x, hx⟩ := get_of_lt hlt
      obtain ⟨g, o, c', e2, hcs⟩ := SlAt.step (HL.out.kept KW.out) (by omega)
      injection e2 with e3 _ e4
      subst e3 e4
      have CS := Lib.hid (hcs n x hx).1
      have HX := Lib.hid hx
      have HB := Lib.hid (big_any (w := wr) x.e.v)
      clear hcs hx
      by_cases hb : bigP x.e.v
      · rw [decide_eq_true hb] at HB
        have ANS := Lib.hid (show decide (muchP L) = true from decide_eq_true (.inr ⟨x, List.mem_of_getElem? HX.out, hb⟩))
        clear hb
        go_wp2_with (first
          | (refine wpList_load_at (E := entE) (z := x.e) rfl 42 _ rfl rfl CS.out Tryz.underlying42 rfl size_op ?_)
          | (go_at_call 25; refine HB.out.mono ?_; rintro r w2 ⟨rfl, hk2⟩))
        go_ret
        exact ⟨by rw [ANS.out]; rfl, KW.out.trans hk2 (fun _ _ h => h)⟩
      · rw [decide_eq_false hb] at HB
        have NB := Lib.hid hb
        clear hb
        go_wp2_with (first
          | (refine wpList_load_at (E := entE) (z := x.e) rfl 42 _ rfl rfl CS.out Tryz.underlying42 rfl size_op ?_)
          | (go_at_call 25; refine HB.out.mono ?_; rintro r w2 ⟨rfl, hk2⟩))
        go_roundw
        case rel =>
          refine ⟨n + 1, by go_num, by omega, fun s hs => ?_, KW.out.trans hk2 (fun _ _ h => h)⟩
          rw [List.take_add_one, HX.out] at hs
          rcases List.mem_append.1 hs with hs | hs
          · exact NO.out s hs
          · obtain rfl : s = x := by simpa using hs
            exact NB.out
        case measure => simp [intOf] <;> omega
end Go.Proofs.YtaaeomapbigfgaaGreat
namespace Go.Proofs.YtaaeomapbigfgaaGreat
open Go.RowKit Go.Proofs.YtaaeomapbigfgaaGreat.St
section
open Go.ChangeShapes Go.WideShapes Go.Deep
variable {H : Type} {enc : TypeId × Value → H} {w : World} {base b0 : Nat} {spare : Nat → Bool} {held : Bool} {P : Program}
theorem list_of_all {α : Type} : ∀ (n : Nat) (P : Nat → α → Prop), (∀ i, i < n → ∃ s, P i s) → ∃ L : List α, L.length = n ∧ ∀ (i : Nat) (s : α), L[i]? = some s → P i s
  | 0, _, _ => ⟨[], rfl, fun i s hs => by simp at hs⟩
  | n + 1, P, h => by
    obtain ⟨L, hL, hP⟩ := list_of_all n P (fun i hi => h i (by omega))
    obtain ⟨s, hs⟩ := h n (by omega)
    refine ⟨L ++ [s], by simp [hL], fun i t ht => ?_⟩
    by_cases hi : i < L.length
    · rw [List.getElem?_append_left hi] at ht; exact hP i t ht
    · rw [List.getElem?_append_right (by omega)] at ht
      have : i - L.length = 0 := by have := (List.getElem?_eq_some_iff.1 ht).1; simp at this; omega
      rw [this] at ht
      simp at ht
      subst ht
      have : i = n := by omega
      subst this
      exact hs
theorem open_rows {α : Type} (E : Enc α) {Q : α → Prop} {t e : TypeId} (ht : P.underlying t = some (.slice e)) (hC : P.cellsOf e = E.k)
    (hel : ∀ n cs d, DataW.trod enc P w base spare held n e cs = some d → ∃ x, cs = E.enc x ∧ Q x) {r : Reach} {v : Value} {d : DataW H} {ps : List MemPlace} (hv : Value.okWide P w r b0 t v)
    (h : DataW.Trod enc P w base spare held t v d ps) : ∃ L, SlAt E w v L ∧ ∀ x ∈ L, Q x := by
  obtain ⟨a, len, cap, rfl⟩ := okWide_slice ht hv
  obtain ⟨fuel, hf⟩ := h
  rcases open_slice ht hf with ⟨hcs, _⟩ | ⟨x, l, c, m, n, D, Pl, hcs, _, hl, hm, hmm, _, hi⟩
  · simp [Value.cells] at hcs
    obtain ⟨rfl, rfl, rfl⟩ := hcs
    exact ⟨[], .inl ⟨rfl, rfl⟩, fun x hx => by simp at hx⟩
  · simp [Value.cells] at hcs
    obtain ⟨rfl, rfl, rfl⟩ := hcs
    have hml : len ≤ m := by rw [hmm]; split <;> omega
    have hall : ∀ i, i < len → ∃ y : α, Q y ∧ ∀ (j : Nat) (u : Value), (E.enc y)[j]? = some u → w.cell? (x.add (i * E.k + j)) = some u := by
      intro i hil
      obtain ⟨cs, hc, hd⟩ := hi i (by omega)
      obtain ⟨y, rfl, hq⟩ := hel _ _ _ hd
      obtain ⟨_, _, hat⟩ := World.cells?_some hc
      refine ⟨y, hq, fun j u hu => ?_⟩
      have hj : j < P.cellsOf e := by rw [hC, ← E.len y]; exact (List.getElem?_eq_some_iff.1 hu).1
      have := hat j hj
      rw [Go.Deep.add_add, hC] at this
      rw [this, hu]
    obtain ⟨L, hL, hS⟩ := list_of_all len _ hall
    subst hL
    have hsp : L ≠ [] → x.spot = none := fun hne => by
      obtain ⟨y, r, rfl⟩ : ∃ y r, L = y :: r := by cases L with | nil => exact absurd rfl hne | cons y r => exact ⟨y, r, rfl⟩
      obtain ⟨_, h0⟩ := hS 0 y rfl
      have hlt : 0 < (E.enc y).length := by rw [E.len]; exact E.pos
      have := h0 0 _ (List.getElem?_eq_getElem hlt)
      rw [Nat.zero_mul, Nat.zero_add, Addr.add_zero'] at this
      exact World.cell?_spot this
    refine ⟨L, .inr ⟨x, cap, rfl, hl, hm, hsp, fun i y hy j u hu => ?_⟩, fun y hy => ?_⟩
    · have h1 := (hS i y hy).2 j u hu
      have hs := hsp (by rintro rfl; simp at hy)
      obtain ⟨g, o, s⟩ := x
      obtain rfl : s = none := hs
      rw [Addr.add_lit] at h1
      exact h1
    · obtain ⟨i, hi⟩ := List.getElem?_of_mem hy
      exact (hS i y hi).1
theorem open_part {α : Type} (E : Enc α) {Q : α → Prop} {t e : TypeId} (ht : P.underlying t = some (.slice e)) (hC : P.cellsOf e = E.k)
    (hel : ∀ n cs d, DataW.trod enc P w base spare held n e cs = some d → ∃ x, cs = E.enc x ∧ Q x) {n : Nat} {cs : List Value} {d : DataW H × List MemPlace}
    (h : DataW.trod enc P w base spare held n t cs = some d) : ∃ a len cap L, cs = [.slice a len cap] ∧ SlAt E w (.slice a len cap) L ∧ ∀ x ∈ L, Q x := by
  rcases open_slice ht h with ⟨rfl, _⟩ | ⟨x, len, cap, m, n, D, Pl, rfl, _, hl, hm, hmm, _, hi⟩
  · exact ⟨none, 0, 0, [], rfl, .inl ⟨rfl, rfl⟩, fun x hx => by simp at hx⟩
  · have hml : len ≤ m := by rw [hmm]; split <;> omega
    have hall : ∀ i, i < len → ∃ y : α, Q y ∧ ∀ (j : Nat) (u : Value), (E.enc y)[j]? = some u → w.cell? (x.add (i * E.k + j)) = some u := by
      intro i hil
      obtain ⟨cs, hc, hd⟩ := hi i (by omega)
      obtain ⟨y, rfl, hq⟩ := hel _ _ _ hd
      obtain ⟨_, _, hat⟩ := World.cells?_some hc
      refine ⟨y, hq, fun j u hu => ?_⟩
      have hj : j < P.cellsOf e := by rw [hC, ← E.len y]; exact (List.getElem?_eq_some_iff.1 hu).1
      have := hat j hj
      rw [Go.Deep.add_add, hC] at this
      rw [this, hu]
    obtain ⟨L, hL, hS⟩ := list_of_all len _ hall
    subst hL
    have hsp : L ≠ [] → x.spot = none := fun hne => by
      obtain ⟨y, r, rfl⟩ : ∃ y r, L = y :: r := by cases L with | nil => exact absurd rfl hne | cons y r => exact ⟨y, r, rfl⟩
      obtain ⟨_, h0⟩ := hS 0 y rfl
      have hlt : 0 < (E.enc y).length := by rw [E.len]; exact E.pos
      have := h0 0 _ (List.getElem?_eq_getElem hlt)
      rw [Nat.zero_mul, Nat.zero_add, Addr.add_zero'] at this
      exact World.cell?_spot this
    refine ⟨some x, L.length, cap, L, rfl, .inr ⟨x, cap, rfl, hl, hm, hsp, fun i y hy j u hu => ?_⟩, fun y hy => ?_⟩
    · have h1 := (hS i y hy).2 j u hu
      have hs := hsp (by rintro rfl; simp at hy)
      obtain ⟨g, o, s⟩ := x
      obtain rfl : s = none := hs
      rw [Addr.add_lit] at h1
      exact h1
    · obtain ⟨i, hi⟩ := List.getElem?_of_mem hy
      exact (hS i y hi).1
end
section
open Go.ChangeShapes Go.WideShapes Go.Deep
variable {H : Type} {enc : TypeId × Value → H} {w : World} {base b0 : Nat} {spare : Nat → Bool} {held : Bool}
theorem fields_dot2 : ∃ f0 f1 : Field, Tryz.prog.underlying 28 = some (.struct #[f0, f1]) ∧ f0.offset = 0 ∧ f1.offset = 1 ∧ f0.type = 3 ∧ f1.type = 3 :=
  ⟨_, _, Tryz.underlying28, rfl, rfl, rfl, rfl⟩
theorem fields_id2 : ∃ f0 f1 : Field, Tryz.prog.underlying 39 = some (.struct #[f0, f1]) ∧ f0.offset = 0 ∧ f1.offset = 1 ∧ f0.type = 3 ∧ f1.type = 3 :=
  ⟨_, _, Tryz.underlying39, rfl, rfl, rfl, rfl⟩
theorem fields_run2 : ∃ f0 f1 : Field, Tryz.prog.underlying 77 = some (.struct #[f0, f1]) ∧ f0.offset = 0 ∧ f1.offset = 2 ∧ f0.type = 39 ∧ f1.type = 3 :=
  ⟨_, _, Tryz.underlying77, rfl, rfl, rfl, rfl⟩
theorem fields_op2 : ∃ f0 f1 f2 f3 f4 f5 f6 f7 : Field, Tryz.prog.underlying 42 = some (.struct #[f0, f1, f2, f3, f4, f5, f6, f7]) ∧ (f0.offset = 0 ∧ f1.offset = 2 ∧ f2.offset = 3 ∧ f3.offset = 4 ∧ f4.offset = 6 ∧ f5.offset = 8 ∧ f6.offset = 9 ∧ f7.offset = 10) ∧
    f0.type = 28 ∧ f1.type = 23 ∧ f2.type = 3 ∧ f3.type = 39 ∧ f4.type = 39 ∧ f5.type = 9 ∧ f6.type = 40 ∧ f7.type = 3 :=
  ⟨_, _, _, _, _, _, _, _, Tryz.underlying42, ⟨rfl, rfl, rfl, rfl, rfl, rfl, rfl, rfl⟩, rfl, rfl, rfl, rfl, rfl, rfl, rfl, rfl⟩
theorem fields_step2 : ∃ f0 f1 f2 : Field, Tryz.prog.underlying 44 = some (.struct #[f0, f1, f2]) ∧ f0.offset = 0 ∧ f1.offset = 11 ∧ f2.offset = 12 ∧ f0.type = 42 ∧ f1.type = 4 ∧ f2.type = 3 :=
  ⟨_, _, _, Tryz.underlying44, rfl, rfl, rfl, rfl, rfl, rfl⟩
theorem cells_int : Tryz.prog.cellsOf 3 = 1 := by kernel_rfl
theorem cells_bool : Tryz.prog.cellsOf 4 = 1 := by kernel_rfl
theorem cells_string : Tryz.prog.cellsOf 9 = 1 := by kernel_rfl
theorem cells_id : Tryz.prog.cellsOf 39 = 2 := by kernel_rfl
theorem cells_dot : Tryz.prog.cellsOf 28 = 2 := by kernel_rfl
theorem cells_run : Tryz.prog.cellsOf 77 = 3 := by kernel_rfl
theorem cells_op : Tryz.prog.cellsOf 42 = 11 := by kernel_rfl
theorem cells_vec : Tryz.prog.cellsOf 23 = 1 := by kernel_rfl
theorem cells_runs : Tryz.prog.cellsOf 40 = 1 := by kernel_rfl
theorem cells_step : Tryz.prog.cellsOf 44 = 13 := by kernel_rfl
set_option maxRecDepth 100000 in
theorem elem_dot2 (n : Nat) (cs : List Value) (d : DataW H × List MemPlace) (h : DataW.trod enc Tryz.prog w base spare held n 28 cs = some d) : ∃ x : Dot, cs = dotE.enc x ∧ I64 x.site ∧ I64 x.seq := by
  obtain ⟨f0, f1, hs, o0, o1, e0, e1⟩ := fields_dot2
  obtain ⟨ys, n', _, _, hlen, hyl, hg⟩ := DataW.trod_struct hs h
  rw [cells_dot] at hlen
  match cs, hlen with
  | [c0, c1], _ =>
    match ys, hyl with
    | [y0, y1], _ =>
      have g0 := hg 0 f0 rfl
      have g1 := hg 1 f1 rfl
      rw [o0, e0, cells_int] at g0
      rw [o1, e1, cells_int] at g1
      obtain ⟨n0, z0, _, w0⟩ := DataW.trod_int Tryz.underlying3 g0
      obtain ⟨n1, z1, _, w1⟩ := DataW.trod_int Tryz.underlying3 g1
      simp at z0 z1
      subst z0 z1
      exact ⟨⟨n0, n1⟩, rfl, bounds_i64 w0, bounds_i64 w1⟩
set_option maxRecDepth 100000 in
theorem elem_id2 (n : Nat) (cs : List Value) (d : DataW H × List MemPlace) (h : DataW.trod enc Tryz.prog w base spare held n 39 cs = some d) : ∃ x : ID, cs = idE.enc x ∧ I64 x.t ∧ I64 x.s := by
  obtain ⟨f0, f1, hs, o0, o1, e0, e1⟩ := fields_id2
  obtain ⟨ys, n', _, _, hlen, hyl, hg⟩ := DataW.trod_struct hs h
  rw [cells_id] at hlen
  match cs, hlen with
  | [c0, c1], _ =>
    match ys, hyl with
    | [y0, y1], _ =>
      have g0 := hg 0 f0 rfl
      have g1 := hg 1 f1 rfl
      rw [o0, e0, cells_int] at g0
      rw [o1, e1, cells_int] at g1
      obtain ⟨n0, z0, _, w0⟩ := DataW.trod_int Tryz.underlying3 g0
      obtain ⟨n1, z1, _, w1⟩ := DataW.trod_int Tryz.underlying3 g1
      simp at z0 z1
      subst z0 z1
      exact ⟨⟨n0, n1⟩, rfl, bounds_i64 w0, bounds_i64 w1⟩
set_option maxRecDepth 100000 in
theorem elem_run2 (n : Nat) (cs : List Value) (d : DataW H × List MemPlace) (h : DataW.trod enc Tryz.prog w base spare held n 77 cs = some d) : ∃ x : Run, cs = runE.enc x ∧ x.In := by
  obtain ⟨f0, f1, hs, o0, o1, e0, e1⟩ := fields_run2
  obtain ⟨ys, n', _, _, hlen, hyl, hg⟩ := DataW.trod_struct hs h
  rw [cells_run] at hlen
  match cs, hlen with
  | [c0, c1, c2], _ =>
    match ys, hyl with
    | [y0, y1], _ =>
      have g0 := hg 0 f0 rfl
      have g1 := hg 1 f1 rfl
      rw [o0, e0, cells_id] at g0
      rw [o1, e1, cells_int] at g1
      obtain ⟨x, hx, hi⟩ := elem_id2 _ _ _ g0
      obtain ⟨n1, z1, _, w1⟩ := DataW.trod_int Tryz.underlying3 g1
      simp at z1
      subst z1
      simp [idE] at hx
      obtain ⟨rfl, rfl⟩ := hx
      exact ⟨⟨x, n1⟩, rfl, hi.1, hi.2, bounds_i64 w1⟩
/-- what there is to know of an operation that was given -/
structure OpIn (w : World) (e : Ent) : Prop where
  at_ : e.At w
  runs : ∀ r ∈ e.G, r.In
  text : e.v.text.size ≤ maxLen
  dots : ∀ d ∈ e.D, I64 d.site ∧ I64 d.seq
  nums : I64 e.v.dot.site ∧ I64 e.v.dot.seq ∧ I64 e.v.kind ∧ I64 e.v.site
  ids : (I64 e.v.id.t ∧ I64 e.v.id.s) ∧ I64 e.v.ref.t ∧ I64 e.v.ref.s
set_option maxRecDepth 100000 in
theorem elem_op2 (n : Nat) (cs : List Value) (d : DataW H × List MemPlace) (h : DataW.trod enc Tryz.prog w base spare held n 42 cs = some d) : ∃ e : Ent, cs = entE.enc e ∧ OpIn w e := by
  obtain ⟨f0, f1, f2, f3, f4, f5, f6, f7, hs, ⟨o0, o1, o2, o3, o4, o5, o6, o7⟩, e0, e1, e2, e3, e4, e5, e6, e7⟩ := fields_op2
  obtain ⟨ys, n', _, _, hlen, hyl, hg⟩ := DataW.trod_struct hs h
  rw [cells_op] at hlen
  match cs, hlen with
  | [c0, c1, c2, c3, c4, c5, c6, c7, c8, c9, c10], _ =>
    match ys, hyl with
    | [y0, y1, y2, y3, y4, y5, y6, y7], _ =>
      have g0 := hg 0 f0 rfl
      have g1 := hg 1 f1 rfl
      have g2 := hg 2 f2 rfl
      have g3 := hg 3 f3 rfl
      have g4 := hg 4 f4 rfl
      have g5 := hg 5 f5 rfl
      have g6 := hg 6 f6 rfl
      have g7 := hg 7 f7 rfl
      rw [o0, e0, cells_dot] at g0
      rw [o1, e1, cells_vec] at g1
      rw [o2, e2, cells_int] at g2
      rw [o3, e3, cells_id] at g3
      rw [o4, e4, cells_id] at g4
      rw [o5, e5, cells_string] at g5
      rw [o6, e6, cells_runs] at g6
      rw [o7, e7, cells_int] at g7
      obtain ⟨x0, z0, hx0⟩ := elem_dot2 _ _ _ g0
      obtain ⟨a1, l1, k1, L1, z1, hs1, hx1⟩ := open_part dotE Tryz.underlying23 cells_dot elem_dot2 g1
      obtain ⟨n2, z2, _, w2⟩ := DataW.trod_int Tryz.underlying3 g2
      obtain ⟨x3, z3, hx3⟩ := elem_id2 _ _ _ g3
      obtain ⟨x4, z4, hx4⟩ := elem_id2 _ _ _ g4
      obtain ⟨s5, z5, _, w5⟩ := DataW.trod_string Tryz.underlying9 g5
      obtain ⟨a6, l6, k6, L6, z6, hs6, hx6⟩ := open_part runE Tryz.underlying40 cells_run elem_run2 g6
      obtain ⟨n7, z7, _, w7⟩ := DataW.trod_int Tryz.underlying3 g7
      simp [dotE] at z0
      simp at z1 z2 z5 z6 z7
      simp [idE] at z3 z4
      obtain ⟨rfl, rfl⟩ := z0
      obtain ⟨rfl, rfl⟩ := z3
      obtain ⟨rfl, rfl⟩ := z4
      subst z1 z2 z5 z6 z7
      exact ⟨⟨⟨x0, ⟨a1, l1, k1⟩, n2, x3, x4, s5, ⟨a6, l6, k6⟩, n7⟩, L1, L6⟩, rfl, ⟨⟨hs1, hs6⟩, hx6, w5, hx1, ⟨hx0.1, hx0.2, bounds_i64 w2, bounds_i64 w7⟩, hx3, hx4⟩⟩
set_option maxRecDepth 100000 in
theorem elem_step2 (n : Nat) (cs : List Value) (d : DataW H × List MemPlace) (h : DataW.trod enc Tryz.prog w base spare held n 44 cs = some d) : ∃ s : StV, cs = stE.enc s ∧ OpIn w s.e ∧ I64 s.tk := by
  obtain ⟨f0, f1, f2, hs, o0, o1, o2, e0, e1, e2⟩ := fields_step2
  obtain ⟨ys, n', _, _, hlen, hyl, hg⟩ := DataW.trod_struct hs h
  rw [cells_step] at hlen
  match cs, hlen with
  | [c0, c1, c2, c3, c4, c5, c6, c7, c8, c9, c10, c11, c12], _ =>
    match ys, hyl with
    | [y0, y1, y2], _ =>
      have g0 := hg 0 f0 rfl
      have g1 := hg 1 f1 rfl
      have g2 := hg 2 f2 rfl
      rw [o0, e0, cells_op] at g0
      rw [o1, e1, cells_bool] at g1
      rw [o2, e2, cells_int] at g2
      obtain ⟨x0, z0, hx0⟩ := elem_op2 _ _ _ g0
      obtain ⟨b1, z1, _⟩ := DataW.trod_bool Tryz.underlying4 g1
      obtain ⟨n2, z2, _, w2⟩ := DataW.trod_int Tryz.underlying3 g2
      simp at z1 z2
      subst z1 z2
      refine ⟨⟨x0, b1, n2⟩, ?_, hx0, bounds_i64 w2⟩
      show _ = x0.v.cells ++ [.bool b1, .int .i64 n2]
      have z0' : [c0, c1, c2, c3, c4, c5, c6, c7, c8, c9, c10] = x0.v.cells := z0
      rw [← z0']
      rfl
set_option maxRecDepth 100000 in
theorem open_steps {r : Reach} {v : Value} {d : DataW H} {ps : List MemPlace} (hv : Value.okWide Tryz.prog w r b0 24 v)
    (h : DataW.Trod enc Tryz.prog w base spare held 24 v d ps) : ∃ L, SlAt stE w v L ∧ ∀ s ∈ L, OpIn w s.e ∧ I64 s.tk :=
  open_rows stE Tryz.underlying24 cells_step elem_step2 hv h
end
end Go.Proofs.YtaaeomapbigfgaaGreat
