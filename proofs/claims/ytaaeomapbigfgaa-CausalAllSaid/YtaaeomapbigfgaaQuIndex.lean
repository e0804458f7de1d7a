/- slices.IndexFunc and ContainsFunc by the Dot of an operation. -/
import Derived.Test.YtaaeomapbigfgaaQuGreat
import Derived.Laws.StructEq
namespace Go.Proofs.Ytaaeomapbigfgaa
open Go.RowKit Go.Proofs.Ytaaeomapbigfgaa.St
set_option maxRecDepth 100000 in
set_option maxHeartbeats 4000000 in
theorem off1_any {w : World} {b : Nat} {x : OpV} (hx0 : w.cell? ⟨b, 0, none⟩ = some (.int .i64 x.dot.site)) (hx1 : w.cell? ⟨b, 1, none⟩ = some (.int .i64 x.dot.seq)) (_hb : b < w.heap.size) (y : OpV) :
    Calls Try.prog 27 #[.agg (opA y), .pointer (some ⟨b, 0, none⟩)] w fun e w' => e = .returned (.bool (decide (y.dot = x.dot))) ∧ Grew w w' := by
  have hB := Blk.new w 34 (opA y)
  have k0 : Grew w (w.alloc (.cells (opA y) 34)) := (Grew.refl _).alloc _
  have b0 : (w.alloc (.cells (opA y) 34)).cell? ⟨w.heap.size, 0, none⟩ = some (.int .i64 y.dot.site) := hB.cell' (i := 0) rfl
  have b1 : (w.alloc (.cells (opA y) 34)).cell? ⟨w.heap.size, 1, none⟩ = some (.int .i64 y.dot.seq) := hB.cell' (i := 1) rfl
  have a0 := k0.kept.cell hx0
  have a1 := k0.kept.cell hx1
  have heq : (y.dot.site == x.dot.site && y.dot.seq == x.dot.seq) = decide (y.dot = x.dot) := by
    rw [Bool.eq_iff_iff, decide_eq_true_iff, Dot.ext_iff]
    simp
  rw [← heq]
  go_enter Try.func27, Try.ntmps27
  by_cases h1 : y.dot.site = x.dot.site
  · by_cases h2 : y.dot.seq = x.dot.seq
    · have e1 : (y.dot.site == x.dot.site) = true := beq_iff_eq.2 h1
      have e2 : (y.dot.seq == x.dot.seq) = true := beq_iff_eq.2 h2
      clear h1 h2 hB
      go_wp2_with fail
      go_ret
      exact ⟨by rw [e1, e2]; rfl, k0⟩
    · have e1 : (y.dot.site == x.dot.site) = true := beq_iff_eq.2 h1
      have e2 : (y.dot.seq == x.dot.seq) = false := beq_eq_false_iff_ne.2 h2
      clear h1 h2 hB
      go_wp2_with fail
      go_ret
      exact ⟨by rw [e1, e2]; rfl, k0⟩
  · have e1 : (y.dot.site == x.dot.site) = false := beq_eq_false_iff_ne.2 h1
    clear h1 hB
    go_wp2_with fail
    go_ret
    exact ⟨by rw [e1]; rfl, k0⟩
theorem enOff : ∀ args w, Sem.run Try.prog (callFunc 27 args) w = .ok (.enter 27 args) w := Go.Proofs.enters_of Try.func27 (by kernel_rfl) rfl
set_option maxRecDepth 100000 in
set_option maxHeartbeats 8000000 in
theorem index_any {w : World} {b : Nat} {x : OpV} {v : Value} {W : List Ent} (hx0 : w.cell? ⟨b, 0, none⟩ = some (.int .i64 x.dot.site)) (hx1 : w.cell? ⟨b, 1, none⟩ = some (.int .i64 x.dot.seq)) (hb : b < w.heap.size) (h : SlAt entE w v W) (hl : W.length ≤ 1000000000) :
    Calls Try.prog 44 #[v, .func (.func 27) #[] #[.pointer (some ⟨b, 0, none⟩)]] w fun r w' => ∃ k : Int, r = .returned (.int .i64 k) ∧ ((k = -1 ∧ ∀ e ∈ W, e.v.dot ≠ x.dot) ∨ (0 ≤ k ∧ ∃ e ∈ W, e.v.dot = x.dot)) ∧ Grew w w' := by
  obtain ⟨a, c, rfl, _, _⟩ := h.sl
  have HS := Lib.hid h
  have X0 := Lib.hid hx0
  have X1 := Lib.hid hx1
  have hen := enOff
  clear h hx0 hx1
  go_enter Try.func44, Try.ntmps44
  go_wp2_with fail
  go_loopw [8] (fun iv wr => ∃ n : Nat, iv = .int .i64 n ∧ n ≤ W.length ∧ (∀ e ∈ W.take n, e.v.dot ≠ x.dot) ∧ Grew w wr) (fun iv _ => W.length - (intOf iv).toNat)
  case atStart => exact ⟨0, rfl, Nat.zero_le _, fun e he => by simp at he, Grew.refl _⟩
  case round =>
    obtain ⟨n, rfl, hn, hno, hg⟩ := hrel
    have hn0 : (0 : Int) ≤ n := by omega
    by_cases hlt : n < W.length
    case neg =>
      have hnl : ¬ (n : Int) < W.length := by omega
      rw [List.take_of_length_le (by omega)] at hno
      have NO := Lib.hid hno
      clear hno
      go_wp2_with fail
      go_ret
      exact ⟨-1, rfl, .inl ⟨rfl, NO.out⟩, hg⟩
    case pos =>
      have hltI : (n : Int) < W.length := by omega
      obtain ⟨e, he⟩ := get_of_lt hlt
      obtain ⟨g, o, c', hv, _, _, hglt, hc⟩ := SlAt.ent (HS.out.kept hg.kept) (by omega)
      cases hv
      have c0 : wr.cell? ⟨g, o + n * 11, none⟩ = some (.int .i64 e.v.dot.site) := hc n e he 0 _ rfl
      have c1 : wr.cell? ⟨g, o + n * 11 + 1, none⟩ = some (.int .i64 e.v.dot.seq) := hc n e he 1 _ rfl
      have c2 : wr.cell? ⟨g, o + n * 11 + 2, none⟩ = some (.slice e.v.deps.a e.v.deps.n e.v.deps.c) := hc n e he 2 _ rfl
      have c3 : wr.cell? ⟨g, o + n * 11 + 3, none⟩ = some (.int .i64 e.v.kind) := hc n e he 3 _ rfl
      have c4 : wr.cell? ⟨g, o + n * 11 + 4, none⟩ = some (.int .i64 e.v.id.t) := hc n e he 4 _ rfl
      have c5 : wr.cell? ⟨g, o + n * 11 + 5, none⟩ = some (.int .i64 e.v.id.s) := hc n e he 5 _ rfl
      have c6 : wr.cell? ⟨g, o + n * 11 + 6, none⟩ = some (.int .i64 e.v.ref.t) := hc n e he 6 _ rfl
      have c7 : wr.cell? ⟨g, o + n * 11 + 7, none⟩ = some (.int .i64 e.v.ref.s) := hc n e he 7 _ rfl
      have c8 : wr.cell? ⟨g, o + n * 11 + 8, none⟩ = some (.string e.v.text) := hc n e he 8 _ rfl
      have c9 : wr.cell? ⟨g, o + n * 11 + 9, none⟩ = some (.slice e.v.gone.a e.v.gone.n e.v.gone.c) := hc n e he 9 _ rfl
      have c10 : wr.cell? ⟨g, o + n * 11 + 10, none⟩ = some (.int .i64 e.v.site) := hc n e he 10 _ rfl
      have HE := Lib.hid he
      have NO := Lib.hid hno
      have HG := Lib.hid hg
      have hcall := off1_any (hg.kept.cell X0.out) (hg.kept.cell X1.out) (Nat.lt_of_lt_of_le hb hg.size) e.v
      clear he hc hno hg
      by_cases hd : e.v.dot = x.dot
      · rw [decide_eq_true hd] at hcall
        have HD := Lib.hid hd
        clear hd
        go_wp2_with (go_at_call 27; refine hcall.mono ?_; rintro r w1 ⟨rfl, hg1⟩)
        go_ret
        exact ⟨n, rfl, .inr ⟨by omega, e, List.mem_of_getElem? HE.out, HD.out⟩, HG.out.trans hg1⟩
      · rw [decide_eq_false hd] at hcall
        have HD := Lib.hid hd
        clear hd
        go_wp2_with (go_at_call 27; refine hcall.mono ?_; rintro r w1 ⟨rfl, hg1⟩)
        go_roundw
        case rel =>
          refine ⟨n + 1, by go_num, by omega, fun y hy => ?_, HG.out.trans hg1⟩
          rw [List.take_add_one, HE.out] at hy
          rcases List.mem_append.1 hy with hy | hy
          · exact NO.out y hy
          · obtain rfl : y = e := by simpa using hy
            exact HD.out
        case measure => simp [intOf] <;> omega
def hasDot (W : List Ent) (d : Dot) : Bool := W.any fun e => decide (e.v.dot = d)
theorem contains_any {w : World} {b : Nat} {x : OpV} {v : Value} {W : List Ent} (hx0 : w.cell? ⟨b, 0, none⟩ = some (.int .i64 x.dot.site)) (hx1 : w.cell? ⟨b, 1, none⟩ = some (.int .i64 x.dot.seq)) (hb : b < w.heap.size) (h : SlAt entE w v W) (hl : W.length ≤ 1000000000) :
    Calls Try.prog 26 #[v, .func (.func 27) #[] #[.pointer (some ⟨b, 0, none⟩)]] w fun r w' => r = .returned (.bool (hasDot W x.dot)) ∧ Grew w w' := by
  have hi := index_any hx0 hx1 hb h hl
  clear h hx0 hx1
  go_enter Try.func26, Try.ntmps26
  go_wp2_with fail
  refine hi.mono ?_
  rintro r w1 ⟨k, rfl, hk, hg⟩
  rcases hk with ⟨rfl, hno⟩ | ⟨h0, e, he, hd⟩
  · have A : Hid (hasDot W x.dot = false) := Lib.hid (by unfold hasDot; rw [List.any_eq_false]; intro e he; simpa using hno e he)
    clear hno
    go_wp2_with fail
    go_ret
    exact ⟨by rw [A.out]; rfl, hg⟩
  · have A : Hid (hasDot W x.dot = true) := Lib.hid (by unfold hasDot; rw [List.any_eq_true]; exact ⟨e, he, by simpa using hd⟩)
    clear hd he
    go_wp2_with fail
    go_ret
    exact ⟨by rw [A.out]; rfl, hg⟩
end Go.Proofs.Ytaaeomapbigfgaa

