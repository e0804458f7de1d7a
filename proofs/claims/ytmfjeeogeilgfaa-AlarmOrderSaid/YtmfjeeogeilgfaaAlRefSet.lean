/- The document's Alarm: Set and Reset. -/
import Derived.Test.YtmfjeeogeilgfaaAlRefOff
import Derived.Deep.RegionLaw
namespace Go.Proofs.Ytmfjeeogeilgfaa.Al
open Go.RowKit

section
variable {P : Program} (w : World)
/-- an append onto a row of the call's own, as one step of a region that draws its order -/
theorem step_append_at {ops : Array Oper} {o : Oper} {a : Act} {K : Act → World → Prop} {Q : Exit → Act → World → Prop} {E : Prop} (hgd : o.guard = none) (s x : Operand) (t : TypeId)
    (ho : o.op = .call { callee := .builtin .append, args := #[s, x], argTypes := #[t, t] })
    (base : Nat) (e : TypeId) (i : TypeInfo) (z : Value) (size bytes : Nat) (ht : P.underlying t = some (.slice e)) (hi : P.info? e = some i) (hz : i.zero = some z)
    (hsize : i.size = size) (hby : i.bytes = bytes) (hzs : z.cells.size = size) (hsz : 0 < size)
    (v : Value) (n : Nat) (xs : List Value) (hs : a.eval s = v) (hown : w.ownsRow base e size v n xs)
    (ad : Addr) (m c : Nat) (news : List Value) (hx : a.eval x = .slice (some ad) m c) (hl : news.length = m * size) (hnews : ∀ j u, news[j]? = some u → w.cell? (ad.add j) = some u) (h1 : ∀ u ∈ news, u.oneCell' = true)
    (h63 : n + m ≤ maxLen) (hbytes : (n + m) * bytes ≤ 140737488355328) (hbase : base ≤ w.heap.size)
    (h : ∀ v' w', w'.ownsRow base e size v' (n + m) (xs ++ news) → w.grownBy w' v.ownBlock → (v'.ownBlock = v.ownBlock ∨ v'.ownBlock = some w.heap.size) → K (a.put o.dst v') w') :
    if Region.wanted o (yielded ops a.tmps) = true then Oper.wp P o a w K Q else E := by
  have hw : Region.wanted o (yielded ops a.tmps) = true := by simp [Region.wanted, hgd]
  rw [if_pos hw]
  obtain ⟨v', w', hr, h2, h3, _, h5⟩ := run_append_own_at (P := P) w base t o.type e i z size bytes ht hi hz hsize hby hzs hsz v n xs hown ad m c news hl hnews h1 h63 hbytes hbase
  unfold Oper.wp execOp
  simp only [ho, resolve, invoke, builtin, Sem.run_bind, Sem.run_pure, Result.andThen_ok, List.map_toArray, List.map_cons, List.map_nil, hs, hx, hr]
  exact h v' w' h2 h3 h5
end

section
variable {w : World} {B : Nat} {l m : Int} {v : Value} {L : List T}

theorem rset_bad (h : RefAt w B l m v L) (k now : Int) (hb : l = 0 ∨ tickB now = false) : Calls Try.prog 25 #[.pointer (some ⟨B, 0, none⟩), .int .i64 k, .int .i64 now] w fun e w' => e = .returned (.int .i64 1) ∧ w = w' := by
  have c0 : w.cell? ⟨B, 0, none⟩ = some (.int .i64 l) := h.blk.cell' rfl
  cases ht : tickB now
  · have H := Lib.hid ht
    clear ht hb
    go_enter Try.func25, Try.ntmps25
    go_wp2_with (go_at_call 35; refine (rtick_no H.out _).mono ?_; rintro e w' ⟨rfl, rfl⟩)
    go_ret
    exact ⟨rfl, rfl⟩
  · have h0 : l = 0 := hb.resolve_right (by simp [ht])
    subst h0
    have H := Lib.hid ht
    clear ht hb
    go_enter Try.func25, Try.ntmps25
    go_wp2_with (go_at_call 35; refine (rtick_yes H.out _).mono ?_; rintro e w' ⟨rfl, rfl⟩)
    go_ret
    exact ⟨rfl, rfl⟩
theorem rset_exists (h : RefAt w B l m v L) (now : Int) (hl : 1 ≤ l) (ht : tickB now = true) {t : T} (hx : t ∈ L) (hbig : L.length ≤ 1000000) :
    Calls Try.prog 25 #[.pointer (some ⟨B, 0, none⟩), .int .i64 t.key, .int .i64 now] w fun e w' => e = .returned (.int .i64 12) ∧ w = w' := by
  have c0 : w.cell? ⟨B, 0, none⟩ = some (.int .i64 l) := h.blk.cell' rfl
  have hl0 : (l == 0) = false := by simp; omega
  have H := Lib.hid ht
  have HA := Lib.hid (at_any h t.key hbig)
  rcases atOf_cases L t.key with ⟨_, h0⟩ | ⟨i, u, e0, hu, hk⟩
  · exact (h0 t hx rfl).elim
  have E0 := Lib.hid e0
  clear ht hu hk e0
  go_enter Try.func25, Try.ntmps25
  go_wp2_with (first
    | (go_at_call 35; refine (rtick_yes H.out _).mono ?_; rintro e w' ⟨rfl, rfl⟩)
    | (go_at_call 33; refine HA.out.mono ?_; rintro e w' ⟨rfl, rfl⟩; rw [E0.out]))
  go_ret
  exact ⟨rfl, rfl⟩

theorem rset_end {w1 : World} {a : Option Addr} {c g2 c3 : Nat} {t : T} {o : Obj} (h : RefAt w B l m (.slice a L.length c) L)
    (hown2 : w1.ownsRow 0 70 3 (.slice (some ⟨g2, 0, none⟩) (L.length + 1) c3) (L.length + 1) (tcs L ++ tc t)) (hgrow : (w.alloc o).drew.grownBy w1 (Value.slice a L.length c).ownBlock)
    (hat : (Value.slice (some ⟨g2, 0, none⟩) (L.length + 1) c3).ownBlock = (Value.slice a L.length c).ownBlock ∨ (Value.slice (some ⟨g2, 0, none⟩) (L.length + 1) c3).ownBlock = some (w.alloc o).drew.heap.size) :
    ∃ v', RefAt (w1.setCell ⟨B, 2, none⟩ (.slice (some ⟨g2, 0, none⟩) (L.length + 1) c3)) B l m v' (L ++ [t]) ∧ (∀ b, b < w.heap.size → RF B v' b → RF B (.slice a L.length c) b) ∧ Kept (RF B (.slice a L.length c)) w (w1.setCell ⟨B, 2, none⟩ (.slice (some ⟨g2, 0, none⟩) (L.length + 1) c3)) := by
  have hoB := own_blk_ne h.own h.blk (by decide)
  have hB1 := (((h.blk.alloc o).drewN 1).grown hgrow hoB)
  have hoB2 := own_blk_ne hown2 hB1 (by decide)
  refine ⟨.slice (some ⟨g2, 0, none⟩) (L.length + 1) c3, ⟨by simpa using hB1.set_ 2 _, ⟨some ⟨g2, 0, none⟩, c3, by simp⟩, ?_⟩, fun b hb hf => ?_, ((((Kept.refl _ _).alloc o).drew).grown hgrow (fun b e _ => .inr e)).setCell (fun _ => .inl rfl) _⟩
  · have := ownsRow_setCell_other hown2 (a := ⟨B, 2, none⟩) hoB2 (.slice (some ⟨g2, 0, none⟩) (L.length + 1) c3)
    rw [tcs_snoc] at this
    simpa using this
  · rcases hf with hf | hf
    · exact .inl hf
    · rcases hat with e | e
      · exact .inr (e ▸ hf)
      · rw [e] at hf
        have : w.heap.size + 1 = b := by simpa using hf
        omega

set_option maxHeartbeats 1000000 in
theorem rset_ok (h : RefAt w B l m v L) (k now : Int) (hl : 1 ≤ l) (hlm : LM l m) (ht : tickB now = true) (hx : ∀ t ∈ L, t.key ≠ k) (hbig : L.length < 1000000) :
    Calls Try.prog 25 #[.pointer (some ⟨B, 0, none⟩), .int .i64 k, .int .i64 now] w fun e w' => e = .returned (.int .i64 0) ∧
      ∃ v', RefAt w' B l m v' (L ++ [⟨k, l, now + l⟩]) ∧ (∀ b, b < w.heap.size → RF B v' b → RF B v b) ∧ Kept (RF B v) w w' := by
  obtain ⟨i0, hi, hz0, hz1, hz2⟩ := info_parts info_timer
  have I0 := Lib.hid hi
  have I1 := Lib.hid hz0
  have I2 := Lib.hid hz1
  have I3 := Lib.hid hz2
  clear hi hz0 hz1 hz2
  have c0 : w.cell? ⟨B, 0, none⟩ = some (.int .i64 l) := h.blk.cell' rfl
  have f2 := h.blk.frozen 2
  have hBz := h.blk.lt
  have hl0 : (l == 0) = false := by simp; omega
  have hwrap : 0 ≤ now + l ∧ now + l ≤ 9223372036854775807 := by unfold LM at hlm; have : 0 ≤ now ∧ now ≤ 2147483647 := (by simpa [tickB] using ht); omega
  have H := Lib.hid ht
  have HA0 := at_any h k (by omega)
  rw [atOf_none hx] at HA0
  have HA := Lib.hid HA0
  obtain ⟨a, c, rfl⟩ := h.sl
  have c2 : w.cell? ⟨B, 2, none⟩ = some (.slice a L.length c) := h.blk.cell' rfl
  have h63 : L.length + 1 ≤ maxLen := by simp only [maxLen]; omega
  have hby : (L.length + 1) * 24 ≤ 140737488355328 := by omega
  have hone0 : ∀ u ∈ tc ⟨k, l, now + l⟩, u.oneCell' = true := by simp [tc, Value.oneCell']
  have hone := Lib.hid hone0
  have hnw0 := news_tc w ⟨k, l, now + l⟩ 70
  have hnw := Lib.hid hnw0
  have hown := h.own
  have hoB := own_blk_ne h.own h.blk (by decide)
  have hwr : IntKind.i64.wrap (now + l) = now + l := IntWalk.i64_in _ (by omega)
  clear ht HA0 hone0 hnw0 hx hwrap
  go_enter Try.func25, Try.ntmps25
  go_wp2_with (first
    | (go_at_call 35; refine (rtick_yes H.out _).mono ?_; rintro e w' ⟨rfl, rfl⟩)
    | (go_at_call 33; refine HA.out.mono ?_; rintro e w' ⟨rfl, rfl⟩))
  go_region_law (refine step_append_at _ rfl (.tmp 25) (.tmp 38) 43 rfl 0 70 i0 (.agg #[.int .i64 0, .int .i64 0, .int .i64 0]) 3 24 Try.underlying43 I0.out I1.out I2.out I3.out rfl (by decide) _ _ _ rfl (hown.alloc _) ⟨w.heap.size, 0, none⟩ 1 1 (tc ⟨k, l, now + l⟩) rfl rfl hnw.out hone.out h63 hby (Nat.zero_le _) ?_; intro v' w1 hown2 hgrow hat; obtain ⟨g2, c3, hv, hg0, hg⟩ := hown2.form (by omega); subst hv; have hB1 := (((h.blk.alloc _).drewN 1).grown hgrow hoB); have c21 : w1.cell? ⟨B, 2, none⟩ = some (.slice a L.length c) := hB1.cell' rfl; have f21 := hB1.frozen 2)
  all_goals go_wp2_with fail
  all_goals go_ret
  all_goals exact ⟨rfl, rset_end h hown2 hgrow hat⟩

theorem rreset_bad (h : RefAt w B l m v L) (k now : Int) (hb : l = 0 ∨ tickB now = false) : Calls Try.prog 26 #[.pointer (some ⟨B, 0, none⟩), .int .i64 k, .int .i64 now] w fun e w' => e = .returned (.int .i64 1) ∧ w = w' := by
  have c0 : w.cell? ⟨B, 0, none⟩ = some (.int .i64 l) := h.blk.cell' rfl
  cases ht : tickB now
  · have H := Lib.hid ht
    clear ht hb
    go_enter Try.func26, Try.ntmps26
    go_wp2_with (go_at_call 35; refine (rtick_no H.out _).mono ?_; rintro e w' ⟨rfl, rfl⟩)
    go_ret
    exact ⟨rfl, rfl⟩
  · have h0 : l = 0 := hb.resolve_right (by simp [ht])
    subst h0
    have H := Lib.hid ht
    clear ht hb
    go_enter Try.func26, Try.ntmps26
    go_wp2_with (go_at_call 35; refine (rtick_yes H.out _).mono ?_; rintro e w' ⟨rfl, rfl⟩)
    go_ret
    exact ⟨rfl, rfl⟩
theorem rreset_ok (h : RefAt w B l m v L) (k now : Int) (hl : 1 ≤ l) (hlm : LM l m) (ht : tickB now = true) (hbig : L.length < 1000000) :
    Calls Try.prog 26 #[.pointer (some ⟨B, 0, none⟩), .int .i64 k, .int .i64 now] w fun e w' => e = .returned (.int .i64 0) ∧
      ∃ v', RefAt w' B l m v' (L.filter (fun t => t.key != k) ++ [⟨k, l, now + l⟩]) ∧ (∀ b, b < w.heap.size → RF B v' b → RF B v b) ∧ Kept (RF B v) w w' := by
  have c0 : w.cell? ⟨B, 0, none⟩ = some (.int .i64 l) := h.blk.cell' rfl
  have hl0 : (l == 0) = false := by simp; omega
  have H := Lib.hid ht
  have HO := Lib.hid (roff_any h k (by omega))
  clear ht
  go_enter Try.func26, Try.ntmps26
  go_wp2_with (go_at_call 35; refine (rtick_yes H.out _).mono ?_; rintro e w' ⟨rfl, rfl⟩)
  refine HO.out.mono ?_
  rintro e w1 ⟨rfl, v1, h1, hf1, hk1⟩
  have hfn : (L.filter fun t => t.key != k).length < 1000000 := by have := List.length_filter_le (fun t : T => t.key != k) L; omega
  have HS := Lib.hid (rset_ok h1 k now hl hlm H.out (fun t ht => by simpa using (List.mem_filter.1 ht).2) hfn)
  go_wp2_with fail
  refine HS.out.mono ?_
  rintro e w2 ⟨rfl, v2, h2, hf2, hk2⟩
  have R2 := Lib.hid h2
  have hz := hk1.size
  clear h2
  go_wp2_with fail
  go_ret
  refine ⟨rfl, v2, R2.out, fun b hb hf => hf1 b hb (hf2 b (by omega) hf), hk1.trans hk2 fun b hb hf => hf1 b hb hf⟩
end
end Go.Proofs.Ytmfjeeogeilgfaa.Al
