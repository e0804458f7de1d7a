/- The document's Alarm: Off. -/
import Derived.Test.YtmfjeeogeilgfaaAlRefNext
namespace Go.Proofs.Ytmfjeeogeilgfaa.Al
open Go.RowKit
section
variable {w : World} {B : Nat} {l m : Int} {v : Value} {L : List T}
theorem info_timer : (Try.prog.info? 70).map (fun i => (i.zero, i.size, i.bytes)) = some (some (.agg #[.int .i64 0, .int .i64 0, .int .i64 0]), 3, 24) := by kernel_rfl
theorem news_tc (w : World) (t : T) (ty : TypeId) : ∀ j u, (tc t)[j]? = some u → (w.alloc (.cells #[.int .i64 t.key, .int .i64 t.gap, .int .i64 t.due] ty)).cell? ((⟨w.heap.size, 0, none⟩ : Addr).add j) = some u := by
  intro j u hj
  have hb := Blk.new w ty #[.int .i64 t.key, .int .i64 t.gap, .int .i64 t.due]
  have e : (⟨w.heap.size, 0, none⟩ : Addr).add j = ⟨w.heap.size, j, none⟩ := by unfold Addr.add; split <;> simp_all
  rw [e, hb.cell j]
  simpa [tc] using hj
theorem tcs_snoc (L : List T) (t : T) : tcs L ++ tc t = tcs (L ++ [t]) := by simp [tcs]
def OffRel (w : World) (L : List T) (k : Int) (lv iv : Value) (wr : World) : Prop :=
  ∃ (n : Nat) (a : Option Addr) (c : Nat), iv = .int .i64 n ∧ n ≤ L.length ∧ lv = .slice a ((L.take n).filter fun t => t.key != k).length c ∧ wr.ownsRow w.heap.size 70 3 lv ((L.take n).filter fun t => t.key != k).length (tcs ((L.take n).filter fun t => t.key != k)) ∧ Kept (fun _ => False) w wr
theorem filter_snoc {n : Nat} {t : T} {k : Int} (ht : L[n]? = some t) : (L.take (n + 1)).filter (fun t => t.key != k) = (L.take n).filter (fun t => t.key != k) ++ if t.key = k then [] else [t] := by
  rw [List.take_add_one, ht, List.filter_append]
  congr 1
  by_cases h : t.key = k <;> simp [h]

set_option maxHeartbeats 1000000 in
theorem roff_any (h : RefAt w B l m v L) (k : Int) (hbig : L.length ≤ 1000000) : Calls Try.prog 27 #[.pointer (some ⟨B, 0, none⟩), .int .i64 k] w fun e w' => e = .returned (.tuple #[]) ∧
    ∃ v', RefAt w' B l m v' (L.filter fun t => t.key != k) ∧ (∀ b, b < w.heap.size → RF B v' b → RF B v b) ∧ Kept (RF B v) w w' := by
  obtain ⟨a, c, rfl⟩ := h.sl
  obtain ⟨i0, hi, hz0, hz1, hz2⟩ := info_parts info_timer
  have I0 := Lib.hid hi
  have I1 := Lib.hid hz0
  have I2 := Lib.hid hz1
  have I3 := Lib.hid hz2
  clear hi hz0 hz1 hz2
  go_enter Try.func27, Try.ntmps27
  go_wp2
  go_loopw [4, 5] (fun lv i wr => OffRel w L k lv i wr) (fun _ i _ => L.length - (intOf i).toNat)
  case atStart => exact ⟨0, none, 0, rfl, Nat.zero_le _, rfl, World.ownsRow_nil _ _ _ _, Kept.refl _ _⟩
  case round =>
    obtain ⟨n, a', c', rfl, hn, rfl, hown, hk⟩ := hrel
    have hr := h.keep hk (fun _ _ h => h)
    have c2 : wr.cell? ⟨B, 2, none⟩ = some (.slice a L.length c) := hr.blk.cell' rfl
    by_cases hlt : n < L.length
    case neg =>
      have hge : L.length ≤ n := by omega
      have fB := hr.blk.frozen 2
      have htk : L.take n = L := List.take_of_length_le hge
      have HTK := Lib.hid htk
      clear htk
      go_wp2
      go_end0
      have hoB := own_blk_ne hown hr.blk (by decide)
      rw [HTK.out] at hown hoB ⊢
      refine ⟨rfl, _, ⟨by simpa using hr.blk.set_ 2 _, ⟨_, _, rfl⟩, ?_⟩, fun b hb h => ?_, (hk.mono fun _ _ h => h.elim).setCell (fun _ => .inl rfl) _⟩
      · have h9 := ownsRow_setCell_other hown (a := ⟨B, 2, none⟩) hoB (.slice a' (L.filter fun t => t.key != k).length c')
        exact ⟨h9.1, h9.2.imp id fun ⟨g, cap, cur, h1, _, h3⟩ => ⟨g, cap, cur, h1, Nat.zero_le _, h3⟩⟩
      · rcases h with h | h
        · exact .inl h
        · have := (hown.lt b h).1; omega
    case pos =>
      obtain ⟨t, ht⟩ := get_of_lt hlt
      obtain ⟨g, c9, hv, hc⟩ := hr.cells (by rintro rfl; simp at hlt)
      cases hv
      obtain ⟨k0, k1, k2⟩ := hc n t ht
      have hfl := filter_snoc (k := k) ht
      have HT := Lib.hid ht
      clear ht hc
      by_cases hk0 : t.key = k
      · have hk1 : (t.key != k) = false := by simpa using hk0
        rw [if_pos hk0] at hfl
        have FL := Lib.hid hfl
        clear hk0 hfl
        go_wp2
        go_roundw
        case rel => exact ⟨n + 1, a', c', by go_num, by omega, by rw [FL.out, List.append_nil], by rw [FL.out, List.append_nil]; exact hown, hk⟩
        case measure => simp [intOf]; omega
      · have hk1 : (t.key != k) = true := by simpa using hk0
        rw [if_neg hk0] at hfl
        have FL := Lib.hid hfl
        have hfn : ((L.take n).filter fun t => t.key != k).length ≤ 1000000 := by
          have h1 := List.length_filter_le (fun t : T => t.key != k) (L.take n)
          have h2 := List.length_take_le n L
          omega
        have h63 : ((L.take n).filter fun t => t.key != k).length + 1 ≤ maxLen := by simp only [maxLen]; omega
        have hby : (((L.take n).filter fun t => t.key != k).length + 1) * 24 ≤ 140737488355328 := by omega
        have hbase : w.heap.size ≤ wr.heap.size + 1 := by have := hk.size; omega
        have hone0 : ∀ u ∈ tc t, u.oneCell' = true := by simp [tc, Value.oneCell']
        have hone := Lib.hid hone0
        have hnw0 := news_tc wr t 70
        have hnw := Lib.hid hnw0
        clear hone0 hk0 hfl hnw0
        generalize hK : (L.take n).filter (fun t => t.key != k) = K at *
        have HK := Lib.hid hK
        clear hK
        go_wp2_with (at_builtin; (refine wpList_append_own_at _ rfl (.tmp 25) (.tmp 33) 43 rfl w.heap.size 70 i0 (.agg #[.int .i64 0, .int .i64 0, .int .i64 0]) 3 24 Try.underlying43 I0.out I1.out I2.out I3.out rfl (by decide) _ _ _ rfl (hown.alloc _) ⟨wr.heap.size, 0, none⟩ 1 1 (tc t) rfl rfl hnw.out hone.out h63 hby (by simpa using hbase) ?_); (intro v' w1 hown2 hgrow hnil hat); (obtain ⟨g2, c3, hv, hg0, hg⟩ := hown2.form (by omega)); (subst hv))
        go_roundw
        case rel =>
          refine ⟨n + 1, some ⟨g2, 0, none⟩, c3, by go_num, by omega, ?_, ?_, ((hk.alloc _).grown hgrow (fun b e hb => by have := (hown.lt b e).1; omega))⟩
          · rw [FL.out]; simp
          · rw [FL.out, ← tcs_snoc]; simpa using hown2
        case measure => simp [intOf]; omega
end
end Go.Proofs.Ytmfjeeogeilgfaa.Al
