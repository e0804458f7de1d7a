/- StampForm$1: it appends what it is given. -/
import Derived.Test.YtdbnohlignpeaaaStForm2
namespace Go.Proofs.Ytdbnohlignpeaaa.St
open Go.RowKit
namespace stampForm
set_option maxRecDepth 100000 in
set_option maxHeartbeats 4000000 in
theorem f4_any {w : World} {Ba Bq base n0 lc : Nat} {la : Option Addr} {va : Value} {A : List ID} (x : ID) (ha : Blk w Ba 28 #[va]) (ho : w.ownsRow base 23 2 va A.length (idE.flat A)) (hl : Blk w Bq 28 #[.slice la n0 lc]) (hlen : A.length + 1 ≤ n0) (hn : n0 ≤ 120) (hbase : base ≤ w.heap.size)
    (hne : Ba ≠ Bq) (hva : ∀ b, va.ownBlock = some b → b ≠ Ba ∧ b ≠ Bq) :
    Calls Try.prog 46 #[idV x, .pointer (some ⟨Ba, 0, none⟩), .pointer (some ⟨Bq, 0, none⟩)] w fun e w' =>
      e = .returned (.bool true) ∧ ∃ va', Blk w' Ba 28 #[va'] ∧ w'.ownsRow base 23 2 va' (A.length + 1) (idE.flat (A ++ [x])) ∧ (∀ b, va'.ownBlock = some b → va.ownBlock = some b ∨ w.heap.size ≤ b) ∧ Kept (fun b => b = Ba ∨ va.ownBlock = some b) w w' := by
  obtain ⟨t, s⟩ := x
  obtain ⟨aa, ac, rfl⟩ := owns_sl ho
  have hne' : ¬ Bq = Ba := fun e => hne e.symm
  have k1 : Kept (fun _ => False) w (w.alloc (.cells #[.int .i64 t, .int .i64 s] 23)) := (Kept.refl _ _).alloc _
  have k2 : Kept (fun _ => False) w ((w.alloc (.cells #[.int .i64 t, .int .i64 s] 23)).alloc (.cells #[.int .i64 t, .int .i64 s] 23)) := k1.alloc _
  have hX := Blk.new w 23 #[.int .i64 t, .int .i64 s]
  have a0 : _ = some (Value.int .i64 t) := hX.cell' (i := 0) rfl
  have a1 : _ = some (Value.int .i64 s) := hX.cell' (i := 1) rfl
  have a2 : _ = some (Value.slice aa A.length ac) := (k1.blk (fun h => h) ha).cell' (i := 0) rfl
  have hlit := lit_id (w.alloc (.cells #[.int .i64 t, .int .i64 s] 23)) t s
  have LIT : Hid (SlAt idE ((w.alloc (.cells #[.int .i64 t, .int .i64 s] 23)).alloc (.cells #[.int .i64 t, .int .i64 s] 23)) (.slice (some ⟨w.heap.size + 1, 0, none⟩) 1 1) [(⟨t, s⟩ : ID)]) := Lib.hid (by simpa using hlit)
  have OWN := Lib.hid (owns_keep ho k2 (fun _ _ h => h))
  have HA := Lib.hid ha
  have HL := Lib.hid hl
  have HV := Lib.hid hva
  have K2 := Lib.hid k2
  have hlI : ((A.length : Int) + 1) ≤ n0 := by omega
  have l1 := ha.lt
  have ow := Lib.hid (fun b hb => (ho.lt b hb).2)
  clear k1 k2 hX hlit ho ha hl hva
  unfold idV
  go_enter Try.func46, Try.ntmps46
  go_wp2_with (at_builtin; (refine wpList_append_keeps idE rfl (.tmp 5) (.tmp 7) 28 rfl base 23 (.agg #[.int .i64 0, .int .i64 0]) 16 Try.underlying28 info_id rfl (by decide) (v := .slice aa A.length ac) (D := A) (x := ⟨t, s⟩) rfl rfl OWN.out LIT.out (by omega) (by simp; omega) ?_); (intro v2 w2 ho2 hg2); (obtain ⟨a2, c2, rfl⟩ := owns_sl ho2); have hk2 : Kept (fun b => (Value.slice aa A.length ac).ownBlock = some b) w w2 := (K2.out.mono (fun _ _ h => h.elim)).trans (grow_kept hg2) (fun _ _ h => h); have hA2 := hk2.blk (fun h => (HV.out _ h).1 rfl) HA.out; have hQ2 := hk2.blk (fun h => (HV.out _ h).2 rfl) HL.out; have y0 : w2.cell? ⟨Ba, 0, none⟩ = some (.slice aa A.length ac) := hA2.cell' (i := 0) rfl; have y1 := hA2.frozen 0; have y2 : w2.cell? ⟨Bq, 0, none⟩ = some (.slice la n0 lc) := hQ2.cell' (i := 0) rfl; have G2 := Lib.hid hg2; have O2 := Lib.hid ho2; have A2 := Lib.hid hA2; have KK := Lib.hid hk2; clear hg2 ho2 hA2 hQ2 hk2)
  go_ret
  have hsz := K2.out.size
  have hvo : ∀ b, (Value.slice a2 (A.length + 1) c2).ownBlock = some b → (Value.slice aa A.length ac).ownBlock = some b ∨ w.heap.size ≤ b := fun b hb => by
    rcases G2.out with ⟨e, _⟩ | ⟨e, _⟩
    · exact .inl (by rw [← e]; exact hb)
    · rw [e] at hb; injection hb with e2; right; omega
  have k3 : Kept (· = Ba) w2 (w2.setCell ⟨Ba, 0, none⟩ (.slice a2 (A.length + 1) c2)) := (Kept.refl (· = Ba) w2).setCell (p := ⟨Ba, 0, none⟩) (fun _ => rfl) _
  refine ⟨rfl, .slice a2 (A.length + 1) c2, A2.out.set_ 0 _, owns_keep O2.out k3 (fun b hb e => ?_), hvo, (KK.out.mono (fun _ _ h => .inr h)).setCell (p := ⟨Ba, 0, none⟩) (fun _ => .inl rfl) _⟩
  have e : b = Ba := e
  rcases hvo b hb with h | h
  · exact (HV.out b h).1 e
  · omega
end stampForm
end Go.Proofs.Ytdbnohlignpeaaa.St
