/- known: what the document fixes. -/
import Derived.Test.YtlafodnaifghcaaT38
import Derived.Test.YtlafodnaifghcaaT15
import Derived.Deep.RegionHeld3
namespace Go.Proofs.Ytlafodnaifghcaa.Tr
open Go.RowKit Go.Sort Go.Proofs.Ytlafodnaifghcaa.St Go.Proofs.Ytlafodnaifghcaa.Gl Go.Proofs.Ytlafodnaifghcaa
/-- the runs that are told -/
def kruns : List Run := [⟨⟨1, 1⟩, 3⟩, ⟨⟨4, 2⟩, 1⟩, ⟨⟨4, 3⟩, 1⟩]
/-- behind the inserts: the document's blocks are those up to W; an identifier and runs lie behind them -/
structure KW (w W : World) (g : Nat) (za : Nat) (v : Value) (L : List Nd) (Wc : World) : Prop where
  box : TBox Wc g L fun b => w.heap.size ≤ b ∧ b < W.heap.size
  kept : Kept (fun _ => False) w Wc
  a : Blk Wc za 27 #[.int .i64 4, .int .i64 3]
  za : W.heap.size ≤ za
  row : SlAt runE Wc v kruns
  far : ∀ b, v.ownBlock = some b → W.heap.size ≤ b
  size : W.heap.size ≤ Wc.heap.size
variable {w W Wc : World} {g za : Nat} {v : Value} {L : List Nd}
theorem KW.still {w' : World} (h : KW w W g za v L Wc) (hk : Kept (fun _ => False) Wc w') : KW w W g za v L w' :=
  ⟨h.box.still hk, h.kept.trans hk fun _ _ h => h, hk.blk (fun h => h) h.a, h.za, h.row.kept hk, h.far, Nat.le_trans h.size hk.size⟩
theorem KW.turned {w' : World} {L' : List Nd} (h : KW w W g za v L Wc) (ht : TBox w' g L' fun b => w.heap.size ≤ b ∧ b < W.heap.size) (hk : Kept (fun b => w.heap.size ≤ b ∧ b < W.heap.size) Wc w') : KW w W g za v L' w' :=
  ⟨ht, h.kept.trans hk fun b hb h9 => by omega, hk.blk (fun h9 => by have := h.za; omega) h.a, h.za, h.row.keep hk fun b hb _ h9 => by have := h.far b hb; omega, h.far, Nat.le_trans h.size hk.size⟩
theorem KW.lit (h : KW w W g za v L Wc) (n c : Nat) : ∀ b', (Value.slice (some ⟨Wc.heap.size, 0, none⟩) n c).ownBlock = some b' → ¬ (w.heap.size ≤ b' ∧ b' < W.heap.size) := fun b' h1 h2 => by
  have h3 : b' = Wc.heap.size := by simpa [Value.ownBlock] using h1.symm
  have := h.size
  omega
theorem KW.del (h : KW w W g za v k3 Wc) : Calls Try.prog 14 #[.pointer (some ⟨g, 0, none⟩), .slice (some ⟨Wc.heap.size, 0, none⟩) 1 1] (Wc.alloc (.cells #[.int .i64 1, .int .i64 1, .int .i64 3] 61)) fun e w' => e = .returned (.int .i64 3) ∧ KW w W g za v k4 w' := by
  have h2 := h.still ((Kept.refl _ Wc).alloc (.cells #[.int .i64 1, .int .i64 1, .int .i64 3] 61))
  refine (h2.box.delete (by decide) (SlAt.lit [⟨⟨1, 1⟩, 3⟩] #[.int .i64 1, .int .i64 1, .int .i64 3] rfl (by simp [maxLen])) (fun r hr => by rw [List.mem_singleton.1 hr]; simp [Run.In, I64]) (by decide) fun b hb _ => h.lit 1 1 b hb).mono ?_
  rintro e w' ⟨he, h3, h4⟩
  rw [kdel.1] at he
  rw [kdel.2] at h3
  exact ⟨he, h2.turned h3 h4⟩
theorem KW.set (h : KW w W g za v k4 Wc) : Calls Try.prog 15 #[.pointer (some ⟨g, 0, none⟩), .slice (some ⟨Wc.heap.size, 0, none⟩) 1 1] (Wc.alloc (.cells #[.int .i64 2, .int .i64 1, .int .i64 2] 61)) fun e w' => e = .returned (.int .i64 2) ∧ KW w W g za v k5 w' := by
  have h2 := h.still ((Kept.refl _ Wc).alloc (.cells #[.int .i64 2, .int .i64 1, .int .i64 2] 61))
  refine (h2.box.settle (by decide) (SlAt.lit [⟨⟨2, 1⟩, 2⟩] #[.int .i64 2, .int .i64 1, .int .i64 2] rfl (by simp [maxLen])) (fun r hr => by rw [List.mem_singleton.1 hr]; simp [Run.In, I64]) (by decide) fun b hb _ => h.lit 1 1 b hb).mono ?_
  rintro e w' ⟨he, h3, h4⟩
  rw [ksettle.1] at he
  rw [ksettle.2] at h3
  exact ⟨he, h2.turned h3 h4⟩
theorem KW.coll (h : KW w W g za v k5 Wc) : Calls Try.prog 16 #[.pointer (some ⟨g, 0, none⟩)] Wc fun e w' => e = .returned (.int .i64 2) ∧ KW w W g za v k6 w' := by
  refine (h.box.collect (by decide)).mono ?_
  rintro e w' ⟨he, h3, h4⟩
  rw [kcoll.1] at he
  rw [kcoll.2] at h3
  exact ⟨he, h.turned h3 h4⟩
theorem KW.runs (h : KW w W g za v L Wc) : Calls Try.prog 25 #[v, .slice (some ⟨Wc.heap.size, 0, none⟩) 3 3] (Wc.alloc (.cells #[.int .i64 1, .int .i64 1, .int .i64 3, .int .i64 4, .int .i64 2, .int .i64 1, .int .i64 4, .int .i64 3, .int .i64 1] 61)) fun e w' => e = .returned (.bool true) ∧ KW w W g za v L w' := by
  have h2 := h.still ((Kept.refl _ Wc).alloc (.cells #[.int .i64 1, .int .i64 1, .int .i64 3, .int .i64 4, .int .i64 2, .int .i64 1, .int .i64 4, .int .i64 3, .int .i64 1] 61))
  refine (lruns_eq h2.row (SlAt.lit kruns _ rfl (by simp [maxLen, kruns])) (by decide)).mono ?_
  rintro e w' ⟨he, q, rfl⟩
  exact ⟨he, h2.still ((Kept.refl _ _).drewN q)⟩
theorem KW.text (h : KW w W g za v k6 Wc) : Calls Try.prog 17 #[.pointer (some ⟨g, 0, none⟩)] Wc fun e w' => e = .returned (.string ⟨#[122, 120]⟩) ∧ KW w W g za v k6 w' := by
  refine (h.box.text (by decide)).mono ?_
  rintro e w' ⟨he, h4⟩
  rw [ktext.2.1] at he
  exact ⟨he, h.still h4⟩
theorem KW.len (h : KW w W g za v k6 Wc) : Calls Try.prog 18 #[.pointer (some ⟨g, 0, none⟩)] Wc fun e w' => e = .returned (.int .i64 2) ∧ KW w W g za v k6 w' := by
  refine (h.box.len (by decide)).mono ?_
  rintro e w' ⟨he, h4⟩
  rw [ktext.2.2.1] at he
  exact ⟨he, h.still h4⟩
theorem KW.many (h : KW w W g za v k6 Wc) : Calls Try.prog 19 #[.pointer (some ⟨g, 0, none⟩)] Wc fun e w' => e = .returned (.int .i64 3) ∧ KW w W g za v k6 w' := by
  refine h.box.kept.mono ?_
  rintro e w' ⟨he, rfl⟩
  exact ⟨he, h⟩
theorem KW.find (h : KW w W g za v k4 Wc) : Calls Try.prog 12 #[.pointer (some ⟨g, 0, none⟩), .agg #[.int .i64 2, .int .i64 1]] Wc fun e w' => e = .returned (.tuple #[.int .i64 2, .int .i64 2]) ∧ KW w W g za v k4 w' := by
  refine (h.box.find (by decide) ⟨2, 1⟩).mono ?_
  rintro e w' ⟨he, h4⟩
  rw [kfind.1] at he
  exact ⟨he, h.still h4⟩
set_option maxRecDepth 100000 in
set_option maxHeartbeats 8000000 in
theorem known_any (w : World) : Calls Try.prog 9 #[] w fun e w' => e = .returned (.bool true) ∧ Kept (fun _ => False) w w' := by
  have ST := Lib.hid (KT.made w)
  have I1 : Hid (∀ W, KT w w.heap.size [] W → Calls Try.prog 13 #[.pointer (some ⟨w.heap.size, 0, none⟩), .agg #[.int .i64 1, .int .i64 1], .agg #[.int .i64 0, .int .i64 0], .string ⟨#[104, 195, 169, 121]⟩] W fun e w' => e = .returned (.int .i64 0) ∧ KT w w.heap.size k1 w') := Lib.hid fun W h => by
    have h9 := h.insert ⟨1, 1⟩ ⟨0, 0⟩ sHey (by decide) (by decide +kernel)
    rw [kins1.1, kins1.2] at h9
    exact h9
  have I2 : Hid (∀ W, KT w w.heap.size k1 W → Calls Try.prog 13 #[.pointer (some ⟨w.heap.size, 0, none⟩), .agg #[.int .i64 4, .int .i64 2], .agg #[.int .i64 1, .int .i64 1], .string ⟨#[120]⟩] W fun e w' => e = .returned (.int .i64 0) ∧ KT w w.heap.size k2 w') := Lib.hid fun W h => by
    have h9 := h.insert ⟨4, 2⟩ ⟨1, 1⟩ ⟨#[120]⟩ (by decide) (by decide +kernel)
    rw [kins2.1, kins2.2] at h9
    exact h9
  have I3 : Hid (∀ W, KT w w.heap.size k2 W → Calls Try.prog 13 #[.pointer (some ⟨w.heap.size, 0, none⟩), .agg #[.int .i64 4, .int .i64 3], .agg #[.int .i64 1, .int .i64 1], .string ⟨#[122]⟩] W fun e w' => e = .returned (.int .i64 0) ∧ KT w w.heap.size k3 w') := Lib.hid fun W h => by
    have h9 := h.insert ⟨4, 3⟩ ⟨1, 1⟩ ⟨#[122]⟩ (by decide) (by decide +kernel)
    rw [kins3.1, kins3.2] at h9
    exact h9
  have I4 : Hid (∀ W, KT w w.heap.size k3 W → Calls Try.prog 13 #[.pointer (some ⟨w.heap.size, 0, none⟩), .agg #[.int .i64 4, .int .i64 2], .agg #[.int .i64 1, .int .i64 1], .string ⟨#[113]⟩] W fun e w' => e = .returned (.int .i64 12) ∧ KT w w.heap.size k3 w') := Lib.hid fun W h => by
    have h9 := h.insert ⟨4, 2⟩ ⟨1, 1⟩ ⟨#[113]⟩ (by decide) (by decide +kernel)
    rw [kins4.1, kins4.2] at h9
    exact h9
  have TX : Hid (∀ W, KT w w.heap.size k3 W → Calls Try.prog 17 #[.pointer (some ⟨w.heap.size, 0, none⟩)] W fun e w' => e = .returned (.string ⟨#[104, 122, 120, 195, 169, 121]⟩) ∧ Kept (fun _ => False) W w') := Lib.hid fun W h => by
    have h9 := h.2.text (by decide)
    rw [ktext.1] at h9
    exact h9
  go_enter Try.func9, Try.ntmps9
  go_upto_region 4 with (first
    | (go_at_call 23; refine (new_any _).mono ?_; rintro e w' ⟨rfl, rfl⟩; have K0 := Lib.hid ST.out)
    | (go_at_call 28; refine (id_any _ _ _).mono ?_; rintro e w' ⟨rfl, hg⟩; first | have K3 := Lib.hid (K3.out.still hg.kept) | have K2 := Lib.hid (K2.out.still hg.kept) | have K1 := Lib.hid (K1.out.still hg.kept) | have K0 := Lib.hid (K0.out.still hg.kept); clear hg)
    | (go_at_call 13; with_reducible refine (I4.out _ K3.out).mono ?_; rintro e w' ⟨rfl, ht⟩; have K3 := Lib.hid ht; clear ht)
    | (go_at_call 13; with_reducible refine (I3.out _ K2.out).mono ?_; rintro e w' ⟨rfl, ht⟩; have K3 := Lib.hid ht; clear ht)
    | (go_at_call 13; with_reducible refine (I2.out _ K1.out).mono ?_; rintro e w' ⟨rfl, ht⟩; have K2 := Lib.hid ht; clear ht)
    | (go_at_call 13; with_reducible refine (I1.out _ K0.out).mono ?_; rintro e w' ⟨rfl, ht⟩; have K1 := Lib.hid ht; clear ht)
    | (go_at_call 17; refine (TX.out _ K3.out).mono ?_; rintro e w' ⟨rfl, ht⟩; have K3 := Lib.hid (K3.out.still ht); clear ht))
  obtain ⟨W4, hW4⟩ : ∃ W4 : World, W4 = w' := ⟨_, rfl⟩
  rw [← hW4] at K3 ⊢
  clear hW4 I1 I2 I3 I4 TX ST
  have T4 := Lib.hid K3.out.2.low
  go_upto_region 5 with (go_at_call 10; refine (T4.out.look (by decide) 1).mono ?_; rw [kfind.2]; rintro e w5 ⟨rfl, hk5⟩)
  have hA := Blk.new w5 27 #[.int .i64 4, .int .i64 3]
  have hk6 : Kept (fun _ => False) W4 (w5.alloc (.cells #[.int .i64 4, .int .i64 3] 27)) := hk5.alloc _
  have hza := hk5.size
  have T6 := Lib.hid (T4.out.still hk6)
  have KK6 := Lib.hid hk6
  have KT4 := Lib.hid K3.out.1
  have HA := Lib.hid hA
  have HZ := Lib.hid hza
  obtain ⟨za, hz⟩ : ∃ za, w5.heap.size = za := ⟨_, rfl⟩
  obtain ⟨w6, hw6⟩ : ∃ w6, w5.alloc (.cells #[.int .i64 4, .int .i64 3] 27) = w6 := ⟨_, rfl⟩
  rw [hz] at HZ HA ⊢
  rw [hw6] at HA T6 KK6 ⊢
  clear hw6 hz hA hk6 hza hk5 K3 T4
  go_upto_region 6 with (go_at_call 11; refine (T6.out.span (by decide) kspan.1).mono ?_; rintro e w7 ⟨⟨v, T, rfl, hT, ho⟩, hk7⟩)
  have hKW : KW w W4 w.heap.size za v k3 w7 := by
    rw [kspan.2 T hT] at ho
    exact ⟨T6.out.still hk7, (KT4.out.trans KK6.out fun _ _ h => h).trans hk7 fun _ _ h => h, hk7.blk (fun h => h) HA.out, HZ.out, owns_slAt ho, fun b hb => Nat.le_trans KK6.out.size (owns_lt ho b hb).1, Nat.le_trans KK6.out.size hk7.size⟩
  have K := Lib.hid hKW
  clear hKW hT ho hk7 HA HZ T6 KK6 KT4
  go_upto_region 10 with (first
    | (go_at_call 28; refine (id_any _ _ _).mono ?_; rintro e w' ⟨rfl, hg⟩; have K := Lib.hid (K.out.still hg.kept); clear hg)
    | (go_at_call 14; refine K.out.del.mono ?_; rintro e w' ⟨rfl, ht⟩; have K := Lib.hid ht; clear ht)
    | (go_at_call 15; refine K.out.set.mono ?_; rintro e w' ⟨rfl, ht⟩; have K := Lib.hid ht; clear ht)
    | (go_at_call 12; refine K.out.find.mono ?_; rintro e w' ⟨rfl, ht⟩; have K := Lib.hid ht; clear ht)
    | (go_at_call 16; refine K.out.coll.mono ?_; rintro e w' ⟨rfl, ht⟩; have K := Lib.hid ht; clear ht))
  have c0 := K.out.a.cell' (i := 0) (v := .int .i64 4) rfl
  have c1 := K.out.a.cell' (i := 1) (v := .int .i64 3) rfl
  have K := Lib.hid (K.out.still ((Kept.refl _ _).drew))
  go_region_held3 (fun w' : World => w'.cell? ⟨za, 0, none⟩ = some (.int .i64 4) ∧ w'.cell? ⟨za, 1, none⟩ = some (.int .i64 3)) (first | exact ⟨K.out.a.cell' rfl, K.out.a.cell' rfl⟩ | go_keep) (first
    | (go_at_call 28; refine (id_any _ _ _).mono ?_; rintro e w'' ⟨rfl, hg⟩; have K := Lib.hid (K.out.still hg.kept); clear hg)
    | (go_at_call 25; refine K.out.runs.mono ?_; rintro e w' ⟨rfl, ht⟩; have K := Lib.hid ht; clear ht)
    | (go_at_call 17; refine K.out.text.mono ?_; rintro e w' ⟨rfl, ht⟩; have K := Lib.hid ht; clear ht)
    | (go_at_call 19; refine K.out.many.mono ?_; rintro e w' ⟨rfl, ht⟩; have K := Lib.hid ht; clear ht)
    | (go_at_call 18; refine K.out.len.mono ?_; rintro e w' ⟨rfl, ht⟩; have K := Lib.hid ht; clear ht))
  go_wp2
  go_ret
  exact ⟨rfl, K.out.kept⟩
end Go.Proofs.Ytlafodnaifghcaa.Tr
