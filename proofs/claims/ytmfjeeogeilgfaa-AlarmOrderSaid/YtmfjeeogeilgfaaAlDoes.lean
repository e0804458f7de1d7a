/- does: one call on both Alarms. -/
import Derived.Test.YtmfjeeogeilgfaaAlLaw
namespace Go.Proofs.Ytmfjeeogeilgfaa.Al
open Go.RowKit

/-- an Alarm and the document's, alike and apart -/
structure Pair (w : World) (A B : Nat) (l m : Int) (ts : List T) (F G : Nat → Prop) : Prop where
  a : AlarmIs w A l m ts F
  b : RefIs w B l m ts G
  d : ∀ x, F x → ¬ G x
/-- the pair has gone on -/
def Goes (w : World) (A B : Nat) (l m : Int) (n : Nat) (F G : Nat → Prop) (w' : World) : Prop :=
  ∃ us F' G', Pair w' A B l m us F' G' ∧ us.length ≤ n ∧ (∀ b, b < w.heap.size → F' b ∨ G' b → F b ∨ G b) ∧ Kept (fun b => F b ∨ G b) w w'

section
variable {w w0 w1 w2 w3 : World} {A B : Nat} {l m : Int} {ts us : List T} {F G F1 G1 : Nat → Prop}
theorem Pair.keep (h : Pair w A B l m ts F G) {S : Nat → Prop} (hk : Kept S w w1) (hs : ∀ b, F b ∨ G b → ¬ S b) : Pair w1 A B l m ts F G :=
  ⟨h.a.keep hk fun b hb => hs b (.inl hb), h.b.keep hk fun b hb => hs b (.inr hb), h.d⟩
/-- behind the first call of two -/
theorem Pair.mid (h : Pair w A B l m ts F G) (hF : ∀ b, b < w.heap.size → F1 b → F b) (hk : Kept F w w1) : RefIs w1 B l m ts G ∧ ∀ x, F1 x → ¬ G x :=
  ⟨h.b.keep hk fun b hb hf => h.d b hf hb, fun x hx hg => by have hlt := h.b.lt x hg; exact h.d x (hF x hlt hx) hg⟩
/-- behind both -/
theorem Goes.mk (h : Pair w A B l m ts F G) (hk0 : Kept (fun _ => False) w w0) (hA : AlarmIs w1 A l m us F1) (hF : ∀ b, b < w0.heap.size → F1 b → F b) (hk1 : Kept F w0 w1)
    {vs : List T} (hp : us.Perm vs) (hB : RefIs w2 B l m vs G1) (hG : ∀ b, b < w1.heap.size → G1 b → G b) (hk2 : Kept G w1 w2) {n : Nat} (hn : us.length ≤ n) (q : Nat) : Goes w A B l m n F G (w2.drewN q) := by
  have hs0 := hk0.size
  have hs1 := hk1.size
  have hd : ∀ b, F1 b → ¬ G b := fun b hb hg => by have hlt := h.b.lt b hg; exact h.d b (hF b (by omega) hb) hg
  refine ⟨us, F1, G1, ⟨(hA.keep hk2 (fun b hb hg => hd b hb hg)).drewN q, (hB.perm hp.symm).drewN q, fun b hb hg => ?_⟩, hn, fun b hb h' => ?_, ((((hk0.mono fun _ _ h => h.elim).trans hk1 fun b _ h => .inl h).trans hk2 fun b _ h => .inr h)).drewN q⟩
  · have hlt := hA.lt b hb
    exact hd b hb (hG b hlt hg)
  · rcases h' with h' | h'
    · exact .inl (hF b (by omega) h')
    · exact .inr (hG b (by omega) h')
theorem setT_len (l : Int) (ts : List T) (k now : Int) : (setT l ts k now).length ≤ ts.length + 1 := by unfold setT; split <;> (try split) <;> simp
theorem resT_len (l : Int) (ts : List T) (k now : Int) : (resT l ts k now).length ≤ ts.length + 1 := by
  unfold resT; split
  · simp
  · have := List.length_filter_le (fun t : T => t.key != k) ts
    simp; omega
theorem DueR.len {m now : Int} {ts us : List T} {ks : List Int} (h : DueR m now ts ks us) : us.length = ts.length := by
  induction h with
  | stop _ h => exact h.length_eq.symm
  | step h1 _ _ _ ih => rw [ih, h1.length_eq]; rfl
theorem DueIs.len {m now : Int} {ts us : List T} {ks : List Int} (h : DueIs m now ts ks us) : us.length = ts.length := by
  unfold DueIs at h; split at h
  · exact h.len
  · exact h.2.length_eq.symm

theorem IntsAt.len {w : World} {v : Value} {ks : List Int} (h : IntsAt w v ks) : ks.length ≤ 9223372036854775807 := by
  rcases h.2.2 with ⟨_, h0⟩ | ⟨g, cap, cur, _, _, _, h1, h2, _⟩
  · omega
  · have : maxLen ≤ 9223372036854775807 := by decide
    omega
theorem Answers.apart {w w1 : World} {v : Value} {ks : List Int} {S : Nat → Prop} (h : Answers w v ks w1) (hs : ∀ b, S b → b < w.heap.size) : ∀ b, v.ownBlock = some b → ¬ S b := by
  intro b hb hS
  have := hs b hS
  rcases h.2.2 with ⟨rfl, _⟩ | ⟨g, cap, cur, rfl, hg, _⟩
  · simp [Value.ownBlock] at hb
  · simp [Value.ownBlock] at hb
    omega

set_option maxHeartbeats 1000000 in
theorem does_set (h : Pair w A B l m ts F G) (key now : Int) (hbig : ts.length < 1000000) :
    Calls Try.prog 13 #[.pointer (some ⟨A, 0, none⟩), .pointer (some ⟨B, 0, none⟩), .agg #[.int .i64 1, .int .i64 key, .int .i64 now]] w fun e w' => e = .returned (.bool true) ∧ Goes w A B l m (ts.length + 1) F G w' := by
  have hk0 : Kept (fun _ => False) w (w.alloc (.cells #[.int .i64 1, .int .i64 key, .int .i64 now] 35)).drew := ((Kept.refl _ _).alloc _).drew
  have h0 := h.keep hk0 (fun _ _ h => h)
  have hb := (Blk.new w 35 #[.int .i64 1, .int .i64 key, .int .i64 now]).drewN 1
  have p1 : (w.alloc (.cells #[.int .i64 1, .int .i64 key, .int .i64 now] 35)).drew.cell? ⟨w.heap.size, 1, none⟩ = some (.int .i64 key) := hb.cell' rfl
  have p2 : (w.alloc (.cells #[.int .i64 1, .int .i64 key, .int .i64 now] 35)).drew.cell? ⟨w.heap.size, 2, none⟩ = some (.int .i64 now) := hb.cell' rfl
  have HB := Lib.hid hb
  have HK := Lib.hid hk0
  have nF : ¬ F w.heap.size := fun e => Nat.lt_irrefl _ (h.a.lt _ e)
  have nG : ¬ G w.heap.size := fun e => Nat.lt_irrefl _ (h.b.lt _ e)
  clear hb hk0
  go_enter Try.func13, Try.ntmps13
  go_wp2_with fail
  go_region_held3 (fun w' => w'.cell? ⟨w.heap.size, 1, none⟩ = some (.int .i64 key) ∧ w'.cell? ⟨w.heap.size, 2, none⟩ = some (.int .i64 now)) (first | exact ⟨p1, p2⟩ | exact ⟨r1, r2⟩ | exact ⟨s1, s2⟩)
    (first
      | (go_simp; go_at_call 17; refine (aset h0.a key now hbig).mono ?_; rintro e w1 ⟨rfl, F1, hA1, hF1, hk1⟩; obtain ⟨hB1, hd1⟩ := h0.mid hF1 hk1; have hb1 := hk1.blk nF HB.out; have r1 : w1.cell? ⟨w.heap.size, 1, none⟩ = some (.int .i64 key) := hb1.cell' rfl; have r2 : w1.cell? ⟨w.heap.size, 2, none⟩ = some (.int .i64 now) := hb1.cell' rfl)
      | (go_simp; go_at_call 25; refine (rset hB1 key now hbig).mono ?_; rintro e w2 ⟨rfl, G1, hB2, hG1, hk2⟩; have hb2 := hk2.blk nG hb1; have s1 : w2.cell? ⟨w.heap.size, 1, none⟩ = some (.int .i64 key) := hb2.cell' rfl; have s2 : w2.cell? ⟨w.heap.size, 2, none⟩ = some (.int .i64 now) := hb2.cell' rfl))
  obtain ⟨hB1, hd1⟩ := h0.mid hF1 hk1
  go_wp2_with fail
  refine (alike_any (hA1.keep hk2 hd1) hB2 key (by have := setT_len l ts key now; omega)).mono ?_
  rintro e w3 ⟨rfl, q, rfl⟩
  go_wp2_with fail
  go_ret
  exact ⟨rfl, Goes.mk h HK.out hA1 hF1 hk1 (List.Perm.refl _) hB2 hG1 hk2 (setT_len l ts key now) q⟩
set_option maxHeartbeats 1000000 in
theorem does_reset (h : Pair w A B l m ts F G) (key now : Int) (hbig : ts.length < 1000000) :
    Calls Try.prog 13 #[.pointer (some ⟨A, 0, none⟩), .pointer (some ⟨B, 0, none⟩), .agg #[.int .i64 2, .int .i64 key, .int .i64 now]] w fun e w' => e = .returned (.bool true) ∧ Goes w A B l m (ts.length + 1) F G w' := by
  have hk0 : Kept (fun _ => False) w (w.alloc (.cells #[.int .i64 2, .int .i64 key, .int .i64 now] 35)).drew := ((Kept.refl _ _).alloc _).drew
  have h0 := h.keep hk0 (fun _ _ h => h)
  have hb := (Blk.new w 35 #[.int .i64 2, .int .i64 key, .int .i64 now]).drewN 1
  have p1 : (w.alloc (.cells #[.int .i64 2, .int .i64 key, .int .i64 now] 35)).drew.cell? ⟨w.heap.size, 1, none⟩ = some (.int .i64 key) := hb.cell' rfl
  have p2 : (w.alloc (.cells #[.int .i64 2, .int .i64 key, .int .i64 now] 35)).drew.cell? ⟨w.heap.size, 2, none⟩ = some (.int .i64 now) := hb.cell' rfl
  have HB := Lib.hid hb
  have HK := Lib.hid hk0
  have nF : ¬ F w.heap.size := fun e => Nat.lt_irrefl _ (h.a.lt _ e)
  have nG : ¬ G w.heap.size := fun e => Nat.lt_irrefl _ (h.b.lt _ e)
  clear hb hk0
  go_enter Try.func13, Try.ntmps13
  go_wp2_with fail
  go_region_held3 (fun w' => w'.cell? ⟨w.heap.size, 1, none⟩ = some (.int .i64 key) ∧ w'.cell? ⟨w.heap.size, 2, none⟩ = some (.int .i64 now)) (first | exact ⟨p1, p2⟩ | exact ⟨r1, r2⟩ | exact ⟨s1, s2⟩)
    (first
      | (go_simp; go_at_call 18; refine (areset h0.a key now hbig).mono ?_; rintro e w1 ⟨rfl, F1, hA1, hF1, hk1⟩; obtain ⟨hB1, hd1⟩ := h0.mid hF1 hk1; have hb1 := hk1.blk nF HB.out; have r1 : w1.cell? ⟨w.heap.size, 1, none⟩ = some (.int .i64 key) := hb1.cell' rfl; have r2 : w1.cell? ⟨w.heap.size, 2, none⟩ = some (.int .i64 now) := hb1.cell' rfl)
      | (go_simp; go_at_call 26; refine (rreset hB1 key now hbig).mono ?_; rintro e w2 ⟨rfl, G1, hB2, hG1, hk2⟩; have hb2 := hk2.blk nG hb1; have s1 : w2.cell? ⟨w.heap.size, 1, none⟩ = some (.int .i64 key) := hb2.cell' rfl; have s2 : w2.cell? ⟨w.heap.size, 2, none⟩ = some (.int .i64 now) := hb2.cell' rfl))
  obtain ⟨hB1, hd1⟩ := h0.mid hF1 hk1
  go_wp2_with fail
  refine (alike_any (hA1.keep hk2 hd1) hB2 key (by have := resT_len l ts key now; omega)).mono ?_
  rintro e w3 ⟨rfl, q, rfl⟩
  go_wp2_with fail
  go_ret
  exact ⟨rfl, Goes.mk h HK.out hA1 hF1 hk1 (List.Perm.refl _) hB2 hG1 hk2 (resT_len l ts key now) q⟩

set_option maxHeartbeats 1000000 in
theorem does_off (h : Pair w A B l m ts F G) (key now : Int) (hbig : ts.length < 1000000) :
    Calls Try.prog 13 #[.pointer (some ⟨A, 0, none⟩), .pointer (some ⟨B, 0, none⟩), .agg #[.int .i64 3, .int .i64 key, .int .i64 now]] w fun e w' => e = .returned (.bool true) ∧ Goes w A B l m (ts.length + 1) F G w' := by
  have hk0 : Kept (fun _ => False) w (w.alloc (.cells #[.int .i64 3, .int .i64 key, .int .i64 now] 35)) := ((Kept.refl _ _).alloc _)
  have h0 := h.keep hk0 (fun _ _ h => h)
  have hb := (Blk.new w 35 #[.int .i64 3, .int .i64 key, .int .i64 now])
  have p1 : (w.alloc (.cells #[.int .i64 3, .int .i64 key, .int .i64 now] 35)).cell? ⟨w.heap.size, 1, none⟩ = some (.int .i64 key) := hb.cell' rfl
  have p2 : (w.alloc (.cells #[.int .i64 3, .int .i64 key, .int .i64 now] 35)).cell? ⟨w.heap.size, 2, none⟩ = some (.int .i64 now) := hb.cell' rfl
  have HB := Lib.hid hb
  have HK := Lib.hid hk0
  have nF : ¬ F w.heap.size := fun e => Nat.lt_irrefl _ (h.a.lt _ e)
  have nG : ¬ G w.heap.size := fun e => Nat.lt_irrefl _ (h.b.lt _ e)
  clear hb hk0
  go_enter Try.func13, Try.ntmps13
  go_wp2_with fail
  refine (aoff h0.a key (by omega)).mono ?_
  rintro e w1 ⟨rfl, F1, hA1, hF1, hk1⟩
  obtain ⟨hB1, hd1⟩ := h0.mid hF1 hk1
  have hb1 := hk1.blk nF HB.out
  have r1 : w1.cell? ⟨w.heap.size, 1, none⟩ = some (.int .i64 key) := hb1.cell' rfl
  go_wp2_with fail
  refine (roff hB1 key (by omega)).mono ?_
  rintro e w2 ⟨rfl, G1, hB2, hG1, hk2⟩
  have hb2 := hk2.blk nG hb1
  have s1 : w2.cell? ⟨w.heap.size, 1, none⟩ = some (.int .i64 key) := hb2.cell' rfl
  have hl := List.length_filter_le (fun t : T => t.key != key) ts
  have HL := Lib.hid hl
  clear hl
  go_wp2_with fail
  refine (alike_any (hA1.keep hk2 hd1) hB2 key (by have := HL.out; omega)).mono ?_
  rintro e w3 ⟨rfl, q, rfl⟩
  go_wp2_with fail
  go_ret
  exact ⟨rfl, Goes.mk h HK.out hA1 hF1 hk1 (List.Perm.refl _) hB2 hG1 hk2 (by have := HL.out; omega) q⟩

set_option maxHeartbeats 1000000 in
theorem does_other (h : Pair w A B l m ts F G) (kind key now : Int) (h1 : (kind == 1) = false) (h2 : (kind == 2) = false) (h3 : (kind == 3) = false) (h4 : (kind == 4) = false) (hbig : ts.length < 1000000) :
    Calls Try.prog 13 #[.pointer (some ⟨A, 0, none⟩), .pointer (some ⟨B, 0, none⟩), .agg #[.int .i64 kind, .int .i64 key, .int .i64 now]] w fun e w' => e = .returned (.bool true) ∧ Goes w A B l m (ts.length + 1) F G w' := by
  have hk0 : Kept (fun _ => False) w (w.alloc (.cells #[.int .i64 kind, .int .i64 key, .int .i64 now] 35)) := ((Kept.refl _ _).alloc _)
  have h0 := h.keep hk0 (fun _ _ h => h)
  have hb := (Blk.new w 35 #[.int .i64 kind, .int .i64 key, .int .i64 now])
  have p1 : (w.alloc (.cells #[.int .i64 kind, .int .i64 key, .int .i64 now] 35)).cell? ⟨w.heap.size, 1, none⟩ = some (.int .i64 key) := hb.cell' rfl
  have p2 : (w.alloc (.cells #[.int .i64 kind, .int .i64 key, .int .i64 now] 35)).cell? ⟨w.heap.size, 2, none⟩ = some (.int .i64 now) := hb.cell' rfl
  have HB := Lib.hid hb
  have HK := Lib.hid hk0
  have nF : ¬ F w.heap.size := fun e => Nat.lt_irrefl _ (h.a.lt _ e)
  have nG : ¬ G w.heap.size := fun e => Nat.lt_irrefl _ (h.b.lt _ e)
  clear hb hk0
  go_enter Try.func13, Try.ntmps13
  go_wp2_with fail
  refine (alike_any h0.a h0.b key (by omega)).mono ?_
  rintro e w3 ⟨rfl, q, rfl⟩
  go_wp2_with fail
  go_ret
  exact ⟨rfl, Goes.mk h HK.out h0.a (fun _ _ h => h) (Kept.refl _ _) (List.Perm.refl _) h0.b (fun _ _ h => h) (Kept.refl _ _) (by omega) q⟩

set_option maxHeartbeats 1000000 in
theorem does_due (h : Pair w A B l m ts F G) (key now : Int) (hbig : ts.length < 1000000) :
    Calls Try.prog 13 #[.pointer (some ⟨A, 0, none⟩), .pointer (some ⟨B, 0, none⟩), .agg #[.int .i64 4, .int .i64 key, .int .i64 now]] w fun e w' => e = .returned (.bool true) ∧ Goes w A B l m (ts.length + 1) F G w' := by
  have hk0 : Kept (fun _ => False) w (w.alloc (.cells #[.int .i64 4, .int .i64 key, .int .i64 now] 35)).drew := ((Kept.refl _ _).alloc _).drew
  have h0 := h.keep hk0 (fun _ _ h => h)
  have hb := (Blk.new w 35 #[.int .i64 4, .int .i64 key, .int .i64 now]).drewN 1
  have p1 : (w.alloc (.cells #[.int .i64 4, .int .i64 key, .int .i64 now] 35)).drew.cell? ⟨w.heap.size, 1, none⟩ = some (.int .i64 key) := hb.cell' rfl
  have p2 : (w.alloc (.cells #[.int .i64 4, .int .i64 key, .int .i64 now] 35)).drew.cell? ⟨w.heap.size, 2, none⟩ = some (.int .i64 now) := hb.cell' rfl
  have HB := Lib.hid hb
  have HK := Lib.hid hk0
  have nF : ¬ F w.heap.size := fun e => Nat.lt_irrefl _ (h.a.lt _ e)
  have nG : ¬ G w.heap.size := fun e => Nat.lt_irrefl _ (h.b.lt _ e)
  have N := Lib.hid h.a.good.keys
  clear hb hk0
  go_enter Try.func13, Try.ntmps13
  go_wp2_with fail
  go_region_held3 (fun w' => w'.cell? ⟨w.heap.size, 1, none⟩ = some (.int .i64 key) ∧ w'.cell? ⟨w.heap.size, 2, none⟩ = some (.int .i64 now)) (first | exact ⟨p1, p2⟩ | exact ⟨r1, r2⟩ | exact ⟨s1, s2⟩)
    (first
      | (go_simp; go_at_call 19; refine (adue h0.a now (by omega)).mono ?_; rintro e w1 ⟨v1, ks1, us1, rfl, hd1, ha1, F1, hA1, hF1, hk1⟩; have D1 := Lib.hid hd1; have A1 := Lib.hid ha1; clear hd1 ha1; obtain ⟨hB1, hd1⟩ := h0.mid hF1 hk1; have hb1 := hk1.blk nF HB.out; have r1 : w1.cell? ⟨w.heap.size, 1, none⟩ = some (.int .i64 key) := hb1.cell' rfl; have r2 : w1.cell? ⟨w.heap.size, 2, none⟩ = some (.int .i64 now) := hb1.cell' rfl)
      | (go_simp; go_at_call 28; refine (rdue hB1 now (by omega)).mono ?_; rintro e w2 ⟨v2, ks2, us2, rfl, hd2, ha2, G1, hB2, hG1, hk2⟩; obtain ⟨rfl, hp2⟩ := D1.out.unique N.out hd2; have P2 := Lib.hid hp2; have A2 := Lib.hid ha2; clear hd2 ha2 hp2; have hb2 := hk2.blk nG hb1; have s1 : w2.cell? ⟨w.heap.size, 1, none⟩ = some (.int .i64 key) := hb2.cell' rfl; have s2 : w2.cell? ⟨w.heap.size, 2, none⟩ = some (.int .i64 now) := hb2.cell' rfl)
      | (go_simp; go_at_call 21; refine (ints_same (A1.out.ints.keep hk2 (A1.out.apart h0.b.lt)) A2.out.ints A2.out.ints.len).mono ?_; rintro e w3 ⟨rfl, q3, rfl⟩))
  go_wp2_with fail
  refine (alike_any ((hA1.keep hk2 hd1).drewN q3) ((hB2.perm P2.out).drewN q3) key (by have := D1.out.len; omega)).mono ?_
  rintro e w3 ⟨rfl, q, rfl⟩
  go_wp2_with fail
  go_ret
  exact ⟨rfl, Goes.mk h HK.out hA1 hF1 hk1 (List.Perm.refl _) (hB2.perm P2.out) hG1 hk2 (by have := D1.out.len; omega) _⟩

theorem does_any (h : Pair w A B l m ts F G) (kind key now : Int) (hbig : ts.length < 1000000) :
    Calls Try.prog 13 #[.pointer (some ⟨A, 0, none⟩), .pointer (some ⟨B, 0, none⟩), .agg #[.int .i64 kind, .int .i64 key, .int .i64 now]] w fun e w' => e = .returned (.bool true) ∧ Goes w A B l m (ts.length + 1) F G w' := by
  by_cases h1 : kind = 1
  · subst h1; exact does_set h key now hbig
  by_cases h2 : kind = 2
  · subst h2; exact does_reset h key now hbig
  by_cases h3 : kind = 3
  · subst h3; exact does_off h key now hbig
  by_cases h4 : kind = 4
  · subst h4; exact does_due h key now hbig
  exact does_other h kind key now (by simp [h1]) (by simp [h2]) (by simp [h3]) (by simp [h4]) hbig
end
end Go.Proofs.Ytmfjeeogeilgfaa.Al
