/- What changes an Alarm: New, Off, Reset, Set. -/
import Derived.Test.YtmfjeeogeilgfaaAlRead
import Derived.StillTailTactics
namespace Go.Proofs.Ytmfjeeogeilgfaa.Al
open Go.RowKit
section
variable {w : World} {A : Nat} {l m : Int} {mv : Value} {X : Row} {F : Nat → Prop}

theorem new_ok (h1 : 1 ≤ l) (h2 : l ≤ m) (h3 : m ≤ 4096) (w : World) : Calls Try.prog 9 #[.int .i64 l, .int .i64 m] w fun e w' => e = .returned (.tuple #[.pointer (some ⟨w.heap.size, 0, none⟩), .int .i64 0]) ∧
    AlarmAt w' w.heap.size l m [] (fun b => b = w.heap.size) ∧ Kept (fun _ => False) w w' := by
  go_enter Try.func9, Try.ntmps9
  go_wp2
  go_ret2
  exact ⟨rfl, ⟨⟨_, _, _, .inl ⟨rfl, Blk.new _ _ _, rfl⟩, .inl ⟨rfl, rfl, rfl⟩, by simp⟩, by simp, by simp, ⟨by omega, h2, h3⟩, fun _ => rfl⟩, (Kept.refl _ _).alloc _⟩
theorem new_bad (h : l < 1 ∨ m < l ∨ 4096 < m) (w : World) : Calls Try.prog 9 #[.int .i64 l, .int .i64 m] w fun e w' => e = .returned (.tuple #[.pointer none, .int .i64 1]) ∧ w = w' := by
  by_cases h1 : l < 1
  · go_enter Try.func9, Try.ntmps9
    go_wp2
    go_ret2
    exact ⟨rfl, rfl⟩
  · by_cases h2 : m < l
    · go_enter Try.func9, Try.ntmps9
      go_wp2
      go_ret2
      exact ⟨rfl, rfl⟩
    · have h3 : 4096 < m := by omega
      go_enter Try.func9, Try.ntmps9
      go_wp2
      go_ret2
      exact ⟨rfl, rfl⟩

theorem isTick_any (n : Int) (w : World) : Calls Try.prog 30 #[.int .i64 n] w fun e w' => e = .returned (.bool (decide (0 ≤ n) && decide (n ≤ 2147483647))) ∧ w = w' := by
  by_cases h0 : 0 ≤ n
  · go_enter Try.func30, Try.ntmps30
    go_wp2
    go_ret
    exact ⟨by simp [h0], rfl⟩
  · go_enter Try.func30, Try.ntmps30
    go_wp2
    go_ret
    exact ⟨by simp; omega, rfl⟩

theorem off_nil (k : Int) (w : World) : Calls Try.prog 14 #[.pointer none, .int .i64 k] w fun e w' => e = .returned (.tuple #[]) ∧ w = w' := by
  go_enter Try.func14, Try.ntmps14
  go_wp2
  first | go_end0 | refine bodyPost_ret (results_none rfl _ _ _) rfl ?_
  exact ⟨rfl, rfl⟩
theorem off_none (h : AlarmAt w A l m X F) {k : Int} (hx : ∀ x ∈ X, x.2.key ≠ k) : Calls Try.prog 14 #[.pointer (some ⟨A, 0, none⟩), .int .i64 k] w fun e w' => e = .returned (.tuple #[]) ∧ w = w' := by
  obtain ⟨mv, F0, F1, h1, h2, h3⟩ := h.ex
  obtain ⟨r, rfl, hl⟩ := look_none h2 hx
  obtain ⟨v, hA⟩ := h1.blk
  have c2 : w.cell? ⟨A, 2, none⟩ = some (.map r) := hA.cell' rfl
  clear hA h1 h2 h3 h
  go_enter Try.func14, Try.ntmps14
  go_wp2
  first | go_end0 | refine bodyPost_ret (results_none rfl _ _ _) rfl ?_
  exact ⟨rfl, rfl⟩

theorem del_kv : ∀ {kvs : List (Int × Value)} {k : Int} {v : Value} {R : List (Int × Value)}, (kvs.map (·.1)).Nodup → kvs.Perm ((k, v) :: R) → (delI kvs k).Perm R := by
  intro kvs
  induction kvs with
  | nil => intro k v R _ h; exact absurd h.length_eq (by simp)
  | cons x r ih =>
    intro k v R hn h
    simp only [List.map_cons, List.nodup_cons] at hn
    by_cases hx : x.1 = k
    · have hmem : x ∈ (k, v) :: R := h.mem_iff.1 (List.mem_cons_self ..)
      have hxe : x = (k, v) := by
        rcases List.mem_cons.1 hmem with e | e
        · exact e
        · exfalso
          have h2 : ((k, v) :: R).map (·.1) |>.Nodup := (h.map (·.1)).nodup_iff.1 (by simpa [List.nodup_cons] using hn)
          simp only [List.map_cons, List.nodup_cons] at h2
          exact h2.1 (List.mem_map.2 ⟨x, e, hx⟩)
      subst hxe
      simp only [delI, if_true]
      exact h.cons_inv
    · have hmem : (k, v) ∈ x :: r := h.mem_iff.2 (List.mem_cons_self ..)
      have hr : (k, v) ∈ r := (List.mem_cons.1 hmem).resolve_left (fun e => hx (by rw [← e]))
      obtain ⟨s, t, rfl⟩ := List.append_of_mem hr
      simp only [delI, if_neg hx]
      have hp2 : (s ++ (k, v) :: t).Perm ((k, v) :: (s ++ t)) := List.perm_middle
      have h3 : (x :: (s ++ t)).Perm R := by
        have : ((k, v) :: x :: (s ++ t)).Perm ((k, v) :: R) := (List.Perm.swap _ _ _).trans ((hp2.symm.cons x).trans h)
        exact this.cons_inv
      exact ((ih hn.2 hp2).cons x).trans h3

/-- what the walk of Off wants and leaves -/
theorem off_walk {sb cap mb i : Nat} {kvs : List (Int × Value)} {x : Nat × T} (hH : HeapAt w A sb cap l m (.map (some mb)) X) (hok : HeapOk X) (hi : X[i]? = some x) (hM : MapI w mb kvs)
    (hl : ∀ q, (Instr.lookup 38 (.map (some mb)) (.int .i64 x.2.key) false).run Try.prog (w.drewN q) = .ok (.pointer (some ⟨x.1, 0, none⟩)) (w.drewN q)) (hbig : X.length ≤ 1000000) :
    Calls Try.prog 14 #[.pointer (some ⟨A, 0, none⟩), .int .i64 x.2.key] w fun e w' => e = .returned (.tuple #[]) ∧
      ∃ Y, HeapAt w' A sb cap l m (.map (some mb)) Y ∧ HeapOk Y ∧ (x :: Y).Perm X ∧ MapI w' mb (delI kvs x.2.key) ∧ Kept (fun b => b = A ∨ HF sb X b ∨ b = mb) w w' := by
  have hl0 : (Instr.lookup 38 (.map (some mb)) (.int .i64 x.2.key) false).run Try.prog w = .ok (.pointer (some ⟨x.1, 0, none⟩)) w := hl 0
  have hl1 : (Instr.lookup 38 (.map (some mb)) (.int .i64 x.2.key) false).run Try.prog w.drew = .ok (.pointer (some ⟨x.1, 0, none⟩)) w.drew := hl 1
  have c2 : w.cell? ⟨A, 2, none⟩ = some (.map (some mb)) := hH.top.cell' rfl
  have c3 : w.cell? ⟨x.1, 3, none⟩ = some (.int .i64 i) := (hH.tim i x hi).cell' rfl
  have H1 := Lib.hid hi
  clear hi
  go_enter Try.func14, Try.ntmps14
  go_wp2_with fail
  go_still_tail 13, (by kernel_rfl)
  change wpList _ _ _ _ _ w.drew
  have hHd : HeapAt w.drew A sb cap l m (.map (some mb)) X := hH.drewN 1
  have nmA : ¬ (mb = A ∨ HF sb X mb) := by
    rintro (h | h | h)
    · exact (hM.ne_blk hH.top) h.symm
    · obtain ⟨cs, hb, _⟩ := hH.row
      exact (hM.ne_blk hb) h.symm
    · obtain ⟨y, hy, e⟩ := List.mem_map.1 h
      obtain ⟨j, hj⟩ := List.getElem?_of_mem hy
      exact (hM.ne_blk (hH.tim j y hj)) e
  go_wp2_with (go_at_call 29; refine (hremove hHd hok H1.out hbig).mono ?_; rintro e w1 ⟨rfl, Y, hY, hokY, hpY, hk⟩; have hk0 : Kept (fun b => b = A ∨ HF sb X b) w w1 := ⟨hk.os, hk.tape, hk.output, hk.size, hk.block⟩; have hM1 := hM.keep hk0 nmA; obtain ⟨w2, hdel, hM2, hk2⟩ := run_deleteI (k := x.2.key) (under_map) under_int 0 hM1; have c2' : w1.cell? ⟨A, 2, none⟩ = some (.map (some mb)) := hY.top.cell' rfl)
  go_end0
  have hs : HF sb X sb := .inl rfl
  refine ⟨rfl, Y, hY.keep hk2 (fun e => nmA (.inl e.symm)) (fun b hb e => ?_), hokY, hpY, hM2, (hk0.mono fun b _ hb => ?_).trans hk2 fun b _ hb => .inr (.inr hb)⟩
  · subst e
    exact nmA (.inr (hb.imp id fun h => (hpY.map (·.1)).mem_iff.1 (List.mem_cons_of_mem _ h)))
  · rcases hb with h | h
    · exact .inl h
    · exact .inr (.inl h)

theorem filter_key {X Y : Row} {x : Nat × T} (hn : (X.map (·.2.key)).Nodup) (hp : (x :: Y).Perm X) : Y.Perm (X.filter fun y => y.2.key != x.2.key) := by
  have h1 := hp.filter (fun y => y.2.key != x.2.key)
  have h2 : ((x :: Y).map (·.2.key)).Nodup := (hp.map (·.2.key)).nodup_iff.2 hn
  simp only [List.map_cons, List.nodup_cons] at h2
  have h3 : (x :: Y).filter (fun y => y.2.key != x.2.key) = Y := by
    rw [List.filter_cons_of_neg (by simp)]
    refine List.filter_eq_self.2 fun y hy => ?_
    simp only [bne_iff_ne]
    intro e
    exact h2.1 (List.mem_map.2 ⟨y, hy, e⟩)
  rw [h3] at h1
  exact h1

theorem off_any (h : AlarmAt w A l m X F) (k : Int) (hbig : X.length ≤ 1000000) : Calls Try.prog 14 #[.pointer (some ⟨A, 0, none⟩), .int .i64 k] w fun e w' => e = .returned (.tuple #[]) ∧
    ∃ Y F', AlarmAt w' A l m Y F' ∧ Y.Perm (X.filter fun x => x.2.key != k) ∧ (∀ b, F' b → F b) ∧ Kept F w w' := by
  by_cases hx : ∃ x ∈ X, x.2.key = k
  · obtain ⟨x, hx, rfl⟩ := hx
    obtain ⟨mv, F0, F1, h1, h2, h3⟩ := h.ex
    have h2' := h2
    rcases h2 with ⟨_, rfl, _⟩ | ⟨mb, kvs, rfl, hm, hp, hF1⟩
    · cases hx
    rcases h1 with ⟨rfl, _⟩ | ⟨sb, cap, hH, hok, hF0⟩
    · cases hx
    obtain ⟨i, hi⟩ := List.getElem?_of_mem hx
    have hl' : ∀ q, (Instr.lookup 38 (.map (some mb)) (.int .i64 x.2.key) false).run Try.prog (w.drewN q) = .ok (.pointer (some ⟨x.1, 0, none⟩)) (w.drewN q) := fun q => by
      obtain ⟨mb', e, hl⟩ := look_found (w := w.drewN q) (X := X) (F := F1) h2' h.keys hx
      cases e
      exact hl
    refine (off_walk hH hok hi hm hl' hbig).mono ?_
    rintro e w' ⟨rfl, Y, hY, hokY, hpY, hM2, hk⟩
    have hkn : ((x :: Y).map (·.2.key)).Nodup := (hpY.map (·.2.key)).nodup_iff.2 h.keys
    refine ⟨rfl, Y, _, ⟨⟨_, _, _, .inr ⟨sb, cap, hY, hokY, rfl⟩, .inr ⟨mb, _, rfl, hM2, ?_, rfl⟩, rfl⟩, ?_, fun y hy => h.ok y (hpY.mem_iff.1 (List.mem_cons_of_mem _ hy)), h.lm, fun h0 => ?_⟩, filter_key h.keys hpY, fun b hb => ?_, hk.mono fun b _ hb => ?_⟩
    · refine del_kv (v := .pointer (some ⟨x.1, 0, none⟩)) ((hp.map (·.1)).nodup_iff.2 (by simpa [kv, Function.comp_def] using h.keys)) (hp.trans ?_)
      exact (hpY.map kv).symm
    · simp only [List.map_cons, List.nodup_cons] at hkn; exact hkn.2
    · have := h.none0 h0; subst this; cases hx
    · subst h3 hF0 hF1
      rcases hb with (h | h | h) | h
      · exact .inl (.inl h)
      · exact .inl (.inr (.inl h))
      · exact .inl (.inr (.inr ((hpY.map (·.1)).mem_iff.1 (List.mem_cons_of_mem _ h))))
      · exact .inr h
    · subst h3 hF0 hF1
      rcases hb with h | h | h
      · exact .inl (.inl h)
      · exact .inl (.inr h)
      · exact .inr h
  · have hx' : ∀ x ∈ X, x.2.key ≠ k := fun x h e => hx ⟨x, h, e⟩
    refine (off_none h hx').mono ?_
    rintro e w' ⟨rfl, rfl⟩
    exact ⟨rfl, X, F, h, by rw [List.filter_eq_self.2 fun y hy => by simpa using hx' y hy], fun _ hb => hb, Kept.refl _ _⟩

/-- the field of the map is written -/
theorem RowAt.setMap {F0 : Nat → Prop} (h : RowAt w A l m mv X F0) (v : Value) : RowAt (w.setCell ⟨A, 2, none⟩ v) A l m v X F0 := by
  rcases h with ⟨rfl, hA, f⟩ | ⟨sb, cap, hH, hok, f⟩
  · exact .inl ⟨rfl, by simpa using hA.set_ 2 v, f⟩
  · refine .inr ⟨sb, cap, ⟨by simpa using hH.top.set_ 2 v, ?_, hH.len, fun i x hx => (hH.tim i x hx).far (hH.A_ne hx).symm v, hH.nod, hH.capM⟩, hok, f⟩
    obtain ⟨cs, hb, h2, h3⟩ := hH.row
    exact ⟨cs, hb.far hH.A_sb.symm v, h2, h3⟩
theorem RowAt.keep {S : Nat → Prop} {w' : World} {F0 : Nat → Prop} (h : RowAt w A l m mv X F0) (hk : Kept S w w') (hs : ∀ b, F0 b → ¬ S b) : RowAt w' A l m mv X F0 := by
  rcases h with ⟨rfl, hA, f⟩ | ⟨sb, cap, hH, hok, f⟩
  · exact .inl ⟨rfl, hk.blk (hs _ (by rw [f])) hA, f⟩
  · exact .inr ⟨sb, cap, hH.keep hk (hs _ (by rw [f]; exact .inl rfl)) (fun b hb => hs _ (by rw [f]; exact .inr hb)), hok, f⟩
theorem RowAt.lt {F0 : Nat → Prop} (h : RowAt w A l m mv X F0) : ∀ b, F0 b → b < w.heap.size := by
  rcases h with ⟨rfl, hA, f⟩ | ⟨sb, cap, hH, hok, f⟩
  · intro b hb; rw [f] at hb; subst hb; exact hA.lt
  · intro b hb
    rw [f] at hb
    rcases hb with h | h | h
    · subst h; exact hH.top.lt
    · subst h; obtain ⟨cs, hb, _⟩ := hH.row; exact hb.lt
    · obtain ⟨y, hy, e⟩ := List.mem_map.1 h
      obtain ⟨j, hj⟩ := List.getElem?_of_mem hy
      subst e
      exact (hH.tim j y hj).lt
theorem RowAt.not_map {F0 : Nat → Prop} (h : RowAt w A l m mv X F0) {mb : Nat} {kvs : List (Int × Value)} (hM : MapI w mb kvs) : ¬ F0 mb := by
  rcases h with ⟨rfl, hA, f⟩ | ⟨sb, cap, hH, hok, f⟩
  · rw [f]; exact fun e => hM.ne_blk hA e.symm
  · rw [f]
    rintro (h | h | h)
    · exact (hM.ne_blk hH.top) h.symm
    · obtain ⟨cs, hb, _⟩ := hH.row
      exact (hM.ne_blk hb) h.symm
    · obtain ⟨y, hy, e⟩ := List.mem_map.1 h
      obtain ⟨j, hj⟩ := List.getElem?_of_mem hy
      exact (hM.ne_blk (hH.tim j y hj)) e
end
end Go.Proofs.Ytmfjeeogeilgfaa.Al
