/- The two Alarms, told of their timers alone: contracts on timers in whatever order. -/
import Derived.Test.YtmfjeeogeilgfaaAlRefDue
namespace Go.Proofs.Ytmfjeeogeilgfaa.Al
open Go.RowKit

def hasK (ts : List T) (k : Int) : Bool := ts.any fun t => t.key == k
def setE (l : Int) (ts : List T) (k now : Int) : Int := if l = 0 ∨ tickB now = false then 1 else if hasK ts k then 12 else 0
def setT (l : Int) (ts : List T) (k now : Int) : List T := if l = 0 ∨ tickB now = false then ts else if hasK ts k then ts else ⟨k, l, now + l⟩ :: ts
def resE (l : Int) (now : Int) : Int := if l = 0 ∨ tickB now = false then 1 else 0
def resT (l : Int) (ts : List T) (k now : Int) : List T := if l = 0 ∨ tickB now = false then ts else ⟨k, l, now + l⟩ :: ts.filter fun t => t.key != k
def GapIs (ts : List T) (k g d : Int) : Prop := ((∀ t ∈ ts, t.key ≠ k) ∧ g = 0 ∧ d = 0) ∨ ∃ t ∈ ts, t.key = k ∧ g = t.gap ∧ d = t.due
def NextIs (ts : List T) (k d : Int) (ok : Bool) : Prop := (ts = [] ∧ k = 0 ∧ d = 0 ∧ ok = false) ∨ ∃ t ∈ ts, (∀ u ∈ ts, t.le u) ∧ k = t.key ∧ d = t.due ∧ ok = true
def DueIs (m now : Int) (ts : List T) (ks : List Int) (us : List T) : Prop := if tickB now = true then DueR m now ts ks us else ks = [] ∧ ts.Perm us
/-- what all lists of timers of an Alarm are -/
structure Good (l m : Int) (ts : List T) : Prop where
  keys : (ts.map (·.key)).Nodup
  ok : ∀ t ∈ ts, TOk l m t
  lm : LM l m
  none0 : l = 0 → ts = []
theorem Good.perm {l m : Int} {ts us : List T} (h : Good l m ts) (hp : us.Perm ts) : Good l m us :=
  ⟨(hp.map (·.key)).nodup_iff.2 h.keys, fun t ht => h.ok t (hp.mem_iff.1 ht), h.lm, fun e => by have := h.none0 e; subst this; exact hp.eq_nil⟩
theorem hasK_perm {ts us : List T} (hp : us.Perm ts) (k : Int) : hasK us k = hasK ts k := hp.any_eq
theorem hasK_true {ts : List T} {k : Int} : hasK ts k = true ↔ ∃ t ∈ ts, t.key = k := by simp [hasK]
theorem hasK_false {ts : List T} {k : Int} : hasK ts k = false ↔ ∀ t ∈ ts, t.key ≠ k := by simp [hasK]

theorem GapIs.perm {ts us : List T} {k g d : Int} (h : GapIs ts k g d) (hp : us.Perm ts) : GapIs us k g d := by
  rcases h with ⟨h, e⟩ | ⟨t, ht, e⟩
  · exact .inl ⟨fun t ht => h t (hp.mem_iff.1 ht), e⟩
  · exact .inr ⟨t, hp.mem_iff.2 ht, e⟩
theorem key_unique {ts : List T} (hn : (ts.map (·.key)).Nodup) {t u : T} (ht : t ∈ ts) (hu : u ∈ ts) (e : t.key = u.key) : t = u := by
  obtain ⟨i, hi⟩ := List.getElem?_of_mem ht
  obtain ⟨j, hj⟩ := List.getElem?_of_mem hu
  have hij : i = j := (List.getElem?_inj (by simpa using lt_of_get hi) hn).1 (by simp [List.getElem?_map, hi, hj, e])
  subst hij
  exact Option.some.inj (hi.symm.trans hj)
theorem GapIs.unique {ts : List T} (hn : (ts.map (·.key)).Nodup) {k g d g' d' : Int} (h : GapIs ts k g d) (h' : GapIs ts k g' d') : g = g' ∧ d = d' := by
  rcases h with ⟨h, rfl, rfl⟩ | ⟨t, ht, hk, rfl, rfl⟩ <;> rcases h' with ⟨h2, rfl, rfl⟩ | ⟨u, hu, hk2, rfl, rfl⟩
  · exact ⟨rfl, rfl⟩
  · exact (h u hu hk2).elim
  · exact (h2 t ht hk).elim
  · have := key_unique hn ht hu (hk.trans hk2.symm); subst this; exact ⟨rfl, rfl⟩
theorem NextIs.perm {ts us : List T} {k d : Int} {ok : Bool} (h : NextIs ts k d ok) (hp : us.Perm ts) : NextIs us k d ok := by
  rcases h with ⟨h, e⟩ | ⟨t, ht, h2, e⟩
  · subst h; exact .inl ⟨hp.eq_nil, e⟩
  · exact .inr ⟨t, hp.mem_iff.2 ht, fun u hu => h2 u (hp.mem_iff.1 hu), e⟩
theorem NextIs.unique {ts : List T} {k d k' d' : Int} {ok ok' : Bool} (h : NextIs ts k d ok) (h' : NextIs ts k' d' ok') : k = k' ∧ d = d' ∧ ok = ok' := by
  rcases h with ⟨rfl, rfl, rfl, rfl⟩ | ⟨t, ht, hm, rfl, rfl, rfl⟩ <;> rcases h' with ⟨h2, rfl, rfl, rfl⟩ | ⟨u, hu, hm2, rfl, rfl, rfl⟩
  · exact ⟨rfl, rfl, rfl⟩
  · cases hu
  · subst h2; cases ht
  · have h1 := hm u hu
    have h2 := hm2 t ht
    unfold T.le at h1 h2
    refine ⟨?_, ?_, rfl⟩ <;> omega
theorem DueR.unique {m now : Int} {ts us : List T} {ks : List Int} (h : DueR m now ts ks us) : ∀ {ts' us' : List T} {ks' : List Int}, (ts.map (·.key)).Nodup → ts'.Perm ts → DueR m now ts' ks' us' → ks = ks' ∧ us'.Perm us := by
  induction h with
  | stop h1 h2 =>
    intro ts' us' ks' hn hp h'
    cases h' with
    | stop h3 h4 => exact ⟨rfl, h4.symm.trans (hp.trans h2)⟩
    | step h3 h4 h5 h6 =>
      have := h1 _ (hp.mem_iff.1 (h3.mem_iff.2 (List.mem_cons_self ..)))
      omega
  | @step ts r us t ks h1 h2 h3 h4 ih =>
    intro ts' us' ks' hn hp h'
    cases h' with
    | stop h5 h6 =>
      have := h5 _ (hp.mem_iff.2 (h1.mem_iff.2 (List.mem_cons_self ..)))
      omega
    | @step _ r2 _ t2 ks2 h5 h6 h7 h8 =>
      have hpp : (t2 :: r2).Perm (t :: r) := h5.symm.trans (hp.trans h1)
      have ht2 : t2 = t := by
        rcases List.mem_cons.1 (hpp.mem_iff.1 (List.mem_cons_self ..)) with e | e
        · exact e
        · rcases List.mem_cons.1 (hpp.mem_iff.2 (List.mem_cons_self ..)) with e' | e'
          · exact e'.symm
          · have a1 := h2 _ e
            have a2 := h6 _ e'
            have hk : t2.key = t.key := by unfold T.le at a1 a2; omega
            exact key_unique hn (h1.mem_iff.2 (List.mem_cons_of_mem _ e)) (h1.mem_iff.2 (List.mem_cons_self ..)) hk
      subst ht2
      have hr : r2.Perm r := hpp.cons_inv
      have hn2 : ((t2.bump m now :: r).map (·.key)).Nodup := by
        have := (h1.map (·.key)).nodup_iff.1 hn
        simpa [T.bump] using this
      obtain ⟨e1, e2⟩ := ih hn2 (hr.cons _) h8
      exact ⟨by rw [e1], e2⟩
theorem DueIs.unique {m now : Int} {ts us us' : List T} {ks ks' : List Int} (hn : (ts.map (·.key)).Nodup) (h : DueIs m now ts ks us) (h' : DueIs m now ts ks' us') : ks = ks' ∧ us'.Perm us := by
  unfold DueIs at h h'
  split at h
  · rename_i e; rw [if_pos e] at h'; exact h.unique hn (List.Perm.refl _) h'
  · rename_i e; rw [if_neg e] at h'; exact ⟨h.1.trans h'.1.symm, h'.2.symm.trans h.2⟩

/-! ### an Alarm, and the document's, told of timers -/
def AlarmIs (w : World) (A : Nat) (l m : Int) (ts : List T) (F : Nat → Prop) : Prop := ∃ X, AlarmAt w A l m X F ∧ (X.map (·.2)).Perm ts
def RefIs (w : World) (B : Nat) (l m : Int) (ts : List T) (F : Nat → Prop) : Prop := ∃ v L, RefAt w B l m v L ∧ L.Perm ts ∧ F = RF B v ∧ Good l m L
/-- a thing of the blocks F in w has become the thing R in w' -/
def Leaves (R : World → (Nat → Prop) → Prop) (w : World) (F : Nat → Prop) (w' : World) : Prop := ∃ F', R w' F' ∧ (∀ b, b < w.heap.size → F' b → F b) ∧ Kept F w w'

section
variable {w : World} {A B : Nat} {l m : Int} {ts : List T} {F : Nat → Prop}
theorem AlarmAt.good {X : Row} (h : AlarmAt w A l m X F) : Good l m (X.map (·.2)) :=
  ⟨by simpa [Function.comp_def] using h.keys, fun t ht => by obtain ⟨x, hx, rfl⟩ := List.mem_map.1 ht; exact h.ok x hx, h.lm, fun e => by rw [h.none0 e]; rfl⟩
theorem AlarmIs.good (h : AlarmIs w A l m ts F) : Good l m ts := by obtain ⟨X, h1, h2⟩ := h; exact h1.good.perm h2.symm
theorem AlarmIs.perm (h : AlarmIs w A l m ts F) {us : List T} (hp : ts.Perm us) : AlarmIs w A l m us F := by obtain ⟨X, h1, h2⟩ := h; exact ⟨X, h1, h2.trans hp⟩
theorem AlarmIs.lt (h : AlarmIs w A l m ts F) : ∀ b, F b → b < w.heap.size := by obtain ⟨X, h1, h2⟩ := h; exact h1.lt
theorem AlarmIs.keep (h : AlarmIs w A l m ts F) {S : Nat → Prop} {w' : World} (hk : Kept S w w') (hs : ∀ b, F b → ¬ S b) : AlarmIs w' A l m ts F := by obtain ⟨X, h1, h2⟩ := h; exact ⟨X, h1.keep hk hs, h2⟩
theorem RefIs.good (h : RefIs w B l m ts F) : Good l m ts := by obtain ⟨v, L, h1, h2, h3, h4⟩ := h; exact h4.perm h2.symm
theorem RefIs.perm (h : RefIs w B l m ts F) {us : List T} (hp : ts.Perm us) : RefIs w B l m us F := by obtain ⟨v, L, h1, h2, h3⟩ := h; exact ⟨v, L, h1, h2.trans hp, h3⟩
theorem RefIs.lt (h : RefIs w B l m ts F) : ∀ b, F b → b < w.heap.size := by obtain ⟨v, L, h1, h2, h3, h4⟩ := h; rw [h3]; exact h1.lt
theorem RefIs.keep (h : RefIs w B l m ts F) {S : Nat → Prop} {w' : World} (hk : Kept S w w') (hs : ∀ b, F b → ¬ S b) : RefIs w' B l m ts F := by
  obtain ⟨v, L, h1, h2, h3, h4⟩ := h
  exact ⟨v, L, h1.keep hk (fun b hb => hs b (by rw [h3]; exact hb)), h2, h3, h4⟩
theorem AlarmIs.drewN (h : AlarmIs w A l m ts F) (q : Nat) : AlarmIs (w.drewN q) A l m ts F := by obtain ⟨X, h1, h2⟩ := h; exact ⟨X, h1.drewN q, h2⟩
theorem RefIs.drewN (h : RefIs w B l m ts F) (q : Nat) : RefIs (w.drewN q) B l m ts F := by obtain ⟨v, L, h1, h2⟩ := h; exact ⟨v, L, h1.drewN q, h2⟩
theorem Leaves.same {R : World → (Nat → Prop) → Prop} (h : R w F) : Leaves R w F w := ⟨F, h, fun _ _ hb => hb, Kept.refl _ _⟩

theorem filter_perm_snd (X : Row) (k : Int) : (X.filter fun x => x.2.key != k).map (·.2) = (X.map (·.2)).filter fun t => t.key != k := by
  induction X with
  | nil => rfl
  | cons x r ih => by_cases h : x.2.key = k <;> simp [h, ih]

theorem aset (h : AlarmIs w A l m ts F) (k now : Int) (hbig : ts.length < 1000000) : Calls Try.prog 17 #[.pointer (some ⟨A, 0, none⟩), .int .i64 k, .int .i64 now] w fun e w' =>
    e = .returned (.int .i64 (setE l ts k now)) ∧ Leaves (fun w F => AlarmIs w A l m (setT l ts k now) F) w F w' := by
  obtain ⟨X, hX, hp⟩ := h
  have hlen : X.length < 1000000 := by have := hp.length_eq; simp at this; omega
  unfold setE setT
  by_cases hb : l = 0 ∨ tickB now = false
  · rw [if_pos hb, if_pos hb]
    refine (set_bad hX k now hb).mono ?_
    rintro e w' ⟨rfl, rfl⟩
    exact ⟨rfl, .same ⟨X, hX, hp⟩⟩
  · rw [if_neg hb, if_neg hb]
    have hl : 1 ≤ l := by have := hX.lm; unfold LM at this; omega
    have ht : tickB now = true := by cases h : tickB now <;> simp_all
    cases hk : hasK ts k
    · have hk' : ∀ x ∈ X, x.2.key ≠ k := fun x hx => hasK_false.1 hk x.2 (hp.mem_iff.1 (List.mem_map.2 ⟨x, hx, rfl⟩))
      refine (set_ok hX k now hl ht hk' hlen).mono ?_
      rintro e w' ⟨rfl, Y, F', hY, hpY, hF, hkp⟩
      exact ⟨rfl, F', ⟨Y, hY, hpY.trans (hp.cons _)⟩, hF, hkp⟩
    · obtain ⟨t, ht2, hkk⟩ := hasK_true.1 hk
      obtain ⟨x, hx, rfl⟩ := List.mem_map.1 (hp.mem_iff.2 ht2)
      subst hkk
      refine (set_exists hX now hl ht hx).mono ?_
      rintro e w' ⟨rfl, rfl⟩
      exact ⟨rfl, .same ⟨X, hX, hp⟩⟩
theorem areset (h : AlarmIs w A l m ts F) (k now : Int) (hbig : ts.length < 1000000) : Calls Try.prog 18 #[.pointer (some ⟨A, 0, none⟩), .int .i64 k, .int .i64 now] w fun e w' =>
    e = .returned (.int .i64 (resE l now)) ∧ Leaves (fun w F => AlarmIs w A l m (resT l ts k now) F) w F w' := by
  obtain ⟨X, hX, hp⟩ := h
  have hlen : X.length < 1000000 := by have := hp.length_eq; simp at this; omega
  unfold resE resT
  by_cases hb : l = 0 ∨ tickB now = false
  · rw [if_pos hb, if_pos hb]
    refine (reset_bad hX k now hb).mono ?_
    rintro e w' ⟨rfl, rfl⟩
    exact ⟨rfl, .same ⟨X, hX, hp⟩⟩
  · rw [if_neg hb, if_neg hb]
    have hl : 1 ≤ l := by have := hX.lm; unfold LM at this; omega
    have ht : tickB now = true := by cases h : tickB now <;> simp_all
    refine (reset_ok hX k now hl ht hlen).mono ?_
    rintro e w' ⟨rfl, Y, F', hY, hpY, hF, hkp⟩
    rw [filter_perm_snd] at hpY
    exact ⟨rfl, F', ⟨Y, hY, hpY.trans ((hp.filter _).cons _)⟩, hF, hkp⟩
theorem aoff (h : AlarmIs w A l m ts F) (k : Int) (hbig : ts.length ≤ 1000000) : Calls Try.prog 14 #[.pointer (some ⟨A, 0, none⟩), .int .i64 k] w fun e w' =>
    e = .returned (.tuple #[]) ∧ Leaves (fun w F => AlarmIs w A l m (ts.filter fun t => t.key != k) F) w F w' := by
  obtain ⟨X, hX, hp⟩ := h
  refine (off_any hX k (by have := hp.length_eq; simp at this; omega)).mono ?_
  rintro e w' ⟨rfl, Y, F', hY, hpY, hF, hkp⟩
  refine ⟨rfl, F', ⟨Y, hY, (hpY.map (·.2)).trans ?_⟩, fun b _ hb => hF b hb, hkp⟩
  rw [filter_perm_snd]
  exact hp.filter _
theorem agap (h : AlarmIs w A l m ts F) (k : Int) : Calls Try.prog 15 #[.pointer (some ⟨A, 0, none⟩), .int .i64 k] w fun e w' =>
    ∃ g d q, GapIs ts k g d ∧ e = .returned (.tuple #[.int .i64 g, .int .i64 d]) ∧ w' = w.drewN q := by
  obtain ⟨X, hX, hp⟩ := h
  by_cases hx : ∃ x ∈ X, x.2.key = k
  · obtain ⟨x, hx, rfl⟩ := hx
    refine (gap_some hX hx).mono ?_
    rintro e w' ⟨rfl, q, rfl⟩
    exact ⟨_, _, q, .inr ⟨x.2, hp.mem_iff.1 (List.mem_map.2 ⟨x, hx, rfl⟩), rfl, rfl, rfl⟩, rfl, rfl⟩
  · refine (gap_none hX (k := k) (fun x h e => hx ⟨x, h, e⟩)).mono ?_
    rintro e w' ⟨rfl, rfl⟩
    exact ⟨0, 0, 0, .inl ⟨fun t ht e => by obtain ⟨x, h1, rfl⟩ := List.mem_map.1 (hp.mem_iff.2 ht); exact hx ⟨x, h1, e⟩, rfl, rfl⟩, rfl, rfl⟩
theorem anext (h : AlarmIs w A l m ts F) : Calls Try.prog 16 #[.pointer (some ⟨A, 0, none⟩)] w fun e w' =>
    ∃ k d ok q, NextIs ts k d ok ∧ e = .returned (.tuple #[.int .i64 k, .int .i64 d, .bool ok]) ∧ w' = w.drewN q := by
  obtain ⟨X, hX, hp⟩ := h
  cases X with
  | nil =>
    refine (next_none hX).mono ?_
    rintro e w' ⟨rfl, rfl⟩
    exact ⟨0, 0, false, 0, .inl ⟨by simpa using hp, rfl, rfl, rfl⟩, rfl, rfl⟩
  | cons x r =>
    have hmin : ∀ u ∈ ts, x.2.le u := by
      obtain ⟨mv, F0, F1, h1, h2, h3⟩ := hX.ex
      rcases h1 with ⟨e, _⟩ | ⟨sb, cap, hH, hok, _⟩
      · cases e
      · intro u hu
        obtain ⟨y, hy, rfl⟩ := List.mem_map.1 (hp.mem_iff.2 hu)
        obtain ⟨i, hi⟩ := List.getElem?_of_mem hy
        have := Hp.ok_min T.le_refl T.le_trans hok i (lt_of_get hi)
        rwa [fX_get hi, fX_get (X := x :: r) (i := 0) rfl] at this
    refine (next_some hX).mono ?_
    rintro e w' ⟨rfl, q, rfl⟩
    exact ⟨_, _, true, q, .inr ⟨x.2, hp.mem_iff.1 (by simp), hmin, rfl, rfl, rfl⟩, rfl, rfl⟩
theorem alen (h : AlarmIs w A l m ts F) : Calls Try.prog 20 #[.pointer (some ⟨A, 0, none⟩)] w fun e w' => e = .returned (.int .i64 ts.length) ∧ w = w' := by
  obtain ⟨X, hX, hp⟩ := h
  have := hp.length_eq
  simp at this
  rw [← this]
  exact alen_any hX
/-- what Due answers: a list of its own -/
def Answers (w : World) (v : Value) (ks : List Int) (w' : World) : Prop := (∃ a c, v = .slice a ks.length c) ∧ w'.ownsRow w.heap.size 3 1 v ks.length (ks.map (Value.int .i64))
theorem adue (h : AlarmIs w A l m ts F) (now : Int) (hbig : ts.length ≤ 1000000) : Calls Try.prog 19 #[.pointer (some ⟨A, 0, none⟩), .int .i64 now] w fun e w' =>
    ∃ v ks us, e = .returned v ∧ DueIs m now ts ks us ∧ Answers w v ks w' ∧ Leaves (fun w F => AlarmIs w A l m us F) w F w' := by
  obtain ⟨X, hX, hp⟩ := h
  unfold DueIs
  cases ht : tickB now
  · refine (due_bad A now ht w).mono ?_
    rintro e w' ⟨rfl, rfl⟩
    exact ⟨_, [], ts, rfl, by simp, ⟨⟨none, 0, rfl⟩, World.ownsRow_nil _ _ _ _⟩, .same ⟨X, hX, hp⟩⟩
  · refine (due_ok hX now ht (by have := hp.length_eq; simp at this; omega)).mono ?_
    rintro e w' ⟨v, Y, G, ks, rfl, hv, ho, hY, hG, hD, hk⟩
    exact ⟨v, ks, Y.map (·.2), rfl, by simpa using hD.perm hp.symm, ⟨hv, ho⟩, G, ⟨Y, hY, List.Perm.refl _⟩, fun b _ hb => hG b hb, hk⟩

theorem rset (h : RefIs w B l m ts F) (k now : Int) (hbig : ts.length < 1000000) : Calls Try.prog 25 #[.pointer (some ⟨B, 0, none⟩), .int .i64 k, .int .i64 now] w fun e w' =>
    e = .returned (.int .i64 (setE l ts k now)) ∧ Leaves (fun w F => RefIs w B l m (setT l ts k now) F) w F w' := by
  obtain ⟨v, L, hL, hp, rfl, hg⟩ := h
  have hlen : L.length < 1000000 := by have := hp.length_eq; omega
  unfold setE setT
  by_cases hb : l = 0 ∨ tickB now = false
  · rw [if_pos hb, if_pos hb]
    refine (rset_bad hL k now hb).mono ?_
    rintro e w' ⟨rfl, rfl⟩
    exact ⟨rfl, .same ⟨v, L, hL, hp, rfl, hg⟩⟩
  · rw [if_neg hb, if_neg hb]
    have hl : 1 ≤ l := by have := hg.lm; unfold LM at this; omega
    have ht : tickB now = true := by cases h : tickB now <;> simp_all
    have htb : 0 ≤ now ∧ now ≤ 2147483647 := by simpa [tickB] using ht
    cases hk : hasK ts k
    · have hk' : ∀ t ∈ L, t.key ≠ k := fun t ht => hasK_false.1 hk t (hp.mem_iff.1 ht)
      refine (rset_ok hL k now hl hg.lm ht hk' hlen).mono ?_
      rintro e w' ⟨rfl, v', hL', hF, hkp⟩
      have hlm := hg.lm
      unfold LM at hlm
      refine ⟨rfl, _, ⟨v', _, hL', (List.perm_append_singleton _ _).trans (hp.cons _), rfl, ?_⟩, hF, hkp⟩
      refine Good.perm ⟨?_, ?_, hg.lm, fun e => by omega⟩ (List.perm_append_singleton _ _)
      · simp only [List.map_cons, List.nodup_cons]
        exact ⟨fun h => by obtain ⟨y, hy, e⟩ := List.mem_map.1 h; exact hk' y hy e, hg.keys⟩
      · intro t ht
        rcases List.mem_cons.1 ht with e | e
        · subst e; unfold TOk; simp only; omega
        · exact hg.ok t e
    · obtain ⟨t, ht2, hkk⟩ := hasK_true.1 hk
      subst hkk
      refine (rset_exists hL now hl ht (hp.mem_iff.2 ht2) (by omega)).mono ?_
      rintro e w' ⟨rfl, rfl⟩
      exact ⟨rfl, .same ⟨v, L, hL, hp, rfl, hg⟩⟩
theorem rreset (h : RefIs w B l m ts F) (k now : Int) (hbig : ts.length < 1000000) : Calls Try.prog 26 #[.pointer (some ⟨B, 0, none⟩), .int .i64 k, .int .i64 now] w fun e w' =>
    e = .returned (.int .i64 (resE l now)) ∧ Leaves (fun w F => RefIs w B l m (resT l ts k now) F) w F w' := by
  obtain ⟨v, L, hL, hp, rfl, hg⟩ := h
  have hlen : L.length < 1000000 := by have := hp.length_eq; omega
  unfold resE resT
  by_cases hb : l = 0 ∨ tickB now = false
  · rw [if_pos hb, if_pos hb]
    refine (rreset_bad hL k now hb).mono ?_
    rintro e w' ⟨rfl, rfl⟩
    exact ⟨rfl, .same ⟨v, L, hL, hp, rfl, hg⟩⟩
  · rw [if_neg hb, if_neg hb]
    have hl : 1 ≤ l := by have := hg.lm; unfold LM at this; omega
    have ht : tickB now = true := by cases h : tickB now <;> simp_all
    have htb : 0 ≤ now ∧ now ≤ 2147483647 := by simpa [tickB] using ht
    refine (rreset_ok hL k now hl hg.lm ht hlen).mono ?_
    rintro e w' ⟨rfl, v', hL', hF, hkp⟩
    have hlm := hg.lm
    unfold LM at hlm
    refine ⟨rfl, _, ⟨v', _, hL', (List.perm_append_singleton _ _).trans ((hp.filter _).cons _), rfl, ?_⟩, hF, hkp⟩
    refine Good.perm ⟨?_, ?_, hg.lm, fun e => by omega⟩ (List.perm_append_singleton _ _)
    · simp only [List.map_cons, List.nodup_cons]
      exact ⟨fun h => by obtain ⟨y, hy, e⟩ := List.mem_map.1 h; have := (List.mem_filter.1 hy).2; simp at this; exact this e, hg.keys.sublist ((List.filter_sublist).map _)⟩
    · intro t ht
      rcases List.mem_cons.1 ht with e | e
      · subst e; unfold TOk; simp only; omega
      · exact hg.ok t ((List.mem_filter.1 e).1)
theorem roff (h : RefIs w B l m ts F) (k : Int) (hbig : ts.length ≤ 1000000) : Calls Try.prog 27 #[.pointer (some ⟨B, 0, none⟩), .int .i64 k] w fun e w' =>
    e = .returned (.tuple #[]) ∧ Leaves (fun w F => RefIs w B l m (ts.filter fun t => t.key != k) F) w F w' := by
  obtain ⟨v, L, hL, hp, rfl, hg⟩ := h
  refine (roff_any hL k (by have := hp.length_eq; omega)).mono ?_
  rintro e w' ⟨rfl, v', hL', hF, hkp⟩
  exact ⟨rfl, _, ⟨v', _, hL', hp.filter _, rfl, ⟨hg.keys.sublist ((List.filter_sublist).map _), fun t ht => hg.ok t ((List.mem_filter.1 ht).1), hg.lm, fun e => by rw [hg.none0 e]; rfl⟩⟩, hF, hkp⟩
theorem rgap (h : RefIs w B l m ts F) (k : Int) (hbig : ts.length ≤ 1000000) : Calls Try.prog 22 #[.pointer (some ⟨B, 0, none⟩), .int .i64 k] w fun e w' =>
    ∃ g d q, GapIs ts k g d ∧ e = .returned (.tuple #[.int .i64 g, .int .i64 d]) ∧ w' = w.drewN q := by
  obtain ⟨v, L, hL, hp, rfl, hg⟩ := h
  refine (rgap_any hL k (by have := hp.length_eq; omega)).mono ?_
  rintro e w' ⟨h1, q, rfl⟩
  rcases h1 with ⟨h1, rfl⟩ | ⟨t, ht, hk, rfl⟩
  · exact ⟨0, 0, q, .inl ⟨fun t ht => h1 t (hp.mem_iff.2 ht), rfl, rfl⟩, rfl, rfl⟩
  · exact ⟨_, _, q, .inr ⟨t, hp.mem_iff.1 ht, hk, rfl, rfl⟩, rfl, rfl⟩
theorem rnext (h : RefIs w B l m ts F) (hbig : ts.length ≤ 1000000) : Calls Try.prog 23 #[.pointer (some ⟨B, 0, none⟩)] w fun e w' =>
    ∃ k d ok q, NextIs ts k d ok ∧ e = .returned (.tuple #[.int .i64 k, .int .i64 d, .bool ok]) ∧ w' = w.drewN q := by
  obtain ⟨v, L, hL, hp, rfl, hg⟩ := h
  refine (rnext_any hL (by have := hp.length_eq; omega)).mono ?_
  rintro e w' ⟨h1, q, rfl⟩
  rcases h1 with ⟨rfl, rfl⟩ | ⟨t, ht, hm, rfl⟩
  · exact ⟨0, 0, false, q, .inl ⟨hp.symm.eq_nil, rfl, rfl, rfl⟩, rfl, rfl⟩
  · exact ⟨_, _, true, q, .inr ⟨t, hp.mem_iff.1 ht, fun u hu => hm u (hp.mem_iff.2 hu), rfl, rfl, rfl⟩, rfl, rfl⟩
theorem rlen (h : RefIs w B l m ts F) : Calls Try.prog 24 #[.pointer (some ⟨B, 0, none⟩)] w fun e w' => e = .returned (.int .i64 ts.length) ∧ w = w' := by
  obtain ⟨v, L, hL, hp, rfl, hg⟩ := h
  rw [← hp.length_eq]
  exact rlen_any hL
theorem rdue (h : RefIs w B l m ts F) (now : Int) (hbig : ts.length ≤ 1000000) : Calls Try.prog 28 #[.pointer (some ⟨B, 0, none⟩), .int .i64 now] w fun e w' =>
    ∃ v ks us, e = .returned v ∧ DueIs m now ts ks us ∧ Answers w v ks w' ∧ Leaves (fun w F => RefIs w B l m us F) w F w' := by
  obtain ⟨v, L, hL, hp, rfl, hg⟩ := h
  unfold DueIs
  cases ht : tickB now
  · refine (rdue_bad B now ht w).mono ?_
    rintro e w' ⟨rfl, rfl⟩
    exact ⟨_, [], ts, rfl, by simp, ⟨⟨none, 0, rfl⟩, World.ownsRow_nil _ _ _ _⟩, .same ⟨v, L, hL, hp, rfl, hg⟩⟩
  · refine (rdue_ok hL now ht hg.ok hg.keys hg.lm hg.none0 (by have := hp.length_eq; omega)).mono ?_
    rintro e w' ⟨u, M, ks, rfl, hu, ho, hM, hD, hok, hkM, hlen, hk⟩
    exact ⟨u, ks, M, rfl, by simpa using hD.perm hp.symm, ⟨hu, ho⟩, _, ⟨v, M, hM, List.Perm.refl _, rfl, ⟨hkM, hok, hg.lm, fun e => by have := hg.none0 e; subst this; exact List.eq_nil_of_length_eq_zero (by simpa using hlen)⟩⟩, fun b _ hb => hb, hk⟩
end
end Go.Proofs.Ytmfjeeogeilgfaa.Al
