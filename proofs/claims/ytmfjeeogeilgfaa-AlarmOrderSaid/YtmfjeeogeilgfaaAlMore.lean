/- Plain laws of what Due tells. -/
import Derived.Test.YtmfjeeogeilgfaaAlSteps
namespace Go.Proofs.Ytmfjeeogeilgfaa.Al
open Go.RowKit

def bumpD (m now : Int) (t : T) : T := if t.due ≤ now then t.bump m now else t
theorem bumpD_key (m now : Int) (t : T) : (bumpD m now t).key = t.key := by unfold bumpD; split <;> rfl
theorem bumpD_late {m now : Int} {t : T} (h : now < t.due) : bumpD m now t = t := by unfold bumpD; rw [if_neg (by omega)]
theorem map_late {m now : Int} : ∀ {ts : List T}, (∀ t ∈ ts, now < t.due) → ts.map (bumpD m now) = ts
  | [], _ => rfl
  | t :: r, h => by rw [List.map_cons, bumpD_late (h t (List.mem_cons_self ..)), map_late (fun u hu => h u (List.mem_cons_of_mem _ hu))]
theorem bump_late {m now : Int} {t : T} (hm : 1 ≤ m) (ht : 1 ≤ t.gap) : now < (t.bump m now).due := by
  show now < now + min (2 * t.gap) m
  omega
theorem DueR.what {m now : Int} {ts us : List T} {ks : List Int} (h : DueR m now ts ks us) (hm : 1 ≤ m) :
    (∀ t ∈ ts, 1 ≤ t.gap) → us.Perm (ts.map (bumpD m now)) ∧ ∀ k, k ∈ ks ↔ ∃ t ∈ ts, t.key = k ∧ t.due ≤ now := by
  induction h with
  | stop h1 h2 =>
    intro _
    rw [map_late h1]
    refine ⟨h2.symm, fun k => ⟨fun h => (nomatch h), fun h => ?_⟩⟩
    obtain ⟨t, ht, _, hd⟩ := h
    have := h1 t ht
    omega
  | @step ts r us t ks h1 h2 h3 h4 ih =>
    intro hg
    have hgt : 1 ≤ t.gap := hg t (h1.mem_iff.2 (List.mem_cons_self ..))
    have hlate := bump_late (m := m) (now := now) hm hgt
    have hgb : 1 ≤ (t.bump m now).gap := by show 1 ≤ min (2 * t.gap) m; omega
    obtain ⟨i1, i2⟩ := ih (fun u hu => by
      rcases List.mem_cons.1 hu with rfl | hu
      · exact hgb
      · exact hg u (h1.mem_iff.2 (List.mem_cons_of_mem _ hu)))
    refine ⟨?_, fun k => ?_⟩
    · rw [List.map_cons, bumpD_late hlate] at i1
      have e : (t :: r).map (bumpD m now) = t.bump m now :: r.map (bumpD m now) := by
        rw [List.map_cons]; unfold bumpD; rw [if_pos h3]
      exact i1.trans (e ▸ (h1.map _).symm)
    · rw [List.mem_cons, i2]
      constructor
      · rintro (rfl | ⟨u, hu, hk, hd⟩)
        · exact ⟨t, h1.mem_iff.2 (List.mem_cons_self ..), rfl, h3⟩
        · rcases List.mem_cons.1 hu with rfl | hu
          · omega
          · exact ⟨u, h1.mem_iff.2 (List.mem_cons_of_mem _ hu), hk, hd⟩
      · rintro ⟨u, hu, hk, hd⟩
        rcases List.mem_cons.1 (h1.mem_iff.1 hu) with rfl | hu
        · exact .inl hk.symm
        · exact .inr ⟨u, List.mem_cons_of_mem _ hu, hk, hd⟩

/-- the keys that run out, one behind the other, each taken away -/
inductive TakeR (now : Int) : List T → List Int → Prop
  | stop {ts : List T} : (∀ t ∈ ts, now < t.due) → TakeR now ts []
  | step {ts r : List T} {t : T} {ks : List Int} : ts.Perm (t :: r) → (∀ u ∈ r, t.le u) → t.due ≤ now → TakeR now r ks → TakeR now ts (t.key :: ks)
theorem DueR.take {m now : Int} {ts us : List T} {ks : List Int} (h : DueR m now ts ks us) (hm : 1 ≤ m) :
    ∀ (es r : List T), (∀ t ∈ r, 1 ≤ t.gap) → (∀ e ∈ es, now < e.due) → ts.Perm (es ++ r) → TakeR now r ks := by
  induction h with
  | stop h1 _ => exact fun es r _ _ hp => .stop fun t ht => h1 t (hp.mem_iff.2 (List.mem_append_right _ ht))
  | @step ts r0 us t ks h1 h2 h3 h4 ih =>
    intro es r hg he hp
    have htm : t ∈ r := by
      rcases List.mem_append.1 (hp.mem_iff.1 (h1.mem_iff.2 (List.mem_cons_self ..))) with h | h
      · have := he t h; omega
      · exact h
    obtain ⟨s, s', rfl⟩ := List.append_of_mem htm
    have hp2 : (s ++ t :: s').Perm (t :: (s ++ s')) := List.perm_middle
    have hr0 : r0.Perm (es ++ (s ++ s')) := by
      have : (t :: r0).Perm (t :: (es ++ (s ++ s'))) := h1.symm.trans (hp.trans ((hp2.append_left es).trans List.perm_middle))
      exact this.cons_inv
    refine .step hp2 (fun u hu => h2 u (hr0.mem_iff.2 (List.mem_append_right _ hu))) h3 (ih (t.bump m now :: es) (s ++ s') (fun u hu => hg u (hp2.mem_iff.2 (List.mem_cons_of_mem _ hu))) (fun e h => ?_) (hr0.cons _))
    rcases List.mem_cons.1 h with rfl | h
    · exact bump_late hm (hg t htm)
    · exact he e h
theorem TakeR.unique {now : Int} {ts : List T} {ks : List Int} (h : TakeR now ts ks) : ∀ {ts' : List T} {ks' : List Int}, (ts.map (·.key)).Nodup → ts'.Perm ts → TakeR now ts' ks' → ks = ks' := by
  induction h with
  | stop h1 =>
    intro ts' ks' hn hp h'
    cases h' with
    | stop h3 => rfl
    | step h3 h4 h5 h6 =>
      have := h1 _ (hp.mem_iff.1 (h3.mem_iff.2 (List.mem_cons_self ..)))
      omega
  | @step ts r t ks h1 h2 h3 h4 ih =>
    intro ts' ks' hn hp h'
    cases h' with
    | stop h5 =>
      have := h5 _ (hp.mem_iff.2 (h1.mem_iff.2 (List.mem_cons_self ..)))
      omega
    | @step _ r2 t2 ks2 h5 h6 h7 h8 =>
      have hpp : (t2 :: r2).Perm (t :: r) := h5.symm.trans (hp.trans h1)
      have ht2 : t2 = t := by
        rcases List.mem_cons.1 (hpp.mem_iff.1 (List.mem_cons_self ..)) with e | e
        · exact e
        · rcases List.mem_cons.1 (hpp.mem_iff.2 (List.mem_cons_self ..)) with e' | e'
          · exact e'.symm
          · have a1 := h2 _ e
            have a2 := h6 _ e'
            have hk : t2.key = t.key := by unfold T.le at a1 a2; omega
            exact key_unique hn (h1.mem_iff.2 (List.mem_cons_of_mem _ e)) (h1.mem_iff.2 (List.mem_cons_self ..)) hk
      subst ht2
      have hr : r2.Perm r := hpp.cons_inv
      have hn2 : (r.map (·.key)).Nodup := by
        have := (h1.map (·.key)).nodup_iff.1 hn
        simp at this
        exact this.2
      rw [ih hn2 hr h8]
theorem Good.one {l m : Int} {ts : List T} (h : Good l m ts) (hn : ts ≠ []) : 1 ≤ l ∧ 1 ≤ m := by
  have h1 := h.lm
  unfold LM at h1
  have : l ≠ 0 := fun e => hn (h.none0 e)
  omega
theorem Good.gaps {l m : Int} {ts : List T} (h : Good l m ts) : ∀ t ∈ ts, 1 ≤ t.gap := by
  intro t ht
  have h1 := (h.one (fun e => by rw [e] at ht; cases ht)).1
  have h2 := (h.ok t ht).1
  omega
/-- Due at a tick -/
theorem DueIs.what {l m now : Int} {ts us : List T} {ks : List Int} (hg : Good l m ts) (ht : tickB now = true) (h : DueIs m now ts ks us) :
    us.Perm (ts.map (bumpD m now)) ∧ (∀ k, k ∈ ks ↔ ∃ t ∈ ts, t.key = k ∧ t.due ≤ now) ∧ TakeR now ts ks ∧ ∀ t ∈ us, now < t.due := by
  unfold DueIs at h
  rw [if_pos ht] at h
  by_cases hn : ts = []
  · subst hn
    have h0 : ks = [] ∧ us = [] := by
      cases h with
      | stop h1 h2 => exact ⟨rfl, h2.nil_eq.symm⟩
      | step h1 _ _ _ => exact absurd h1.length_eq (by simp)
    obtain ⟨rfl, rfl⟩ := h0
    exact ⟨List.Perm.refl _, by simp, .stop (by simp), by simp⟩
  · have hm := (hg.one hn).2
    obtain ⟨h1, h2⟩ := h.what hm hg.gaps
    refine ⟨h1, h2, h.take hm [] ts hg.gaps (by simp) (List.Perm.refl _), fun t hu => ?_⟩
    obtain ⟨u, hu', rfl⟩ := List.mem_map.1 (h1.mem_iff.1 hu)
    unfold bumpD
    split
    · exact bump_late hm (hg.gaps u hu')
    · omega
theorem DueIs.none {l m now : Int} {ts us : List T} {ks : List Int} (hg : Good l m ts) (ht : tickB now = true) (h : DueIs m now ts ks us) (hl : ∀ t ∈ ts, now < t.due) : ks = [] ∧ us.Perm ts := by
  obtain ⟨h1, h2, _⟩ := h.what hg ht
  refine ⟨List.eq_nil_iff_forall_not_mem.2 fun k hk => ?_, by rwa [map_late hl] at h1⟩
  obtain ⟨t, ht, _, hd⟩ := (h2 k).1 hk
  have := hl t ht
  omega
end Go.Proofs.Ytmfjeeogeilgfaa.Al
