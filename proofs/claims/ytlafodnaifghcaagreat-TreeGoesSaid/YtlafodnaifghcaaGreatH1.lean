/- Identifiers and runs of them: plain laws, no program in sight. Documents as forests, and as lists in their order: plainly. -/
namespace Go.Proofs.YtlafodnaifghcaaGreat.St

/-- below 0, 0, above 0 -/
def cmpI (a b : Int) : Int := if a < b then -1 else if b < a then 1 else 0
/-- the first that is not 0 -/
def orL : List Int → Int
  | [] => 0
  | x :: r => if x = 0 then orL r else x

@[ext] structure ID where
  t : Int
  s : Int
deriving DecidableEq, Inhabited
@[ext] structure Run where
  id : ID
  c : Int
deriving DecidableEq, Inhabited
def ID.zero : ID := ⟨0, 0⟩
def ID.cmp (a b : ID) : Int := orL [cmpI a.t b.t, cmpI a.s b.s]
def ID.lt (a b : ID) : Prop := a.t < b.t ∨ a.t = b.t ∧ a.s < b.s
def ID.Is (a : ID) : Prop := 1 ≤ a.t ∧ a.t ≤ 2147483647 ∧ 1 ≤ a.s ∧ a.s ≤ 16
instance (a : ID) : Decidable a.Is := by unfold ID.Is; infer_instance
instance (a b : ID) : Decidable (a.lt b) := by unfold ID.lt; infer_instance
def isB (a : ID) : Bool := decide a.Is
def ID.after (a : ID) (n : Int) : ID := if a.Is ∧ 0 ≤ n ∧ n ≤ 2147483647 - a.t then ⟨a.t + n, a.s⟩ else ID.zero

theorem ID.lt_irrefl (a : ID) : ¬ a.lt a := by unfold ID.lt; omega
theorem ID.lt_trans {a b c : ID} (h : a.lt b) (h' : b.lt c) : a.lt c := by unfold ID.lt at *; omega
theorem ID.lt_or (a b : ID) : a.lt b ∨ a = b ∨ b.lt a := by
  unfold ID.lt
  rw [ID.ext_iff]
  omega
theorem cmp_eq (a b : ID) : a.cmp b = if a.lt b then -1 else if b.lt a then 1 else 0 := by
  unfold ID.cmp orL cmpI orL orL ID.lt
  by_cases h1 : a.t < b.t
  · simp [h1]
  · by_cases h2 : b.t < a.t
    · have : ¬ (a.t = b.t ∧ a.s < b.s) := by omega
      simp [h1, h2, this]
    · have h3 : a.t = b.t := by omega
      by_cases h4 : a.s < b.s
      · simp [h3, h4]
      · by_cases h5 : b.s < a.s
        · simp [h3, h4, h5]
        · simp [h3, h4, h5]
theorem cmp_lt {a b : ID} : a.cmp b < 0 ↔ a.lt b := by
  rw [cmp_eq]
  by_cases h1 : a.lt b
  · simp [h1]
  · by_cases h2 : b.lt a <;> simp [h1, h2]
theorem cmp_gt {a b : ID} : 0 < a.cmp b ↔ b.lt a := by
  rw [cmp_eq]
  by_cases h1 : a.lt b
  · have : ¬ b.lt a := fun h => a.lt_irrefl (ID.lt_trans h1 h)
    simp [h1, this]
  · by_cases h2 : b.lt a <;> simp [h1, h2]
theorem cmp_zero {a b : ID} : a.cmp b = 0 ↔ a = b := by
  rw [cmp_eq]
  constructor
  · intro h
    rcases a.lt_or b with h1 | h1 | h1
    · simp [h1] at h
    · exact h1
    · have : ¬ a.lt b := fun h => a.lt_irrefl (ID.lt_trans h h1)
      simp [h1, this] at h
  · rintro rfl
    simp [ID.lt_irrefl]
theorem cmp_swap (a b : ID) : b.cmp a = - a.cmp b := by
  rw [cmp_eq, cmp_eq]
  rcases a.lt_or b with h | h | h
  · have : ¬ b.lt a := fun h' => a.lt_irrefl (ID.lt_trans h h')
    simp [h, this]
  · subst h; simp [ID.lt_irrefl]
  · have : ¬ a.lt b := fun h' => a.lt_irrefl (ID.lt_trans h' h)
    simp [h, this]
theorem cmp_bd (a b : ID) : -1 ≤ a.cmp b ∧ a.cmp b ≤ 1 := by
  rw [cmp_eq]; split <;> (try split) <;> omega

/-! ### rising lists -/
def Rising (l : List ID) : Prop := l.Pairwise ID.lt
/-- S is the identifiers among ids, rising, each once -/
def SetOf (ids S : List ID) : Prop := Rising S ∧ ∀ x, x ∈ S ↔ x ∈ ids ∧ x.Is
theorem rising_unique : ∀ {S T : List ID}, Rising S → Rising T → (∀ x, x ∈ S ↔ x ∈ T) → S = T
  | [], [], _, _, _ => rfl
  | [], y :: T, _, _, h => absurd ((h y).2 (List.mem_cons_self ..)) (by simp)
  | x :: S, [], _, _, h => absurd ((h x).1 (List.mem_cons_self ..)) (by simp)
  | x :: S, y :: T, hS, hT, h => by
    obtain ⟨s1, s2⟩ := List.pairwise_cons.1 hS
    obtain ⟨t1, t2⟩ := List.pairwise_cons.1 hT
    have e : x = y := by
      rcases List.mem_cons.1 ((h x).1 (List.mem_cons_self ..)) with e | e
      · exact e
      · rcases List.mem_cons.1 ((h y).2 (List.mem_cons_self ..)) with e' | e'
        · exact e'.symm
        · exact absurd (ID.lt_trans (s1 y e') (t1 x e)) (ID.lt_irrefl _)
    subst e
    have hST : ∀ z, z ∈ S ↔ z ∈ T := fun z => by
      constructor
      · intro hz
        rcases List.mem_cons.1 ((h z).1 (List.mem_cons_of_mem _ hz)) with e | e
        · subst e; exact absurd (s1 z hz) (ID.lt_irrefl _)
        · exact e
      · intro hz
        rcases List.mem_cons.1 ((h z).2 (List.mem_cons_of_mem _ hz)) with e | e
        · subst e; exact absurd (t1 z hz) (ID.lt_irrefl _)
        · exact e
    rw [rising_unique s2 t2 hST]
theorem SetOf.unique {ids S T : List ID} (h : SetOf ids S) (h' : SetOf ids T) : S = T := rising_unique h.1 h'.1 fun x => (h.2 x).trans (h'.2 x).symm

/-! ### runs -/
/-- the identifier that would follow a run -/
def Run.next (r : Run) : ID := ⟨r.id.t + r.c, r.id.s⟩
def Run.fin (r : Run) : ID := ⟨r.id.t + r.c - 1, r.id.s⟩
def Run.up (r : Run) : Run := ⟨r.id, r.c + 1⟩
/-- the place of the first run that an identifier would follow -/
def growAt (out : List Run) (x : ID) : Option Nat := out.findIdx? fun r => decide (r.next = x)
def packStep (out : List Run) (x : ID) : List Run :=
  match growAt out x with
  | some k => out.modify k Run.up
  | none => out ++ [⟨x, 1⟩]
def packL (S : List ID) : List Run := S.foldl packStep []
/-- what packStep keeps, all that is to come being above -/
structure PackOk (out : List Run) (P : ID → Prop) : Prop where
  nodup : (out.map Run.next).Nodup
  fin : ∀ r ∈ out, P r.fin
  pos : ∀ r ∈ out, 1 ≤ r.c
theorem growAt_some {out : List Run} {x : ID} {k : Nat} (h : growAt out x = some k) : ∃ r, out[k]? = some r ∧ r.next = x := by
  unfold growAt at h
  rw [List.findIdx?_eq_some_iff_getElem] at h
  obtain ⟨hk, h1, _⟩ := h
  exact ⟨out[k], by simp [hk], by simpa using h1⟩
theorem growAt_none {out : List Run} {x : ID} (h : growAt out x = none) : ∀ r ∈ out, r.next ≠ x := by
  unfold growAt at h
  rw [List.findIdx?_eq_none_iff] at h
  intro r hr
  simpa using h r hr
theorem growAt_of {out : List Run} {x : ID} {k : Nat} {r : Run} (hn : (out.map Run.next).Nodup) (hk : out[k]? = some r) (hr : r.next = x) : growAt out x = some k := by
  cases h : growAt out x with
  | none => exact absurd hr (growAt_none h r (List.mem_of_getElem? hk))
  | some j =>
    obtain ⟨q, hj, hq⟩ := growAt_some h
    have hj' : j < out.length := (List.getElem?_eq_some_iff.1 hj).1
    have : j = k := (List.getElem?_inj (by simpa using hj') hn).1 (by simp [List.getElem?_map, hj, hk, hq, hr])
    rw [this]
theorem packStep_ok {out : List Run} {P Q : ID → Prop} {x : ID} (h : PackOk out P) (hx : ∀ y, P y → y ≠ x) (hPQ : ∀ y, P y → Q y) (hQ : Q x) : PackOk (packStep out x) Q := by
  have hnx : ∀ r ∈ out, r.next ≠ ⟨x.t + 1, x.s⟩ := fun r hr e => by
    have h1 := hx _ (h.fin r hr)
    apply h1
    have e1 := congrArg ID.t e
    have e2 := congrArg ID.s e
    simp only [Run.next] at e1 e2
    rw [ID.ext_iff]
    simp only [Run.fin]
    exact ⟨by omega, e2⟩
  unfold packStep
  cases hg : growAt out x with
  | none =>
    refine ⟨?_, fun r hr => ?_, fun r hr => ?_⟩
    · simp only [List.map_append, List.map_cons, List.map_nil]
      rw [List.nodup_append]
      refine ⟨h.nodup, by simp, fun a ha b hb => ?_⟩
      obtain ⟨r, hr, rfl⟩ := List.mem_map.1 ha
      simp only [List.mem_cons, List.not_mem_nil, or_false] at hb
      subst hb
      exact hnx r hr
    · rcases List.mem_append.1 hr with hr | hr
      · exact hPQ _ (h.fin r hr)
      · simp only [List.mem_cons, List.not_mem_nil, or_false] at hr
        subst hr
        have : Run.fin ⟨x, 1⟩ = x := by rw [ID.ext_iff]; exact ⟨by simp only [Run.fin]; omega, rfl⟩
        rw [this]; exact hQ
    · rcases List.mem_append.1 hr with hr | hr
      · exact h.pos r hr
      · simp only [List.mem_cons, List.not_mem_nil, or_false] at hr
        subst hr
        exact Int.le_refl _
  | some k =>
    obtain ⟨r, hk, hr⟩ := growAt_some hg
    have hkl : k < out.length := (List.getElem?_eq_some_iff.1 hk).1
    have hup : r.up.next = ⟨x.t + 1, x.s⟩ := by
      have e1 := congrArg ID.t hr
      have e2 := congrArg ID.s hr
      simp only [Run.next] at e1 e2
      rw [ID.ext_iff]
      simp only [Run.next, Run.up]
      exact ⟨by omega, e2⟩
    have hmod : out.modify k Run.up = out.set k r.up := by
      apply List.ext_getElem?
      intro i
      rw [List.getElem?_modify, List.getElem?_set]
      by_cases hi : k = i
      · subst hi
        have e : out[k] = r := Option.some.inj ((List.getElem?_eq_getElem hkl).symm.trans hk)
        simp [hkl, e]
      · simp [hi]
    show PackOk (out.modify k Run.up) Q
    rw [hmod]
    have hmem : ∀ q ∈ out.set k r.up, q = r.up ∨ q ∈ out := fun q hq => (List.mem_or_eq_of_mem_set hq).symm
    refine ⟨?_, fun q hq => ?_, fun q hq => ?_⟩
    · rw [List.map_set, hup]
      unfold List.Nodup
      rw [List.pairwise_iff_getElem]
      intro i j hi hj hij e
      simp only [List.length_set, List.length_map] at hi hj
      rw [List.getElem_set, List.getElem_set] at e
      by_cases h1 : k = i
      · have h2 : k ≠ j := by omega
        rw [if_pos h1, if_neg h2, List.getElem_map] at e
        exact hnx _ (List.getElem_mem (by omega)) e.symm
      · by_cases h2 : k = j
        · rw [if_neg h1, if_pos h2, List.getElem_map] at e
          exact hnx _ (List.getElem_mem (by omega)) e
        · rw [if_neg h1, if_neg h2] at e
          exact (List.pairwise_iff_getElem.1 h.nodup) i j (by simpa using hi) (by simpa using hj) hij e
    · rcases hmem q hq with rfl | hq
      · have : r.up.fin = x := by
          have e1 := congrArg ID.t hr
          have e2 := congrArg ID.s hr
          simp only [Run.next] at e1 e2
          rw [ID.ext_iff]
          simp only [Run.fin, Run.up]
          exact ⟨by omega, e2⟩
        rw [this]; exact hQ
      · exact hPQ _ (h.fin q hq)
    · rcases hmem q hq with rfl | hq
      · have := h.pos r (List.mem_of_getElem? hk)
        simp only [Run.up]; omega
      · exact h.pos q hq
theorem packStep_len (out : List Run) (x : ID) : (packStep out x).length ≤ out.length + 1 := by
  unfold packStep; split <;> simp
theorem get_of_lt {α : Type} {l : List α} {i : Nat} (h : i < l.length) : ∃ x, l[i]? = some x := ⟨_, List.getElem?_eq_getElem h⟩
/-- numbers that an int holds -/
def I64 (n : Int) : Prop := -9223372036854775808 ≤ n ∧ n ≤ 9223372036854775807
def Run.In (r : Run) : Prop := I64 r.id.t ∧ I64 r.id.s ∧ I64 r.c
end Go.Proofs.YtlafodnaifghcaaGreat.St
namespace Go.Proofs.YtlafodnaifghcaaGreat.Tr
open Go.Proofs.YtlafodnaifghcaaGreat.St
/-- an element -/
@[ext] structure Nd where
  id : ID
  ref : ID
  rune : Int
  st : Int
deriving DecidableEq, Inhabited
inductive T where
  | mk (n : Nd) (ks : List T)
def T.n : T → Nd | .mk n _ => n
def T.ks : T → List T | .mk _ ks => ks
mutual
/-- the elements in the document's order -/
def flat : T → List Nd | .mk n ks => n :: flats ks
def flats : List T → List Nd | [] => [] | t :: ts => flat t ++ flats ts
end
theorem flat_eq (t : T) : flat t = t.n :: flats t.ks := by cases t; rfl
theorem flats_append (A B : List T) : flats (A ++ B) = flats A ++ flats B := by
  induction A with
  | nil => rfl
  | cons t A ih => show flat t ++ flats (A ++ B) = (flat t ++ flats A) ++ flats B; rw [ih, List.append_assoc]
mutual
/-- behind one element, or the beginning: the higher ones first, each higher than what it stands behind -/
def WF (r : ID) : T → Prop | .mk n ks => n.ref = r ∧ r.lt n.id ∧ WFs n.id ks
def WFs (r : ID) : List T → Prop | [] => True | t :: ts => WF r t ∧ (∀ u ∈ ts, u.n.id.lt t.n.id) ∧ WFs r ts
end
theorem WF.eq {r : ID} {t : T} : WF r t ↔ t.n.ref = r ∧ r.lt t.n.id ∧ WFs t.n.id t.ks := by cases t; exact Iff.rfl
abbrev ids (L : List Nd) : List ID := L.map (·.id)
theorem WFs.mem {r : ID} : ∀ {F : List T}, WFs r F → ∀ t ∈ F, WF r t
  | [], _, t, h => by simp at h
  | u :: us, h, t, ht => by
    rcases List.mem_cons.1 ht with rfl | ht
    · exact h.1
    · exact WFs.mem (F := us) h.2.2 t ht
mutual
/-- all identifiers are above what stands ahead -/
theorem WF.gt {r : ID} : ∀ (t : T), WF r t → ∀ m ∈ flat t, r.lt m.id
  | .mk n ks, h, m, hm => by
    rcases List.mem_cons.1 hm with rfl | hm
    · exact h.2.1
    · exact ID.lt_trans h.2.1 (WFs.gt ks h.2.2 m hm)
theorem WFs.gt {r : ID} : ∀ (F : List T), WFs r F → ∀ m ∈ flats F, r.lt m.id
  | [], _, m, hm => by simp [flats] at hm
  | t :: ts, h, m, hm => by
    rcases List.mem_append.1 hm with hm | hm
    · exact WF.gt t h.1 m hm
    · exact WFs.gt ts h.2.2 m hm
end
mutual
/-- what an element stands behind is ahead of it -/
theorem WF.ahead {r : ID} : ∀ (t : T), WF r t → ∀ (P Q : List Nd) (m : Nd), flat t = P ++ m :: Q → m.ref = r ∧ P = [] ∨ m.ref ∈ ids P
  | .mk n ks, h, P, Q, m, e => by
    cases P with
    | nil =>
      have e1 : n = m := by have := congrArg List.head? e; simpa [flat] using this
      exact .inl ⟨by rw [← e1]; exact h.1, rfl⟩
    | cons p P =>
      have e1 : n = p := by have := congrArg List.head? e; simpa [flat] using this
      have e2 : flats ks = P ++ m :: Q := by have := congrArg List.tail e; simpa [flat] using this
      right
      rcases WFs.ahead ks h.2.2 P Q m e2 with h1 | h1
      · exact List.mem_map.2 ⟨p, List.mem_cons_self, by rw [← e1]; exact h1.symm⟩
      · obtain ⟨y, hy, hy2⟩ := List.mem_map.1 h1
        exact List.mem_map.2 ⟨y, List.mem_cons_of_mem _ hy, hy2⟩
theorem WFs.ahead {r : ID} : ∀ (F : List T), WFs r F → ∀ (P Q : List Nd) (m : Nd), flats F = P ++ m :: Q → m.ref = r ∨ m.ref ∈ ids P
  | [], _, P, Q, m, e => by simp [flats] at e
  | t :: ts, h, P, Q, m, e => by
    have e : flat t ++ flats ts = P ++ m :: Q := e
    rcases List.append_eq_append_iff.1 e with ⟨A, hA1, hA2⟩ | ⟨A, hA1, hA2⟩
    · -- P = flat t ++ A
      rcases WFs.ahead ts h.2.2 A Q m hA2 with h1 | h1
      · exact .inl h1
      · obtain ⟨y, hy, hy2⟩ := List.mem_map.1 h1
        exact .inr (List.mem_map.2 ⟨y, by rw [hA1]; exact List.mem_append.2 (.inr hy), hy2⟩)
    · cases A with
      | nil =>
        rw [List.append_nil] at hA1
        rw [List.nil_append] at hA2
        have : flats ts = [] ++ m :: Q := hA2.symm
        rcases WFs.ahead ts h.2.2 [] Q m this with h1 | h1
        · exact .inl h1
        · simp at h1
      | cons a A =>
        have e1 : m = a := by have := congrArg List.head? hA2; simpa using this
        subst e1
        rcases WF.ahead t h.1 P A m hA1 with ⟨h1, _⟩ | h1
        · exact .inl h1
        · exact .inr h1
end
theorem WF.refs {r : ID} {t : T} (h : WF r t) : ∀ m ∈ flats t.ks, m.ref ∈ ids (flat t) := fun m hm => by
  obtain ⟨P, Q, e⟩ := List.append_of_mem hm
  rcases WFs.ahead t.ks (WF.eq.1 h).2.2 P Q m e with h1 | h1
  · rw [flat_eq]; exact List.mem_map.2 ⟨t.n, List.mem_cons_self, h1.symm⟩
  · obtain ⟨y, hy, hy2⟩ := List.mem_map.1 h1
    rw [flat_eq]
    exact List.mem_map.2 ⟨y, List.mem_cons_of_mem _ (by rw [e]; exact List.mem_append.2 (.inl hy)), hy2⟩
theorem WFs.refs {r : ID} {F : List T} (h : WFs r F) : ∀ m ∈ flats F, m.ref = r ∨ m.ref ∈ ids (flats F) := fun m hm => by
  obtain ⟨P, Q, e⟩ := List.append_of_mem hm
  rcases WFs.ahead F h P Q m e with h1 | h1
  · exact .inl h1
  · obtain ⟨y, hy, hy2⟩ := List.mem_map.1 h1
    exact .inr (List.mem_map.2 ⟨y, by rw [e]; exact List.mem_append.2 (.inl hy), hy2⟩)
/-- those that stand behind an element -/
def kids (L : List Nd) (r : ID) : List Nd := L.filter fun n => decide (n.ref = r)
theorem kids_append (A B : List Nd) (r : ID) : kids (A ++ B) r = kids A r ++ kids B r := List.filter_append ..
theorem kids_none {L : List Nd} {r : ID} (h : ∀ m ∈ L, m.ref ≠ r) : kids L r = [] := List.filter_eq_nil_iff.2 fun m hm => by simpa using h m hm
/-- in the document's order, those behind the beginning are the roots -/
theorem kids_root {r : ID} : ∀ {F : List T}, WFs r F → kids (flats F) r = F.map T.n
  | [], _ => rfl
  | t :: ts, h => by
    show kids (flat t ++ flats ts) r = t.n :: ts.map T.n
    rw [kids_append, kids_root (F := ts) h.2.2, flat_eq]
    have h1 : kids (flats t.ks) r = [] := kids_none fun m hm e => by
      have h2 := (WF.eq.1 h.1)
      rcases WFs.refs h2.2.2 m hm with h3 | h3
      · rw [h3] at e
        have := h2.2.1
        rw [e] at this
        exact ID.lt_irrefl _ this
      · obtain ⟨y, hy, hy2⟩ := List.mem_map.1 h3
        have := ID.lt_trans h2.2.1 (WFs.gt t.ks h2.2.2 y hy)
        rw [hy2, e] at this
        exact ID.lt_irrefl _ this
    show kids ([t.n] ++ flats t.ks) r ++ _ = _
    rw [kids_append, h1]
    have : kids [t.n] r = [t.n] := by unfold kids; rw [List.filter_cons_of_pos (by simpa using (WF.eq.1 h.1).1)]; rfl
    rw [this]
    rfl
mutual
/-- all trees within -/
def subs : T → List T | .mk n ks => .mk n ks :: subss ks
def subss : List T → List T | [] => [] | t :: ts => subs t ++ subss ts
end
theorem subs_eq (t : T) : subs t = t :: subss t.ks := by cases t; rfl
mutual
theorem subs_flat : ∀ (t : T), (subs t).map T.n = flat t
  | .mk n ks => by show n :: (subss ks).map T.n = n :: flats ks; rw [subss_flat ks]
theorem subss_flat : ∀ (F : List T), (subss F).map T.n = flats F
  | [] => rfl
  | t :: ts => by show (subs t ++ subss ts).map T.n = flat t ++ flats ts; rw [List.map_append, subs_flat t, subss_flat ts]
end
mutual
theorem subs_trans {u v : T} : ∀ (t : T), u ∈ subs t → v ∈ subs u → v ∈ subs t
  | .mk n ks, hu, hv => by
    rcases List.mem_cons.1 hu with rfl | hu
    · exact hv
    · exact List.mem_cons_of_mem _ (subss_trans ks hu hv)
theorem subss_trans {u v : T} : ∀ (F : List T), u ∈ subss F → v ∈ subs u → v ∈ subss F
  | [], hu, _ => by simp [subss] at hu
  | t :: ts, hu, hv => by
    rcases List.mem_append.1 hu with hu | hu
    · exact List.mem_append.2 (.inl (subs_trans t hu hv))
    · exact List.mem_append.2 (.inr (subss_trans ts hu hv))
end
theorem mem_subss {t : T} : ∀ {F : List T}, t ∈ F → t ∈ subss F
  | [], h => by simp at h
  | u :: us, h => by
    rcases List.mem_cons.1 h with rfl | h
    · exact List.mem_append.2 (.inl (by rw [subs_eq]; exact List.mem_cons_self))
    · exact List.mem_append.2 (.inr (mem_subss h))
mutual
theorem WF.sub {r : ID} : ∀ (t : T), WF r t → ∀ u ∈ subs t, ∃ r', WF r' u
  | .mk n ks, h, u, hu => by
    rcases List.mem_cons.1 hu with rfl | hu
    · exact ⟨r, h⟩
    · exact WFs.sub ks h.2.2 u hu
theorem WFs.sub {r : ID} : ∀ (F : List T), WFs r F → ∀ u ∈ subss F, ∃ r', WF r' u
  | [], _, u, hu => by simp [subss] at hu
  | t :: ts, h, u, hu => by
    rcases List.mem_append.1 hu with hu | hu
    · exact WF.sub t h.1 u hu
    · exact WFs.sub ts h.2.2 u hu
end
theorem sub_mem {F : List T} {u : T} (h : u ∈ subss F) : ∀ m ∈ flat u, m ∈ flats F := fun m hm => by
  rw [← subs_flat] at hm
  obtain ⟨v, hv, rfl⟩ := List.mem_map.1 hm
  rw [← subss_flat]
  exact List.mem_map.2 ⟨v, subss_trans F h hv, rfl⟩
mutual
/-- those behind an element are the roots of its forest -/
theorem kids_sub {r : ID} : ∀ (t : T), WF r t → (ids (flat t)).Nodup → ∀ u ∈ subs t, kids (flat t) u.n.id = u.ks.map T.n
  | .mk n ks, h, hnd, u, hu => by
    have hnd2 : (n.id :: ids (flats ks)).Nodup := hnd
    obtain ⟨hn1, hn2⟩ := List.nodup_cons.1 hnd2
    rcases List.mem_cons.1 hu with rfl | hu
    · show kids ([n] ++ flats ks) n.id = ks.map T.n
      rw [kids_append, kids_root h.2.2, kids_none (L := [n])]
      · rfl
      · intro m hm e
        rw [List.mem_singleton.1 hm] at e
        have := h.2.1
        rw [← h.1, e] at this
        exact ID.lt_irrefl _ this
    · show kids ([n] ++ flats ks) u.n.id = _
      have hm : u.n ∈ flats ks := by rw [← subss_flat]; exact List.mem_map.2 ⟨u, hu, rfl⟩
      rw [kids_append, kids_subs ks h.2.2 hn2 u hu, kids_none (L := [n])]
      · rfl
      · intro m hm2 e
        rw [List.mem_singleton.1 hm2] at e
        have h1 := ID.lt_trans h.2.1 (WFs.gt ks h.2.2 u.n hm)
        rw [← e, h.1] at h1
        exact ID.lt_irrefl _ h1
theorem kids_subs {r : ID} : ∀ (F : List T), WFs r F → (ids (flats F)).Nodup → ∀ u ∈ subss F, kids (flats F) u.n.id = u.ks.map T.n
  | [], _, _, u, hu => by simp [subss] at hu
  | t :: ts, h, hnd, u, hu => by
    have hnd2 : (ids (flat t) ++ ids (flats ts)).Nodup := by have := hnd; unfold ids at *; rwa [show flats (t :: ts) = flat t ++ flats ts from rfl, List.map_append] at this
    obtain ⟨n1, n2, n3⟩ := List.nodup_append.1 hnd2
    show kids (flat t ++ flats ts) u.n.id = _
    rw [kids_append]
    rcases List.mem_append.1 hu with hu | hu
    · have hm : u.n ∈ flat t := by rw [← subs_flat]; exact List.mem_map.2 ⟨u, hu, rfl⟩
      rw [kids_sub t h.1 n1 u hu, kids_none (L := flats ts), List.append_nil]
      intro m hm2 e
      rcases WFs.refs h.2.2 m hm2 with h1 | h1
      · have h2 := WF.gt t h.1 u.n hm
        rw [← e, h1] at h2
        exact ID.lt_irrefl _ h2
      · rw [e] at h1
        exact n3 _ (List.mem_map.2 ⟨u.n, hm, rfl⟩) _ h1 rfl
    · have hm : u.n ∈ flats ts := by rw [← subss_flat]; exact List.mem_map.2 ⟨u, hu, rfl⟩
      rw [kids_subs ts h.2.2 n2 u hu, kids_none (L := flat t), List.nil_append]
      intro m hm2 e
      rw [flat_eq] at hm2
      rcases List.mem_cons.1 hm2 with rfl | hm2
      · have h2 := WFs.gt ts h.2.2 u.n hm
        rw [← e, (WF.eq.1 h.1).1] at h2
        exact ID.lt_irrefl _ h2
      · have h1 := WF.refs h.1 m hm2
        rw [e] at h1
        exact n3 _ h1 _ (List.mem_map.2 ⟨u.n, hm, rfl⟩) rfl
end
/-- a document's elements in their order -/
def Doc (L : List Nd) : Prop := ∃ F : List T, flats F = L ∧ WFs ID.zero F ∧ (ids L).Nodup
end Go.Proofs.YtlafodnaifghcaaGreat.Tr
