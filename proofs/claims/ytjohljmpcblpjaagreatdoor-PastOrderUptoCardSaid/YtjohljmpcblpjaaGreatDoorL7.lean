/- A text put rune by rune; states turned; elements forgotten: plainly. What is forgotten, what may be loaded: plainly. A text's elements: plainly. -/
import Derived.Test.YtjohljmpcblpjaaGreatDoorL6
namespace Go.Proofs.YtjohljmpcblpjaaGreatDoor.Tr
open Go.Proofs.YtjohljmpcblpjaaGreatDoor.St
/-- each put at its place -/
def puts : List Nd → List Nd → List Nd
  | L, [] => L
  | L, x :: xs => puts (put L (placeP L x.id x.ref) x) xs
/-- each behind the one ahead -/
def Chained : List Nd → Prop
  | [] => True
  | [_] => True
  | x :: y :: r => y.ref = x.id ∧ Chained (y :: r)
theorem place_next {A B : List Nd} {x y : Nd} (hA : x.id ∉ ids A) (hx : x.id ≠ ID.zero) (hB : ∀ m, B.head? = some m → m.ref ≠ x.id) (hy : y.ref = x.id) : placeP (A ++ x :: B) y.id y.ref = A.length + 1 := by
  unfold placeP
  rw [hy, if_neg hx]
  have hidx : (A ++ x :: B).findIdx (fun n => decide (n.id = x.id)) = A.length := by
    rw [List.findIdx_append, if_neg]
    · rw [List.findIdx_cons]; simp
    · intro h
      rw [List.findIdx_lt_length] at h
      obtain ⟨m, hm, hm2⟩ := h
      exact hA (List.mem_map.2 ⟨m, hm, by simpa using hm2⟩)
  rw [hidx]
  obtain ⟨f, hf⟩ : ∃ f, (A ++ x :: B).length = f + 1 := ⟨A.length + B.length, by simp; omega⟩
  rw [hf]
  unfold placeGo
  rw [List.getElem?_append_right (by omega), show A.length + 1 - A.length = 1 by omega]
  show (match B[0]? with | none => A.length + 1 | some n => _) = _
  cases B with
  | nil => rfl
  | cons m B =>
    show (if m.ref = x.id ∧ y.id.lt m.id then _ else A.length + 1) = _
    rw [if_neg (fun h => hB m rfl h.1)]
theorem put_at (A B : List Nd) (x y : Nd) : put (A ++ x :: B) (A.length + 1) y = A ++ [x] ++ y :: B := by
  unfold put
  rw [show A ++ x :: B = (A ++ [x]) ++ B by simp, show A.length + 1 = (A ++ [x]).length by simp, List.take_left, List.drop_left]
theorem puts_chain : ∀ (xs : List Nd) (A B : List Nd) (x : Nd), Chained (x :: xs) → x.id ∉ ids A → x.id ≠ ID.zero → (∀ y ∈ xs, y.id ≠ ID.zero ∧ y.id ∉ ids A ∧ y.id ≠ x.id ∧ ∀ m, B.head? = some m → m.ref ≠ y.id) → (ids xs).Nodup → (∀ m, B.head? = some m → m.ref ≠ x.id) → puts (A ++ x :: B) xs = A ++ x :: xs ++ B
  | [], A, B, x, _, _, _, _, _, _ => by simp [puts]
  | y :: ys, A, B, x, hc, hA, hx, hall, hnd, hB => by
    have hy := hall y List.mem_cons_self
    show puts (put (A ++ x :: B) (placeP (A ++ x :: B) y.id y.ref) y) ys = _
    rw [place_next hA hx hB hc.1, put_at]
    obtain ⟨n1, n2⟩ := List.nodup_cons.1 (show (y.id :: ids ys).Nodup from hnd)
    rw [puts_chain ys (A ++ [x]) B y hc.2 (by rw [ids_append]; intro h; rcases List.mem_append.1 h with h | h; exact hy.2.1 h; exact hy.2.2.1 (by simpa using h)) hy.1 (fun z hz => by
      have h1 := hall z (List.mem_cons_of_mem _ hz)
      exact ⟨h1.1, by rw [ids_append]; intro h; rcases List.mem_append.1 h with h | h; exact h1.2.1 h; exact h1.2.2.1 (by simpa using h), fun e => n1 (List.mem_map.2 ⟨z, hz, e⟩), h1.2.2.2⟩) n2 hy.2.2.2]
    simp
theorem Doc.refs {L : List Nd} (h : Doc L) : ∀ m ∈ L, m.ref = ID.zero ∨ m.ref ∈ ids L := by
  obtain ⟨F, rfl, hw, _⟩ := h
  exact hw.refs
theorem Doc.nodup {L : List Nd} (h : Doc L) : (ids L).Nodup := by obtain ⟨F, rfl, _, h⟩ := h; exact h
theorem Doc.nil : Doc [] := ⟨[], rfl, trivial, List.Pairwise.nil⟩
/-- a text comes as one piece -/
theorem puts_text {L : List Nd} (h : Doc L) {x : Nd} {xs : List Nd} (hc : Chained (x :: xs)) (hz : ∀ y ∈ x :: xs, y.id ≠ ID.zero ∧ y.id ∉ ids L) (hnd : (ids (x :: xs)).Nodup) :
    puts L (x :: xs) = L.take (placeP L x.id x.ref) ++ (x :: xs) ++ L.drop (placeP L x.id x.ref) := by
  show puts (put L (placeP L x.id x.ref) x) xs = _
  generalize placeP L x.id x.ref = p at *
  obtain ⟨n1, n2⟩ := List.nodup_cons.1 (show (x.id :: ids xs).Nodup from hnd)
  have hno : ∀ y ∈ x :: xs, ∀ m, (L.drop p).head? = some m → m.ref ≠ y.id := fun y hy m hm e => by
    have hm2 : m ∈ L := List.mem_of_mem_drop (List.mem_of_mem_head? hm)
    rcases h.refs m hm2 with h1 | h1
    · exact (hz y hy).1 (e.symm.trans h1)
    · rw [e] at h1; exact (hz y hy).2 h1
  have hnt : ∀ y ∈ x :: xs, y.id ∉ ids (L.take p) := fun y hy e => by
    obtain ⟨m, hm, hm2⟩ := List.mem_map.1 e
    exact (hz y hy).2 (List.mem_map.2 ⟨m, List.mem_of_mem_take hm, hm2⟩)
  exact puts_chain xs (L.take p) (L.drop p) x hc (hnt x List.mem_cons_self) (hz x List.mem_cons_self).1 (fun y hy => ⟨(hz y (List.mem_cons_of_mem _ hy)).1, hnt y (List.mem_cons_of_mem _ hy), fun e => n1 (List.mem_map.2 ⟨y, hy, e⟩), hno y (List.mem_cons_of_mem _ hy)⟩) n2 (hno x List.mem_cons_self)
mutual
def mapT (f : Nd → Nd) : T → T | .mk n ks => .mk (f n) (mapF f ks)
def mapF (f : Nd → Nd) : List T → List T | [] => [] | t :: ts => mapT f t :: mapF f ts
end
theorem mapT_n (f : Nd → Nd) (t : T) : (mapT f t).n = f t.n := by cases t; rfl
mutual
theorem mapT_flat (f : Nd → Nd) : ∀ t : T, flat (mapT f t) = (flat t).map f
  | .mk n ks => by show f n :: flats (mapF f ks) = f n :: (flats ks).map f; rw [mapF_flats f ks]
theorem mapF_flats (f : Nd → Nd) : ∀ F : List T, flats (mapF f F) = (flats F).map f
  | [] => rfl
  | t :: ts => by show flat (mapT f t) ++ flats (mapF f ts) = (flat t ++ flats ts).map f; rw [mapT_flat f t, mapF_flats f ts, List.map_append]
end
theorem mapF_mem (f : Nd → Nd) : ∀ (F : List T) (u : T), u ∈ mapF f F → ∃ t ∈ F, u = mapT f t
  | [], u, h => by simp [mapF] at h
  | t :: ts, u, h => by
    rcases List.mem_cons.1 (show u ∈ mapT f t :: mapF f ts from h) with rfl | h
    · exact ⟨t, List.mem_cons_self, rfl⟩
    · obtain ⟨v, hv, e⟩ := mapF_mem f ts u h
      exact ⟨v, List.mem_cons_of_mem _ hv, e⟩
mutual
theorem mapT_wf {f : Nd → Nd} (hf : ∀ n, (f n).id = n.id ∧ (f n).ref = n.ref) {r : ID} : ∀ t : T, WF r t → WF r (mapT f t)
  | .mk n ks, h => by
    have h1 := mapF_wf hf (r := n.id) ks h.2.2
    refine ⟨(hf n).2.trans h.1, by rw [(hf n).1]; exact h.2.1, ?_⟩
    rw [(hf n).1]; exact h1
theorem mapF_wf {f : Nd → Nd} (hf : ∀ n, (f n).id = n.id ∧ (f n).ref = n.ref) {r : ID} : ∀ F : List T, WFs r F → WFs r (mapF f F)
  | [], _ => trivial
  | t :: ts, h => ⟨mapT_wf hf t h.1, fun u hu => by
      obtain ⟨v, hv, rfl⟩ := mapF_mem f ts u hu
      rw [mapT_n, mapT_n, (hf _).1, (hf _).1]
      exact h.2.1 v hv, mapF_wf hf ts h.2.2⟩
end
theorem Doc.map {L : List Nd} (h : Doc L) {f : Nd → Nd} (hf : ∀ n, (f n).id = n.id ∧ (f n).ref = n.ref) : Doc (L.map f) := by
  obtain ⟨F, rfl, hw, hnd⟩ := h
  refine ⟨mapF f F, mapF_flats f F, mapF_wf hf F hw, ?_⟩
  have : ids ((flats F).map f) = ids (flats F) := by unfold ids; rw [List.map_map]; exact List.map_congr_left fun n _ => (hf n).1
  rw [this]; exact hnd
theorem kids_map {L : List Nd} {f : Nd → Nd} (hf : ∀ n, (f n).id = n.id ∧ (f n).ref = n.ref) (r : ID) : kids (L.map f) r = (kids L r).map f := by
  unfold kids
  rw [List.filter_map]
  congr 1
  exact List.filter_congr fun n _ => by simp [(hf n).2]
mutual
theorem sub_split (u : T) : ∀ (t : T), u ∈ subs t → ∃ A B, flat t = A ++ (u.n :: flats u.ks ++ B)
  | .mk n ks, h => by
    rcases List.mem_cons.1 h with rfl | h
    · exact ⟨[], [], by simp [flat, T.n, T.ks]⟩
    · obtain ⟨A, B, e⟩ := subs_split u ks h
      exact ⟨n :: A, B, by show n :: flats ks = _; rw [e]; rfl⟩
theorem subs_split (u : T) : ∀ (F : List T), u ∈ subss F → ∃ A B, flats F = A ++ (u.n :: flats u.ks ++ B)
  | [], h => by simp [subss] at h
  | t :: ts, h => by
    rcases List.mem_append.1 h with h | h
    · obtain ⟨A, B, e⟩ := sub_split u t h
      exact ⟨A, B ++ flats ts, by show flat t ++ flats ts = _; rw [e]; simp⟩
    · obtain ⟨A, B, e⟩ := subs_split u ts h
      exact ⟨flat t ++ A, B, by show flat t ++ flats ts = _; rw [e]; simp⟩
end
/-- an element within its list: what stands behind it comes next -/
theorem Doc.at_ {L : List Nd} (h : Doc L) {P K : List Nd} {x : Nd} (e : L = P ++ x :: K) : ∃ (F : List T) (u : T) (B : List Nd), flats F = L ∧ WFs ID.zero F ∧ u ∈ subss F ∧ u.n = x ∧ K = flats u.ks ++ B := by
  obtain ⟨F, rfl, hw, hnd⟩ := h
  have hx : x ∈ flats F := by rw [e]; simp
  have hx2 := hx
  rw [← subss_flat] at hx2
  obtain ⟨u, hu, hun⟩ := List.mem_map.1 hx2
  obtain ⟨A, B, hAB⟩ := subs_split u F hu
  refine ⟨F, u, B, rfl, hw, hu, hun, ?_⟩
  have e2 : P ++ x :: K = A ++ (x :: (flats u.ks ++ B)) := by rw [← e, hAB, hun]; rfl
  have hPA : P = A ∧ x :: K = x :: (flats u.ks ++ B) := by
    rcases List.append_eq_append_iff.1 e2 with ⟨C, h1, h2⟩ | ⟨C, h1, h2⟩
    · cases C with
      | nil => exact ⟨by rw [h1, List.append_nil], h2⟩
      | cons c C =>
        exfalso
        have hc : c = x := by have := congrArg List.head? h2; simpa using this.symm
        rw [e, ids_append] at hnd
        rw [hAB] at e
        have h3 : x ∈ A := by rw [h1, hc]; simp
        have h4 : (ids (A ++ (u.n :: flats u.ks ++ B))).Nodup := by rw [e, ids_append]; exact hnd
        rw [ids_append] at h4
        exact (List.nodup_append.1 h4).2.2 x.id (List.mem_map.2 ⟨x, h3, rfl⟩) x.id (by rw [hun]; exact List.mem_cons_self) rfl
    · cases C with
      | nil => exact ⟨by rw [h1, List.append_nil], Eq.symm h2⟩
      | cons c C =>
        exfalso
        have hc : c = x := by have := congrArg List.head? h2; simpa using this.symm
        rw [e, ids_append] at hnd
        have h3 : x ∈ P := by rw [h1, hc]; simp
        exact (List.nodup_append.1 hnd).2.2 x.id (List.mem_map.2 ⟨x, h3, rfl⟩) x.id List.mem_cons_self rfl
  have := hPA.2
  injection this
/-- something stands behind an element just where what comes next does -/
theorem Doc.next {L : List Nd} (h : Doc L) {P K : List Nd} {x : Nd} (e : L = P ++ x :: K) : kids L x.id = [] ↔ ∀ m, K.head? = some m → m.ref ≠ x.id := by
  obtain ⟨F, u, B, hF, hw, hu, hun, hK⟩ := h.at_ e
  have hk : kids L x.id = u.ks.map T.n := by rw [← hF, ← hun]; exact kids_subs F hw (by rw [hF]; exact h.nodup) u hu
  rw [hk]
  constructor
  · intro h0 m hm e1
    have hks : u.ks = [] := by simpa using h0
    have hmL : m ∈ L := by rw [e]; exact List.mem_append.2 (.inr (List.mem_cons_of_mem _ (List.mem_of_mem_head? hm)))
    have : m ∈ kids L x.id := List.mem_filter.2 ⟨hmL, by simpa using e1⟩
    rw [hk, h0] at this
    simp at this
  · intro h0
    cases hks : u.ks with
    | nil => rfl
    | cons t ts =>
      exfalso
      have hmem : t ∈ subss F := subss_trans F hu (by rw [subs_eq, hks]; exact List.mem_cons_of_mem _ (mem_subss List.mem_cons_self))
      obtain ⟨r', hwu⟩ := WFs.sub F hw u hu
      have h1 := (WF.eq.1 hwu).2.2
      rw [hks] at h1
      refine h0 t.n ?_ (by rw [(WF.eq.1 h1.1).1, hun])
      rw [hK, hks]
      show ((flat t ++ flats ts) ++ B).head? = some t.n
      rw [flat_eq]; rfl
mutual
theorem rem_one {u : T} (huk : u.ks = []) {r : ID} : ∀ (t : T), WF r t → u ∈ subs t → u ≠ t → (ids (flat t)).Nodup → ∃ t', WF r t' ∧ t'.n = t.n ∧ ∃ A B, flat t = A ++ u.n :: B ∧ flat t' = A ++ B
  | .mk n ks, h, hu, hne, hnd => by
    have hnd2 : (n.id :: ids (flats ks)).Nodup := hnd
    rcases List.mem_cons.1 hu with e | hu
    · exact absurd e hne
    · obtain ⟨F', h1, h2, A, B, h3, h4⟩ := rem_forest huk ks h.2.2 hu (List.nodup_cons.1 hnd2).2
      exact ⟨.mk n F', ⟨h.1, h.2.1, h1⟩, rfl, n :: A, B, by show n :: flats ks = _; rw [h3]; rfl, by show n :: flats F' = _; rw [h4]; rfl⟩
theorem rem_forest {u : T} (huk : u.ks = []) {r : ID} : ∀ (F : List T), WFs r F → u ∈ subss F → (ids (flats F)).Nodup → ∃ F', WFs r F' ∧ (∀ v ∈ F', ∃ y ∈ F, v.n = y.n) ∧ ∃ A B, flats F = A ++ u.n :: B ∧ flats F' = A ++ B
  | [], _, hu, _ => by simp [subss] at hu
  | t :: ts, h, hu, hnd => by
    have hnd2 : (ids (flat t) ++ ids (flats ts)).Nodup := by rw [← ids_append]; exact hnd
    obtain ⟨n1, n2, n3⟩ := List.nodup_append.1 hnd2
    rcases List.mem_append.1 hu with hu | hu
    · by_cases he : u = t
      · subst he
        exact ⟨ts, h.2.2, fun v hv => ⟨v, List.mem_cons_of_mem _ hv, rfl⟩, [], flats ts, by show flat u ++ flats ts = _; rw [flat_eq, huk]; rfl, rfl⟩
      · obtain ⟨t', h1, h2, A, B, h3, h4⟩ := rem_one huk t h.1 hu he n1
        refine ⟨t' :: ts, ⟨h1, fun v hv => by rw [h2]; exact h.2.1 v hv, h.2.2⟩, fun v hv => ?_, A, B ++ flats ts, ?_, ?_⟩
        · rcases List.mem_cons.1 hv with rfl | hv
          · exact ⟨t, List.mem_cons_self, h2⟩
          · exact ⟨v, List.mem_cons_of_mem _ hv, rfl⟩
        · show flat t ++ flats ts = _; rw [h3]; simp
        · show flat t' ++ flats ts = _; rw [h4]; simp
    · obtain ⟨F', h1, h2, A, B, h3, h4⟩ := rem_forest huk ts h.2.2 hu n2
      refine ⟨t :: F', ⟨h.1, fun v hv => ?_, h1⟩, fun v hv => ?_, flat t ++ A, B, ?_, ?_⟩
      · obtain ⟨y, hy, e⟩ := h2 v hv
        rw [e]; exact h.2.1 y hy
      · rcases List.mem_cons.1 hv with rfl | hv
        · exact ⟨_, List.mem_cons_self, rfl⟩
        · obtain ⟨y, hy, e⟩ := h2 v hv
          exact ⟨y, List.mem_cons_of_mem _ hy, e⟩
      · show flat t ++ flats ts = _; rw [h3]; simp
      · show flat t ++ flats F' = _; rw [h4]; simp
end
/-- an element behind which none stands may go -/
theorem Doc.rem {L : List Nd} (h : Doc L) {P K : List Nd} {x : Nd} (e : L = P ++ x :: K) (hk : kids L x.id = []) : Doc (P ++ K) := by
  obtain ⟨F, u, B, hF, hw, hu, hun, hK⟩ := h.at_ e
  have hks : u.ks = [] := by
    have : kids L x.id = u.ks.map T.n := by rw [← hF, ← hun]; exact kids_subs F hw (by rw [hF]; exact h.nodup) u hu
    rw [hk] at this
    simpa using this.symm
  obtain ⟨F', h1, _, A, B', h3, h4⟩ := rem_forest hks F hw hu (by rw [hF]; exact h.nodup)
  rw [hF, hun, e] at h3
  have hnd := h.nodup
  rw [e] at hnd
  have hPA : P = A ∧ K = B' := by
    rcases List.append_eq_append_iff.1 h3 with ⟨C, e1, e2⟩ | ⟨C, e1, e2⟩
    · cases C with
      | nil => exact ⟨by rw [e1, List.append_nil], by have h5 : x :: K = x :: B' := e2; injection h5⟩
      | cons c C =>
        exfalso
        have hc : c = x := by have := congrArg List.head? e2; simpa using this.symm
        rw [h3, e1, hc] at hnd
        simp only [ids_append] at hnd
        exact (List.nodup_append.1 hnd).2.2 x.id (List.mem_append.2 (.inr List.mem_cons_self)) x.id List.mem_cons_self rfl
    · cases C with
      | nil => exact ⟨by rw [e1, List.append_nil], by have h5 : x :: B' = x :: K := e2; injection h5 with _ h6; exact h6.symm⟩
      | cons c C =>
        exfalso
        have hc : c = x := by have := congrArg List.head? e2; simpa using this.symm
        rw [e1, hc] at hnd
        simp only [ids_append] at hnd
        exact (List.nodup_append.1 hnd).2.2 x.id (List.mem_append.2 (.inr List.mem_cons_self)) x.id List.mem_cons_self rfl
  refine ⟨F', by rw [h4, hPA.1, hPA.2], h1, ?_⟩
  refine hnd.sublist ?_
  rw [ids_append, ids_append]
  exact List.Sublist.append (List.Sublist.refl _) (List.sublist_cons_self _ _)
end Go.Proofs.YtjohljmpcblpjaaGreatDoor.Tr
namespace Go.Proofs.YtjohljmpcblpjaaGreatDoor.Tr
open Go.Proofs.YtjohljmpcblpjaaGreatDoor.St
instance (K : List Nd) (i : ID) : Decidable (∀ m, K.head? = some m → m.ref ≠ i) :=
  match K with
  | [] => isTrue (fun m h => by simp at h)
  | k :: _ => if h : k.ref = i then isFalse (fun hh => hh k rfl h) else isTrue (fun _ hm => (Option.some.inj hm) ▸ h)
/-- from the end on, what is settled goes if nothing that is left stands behind it -/
def collR : List Nd → List Nd
  | [] => []
  | x :: r => if x.st = 3 ∧ (∀ m, (collR r).head? = some m → m.ref ≠ x.id) then collR r else x :: collR r
theorem collR_sub : ∀ L : List Nd, (collR L).Sublist L
  | [] => List.Sublist.refl _
  | x :: r => by
    unfold collR
    split
    · exact (collR_sub r).trans (List.sublist_cons_self _ _)
    · exact List.Sublist.cons_cons _ (collR_sub r)
theorem coll_doc : ∀ (R P : List Nd), Doc (P ++ R) → Doc (P ++ collR R)
  | [], P, h => h
  | x :: r, P, h => by
    have h1 : Doc ((P ++ [x]) ++ collR r) := coll_doc r (P ++ [x]) (by simpa using h)
    have h2 : Doc (P ++ x :: collR r) := by simpa using h1
    unfold collR
    split
    · next hc => exact h2.rem rfl ((h2.next rfl).2 hc.2)
    · exact h2
/-- at each step of it: has anything that is left to stand behind an element -/
theorem coll_kids {P r : List Nd} {x : Nd} (h : Doc (P ++ x :: r)) : Doc (P ++ x :: collR r) ∧ (kids (P ++ x :: collR r) x.id = [] ↔ ∀ m, (collR r).head? = some m → m.ref ≠ x.id) := by
  have h1 : Doc ((P ++ [x]) ++ collR r) := coll_doc r (P ++ [x]) (by simpa using h)
  have h2 : Doc (P ++ x :: collR r) := by simpa using h1
  exact ⟨h2, h2.next rfl⟩
/-- without one element: who stands behind whom -/
theorem kids_rem {P K : List Nd} {x : Nd} (r : ID) : kids (P ++ K) r = if x.ref = r then (kids P r) ++ kids K r else kids (P ++ x :: K) r := by
  split
  · rw [kids_append]
  · next h => rw [kids_append, kids_append, show x :: K = [x] ++ K from rfl, kids_append, kids_none (L := [x]) (fun m hm => by rw [List.mem_singleton.1 hm]; exact h), List.nil_append]
/-- an identifier that may be -/
def isRuneP (r : Int) : Prop := 0 ≤ r ∧ r ≤ 1114111 ∧ (r < 55296 ∨ 57343 < r)
instance (r : Int) : Decidable (isRuneP r) := by unfold isRuneP; infer_instance
/-- why a node is none, behind those ahead of it -/
def offC (seen : List ID) (x : Nd) : Int :=
  if ¬ x.id.Is ∨ (x.ref ≠ ID.zero ∧ ¬ x.ref.Is) then 1 else
  if ¬ isRuneP x.rune ∨ x.st < 1 ∨ 3 < x.st then 6 else
  if ¬ x.ref.lt x.id then 9 else
  if x.id ∈ seen then 12 else
  if x.ref ≠ ID.zero ∧ x.ref ∉ seen then 11 else 0
def offsC : List ID → List Nd → Int
  | _, [] => 0
  | seen, x :: r => if offC seen x ≠ 0 then offC seen x else offsC (seen ++ [x.id]) r
def loadC (L : List Nd) : Int := if offsC [] L ≠ 0 then offsC [] L else if puts [] L = L then 0 else 9
theorem off_ok {seen : List ID} {x : Nd} (h : offC seen x = 0) : x.id.Is ∧ x.ref.lt x.id ∧ x.id ∉ seen ∧ (x.ref = ID.zero ∨ x.ref ∈ seen) ∧ (x.ref = ID.zero ∨ x.ref.Is) ∧ isRuneP x.rune ∧ 1 ≤ x.st ∧ x.st ≤ 3 := by
  unfold offC at h
  split at h
  · simp at h
  next h1 =>
  split at h
  · simp at h
  next h2 =>
  split at h
  · simp at h
  next h3 =>
  split at h
  · simp at h
  next h4 =>
  split at h
  · simp at h
  next h5 =>
  have h1a : x.id.Is := Decidable.byContradiction fun hh => h1 (.inl hh)
  have h1b : x.ref = ID.zero ∨ x.ref.Is := by
    by_cases hz : x.ref = ID.zero
    · exact .inl hz
    · exact .inr (Decidable.byContradiction fun hh => h1 (.inr ⟨hz, hh⟩))
  have h5b : x.ref = ID.zero ∨ x.ref ∈ seen := by
    by_cases hz : x.ref = ID.zero
    · exact .inl hz
    · exact .inr (Decidable.byContradiction fun hh => h5 ⟨hz, hh⟩)
  exact ⟨h1a, Decidable.byContradiction fun hh => h3 hh, h4, h5b, h1b, Decidable.byContradiction fun hh => h2 (.inl hh), by omega, by omega⟩
theorem put_mem {L : List Nd} {p : Nat} {x y : Nd} : y ∈ put L p x ↔ y = x ∨ y ∈ L := by
  unfold put
  rw [List.mem_append, List.mem_cons]
  constructor
  · rintro (h | h | h)
    · exact .inr (List.mem_of_mem_take h)
    · exact .inl h
    · exact .inr (List.mem_of_mem_drop h)
  · rintro (h | h)
    · exact .inr (.inl h)
    · rw [← List.take_append_drop p L] at h
      rcases List.mem_append.1 h with h | h
      · exact .inl h
      · exact .inr (.inr h)
theorem put_ids {L : List Nd} {p : Nat} {x : Nd} {i : ID} : i ∈ ids (put L p x) ↔ i = x.id ∨ i ∈ ids L := by
  constructor
  · intro h
    obtain ⟨y, hy, rfl⟩ := List.mem_map.1 h
    rcases put_mem.1 hy with rfl | hy
    · exact .inl rfl
    · exact .inr (List.mem_map.2 ⟨y, hy, rfl⟩)
  · rintro (rfl | h)
    · exact List.mem_map.2 ⟨x, put_mem.2 (.inl rfl), rfl⟩
    · obtain ⟨y, hy, rfl⟩ := List.mem_map.1 h
      exact List.mem_map.2 ⟨y, put_mem.2 (.inr hy), rfl⟩
theorem put_length {L : List Nd} {p : Nat} {x : Nd} : (put L p x).length = L.length + 1 := by
  unfold put
  rw [List.length_append, List.length_cons, List.length_take, List.length_drop]
  omega
/-- nodes that do not offend make a document -/
theorem puts_doc : ∀ (xs L : List Nd), Doc L → offsC (ids L) xs = 0 → Doc (puts L xs)
  | [], L, h, _ => h
  | x :: xs, L, h, ho => by
    unfold offsC at ho
    split at ho
    · next hne => exact absurd ho hne
    next hz =>
    have hz0 : offC (ids L) x = 0 := Decidable.byContradiction fun hh => hz hh
    obtain ⟨_, h2, h3, h4, _⟩ := off_ok hz0
    obtain ⟨hd, _⟩ := h.put h4 h2 h3
    exact puts_docS xs (put L (placeP L x.id x.ref) x) hd (ids L ++ [x.id]) (fun i => by rw [put_ids, List.mem_append, List.mem_singleton]; exact Or.comm) ho
where
  puts_docS : ∀ (xs L : List Nd), Doc L → ∀ (seen : List ID), (∀ i, i ∈ ids L ↔ i ∈ seen) → offsC seen xs = 0 → Doc (puts L xs)
  | [], L, h, _, _, _ => h
  | x :: xs, L, h, seen, hs, ho => by
    unfold offsC at ho
    split at ho
    · next hne => exact absurd ho hne
    next hz =>
    have hz0 : offC seen x = 0 := Decidable.byContradiction fun hh => hz hh
    obtain ⟨_, h2, h3, h4, _⟩ := off_ok hz0
    obtain ⟨hd, _⟩ := h.put (h4.imp id (fun h => (hs _).2 h)) h2 (fun e => h3 ((hs _).1 e))
    exact puts_docS xs (put L (placeP L x.id x.ref) x) hd (seen ++ [x.id]) (fun i => by rw [put_ids, List.mem_append, List.mem_singleton, hs]; exact Or.comm) ho
end Go.Proofs.YtjohljmpcblpjaaGreatDoor.Tr
namespace Go.Proofs.YtjohljmpcblpjaaGreatDoor.Tr
open Go.Proofs.YtjohljmpcblpjaaGreatDoor.St
/-- the elements of runes, each behind the one ahead -/
def freshL (i ref : ID) : List Int → List Nd
  | [] => []
  | r :: rs => ⟨i, ref, r, 1⟩ :: freshL ⟨i.t + 1, i.s⟩ i rs
theorem freshL_len (i ref : ID) (rs : List Int) : (freshL i ref rs).length = rs.length := by
  induction rs generalizing i ref with
  | nil => rfl
  | cons r rs ih => show (freshL _ _ rs).length + 1 = rs.length + 1; rw [ih]
theorem freshL_chain (i ref : ID) (rs : List Int) : Chained (freshL i ref rs) := by
  induction rs generalizing i ref with
  | nil => trivial
  | cons r rs ih =>
    cases rs with
    | nil => trivial
    | cons q qs => exact ⟨rfl, ih ⟨i.t + 1, i.s⟩ i⟩
theorem freshL_id (i ref : ID) (rs : List Int) : ∀ y, y ∈ ids (freshL i ref rs) ↔ ∃ k : Nat, k < rs.length ∧ y = ⟨i.t + k, i.s⟩ := by
  induction rs generalizing i ref with
  | nil => intro y; simp [freshL]
  | cons r rs ih =>
    intro y
    show y ∈ i :: ids (freshL _ _ rs) ↔ _
    rw [List.mem_cons, ih]
    constructor
    · rintro (rfl | ⟨k, hk, rfl⟩)
      · exact ⟨0, by simp, by simp⟩
      · exact ⟨k + 1, by simp; omega, by rw [ID.ext_iff]; constructor; (show i.t + 1 + (k : Int) = i.t + ((k + 1 : Nat) : Int); omega); rfl⟩
    · rintro ⟨k, hk, rfl⟩
      cases k with
      | zero => exact .inl (by simp)
      | succ k => exact .inr ⟨k, by simp at hk; omega, by rw [ID.ext_iff]; constructor; (show i.t + ((k + 1 : Nat) : Int) = i.t + 1 + (k : Int); omega); rfl⟩
theorem freshL_nodup (i ref : ID) (rs : List Int) : (ids (freshL i ref rs)).Nodup := by
  induction rs generalizing i ref with
  | nil => exact List.Pairwise.nil
  | cons r rs ih =>
    show (i :: ids (freshL _ _ rs)).Nodup
    refine List.nodup_cons.2 ⟨fun h => ?_, ih _ _⟩
    obtain ⟨k, _, e⟩ := (freshL_id _ _ _ _).1 h
    have := congrArg ID.t e
    have h2 : i.t = i.t + 1 + (k : Int) := this
    omega
/-- is one of so many identifiers from one on there already -/
def hasAny (L : List Nd) (i : ID) (n : Nat) : Prop := ∃ k : Nat, k < n ∧ (⟨i.t + k, i.s⟩ : ID) ∈ ids L
theorem hasAny_iff (L : List Nd) (i : ID) (n : Nat) : hasAny L i n ↔ ∃ m ∈ L, m.id.s = i.s ∧ i.t ≤ m.id.t ∧ m.id.t - i.t < n := by
  constructor
  · rintro ⟨k, hk, h⟩
    obtain ⟨m, hm, e⟩ := List.mem_map.1 h
    exact ⟨m, hm, by rw [e], by rw [e]; show i.t ≤ i.t + (k : Int); omega, by rw [e]; show i.t + (k : Int) - i.t < n; omega⟩
  · rintro ⟨m, hm, h1, h2, h3⟩
    refine ⟨(m.id.t - i.t).toNat, by omega, List.mem_map.2 ⟨m, hm, ?_⟩⟩
    rw [ID.ext_iff]
    exact ⟨by show m.id.t = i.t + ((m.id.t - i.t).toNat : Int); omega, h1⟩
noncomputable instance (L : List Nd) (i : ID) (n : Nat) : Decidable (hasAny L i n) := Classical.propDecidable _
/-- what an Insert answers -/
noncomputable def insE (L : List Nd) (i ref : ID) (sz : Nat) (bad : Bool) (rs : List Int) : Int :=
  if ¬ i.Is ∨ (ref ≠ ID.zero ∧ ¬ ref.Is) then 1 else
  if sz = 0 ∨ bad = true then 2 else
  if 2147483647 < i.t + rs.length - 1 then 1 else
  if ¬ ref.lt i then 9 else
  if ref ≠ ID.zero ∧ ref ∉ ids L then 11 else
  if hasAny L i rs.length then 12 else 0
/-- what it leaves -/
noncomputable def insL (L : List Nd) (i ref : ID) (sz : Nat) (bad : Bool) (rs : List Int) : List Nd :=
  if insE L i ref sz bad rs ≠ 0 then L else L.take (placeP L i ref) ++ freshL i ref rs ++ L.drop (placeP L i ref)
theorem insE_ok {L : List Nd} {i ref : ID} {sz : Nat} {bad : Bool} {rs : List Int} (h : insE L i ref sz bad rs = 0) : i.Is ∧ (ref = ID.zero ∨ ref.Is) ∧ sz ≠ 0 ∧ bad = false ∧ i.t + rs.length - 1 ≤ 2147483647 ∧ ref.lt i ∧ (ref = ID.zero ∨ ref ∈ ids L) ∧ ¬ hasAny L i rs.length := by
  unfold insE at h
  split at h
  · simp at h
  next h1 =>
  split at h
  · simp at h
  next h2 =>
  split at h
  · simp at h
  next h3 =>
  split at h
  · simp at h
  next h4 =>
  split at h
  · simp at h
  next h5 =>
  split at h
  · simp at h
  next h6 =>
  refine ⟨Decidable.byContradiction fun hh => h1 (.inl hh), ?_, fun hh => h2 (.inl hh), ?_, by omega, Decidable.byContradiction fun hh => h4 hh, ?_, h6⟩
  · by_cases hz : ref = ID.zero
    · exact .inl hz
    · exact .inr (Decidable.byContradiction fun hh => h1 (.inr ⟨hz, hh⟩))
  · cases bad
    · rfl
    · exact absurd (.inr rfl) h2
  · by_cases hz : ref = ID.zero
    · exact .inl hz
    · exact .inr (Decidable.byContradiction fun hh => h5 ⟨hz, hh⟩)
/-- put rune by rune it is the same -/
theorem ins_puts {L : List Nd} (h : Doc L) {i ref : ID} (hi : i.Is) {r : Int} {rs : List Int} (hn : ¬ hasAny L i (rs.length + 1)) :
    puts L (freshL i ref (r :: rs)) = L.take (placeP L i ref) ++ freshL i ref (r :: rs) ++ L.drop (placeP L i ref) := by
  have hz : ∀ y ∈ freshL i ref (r :: rs), y.id ≠ ID.zero ∧ y.id ∉ ids L := fun y hy => by
    obtain ⟨k, hk, e⟩ := (freshL_id i ref (r :: rs) y.id).1 (List.mem_map.2 ⟨y, hy, rfl⟩)
    refine ⟨fun e2 => ?_, fun h2 => hn ⟨k, by simpa using hk, by rw [← e]; exact h2⟩⟩
    rw [e2] at e
    have := congrArg ID.t e
    have h3 : (0 : Int) = i.t + (k : Int) := this
    unfold ID.Is at hi
    omega
  exact puts_text h (x := ⟨i, ref, r, 1⟩) (xs := freshL ⟨i.t + 1, i.s⟩ i rs) (freshL_chain i ref (r :: rs)) hz (freshL_nodup i ref (r :: rs))
end Go.Proofs.YtjohljmpcblpjaaGreatDoor.Tr
