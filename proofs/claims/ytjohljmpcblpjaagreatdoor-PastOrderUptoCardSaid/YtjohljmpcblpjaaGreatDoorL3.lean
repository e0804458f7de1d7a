/- Vectors: plain laws, no program in sight. The row of a closed set of operations, plainly: an operation is whatever has a dot and a vector. The row of a closed set: what has gone, and that it ends; plainly. A closed set: what its vectors name is there; plainly. A closed set in another order; plainly. Exchanged elements: the same ones in another order; plainly. -/
import Derived.Test.YtjohljmpcblpjaaGreatDoorL1
namespace Go.Proofs.YtjohljmpcblpjaaGreatDoor.St
@[ext] structure Dot where
  site : Int
  seq : Int
deriving DecidableEq, Inhabited
def isSite (n : Int) : Prop := 1 ≤ n ∧ n ≤ 16
instance (n : Int) : Decidable (isSite n) := by unfold isSite; infer_instance
def Dot.Ok (d : Dot) : Prop := 1 ≤ d.site ∧ d.site ≤ 16 ∧ 1 ≤ d.seq ∧ d.seq ≤ 2147483647
instance (d : Dot) : Decidable d.Ok := by unfold Dot.Ok; infer_instance
/-- one Dot more -/
def sayS (f : Nat → Int) (d : Dot) : Nat → Int := fun i => if d.Ok ∧ d.site = i then (if f i < d.seq then d.seq else f i) else f i
/-- what a list of Dots says: of each site the greatest number -/
def says (L : List Dot) : Nat → Int := L.foldl sayS fun _ => 0
theorem says_snoc (L : List Dot) (d : Dot) : says (L ++ [d]) = sayS (says L) d := by unfold says; rw [List.foldl_append]; rfl
theorem says_take {L : List Dot} {n : Nat} {d : Dot} (h : L[n]? = some d) : says (L.take (n + 1)) = sayS (says (L.take n)) d := by
  rw [← says_snoc]
  congr 1
  obtain ⟨h1, rfl⟩ := List.getElem?_eq_some_iff.1 h
  exact List.take_succ_eq_append_getElem h1
theorem foldl_bd : ∀ (L : List Dot) (f : Nat → Int) (i : Nat), 0 ≤ f i ∧ f i ≤ 2147483647 → 0 ≤ L.foldl sayS f i ∧ L.foldl sayS f i ≤ 2147483647
  | [], _, _, h => h
  | d :: r, f, i, h => by
    refine foldl_bd r (sayS f d) i ?_
    unfold sayS
    split
    · rename_i h1
      have := h1.1
      unfold Dot.Ok at this
      split <;> omega
    · exact h
theorem says_bd (L : List Dot) (i : Nat) : 0 ≤ says L i ∧ says L i ≤ 2147483647 := foldl_bd L _ i (by decide)
theorem foldl_out : ∀ (L : List Dot) (f : Nat → Int) (i : Nat), ¬ (1 ≤ i ∧ i ≤ 16) → L.foldl sayS f i = f i
  | [], _, _, _ => rfl
  | d :: r, f, i, h => by
    rw [List.foldl_cons, foldl_out r _ i h]
    unfold sayS
    rw [if_neg]
    intro ⟨h1, h2⟩
    unfold Dot.Ok at h1
    omega
theorem says_out (L : List Dot) (i : Nat) (h : ¬ (1 ≤ i ∧ i ≤ 16)) : says L i = 0 := foldl_out L _ i h
/-- the vector of a row -/
def vecOf (f : Nat → Int) (n : Nat) : List Dot := (List.range n).filterMap fun i => if 0 < f i then some ⟨i, f i⟩ else none
theorem vecOf_succ (f : Nat → Int) (n : Nat) : vecOf f (n + 1) = if 0 < f n then vecOf f n ++ [⟨n, f n⟩] else vecOf f n := by
  unfold vecOf
  rw [List.range_succ, List.filterMap_append]
  by_cases h : 0 < f n <;> simp [h]
theorem vecOf_len (f : Nat → Int) (n : Nat) : (vecOf f n).length ≤ n := by
  unfold vecOf
  have := List.length_filterMap_le (fun i : Nat => if 0 < f i then some (⟨i, f i⟩ : Dot) else none) (List.range n)
  simpa using this
def getV (L : List Dot) (s : Int) : Int := if isSite s then says L s.toNat else 0
def hasV (L : List Dot) (d : Dot) : Prop := 1 ≤ d.seq ∧ d.seq ≤ getV L d.site
instance (L : List Dot) (d : Dot) : Decidable (hasV L d) := by unfold hasV; infer_instance
def coversV (A B : List Dot) : Prop := ∀ i, i < 17 → says B i ≤ says A i
instance (A B : List Dot) : Decidable (coversV A B) := by unfold coversV; infer_instance
def sumTo (f : Nat → Int) : Nat → Int
  | 0 => 0
  | n + 1 => sumTo f n + f n
def sumV (L : List Dot) : Int := sumTo (says L) 17
/-- why a vector is none: 1 ErrArg, 6 ErrForm, 9 ErrOrder, 0 -/
def chkV : Int → List Dot → Int
  | _, [] => 0
  | last, d :: r => if ¬ isSite d.site then 1 else if d.seq < 1 ∨ 2147483647 < d.seq then 6 else if d.site ≤ last then 9 else chkV d.site r
def addV (L : List Dot) (d : Dot) : List Dot := vecOf (fun i => if (i : Int) = d.site then d.seq else says L i) 17
def whyAdd (L : List Dot) (d : Dot) : Int := if ¬ isSite d.site ∨ d.seq < 1 then 1 else if 2147483647 < d.seq then 17 else if d.seq ≠ getV L d.site + 1 then 9 else 0
def maxV (A B : List Dot) : Nat → Int := fun i => if says A i < says B i then says B i else says A i
end Go.Proofs.YtjohljmpcblpjaaGreatDoor.St
namespace Go.Proofs.YtjohljmpcblpjaaGreatDoor.St
/-- all that a vector names is there -/
def wholeP (K : List Dot) (D : List Dot) : Prop := ∀ d ∈ D, ∀ k : Int, 1 ≤ k → k ≤ d.seq → (⟨d.site, k⟩ : Dot) ∈ K
section
variable {α : Type} (f : α → Dot) (D : α → List Dot)
structure ClosedP (l : List α) : Prop where
  ok : ∀ e ∈ l, (f e).Ok ∧ says (D e) (f e).site.toNat = (f e).seq - 1
  nd : (l.map f).Nodup
/-- the next one of a site -/
def candP (l : List α) (V : List Dot) (s : Nat) : Option α := l.find? fun e => decide (f e = ⟨s, says V s + 1⟩ ∧ coversV V (D e))
/-- the next one of those sites -/
def firstP (l : List α) (V : List Dot) : List Nat → Option α
  | [] => none
  | s :: r => (candP f D l V s).or (firstP l V r)
def sites16 : List Nat := (List.range 16).map (· + 1)
def nextP (l : List α) (V : List Dot) : Option α := firstP f D l V sites16
def rowP (l : List α) : Nat → List Dot → List α
  | 0, _ => []
  | n + 1, V => match nextP f D l V with
    | none => []
    | some e => e :: rowP l n (addV V (f e))
/-- has it gone -/
def wentP (V : List Dot) (d : Dot) : Prop := d.seq ≤ says V d.site.toNat
instance (V : List Dot) (d : Dot) : Decidable (wentP V d) := by unfold wentP; infer_instance
variable {f D}
theorem candP_some {l : List α} {V : List Dot} {s : Nat} {e : α} (h : candP f D l V s = some e) : e ∈ l ∧ f e = ⟨s, says V s + 1⟩ ∧ coversV V (D e) := by
  unfold candP at h
  have h1 := List.find?_some h
  have h2 := List.mem_of_find?_eq_some h
  exact ⟨h2, by simpa using h1⟩
theorem candP_none {l : List α} {V : List Dot} {s : Nat} (h : candP f D l V s = none) : ∀ e ∈ l, ¬ (f e = ⟨s, says V s + 1⟩ ∧ coversV V (D e)) := by
  unfold candP at h
  intro e he hc
  have := List.find?_eq_none.1 h e he
  simp at this
  exact this hc.1 hc.2
theorem firstP_some {l : List α} {V : List Dot} : ∀ {ss : List Nat} {e : α}, firstP f D l V ss = some e → ∃ s ∈ ss, candP f D l V s = some e
  | [], _, h => by simp [firstP] at h
  | s :: r, e, h => by
    unfold firstP at h
    cases hc : candP f D l V s with
    | none =>
      rw [hc, Option.none_or] at h
      obtain ⟨t, ht, h9⟩ := firstP_some h
      exact ⟨t, List.mem_cons_of_mem _ ht, h9⟩
    | some x =>
      rw [hc, Option.some_or] at h
      exact ⟨s, List.mem_cons_self .., by rw [hc, ← h]⟩
theorem firstP_none {l : List α} {V : List Dot} : ∀ {ss : List Nat}, firstP f D l V ss = none → ∀ s ∈ ss, candP f D l V s = none
  | [], _, s, hs => by simp at hs
  | t :: r, h, s, hs => by
    unfold firstP at h
    cases hc : candP f D l V t with
    | none =>
      rw [hc, Option.none_or] at h
      rcases List.mem_cons.1 hs with rfl | hs
      · exact hc
      · exact firstP_none h s hs
    | some x => rw [hc, Option.some_or] at h; cases h
theorem mem_sites16 {s : Nat} : s ∈ sites16 ↔ 1 ≤ s ∧ s ≤ 16 := by
  unfold sites16
  rw [List.mem_map]
  constructor
  · rintro ⟨a, ha, rfl⟩
    have := List.mem_range.1 ha
    omega
  · intro h
    exact ⟨s - 1, List.mem_range.2 (by omega), by omega⟩
/-- what has not gone and is covered is the next one of its site -/
theorem ClosedP.next {l : List α} (h : ClosedP f D l) {V : List Dot} {e : α} (he : e ∈ l) (hn : ¬ wentP V (f e)) (hc : coversV V (D e)) : f e = ⟨(f e).site.toNat, says V (f e).site.toNat + 1⟩ := by
  obtain ⟨hok, hown⟩ := h.ok e he
  have h1 := hc (f e).site.toNat (by unfold Dot.Ok at hok; omega)
  unfold wentP at hn
  have h2 : (f e).seq = says V (f e).site.toNat + 1 := by omega
  have h3 : (f e).site = ((f e).site.toNat : Nat) := by unfold Dot.Ok at hok; omega
  exact Dot.ext h3 h2
theorem nextP_some {l : List α} {V : List Dot} {e : α} (h : nextP f D l V = some e) : e ∈ l ∧ ¬ wentP V (f e) ∧ coversV V (D e) ∧ (f e).seq = says V (f e).site.toNat + 1 := by
  obtain ⟨s, _, hc⟩ := firstP_some h
  obtain ⟨h1, h2, h3⟩ := candP_some hc
  have e1 : (f e).site = s := by rw [h2]
  have e2 : (f e).seq = says V s + 1 := by rw [h2]
  have e3 : (f e).site.toNat = s := by omega
  refine ⟨h1, ?_, h3, by rw [e3]; exact e2⟩
  unfold wentP
  rw [e3]
  omega
theorem nextP_none {l : List α} (hl : ClosedP f D l) {V : List Dot} (h : nextP f D l V = none) : ∀ e ∈ l, ¬ (¬ wentP V (f e) ∧ coversV V (D e)) := by
  rintro e he ⟨h1, h2⟩
  have h3 := hl.next he h1 h2
  have hok := (hl.ok e he).1
  unfold Dot.Ok at hok
  exact candP_none (firstP_none h (f e).site.toNat (mem_sites16.2 (by omega))) e he ⟨h3, h2⟩
/-- the least site's comes first -/
theorem firstP_least {l : List α} {V : List Dot} : ∀ {ss : List Nat} {e : α}, ss.Pairwise (· < ·) → firstP f D l V ss = some e → ∀ s ∈ ss, (s : Int) < (f e).site → candP f D l V s = none
  | [], _, _, h, _, _, _ => by simp [firstP] at h
  | t :: r, e, hp, h, s, hs, hlt => by
    unfold firstP at h
    cases hc : candP f D l V t with
    | none =>
      rw [hc, Option.none_or] at h
      rcases List.mem_cons.1 hs with rfl | hs
      · exact hc
      · exact firstP_least (List.pairwise_cons.1 hp).2 h s hs hlt
    | some x =>
      rw [hc, Option.some_or] at h
      cases h
      have h2 := (candP_some hc).2.1
      rw [h2] at hlt
      dsimp only at hlt
      rcases List.mem_cons.1 hs with rfl | hs
      · omega
      · have := (List.pairwise_cons.1 hp).1 s hs
        omega
theorem sites16_up : sites16.Pairwise (· < ·) := by decide
/-- of all that could go now it is the least -/
theorem nextP_least {l : List α} (hl : ClosedP f D l) {V : List Dot} {e : α} (h : nextP f D l V = some e) {x : α} (hx : x ∈ l) (hn : ¬ wentP V (f x)) (hc : coversV V (D x)) (hne : f x ≠ f e) : (f e).site < (f x).site := by
  have h3 := hl.next hx hn hc
  have hok := (hl.ok x hx).1
  unfold Dot.Ok at hok
  obtain ⟨_, _, _, h5⟩ := nextP_some h
  rcases Int.lt_trichotomy (f e).site (f x).site with h9 | h9 | h9
  · exact h9
  · refine absurd (Dot.ext h9.symm ?_) hne
    rw [h5, h9]
    exact congrArg Dot.seq h3
  · have := firstP_least sites16_up h (f x).site.toNat (mem_sites16.2 (by omega)) (by omega)
    exact absurd ⟨h3, hc⟩ (candP_none this x hx)
end
end Go.Proofs.YtjohljmpcblpjaaGreatDoor.St
namespace Go.Proofs.YtjohljmpcblpjaaGreatDoor.St
theorem pSays_vecOf {g : Nat → Int} (hb : ∀ i, 0 ≤ g i ∧ g i ≤ 2147483647) (ho : ∀ i, ¬ (1 ≤ i ∧ i ≤ 16) → g i = 0) (i : Nat) : ∀ n, n ≤ 17 → says (vecOf g n) i = if i < n then g i else 0
  | 0, _ => by simp [vecOf, says]
  | n + 1, hn => by
    have ih := pSays_vecOf hb ho i n (by omega)
    rw [vecOf_succ]
    by_cases hp : 0 < g n
    · rw [if_pos hp, says_snoc]
      have hr : 1 ≤ n ∧ n ≤ 16 := by
        by_cases h : 1 ≤ n ∧ n ≤ 16
        · exact h
        · have := ho n h; omega
      have hok : (⟨(n : Int), g n⟩ : Dot).Ok := by
        have := hb n
        unfold Dot.Ok
        simp only
        omega
      unfold sayS
      by_cases hi : n = i
      · subst hi
        rw [if_pos ⟨hok, rfl⟩, ih, if_neg (Nat.lt_irrefl _), if_pos (show (0 : Int) < (⟨(n : Int), g n⟩ : Dot).seq from hp), if_pos (Nat.lt_succ_self _)]
      · rw [if_neg (fun h => hi (by have := h.2; simp only at this; omega)), ih]
        by_cases h1 : i < n
        · rw [if_pos h1, if_pos (by omega)]
        · rw [if_neg h1, if_neg (by omega)]
    · rw [if_neg hp, ih]
      by_cases hi : i < n
      · rw [if_pos hi, if_pos (by omega)]
      · rw [if_neg hi]
        by_cases h2 : i = n
        · subst h2
          have := (hb i).1
          rw [if_pos (by omega)]
          omega
        · rw [if_neg (by omega)]
theorem pSays_add {V : List Dot} {d : Dot} (hd : d.Ok) (i : Nat) : says (addV V d) i = if (i : Int) = d.site then d.seq else says V i := by
  unfold Dot.Ok at hd
  unfold addV
  rw [pSays_vecOf (g := fun i : Nat => if (i : Int) = d.site then d.seq else says V i) (fun i => ?_) (fun i hi => ?_) i 17 (Nat.le_refl _)]
  · by_cases h : i < 17
    · rw [if_pos h]
    · rw [if_neg h, if_neg (by omega), says_out V i (by omega)]
  · have := says_bd V i
    split <;> omega
  · rw [if_neg (by omega)]
    exact says_out V i hi
/-- a number that is the next one: taking it in is merging it -/
theorem addV_max {V : List Dot} {d : Dot} (hd : d.Ok) (hs : d.seq = says V d.site.toNat + 1) : vecOf (maxV V [d]) 17 = addV V d := by
  unfold addV
  congr 1
  funext i
  unfold maxV
  have h1 : says [d] i = if d.site = (i : Int) then d.seq else 0 := by
    show sayS (fun _ => 0) d i = _
    unfold sayS
    by_cases h : d.site = (i : Int)
    · rw [if_pos ⟨hd, h⟩, if_pos h, if_pos (show (0 : Int) < d.seq by unfold Dot.Ok at hd; omega)]
    · rw [if_neg (fun e => h e.2), if_neg h]
  rw [h1]
  have hb := says_bd V i
  unfold Dot.Ok at hd
  by_cases h : d.site = (i : Int)
  · have : d.site.toNat = i := by omega
    rw [if_pos h, if_pos h.symm, if_pos (by rw [this] at hs; omega)]
  · rw [if_neg h, if_neg (show ¬ says V i < 0 by omega), if_neg (show ¬ (i : Int) = d.site from fun e => h e.symm)]
section
variable {α : Type} {f : α → Dot} {D : α → List Dot}
/-- those that went, in their row, and what the vector says then -/
structure GoneP (f : α → Dot) (D : α → List Dot) (l R : List α) (V : List Dot) : Prop where
  went : ∀ e ∈ l, wentP V (f e) ↔ f e ∈ R.map f
  sub : ∀ e ∈ R, e ∈ l
  nd : (R.map f).Nodup
theorem GoneP.nil {l : List α} (h : ClosedP f D l) : GoneP f D l [] [] := by
  refine ⟨fun e he => ?_, fun e he => by simp at he, List.nodup_nil⟩
  have hok := (h.ok e he).1
  unfold Dot.Ok at hok
  have h0 : says [] (f e).site.toNat = 0 := rfl
  unfold wentP
  rw [h0]
  simp
  omega
theorem went_add {V : List Dot} {d x : Dot} (hd : d.Ok) (hs : d.seq = says V d.site.toNat + 1) (hx : x.Ok) : wentP (addV V d) x ↔ wentP V x ∨ x = d := by
  unfold wentP
  rw [pSays_add hd]
  unfold Dot.Ok at hd hx
  by_cases h : x.site = d.site
  · have hn : x.site.toNat = d.site.toNat := by rw [h]
    rw [if_pos (show (x.site.toNat : Int) = d.site by omega), hn]
    constructor
    · intro h1
      by_cases h2 : x.seq = d.seq
      · exact .inr (Dot.ext h h2)
      · exact .inl (by omega)
    · rintro (h1 | rfl)
      · omega
      · exact Int.le_refl _
  · rw [if_neg (by omega)]
    constructor
    · exact .inl
    · rintro (h1 | rfl)
      · exact h1
      · exact absurd rfl h
theorem GoneP.step {l R : List α} {V : List Dot} (hl : ClosedP f D l) (h : GoneP f D l R V) {e : α} (he : nextP f D l V = some e) : GoneP f D l (R ++ [e]) (addV V (f e)) ∧ R.length < l.length := by
  obtain ⟨h1, h2, _, h4⟩ := nextP_some he
  have hne : f e ∉ R.map f := fun h9 => h2 ((h.went e h1).2 h9)
  refine ⟨⟨fun x hx => ?_, fun x hx => ?_, ?_⟩, ?_⟩
  · rw [went_add (hl.ok e h1).1 h4 (hl.ok x hx).1, h.went x hx, List.map_append, List.mem_append]
    simp
  · rcases List.mem_append.1 hx with hx | hx
    · exact h.sub x hx
    · rw [List.mem_singleton.1 hx]; exact h1
  · rw [List.map_append, List.map_singleton]
    exact List.nodup_append.2 ⟨h.nd, by simp, fun a ha b hb e2 => by rw [List.mem_singleton.1 hb] at e2; exact hne (e2 ▸ ha)⟩
  · have hs : ((R ++ [e]).map f).Nodup := by
      rw [List.map_append, List.map_singleton]
      exact List.nodup_append.2 ⟨h.nd, by simp, fun a ha b hb e2 => by rw [List.mem_singleton.1 hb] at e2; exact hne (e2 ▸ ha)⟩
    have key : ∀ {A B : List Dot}, A.Nodup → (∀ x ∈ A, x ∈ B) → A.length ≤ B.length := by
      intro A
      induction A with
      | nil => intro B _ _; exact Nat.zero_le _
      | cons x S ih =>
        intro B hn hsb
        obtain ⟨k1, k2⟩ := List.nodup_cons.1 hn
        have hm := hsb x (List.mem_cons_self ..)
        have h3 := ih (B := B.erase x) k2 (fun y hy => (List.mem_erase_of_ne (fun e => k1 (by rw [← e]; exact hy))).2 (hsb y (List.mem_cons_of_mem _ hy)))
        rw [List.length_erase_of_mem hm] at h3
        have := List.length_pos_of_mem hm
        simp only [List.length_cons]
        omega
    have h5 := key (B := l.map f) hs fun x hx => by
      obtain ⟨y, hy, rfl⟩ := List.mem_map.1 hx
      rcases List.mem_append.1 hy with hy | hy
      · exact List.mem_map_of_mem (h.sub y hy)
      · rw [List.mem_singleton.1 hy]; exact List.mem_map_of_mem h1
    simp only [List.length_map, List.length_append, List.length_singleton] at h5
    omega
/-- the whole row -/
def rowA (f : α → Dot) (D : α → List Dot) (l : List α) : List α := rowP f D l l.length []
/-- what is still to come -/
theorem row_next {l : List α} {n : Nat} {V : List Dot} : rowP f D l (n + 1) V = (match nextP f D l V with | none => [] | some e => e :: rowP f D l n (addV V (f e))) := rfl
theorem row_some {l : List α} {n : Nat} {V : List Dot} {e : α} (h : nextP f D l V = some e) : rowP f D l (n + 1) V = e :: rowP f D l n (addV V (f e)) := by rw [row_next, h]
theorem row_none {l : List α} {n : Nat} {V : List Dot} (h : nextP f D l V = none) : rowP f D l n V = [] := by
  cases n with
  | zero => rfl
  | succ n => rw [row_next, h]
/-- when all have gone there is no next one -/
theorem GoneP.full {l R : List α} {V : List Dot} (hl : ClosedP f D l) (h : GoneP f D l R V) (hn : l.length ≤ R.length) : nextP f D l V = none := by
  cases he : nextP f D l V with
  | none => rfl
  | some e => have := (h.step hl he).2; omega
theorem row_len (l : List α) : ∀ (n : Nat) (V : List Dot), (rowP f D l n V).length ≤ n
  | 0, _ => Nat.le_refl _
  | n + 1, V => by
    rw [row_next]
    split
    · exact Nat.zero_le _
    · have := row_len l n
      simp only [List.length_cons]
      exact Nat.succ_le_succ (this _)
theorem row_sub (l : List α) : ∀ (n : Nat) (V : List Dot), ∀ e ∈ rowP f D l n V, e ∈ l
  | 0, _, e, he => by simp [rowP] at he
  | n + 1, V, e, he => by
    rw [row_next] at he
    split at he
    · simp at he
    · next x hx =>
      rcases List.mem_cons.1 he with rfl | he
      · exact (nextP_some hx).1
      · exact row_sub l n _ e he
end
end Go.Proofs.YtjohljmpcblpjaaGreatDoor.St
namespace Go.Proofs.YtjohljmpcblpjaaGreatDoor.St
theorem nodup_le {A B : List Dot} : A.Nodup → (∀ x ∈ A, x ∈ B) → A.length ≤ B.length := by
  induction A generalizing B with
  | nil => intro _ _; exact Nat.zero_le _
  | cons x S ih =>
    intro hn hsb
    obtain ⟨k1, k2⟩ := List.nodup_cons.1 hn
    have hm := hsb x (List.mem_cons_self ..)
    have h3 := ih (B := B.erase x) k2 (fun y hy => (List.mem_erase_of_ne (fun e => k1 (by rw [← e]; exact hy))).2 (hsb y (List.mem_cons_of_mem _ hy)))
    rw [List.length_erase_of_mem hm] at h3
    have := List.length_pos_of_mem hm
    simp only [List.length_cons]
    omega
/-- no more of a site can be than there are -/
theorem whole_le {K : List Dot} {s : Int} {n : Nat} (h : ∀ k : Int, 1 ≤ k → k ≤ n → (⟨s, k⟩ : Dot) ∈ K) : n ≤ K.length := by
  have h1 : ((List.range n).map fun i : Nat => (⟨s, (i : Int) + 1⟩ : Dot)).Nodup := by
    refine List.Pairwise.map _ (fun a b hab e => ?_) List.nodup_range
    injection e with _ e2
    exact hab (by omega)
  have h2 := nodup_le (B := K) h1 fun x hx => by
    obtain ⟨i, hi, rfl⟩ := List.mem_map.1 hx
    have := List.mem_range.1 hi
    exact h _ (by omega) (by omega)
  simpa using h2
theorem wholeP.le {K D : List Dot} (h : wholeP K D) {d : Dot} (hd : d ∈ D) : d.seq ≤ K.length := by
  by_cases hs : d.seq ≤ 0
  · omega
  · have h1 := whole_le (K := K) (s := d.site) (n := d.seq.toNat) fun k h1 h2 => h d hd k h1 (by omega)
    omega
/-- a number that a valid vector says stands in it -/
theorem chkV_ok : ∀ {A : List Dot} {last : Int}, chkV last A = 0 → 0 ≤ last → ∀ d ∈ A, d.Ok ∧ last < d.site
  | [], _, _, _, d, hd => by simp at hd
  | x :: r, last, h, hl, d, hd => by
    unfold chkV at h
    split at h
    · cases h
    next h1 =>
    split at h
    · cases h
    next h2 =>
    split at h
    · cases h
    next h3 =>
    have hx : isSite x.site := Decidable.not_not.1 h1
    unfold isSite at hx
    have hok : x.Ok := by unfold Dot.Ok; omega
    rcases List.mem_cons.1 hd with rfl | hd
    · exact ⟨hok, by omega⟩
    · have := chkV_ok h (by omega) d hd
      exact ⟨this.1, by omega⟩
theorem says_in : ∀ (A : List Dot) (g : Nat → Int) (u : Nat), A.foldl sayS g u = g u ∨ ∃ d ∈ A, d.site = (u : Int) ∧ d.seq = A.foldl sayS g u
  | [], _, _ => .inl rfl
  | x :: r, g, u => by
    rcases says_in r (sayS g x) u with h | ⟨d, hd, h1, h2⟩
    · rw [List.foldl_cons, h]
      unfold sayS
      by_cases hx : x.Ok ∧ x.site = (u : Int)
      · rw [if_pos hx]
        by_cases hlt : g u < x.seq
        · rw [if_pos hlt]
          exact .inr ⟨x, List.mem_cons_self .., hx.2, rfl⟩
        · rw [if_neg hlt]
          exact .inl rfl
      · rw [if_neg hx]
        exact .inl rfl
    · exact .inr ⟨d, List.mem_cons_of_mem _ hd, h1, by rw [List.foldl_cons]; exact h2⟩
theorem says_ge : ∀ (A : List Dot) (g : Nat → Int) (u : Nat), g u ≤ A.foldl sayS g u ∧ ∀ d ∈ A, d.Ok → d.site = (u : Int) → d.seq ≤ A.foldl sayS g u
  | [], _, _ => ⟨Int.le_refl _, fun d hd => by simp at hd⟩
  | x :: r, g, u => by
    obtain ⟨h1, h2⟩ := says_ge r (sayS g x) u
    have h3 : g u ≤ sayS g x u := by
      unfold sayS
      split
      · split <;> omega
      · exact Int.le_refl _
    refine ⟨by rw [List.foldl_cons]; omega, fun d hd hok hs => ?_⟩
    rw [List.foldl_cons]
    rcases List.mem_cons.1 hd with rfl | hd
    · have h4 : d.seq ≤ sayS g d u := by
        unfold sayS
        rw [if_pos ⟨hok, hs⟩]
        split <;> omega
      omega
    · exact h2 d hd hok hs
theorem says_mem {A : List Dot} {u : Nat} (h : 1 ≤ says A u) : ∃ d ∈ A, d.site = (u : Int) ∧ d.seq = says A u := by
  rcases says_in A (fun _ => 0) u with h1 | h1
  · have : says A u = 0 := h1
    omega
  · exact h1
section
variable {α : Type} {f : α → Dot} {D : α → List Dot} {l : List α}
/-- below what is there all is there -/
theorem ClosedP.below (h : ClosedP f D l) (hw : ∀ e ∈ l, wholeP (l.map f) (D e)) {e : α} (he : e ∈ l) {k : Int} (h1 : 1 ≤ k) (h2 : k ≤ (f e).seq) : (⟨(f e).site, k⟩ : Dot) ∈ l.map f := by
  by_cases hk : k = (f e).seq
  · rw [hk]
    exact List.mem_map_of_mem he
  · obtain ⟨hok, hown⟩ := h.ok e he
    obtain ⟨d, hd, e1, e2⟩ := says_mem (A := D e) (u := (f e).site.toNat) (by omega)
    have hs : d.site = (f e).site := by unfold Dot.Ok at hok; omega
    have := hw e he d hd k h1 (by omega)
    rw [hs] at this
    exact this
/-- what they have of each site -/
def allV (f : α → Dot) (l : List α) : List Dot := l.foldl (fun V e => vecOf (maxV V [f e]) 17) []
theorem says_max {V : List Dot} {d : Dot} (hd : d.Ok) (u : Nat) : says (vecOf (maxV V [d]) 17) u = if d.site = (u : Int) ∧ says V u < d.seq then d.seq else says V u := by
  have h1 : ∀ i : Nat, says [d] i = if d.site = (i : Int) then d.seq else 0 := fun i => by
    show sayS (fun _ => 0) d i = _
    unfold sayS
    by_cases h : d.site = (i : Int)
    · rw [if_pos ⟨hd, h⟩, if_pos h, if_pos (show (0 : Int) < d.seq by unfold Dot.Ok at hd; omega)]
    · rw [if_neg (fun e => h e.2), if_neg h]
  have hb := says_bd V
  have hm : ∀ i : Nat, maxV V [d] i = if d.site = (i : Int) ∧ says V i < d.seq then d.seq else says V i := fun i => by
    unfold maxV
    rw [h1]
    have := hb i
    unfold Dot.Ok at hd
    by_cases h : d.site = (i : Int)
    · rw [if_pos h]
      by_cases h2 : says V i < d.seq
      · rw [if_pos h2, if_pos ⟨h, h2⟩]
      · rw [if_neg h2, if_neg (fun e => h2 e.2)]
    · rw [if_neg h, if_neg (show ¬ says V i < 0 by omega), if_neg (fun e => h e.1)]
  rw [pSays_vecOf (g := maxV V [d]) (fun i => ?_) (fun i hi => ?_) u 17 (Nat.le_refl _), hm]
  · by_cases h : u < 17
    · rw [if_pos h]
    · rw [if_neg h, if_neg (fun e => by unfold Dot.Ok at hd; omega), says_out V u (by omega)]
  · rw [hm]
    have := hb i
    unfold Dot.Ok at hd
    split <;> omega
  · rw [hm, if_neg (fun e => by unfold Dot.Ok at hd; omega)]
    exact says_out V i hi
theorem all_ge : ∀ (l : List α) (V : List Dot) (u : Nat), (∀ e ∈ l, (f e).Ok) → says V u ≤ says (l.foldl (fun V e => vecOf (maxV V [f e]) 17) V) u ∧ (∀ e ∈ l, (f e).site = (u : Int) → (f e).seq ≤ says (l.foldl (fun V e => vecOf (maxV V [f e]) 17) V) u) ∧ (says (l.foldl (fun V e => vecOf (maxV V [f e]) 17) V) u = says V u ∨ ∃ e ∈ l, (f e).site = (u : Int) ∧ (f e).seq = says (l.foldl (fun V e => vecOf (maxV V [f e]) 17) V) u)
  | [], _, _, _ => ⟨Int.le_refl _, fun e he => by simp at he, .inl rfl⟩
  | x :: r, V, u, h => by
    obtain ⟨h1, h2, h3⟩ := all_ge r (vecOf (maxV V [f x]) 17) u fun e he => h e (List.mem_cons_of_mem _ he)
    have hx := says_max (V := V) (h x (List.mem_cons_self ..)) u
    rw [List.foldl_cons]
    refine ⟨?_, fun e he hs => ?_, ?_⟩
    · rw [hx] at h1
      split at h1 <;> omega
    · rcases List.mem_cons.1 he with rfl | he
      · rw [hx] at h1
        split at h1
        · exact h1
        · next hn => have : ¬ says V u < (f e).seq := fun h9 => hn ⟨hs, h9⟩
                     omega
      · exact h2 e he hs
    · rcases h3 with h3 | ⟨e, he, e1, e2⟩
      · rw [h3, hx]
        by_cases hc : (f x).site = (u : Int) ∧ says V u < (f x).seq
        · rw [if_pos hc]
          exact .inr ⟨x, List.mem_cons_self .., hc.1, rfl⟩
        · rw [if_neg hc]
          exact .inl rfl
      · exact .inr ⟨e, List.mem_cons_of_mem _ he, e1, e2⟩
/-- of a closed set: a valid vector names what is there just if it says no more than all of them -/
theorem ClosedP.covers (h : ClosedP f D l) (hw : ∀ e ∈ l, wholeP (l.map f) (D e)) {B : List Dot} (hB : chkV 0 B = 0) : wholeP (l.map f) B ↔ coversV (allV f l) B := by
  have hok : ∀ e ∈ l, (f e).Ok := fun e he => (h.ok e he).1
  have hBok := chkV_ok hB (Int.le_refl 0)
  constructor
  · intro hh u hu
    by_cases h1 : 1 ≤ says B u
    · obtain ⟨d, hd, e1, e2⟩ := says_mem h1
      obtain ⟨e, he, e3⟩ := List.mem_map.1 (hh d hd d.seq (by omega) (Int.le_refl _))
      have := (all_ge (f := f) l [] u hok).2.1 e he (by rw [e3]; exact e1)
      rw [e3] at this
      have h9 : d.seq ≤ says (allV f l) u := this
      omega
    · have := says_bd (allV f l) u
      omega
  · intro hh d hd k h1 h2
    have hd9 := (hBok d hd).1
    have hu : (d.site.toNat : Int) = d.site := by unfold Dot.Ok at hd9; omega
    have h3 := hh d.site.toNat (by unfold Dot.Ok at hd9; omega)
    have h4 : d.seq ≤ says B d.site.toNat := (says_ge B (fun _ => 0) d.site.toNat).2 d hd hd9 hu.symm
    rcases (all_ge (f := f) l [] d.site.toNat hok).2.2 with h5 | ⟨e, he, e1, e2⟩
    · have h6 : says (allV f l) d.site.toNat = 0 := h5
      omega
    · have h6 : (f e).seq = says (allV f l) d.site.toNat := e2
      have := h.below hw he h1 (by omega)
      rw [e1, hu] at this
      exact this
end
end Go.Proofs.YtjohljmpcblpjaaGreatDoor.St
namespace Go.Proofs.YtjohljmpcblpjaaGreatDoor.St
theorem find_perm {α : Type} {p : α → Bool} {l m : List α} (hp : l.Perm m) (hu : ∀ a ∈ l, ∀ b ∈ l, p a = true → p b = true → a = b) : l.find? p = m.find? p := by
  cases h : l.find? p with
  | none =>
    refine (List.find?_eq_none.2 fun x hx => ?_).symm
    exact List.find?_eq_none.1 h x (hp.mem_iff.2 hx)
  | some e =>
    have h1 := List.find?_some h
    have h2 := List.mem_of_find?_eq_some h
    cases h' : m.find? p with
    | none => exact absurd h1 (List.find?_eq_none.1 h' e (hp.mem_iff.1 h2))
    | some e' =>
      have h3 := List.find?_some h'
      have h4 := hp.mem_iff.2 (List.mem_of_find?_eq_some h')
      rw [hu e h2 e' h4 h1 h3]
theorem inj_nodup {α β : Type} {f : α → β} : ∀ {l : List α}, (l.map f).Nodup → ∀ a ∈ l, ∀ b ∈ l, f a = f b → a = b
  | [], _, a, ha, _, _, _ => by simp at ha
  | x :: r, h, a, ha, b, hb, e => by
    rw [List.map_cons] at h
    obtain ⟨h1, h2⟩ := List.nodup_cons.1 h
    rcases List.mem_cons.1 ha with e1 | ha'
    · rcases List.mem_cons.1 hb with e2 | hb'
      · rw [e1, e2]
      · exact absurd (show f x ∈ r.map f by rw [← e1, e]; exact List.mem_map_of_mem hb') h1
    · rcases List.mem_cons.1 hb with e2 | hb'
      · exact absurd (show f x ∈ r.map f by rw [← e2, ← e]; exact List.mem_map_of_mem ha') h1
      · exact inj_nodup h2 a ha' b hb' e
section
variable {α : Type} {f : α → Dot} {D : α → List Dot} {l m : List α}
theorem candP_perm (hp : l.Perm m) (hn : (l.map f).Nodup) (V : List Dot) (s : Nat) : candP f D l V s = candP f D m V s := by
  unfold candP
  refine find_perm hp fun a ha b hb h1 h2 => ?_
  rw [decide_eq_true_eq] at h1 h2
  exact inj_nodup hn a ha b hb (h1.1.trans h2.1.symm)
theorem firstP_perm (hp : l.Perm m) (hn : (l.map f).Nodup) (V : List Dot) : ∀ ss : List Nat, firstP f D l V ss = firstP f D m V ss
  | [] => rfl
  | s :: r => by
    unfold firstP
    rw [candP_perm hp hn, firstP_perm hp hn V r]
theorem rowP_perm (hp : l.Perm m) (hn : (l.map f).Nodup) : ∀ (n : Nat) (V : List Dot), rowP f D l n V = rowP f D m n V
  | 0, _ => rfl
  | n + 1, V => by
    rw [row_next, row_next]
    have h : nextP f D l V = nextP f D m V := firstP_perm hp hn V sites16
    rw [h]
    split
    · rfl
    · rw [rowP_perm hp hn n]
theorem rowA_perm (hp : l.Perm m) (hn : (l.map f).Nodup) : rowA f D l = rowA f D m := by
  unfold rowA
  rw [hp.length_eq]
  exact rowP_perm hp hn _ _
theorem whole_perm (hp : l.Perm m) (B : List Dot) : wholeP (l.map f) B ↔ wholeP (m.map f) B := by
  unfold wholeP
  constructor
  · intro h d hd k h1 h2
    exact (hp.map f).mem_iff.1 (h d hd k h1 h2)
  · intro h d hd k h1 h2
    exact (hp.map f).mem_iff.2 (h d hd k h1 h2)
open Classical in
/-- why operations are no closed set: 10 ErrOp, 12 ErrExists, 20 ErrClosed -/
noncomputable def closedC (bad : α → Prop) (f : α → Dot) (D : α → List Dot) (l : List α) : Int :=
  if ∃ e ∈ l, bad e then 10 else if ¬ (l.map f).Nodup then 12 else if ∃ e ∈ l, ¬ wholeP (l.map f) (D e) then 20 else 0
theorem closed_perm {bad : α → Prop} (hp : l.Perm m) : closedC bad f D l = closedC bad f D m := by
  have h1 : (∃ e ∈ l, bad e) ↔ ∃ e ∈ m, bad e := ⟨fun ⟨e, he, hb⟩ => ⟨e, hp.mem_iff.1 he, hb⟩, fun ⟨e, he, hb⟩ => ⟨e, hp.mem_iff.2 he, hb⟩⟩
  have h2 : (l.map f).Nodup ↔ (m.map f).Nodup := (hp.map f).nodup_iff
  have h3 : (∃ e ∈ l, ¬ wholeP (l.map f) (D e)) ↔ ∃ e ∈ m, ¬ wholeP (m.map f) (D e) := ⟨fun ⟨e, he, hb⟩ => ⟨e, hp.mem_iff.1 he, fun h => hb ((whole_perm hp _).2 h)⟩, fun ⟨e, he, hb⟩ => ⟨e, hp.mem_iff.2 he, fun h => hb ((whole_perm hp _).1 h)⟩⟩
  unfold closedC
  by_cases k1 : ∃ e ∈ l, bad e
  · rw [if_pos k1, if_pos (h1.1 k1)]
  · rw [if_neg k1, if_neg (fun h => k1 (h1.2 h))]
    by_cases k2 : (l.map f).Nodup
    · rw [if_neg (show ¬ ¬ (l.map f).Nodup from fun h => h k2), if_neg (show ¬ ¬ (m.map f).Nodup from fun h => h (h2.1 k2))]
      by_cases k3 : ∃ e ∈ l, ¬ wholeP (l.map f) (D e)
      · rw [if_pos k3, if_pos (h3.1 k3)]
      · rw [if_neg k3, if_neg (fun h => k3 (h3.2 h))]
    · rw [if_pos k2, if_pos (fun h => k2 (h2.2 h))]
theorem closedC_ok {bad : α → Prop} (h : closedC bad f D l = 0) : (∀ e ∈ l, ¬ bad e) ∧ (l.map f).Nodup ∧ ∀ e ∈ l, wholeP (l.map f) (D e) := by
  unfold closedC at h
  split at h
  · cases h
  next h1 =>
  split at h
  · cases h
  next h2 =>
  split at h
  · cases h
  next h3 =>
  exact ⟨fun e he hb => h1 ⟨e, he, hb⟩, Classical.not_not.1 h2, fun e he => Classical.byContradiction fun hn => h3 ⟨e, he, hn⟩⟩
theorem closedC_is {bad : α → Prop} (h1 : ∀ e ∈ l, ¬ bad e) (h2 : (l.map f).Nodup) (h3 : ∀ e ∈ l, wholeP (l.map f) (D e)) : closedC bad f D l = 0 := by
  unfold closedC
  rw [if_neg (fun ⟨e, he, hb⟩ => h1 e he hb), if_neg (fun h => h h2), if_neg (fun ⟨e, he, hb⟩ => hb (h3 e he))]
end
end Go.Proofs.YtjohljmpcblpjaaGreatDoor.St
namespace Go.Proofs.YtjohljmpcblpjaaGreatDoor.St
theorem swap_perm {α : Type} {m : List α} {k : Nat} (h0 : 0 < m.length) (hk : k < m.length) : ((m.set 0 m[k]).set k m[0]).Perm m := by
  have h := Array.swap_perm (xs := m.toArray) (i := 0) (j := k) (by simpa using h0) (by simpa using hk)
  simpa [Array.swap, Array.perm_iff_toList_perm] using h
end Go.Proofs.YtjohljmpcblpjaaGreatDoor.St
