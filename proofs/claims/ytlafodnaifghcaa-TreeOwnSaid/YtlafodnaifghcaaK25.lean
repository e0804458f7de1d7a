/- Pieces and what is laid of them, plainly. An element taken out: what the document in memory becomes. -/
import Derived.Test.YtlafodnaifghcaaK24
import Derived.Test.YtlafodnaifghcaaK6
import Derived.Test.YtlafodnaifghcaaK14
namespace Go.Proofs.Ytlafodnaifghcaa.Tr
open Go.RowKit Go.Proofs.Ytlafodnaifghcaa.St Go.Proofs.Ytlafodnaifghcaa.Gl Go.Proofs.Ytlafodnaifghcaa
/-- a piece as it lies in memory -/
structure Pc where
  site : Int
  behind : Int
  text : ByteArray
def pcE : Enc Pc := ⟨3, fun p => [.int .i64 p.site, .int .i64 p.behind, .string p.text], fun _ => rfl, by decide, fun s u hu => by
  simp at hu
  rcases hu with rfl | rfl | rfl <;> rfl⟩
structure Pc.In (p : Pc) : Prop where
  nums : I64 p.site ∧ I64 p.behind
  text : p.text.size ≤ maxLen
/-- an insert that may be -/
structure Lad where
  id : ID
  ref : ID
  text : ByteArray
def ladE : Enc Lad := ⟨5, fun x => [.int .i64 x.id.t, .int .i64 x.id.s, .int .i64 x.ref.t, .int .i64 x.ref.s, .string x.text], fun _ => rfl, by decide, fun s u hu => by
  simp at hu
  rcases hu with rfl | rfl | rfl | rfl | rfl <;> rfl⟩
/-- so many identifiers from one on -/
def runIds (t s : Int) (n : Nat) : List ID := (List.range n).map fun k => ⟨t + (k : Nat), s⟩
def Lad.ids (x : Lad) : List ID := runIds x.id.t x.id.s (countR x.text)
def aids (M : List Lad) : List ID := M.flatMap Lad.ids
/-- what laid lays -/
inductive LaidOk : List Lad → Nat → Prop
  | nil : LaidOk [] 0
  | snoc {M : List Lad} {t : Nat} (s : Int) (r : ID) (rs : List Int) : LaidOk M t → 1 ≤ s → s ≤ 16 → (r = ID.zero ∨ r ∈ aids M) → rs ≠ [] → (∀ x ∈ rs, isRuneP x) → rs.length ≤ 200 → LaidOk (M ++ [⟨⟨(t : Int) + 1, s⟩, r, runeText rs⟩]) (t + rs.length)
theorem count_runeText {rs : List Int} (h : ∀ x ∈ rs, isRuneP x) : countR (runeText rs) = rs.length := by
  rw [← runesL_len, (runeText_runes h).1]
theorem runIds_len (t s : Int) (n : Nat) : (runIds t s n).length = n := by simp [runIds]
theorem runIds_snoc (t s : Int) (n : Nat) : runIds t s (n + 1) = runIds t s n ++ [⟨t + (n : Nat), s⟩] := by simp [runIds, List.range_succ]
theorem mem_runIds {t s : Int} {n : Nat} {y : ID} : y ∈ runIds t s n ↔ ∃ k : Nat, k < n ∧ y = ⟨t + (k : Nat), s⟩ := by
  simp [runIds, eq_comm]
theorem aids_snoc (M : List Lad) (x : Lad) : aids (M ++ [x]) = aids M ++ x.ids := by simp [aids]
theorem LaidOk.len {M : List Lad} {t : Nat} (h : LaidOk M t) : (aids M).length = t ∧ t ≤ 200 * M.length := by
  induction h with
  | nil => simp [aids]
  | snoc s r rs _ _ _ _ hne hr hl ih =>
    rw [aids_snoc, List.length_append, List.length_append]
    unfold Lad.ids
    rw [runIds_len, count_runeText hr]
    simp
    omega
/-- the identifiers that are there -/
theorem LaidOk.aid {M : List Lad} {t : Nat} (h : LaidOk M t) : ∀ y ∈ aids M, 1 ≤ y.t ∧ y.t ≤ t ∧ 1 ≤ y.s ∧ y.s ≤ 16 := by
  induction h with
  | nil => intro y hy; simp [aids] at hy
  | @snoc M t s r rs _ h1 h2 _ hne hr hl ih =>
    intro y hy
    rw [aids_snoc] at hy
    rcases List.mem_append.1 hy with hy | hy
    · have := ih y hy; omega
    · unfold Lad.ids at hy
      obtain ⟨k, hk, rfl⟩ := mem_runIds.1 hy
      rw [count_runeText hr] at hk
      dsimp only
      omega
section
open Go.ChangeShapes Go.WideShapes Go.Deep
variable {H : Type} {enc : TypeId × Value → H} {w : World} {base b0 : Nat} {spare : Nat → Bool} {held : Bool}
theorem fields_piece : ∃ f0 f1 f2 : Field, Try.prog.underlying 112 = some (.struct #[f0, f1, f2]) ∧ (f0.offset = 0 ∧ f1.offset = 1 ∧ f2.offset = 2) ∧ f0.type = 3 ∧ f1.type = 3 ∧ f2.type = 9 :=
  ⟨_, _, _, Try.underlying112, ⟨rfl, rfl, rfl⟩, rfl, rfl, rfl⟩
theorem cells_piece : Try.prog.cellsOf 112 = 3 := by kernel_rfl
set_option maxRecDepth 100000 in
theorem elem_piece (n : Nat) (cs : List Value) (d : DataW H × List MemPlace) (h : DataW.trod enc Try.prog w base spare held n 112 cs = some d) : ∃ s : Pc, cs = pcE.enc s ∧ s.In := by
  obtain ⟨f0, f1, f2, hs, ⟨o0, o1, o2⟩, e0, e1, e2⟩ := fields_piece
  obtain ⟨ys, n', _, _, hlen, hyl, hg⟩ := DataW.trod_struct hs h
  rw [cells_piece] at hlen
  match cs, hlen with
  | [c0, c1, c2], _ =>
    match ys, hyl with
    | [y0, y1, y2], _ =>
      have g0 := hg 0 f0 rfl
      have g1 := hg 1 f1 rfl
      have g2 := hg 2 f2 rfl
      rw [o0, e0, cells_int] at g0
      rw [o1, e1, cells_int] at g1
      rw [o2, e2, cells_string] at g2
      obtain ⟨n0, z0, _, w0⟩ := DataW.trod_int Try.underlying3 g0
      obtain ⟨n1, z1, _, w1⟩ := DataW.trod_int Try.underlying3 g1
      obtain ⟨s2, z2, _, w2⟩ := DataW.trod_string Try.underlying9 g2
      simp at z0 z1 z2
      subst z0 z1 z2
      exact ⟨⟨n0, n1, s2⟩, rfl, ⟨bounds_i64 w0, bounds_i64 w1⟩, w2⟩
set_option maxRecDepth 100000 in
theorem open_pieces {r : Reach} {v : Value} {d : DataW H} {ps : List MemPlace} (hv : Value.okWide Try.prog w r b0 45 v)
    (h : DataW.Trod enc Try.prog w base spare held 45 v d ps) : ∃ L, SlAt pcE w v L ∧ ∀ s ∈ L, s.In :=
  open_rows pcE Try.underlying45 cells_piece elem_piece hv h
end
theorem info_laid : (Try.prog.info? 52).map (fun i => (i.zero, i.size, i.bytes)) = some (some (.agg #[.int .i64 0, .int .i64 0, .int .i64 0, .int .i64 0, .string ⟨#[]⟩]), 5, 48) := by kernel_rfl
theorem rows_ne {w : World} {b1 b2 n1 n2 k1 k2 : Nat} {t1 t2 : TypeId} {v1 v2 : Value} {xs ys : List Value} (h1 : w.ownsRow b1 t1 k1 v1 n1 xs) (h2 : w.ownsRow b2 t2 k2 v2 n2 ys) (hne : t1 ≠ t2) : ∀ g, v1.ownBlock = some g → ¬ v2.ownBlock = some g := by
  intro g hg hg2
  rcases h1.2 with ⟨rfl, _⟩ | ⟨g1, cap, cur, rfl, _, e1, _⟩
  · cases hg
  · cases hg
    rcases h2.2 with ⟨rfl, _⟩ | ⟨g2, cap2, cur2, rfl, _, e2, _⟩
    · cases hg2
    · cases hg2
      exact Blk.ne_ (t := t1) (cs := cur) e1 (t' := t2) (cs' := cur2) e2 hne rfl
end Go.Proofs.Ytlafodnaifghcaa.Tr
namespace Go.Proofs.Ytlafodnaifghcaa.Tr
open Go.RowKit Go.Proofs.Ytlafodnaifghcaa.St
def updS (S : ID → Rw) (r : ID) (s : Rw) (y : ID) : Rw := if y = r then s else S y
theorem delK_len {κ : Type} [DecidableEq κ] {k : κ} : ∀ {l : List (κ × Value)}, k ∈ l.map (·.1) → (delK l k).length + 1 = l.length
  | [], h => by simp at h
  | y :: r, h => by
    show (if y.1 = k then r else y :: delK r k).length + 1 = r.length + 1
    by_cases e : y.1 = k
    · rw [if_pos e]
    · rw [if_neg e, List.length_cons, delK_len (l := r) (by
        rcases List.mem_cons.1 h with h1 | h1
        · exact absurd h1.symm e
        · exact h1)]
variable {w : World} {g : Nat} {A : ID → Nat} {S : ID → Rw}
theorem TAt.del_mem {w3 w5 : World} {mb : Nat} {P K : List Nd} {x : Nd} {s' : Rw} {kvs : List (ID × Value)} (h : TAt w g (P ++ x :: K) A S (some mb)) (hdoc : Doc (P ++ x :: K))
    (hkv : MapK keyI w mb kvs) (hok : KeysOk kvs) (hkl : kvs.length = (P ++ x :: K).length) (hkg : ∀ y, getK kvs y = if y ∈ ids (P ++ x :: K) then some (.pointer (some ⟨A y, 0, none⟩)) else none)
    (hk3 : Kept (fun b => (S x.ref).blk = some b) w w3) (hr : RowAt w3 s' ((kids (P ++ K) x.ref).map fun n => A n.id)) (hs' : s'.blk = (S x.ref).blk)
    (hk5 : Kept (· = mb) (w3.setCell (place g A x.ref) s'.v) w5) (hm5 : MapK keyI w5 mb (delK kvs x.id)) :
    TAt w5 g (P ++ K) A (updS S x.ref s') (some mb) := by
  have hxL : x ∈ P ++ x :: K := by simp
  have hxi : x.id ∈ ids (P ++ x :: K) := List.mem_map.2 ⟨x, hxL, rfl⟩
  have hnd := hdoc.nodup
  have hxz : x.id ≠ ID.zero := fun e => by
    obtain ⟨F, hF, hw, _⟩ := hdoc
    have := WFs.gt F hw x (by rw [hF]; exact hxL)
    rw [e] at this
    exact ID.lt_irrefl _ this
  have hids : ∀ y, y ∈ ids (P ++ K) ↔ y ∈ ids (P ++ x :: K) ∧ y ≠ x.id := fun y => by
    have hnd2 : (ids P ++ x.id :: ids K).Nodup := by have := hnd; simpa [ids] using this
    have h1 := List.nodup_append.1 hnd2
    have h2 : x.id ∉ ids K := (List.nodup_cons.1 h1.2.1).1
    have h3 : x.id ∉ ids P := fun hm => h1.2.2 x.id hm x.id List.mem_cons_self rfl
    have e1 : ids (P ++ K) = ids P ++ ids K := by simp [ids]
    have e2 : ids (P ++ x :: K) = ids P ++ x.id :: ids K := by simp [ids]
    rw [e1, e2, List.mem_append, List.mem_append, List.mem_cons]
    constructor
    · rintro (h | h)
      · exact ⟨.inl h, fun e => h3 (e ▸ h)⟩
      · exact ⟨.inr (.inr h), fun e => h2 (e ▸ h)⟩
    · rintro ⟨h | h | h, hne⟩
      · exact .inl h
      · exact absurd h hne
      · exact .inr h
  have hmem : ∀ n ∈ P ++ K, n ∈ P ++ x :: K := fun n hn => by
    rcases List.mem_append.1 hn with h | h
    · exact List.mem_append.2 (.inl h)
    · exact List.mem_append.2 (.inr (List.mem_cons_of_mem _ h))
  have hRef : ∀ r, Ref (P ++ K) r → Ref (P ++ x :: K) r := fun r hr => hr.imp_right fun h => ((hids r).1 h).1
  have href : Ref (P ++ x :: K) x.ref := hdoc.refs x hxL
  have hSr : updS S x.ref s' x.ref = s' := if_pos rfl
  have hSo : ∀ y, y ≠ x.ref → updS S x.ref s' y = S y := fun y h1 => if_neg h1
  have hrowne : ∀ r, Ref (P ++ x :: K) r → ∀ b, (S r).blk = some b → b ≠ g ∧ (∀ y ∈ ids (P ++ x :: K), b ≠ A y) ∧ b ≠ mb := fun r hr b hb => by
    refine ⟨(h.row r hr).ne h.top (by decide) b hb, fun y hy => ?_, ?_⟩
    · obtain ⟨n, hn, rfl⟩ := List.mem_map.1 hy
      exact (h.row r hr).ne (h.elt n hn) (by decide) b hb
    · rcases h.row r hr with ⟨e1, _⟩ | ⟨b', cap, e1, cs, h2, _⟩
      · rw [e1] at hb; cases hb
      · rw [e1] at hb; cases hb
        exact hkv.ne_blk h2
  have hplace : (place g A x.ref).block = (if x.ref = ID.zero then g else A x.ref) := by unfold place; split <;> rfl
  have keep5 : ∀ b, b < w.heap.size → (S x.ref).blk ≠ some b → b ≠ (place g A x.ref).block → b ≠ mb → w5.heap[b]? = w.heap[b]? := fun b hb h1 h2 h3 => by
    have hb3 : b < w3.heap.size := Nat.lt_of_lt_of_le hb hk3.size
    rw [hk5.block b (by simpa using hb3) h3, Below.heap_setCell _ _ _ _ h2, hk3.block b hb h1]
  have blk5 : ∀ b t cs, Blk w b t cs → (S x.ref).blk ≠ some b → b ≠ (place g A x.ref).block → b ≠ mb → Blk w5 b t cs := fun b t cs hb h1 h2 h3 => (keep5 b hb.lt h1 h2 h3).trans hb
  have put5 : ∀ b t cs o, Blk w b t cs → (S x.ref).blk ≠ some b → place g A x.ref = ⟨b, o, none⟩ → b ≠ mb → Blk w5 b t (cs.setIfInBounds o s'.v) := fun b t cs o hb h1 h2 h3 => by
    have h4 : Blk w3 b t cs := hk3.blk h1 hb
    have h5 := h4.set_ o s'.v
    rw [h2] at hk5
    exact hk5.blk h3 h5
  have hmbg : mb ≠ g := fun e => hkv.ne_blk h.top e.symm
  have hmbe : ∀ n ∈ P ++ x :: K, mb ≠ A n.id := fun n hn e => hkv.ne_blk (h.elt n hn) e.symm
  have hgA : ∀ n ∈ P ++ x :: K, g ≠ A n.id := fun n hn e => Blk.ne_ h.top (h.elt n hn) (by decide) e
  have hrg := hrowne x.ref href
  refine { top := ?_, elt := ?_, row := ?_, by_ := ?_, one := ?_, far := ?_ }
  · by_cases hz : x.ref = ID.zero
    · have h1 := put5 g _ _ 0 h.top (fun e => (hrg g e).1 rfl) (by unfold place; rw [if_pos hz]) (fun e => hmbg e.symm)
      have e1 : updS S x.ref s' ID.zero = s' := by rw [← hz]; exact hSr
      rw [e1]
      exact h1
    · have e1 : updS S x.ref s' ID.zero = S ID.zero := hSo _ (fun e => hz e.symm)
      rw [e1]
      have hrL : x.ref ∈ ids (P ++ x :: K) := href.resolve_left hz
      obtain ⟨n, hn, hne⟩ := List.mem_map.1 hrL
      exact blk5 g _ _ h.top (fun e => (hrg g e).1 rfl) (by rw [hplace, if_neg hz, ← hne]; exact hgA n hn) (fun e => hmbg e.symm)
  · intro n hn0
    have hn := hmem n hn0
    have hni : n.id ∈ ids (P ++ x :: K) := List.mem_map.2 ⟨n, hn, rfl⟩
    by_cases hz : n.id = x.ref
    · have e1 : updS S x.ref s' n.id = s' := by rw [hz]; exact hSr
      rw [e1]
      have hnz : x.ref ≠ ID.zero := fun e0 => by
        obtain ⟨F, hF, hw, _⟩ := hdoc
        have := WFs.gt F hw n (by rw [hF]; exact hn)
        rw [hz, e0] at this
        exact ID.lt_irrefl _ this
      have h1 := put5 (A n.id) _ _ 6 (h.elt n hn) (fun e => (hrg _ e).2.1 n.id hni rfl) (by unfold place; rw [if_neg hnz, hz]) (fun e => hmbe n hn e.symm)
      have e2 : ((ndC n ++ [(S n.id).v]).toArray.setIfInBounds 6 s'.v) = (ndC n ++ [s'.v]).toArray := by simp [ndC]
      rw [e2] at h1
      exact h1
    · have e1 : updS S x.ref s' n.id = S n.id := hSo _ hz
      rw [e1]
      refine blk5 (A n.id) _ _ (h.elt n hn) (fun e => (hrg _ e).2.1 n.id hni rfl) ?_ (fun e => hmbe n hn e.symm)
      rw [hplace]
      split
      · exact fun e => hgA n hn e.symm
      next hz2 => exact fun e => hz (h.one _ hni _ (href.resolve_left hz2) e)
  · intro r hr'
    have hrL := hRef r hr'
    by_cases hz : r = x.ref
    · subst hz
      rw [hSr]
      rcases hr with ⟨h1, h2⟩ | ⟨b, cap, h1, h2⟩
      · exact .inl ⟨h1, h2⟩
      · refine .inr ⟨b, cap, h1, h2.keep (S := fun k => k = (place g A x.ref).block ∨ k = mb) ?_ ?_⟩
        · exact (((Kept.refl (fun k => k = (place g A x.ref).block) w3).setCell (fun _ => rfl) _).mono (fun _ _ h => .inl h)).trans (hk5.mono fun _ _ h => .inr h) (fun _ _ h => h)
        · have hbb : s'.blk = some b := by rw [h1]; rfl
          rw [hs'] at hbb
          obtain ⟨q1, q2, q3⟩ := hrg b hbb
          rintro (e1 | e1)
          · rw [hplace] at e1
            split at e1
            · exact q1 e1
            next hz => exact q2 _ (href.resolve_left hz) e1
          · exact q3 e1
    · rw [hSo r hz, kids_rem (x := x) r, if_neg (fun e => hz e.symm)]
      rcases h.row r hrL with h1 | ⟨b, cap, h1, cs, h2, h3⟩
      · exact .inl h1
      · obtain ⟨q1, q2, q3⟩ := hrowne r hrL b (by rw [h1]; rfl)
        refine .inr ⟨b, cap, h1, cs, blk5 b _ _ h2 (fun e => hz (h.far r x.ref hrL href b (by rw [h1]; rfl) e)) ?_ q3, h3⟩
        rw [hplace]
        split
        · exact q1
        next hz2 => exact q2 _ (href.resolve_left hz2)
  · refine .inr ⟨mb, _, rfl, hm5, hok.del _, ?_, fun y => ?_⟩
    · have hf : x.id ∈ kvs.map (·.1) := Classical.byContradiction fun hn => by
        have h1 := hkg x.id
        rw [if_pos hxi, getK_none.2 hn] at h1
        cases h1
      have h2 := delK_len hf
      have h3 : (P ++ x :: K).length = (P ++ K).length + 1 := by simp; omega
      omega
    · rw [getK_del hok]
      by_cases hy : x.id = y
      · subst hy
        rw [if_pos rfl, if_neg (fun hh => ((hids _).1 hh).2 rfl)]
      · rw [if_neg hy, hkg y]
        by_cases hyL : y ∈ ids (P ++ x :: K)
        · rw [if_pos hyL, if_pos ((hids y).2 ⟨hyL, fun e => hy e.symm⟩)]
        · rw [if_neg hyL, if_neg (fun hh => hyL ((hids y).1 hh).1)]
  · intro y hy z hz hyz
    exact h.one y ((hids y).1 hy).1 z ((hids z).1 hz).1 hyz
  · intro y z hy hz b hb1 hb2
    have hSb : ∀ y, (updS S x.ref s' y).blk = some b → (S y).blk = some b := fun y hb => by
      by_cases h1 : y = x.ref
      · subst h1; rw [hSr, hs'] at hb; exact hb
      · rw [hSo y h1] at hb; exact hb
    exact h.far y z (hRef y hy) (hRef z hz) b (hSb y hb1) (hSb z hb2)
end Go.Proofs.Ytlafodnaifghcaa.Tr
