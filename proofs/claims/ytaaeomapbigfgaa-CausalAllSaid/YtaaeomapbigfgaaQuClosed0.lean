/- What hearsaylaw13.closed keeps from round to round. -/
import Derived.Test.YtaaeomapbigfgaaQuSet
import Derived.Test.YtaaeomapbigfgaaQuOf
import Derived.Test.YtaaeomapbigfgaaQuJoin
import Derived.Test.YtaaeomapbigfgaaStElem
import Derived.Test.YtaaeomapbigfgaaVrAdd
namespace Go.Proofs.Ytaaeomapbigfgaa
open Go.RowKit Go.Proofs.Ytaaeomapbigfgaa.St
def intE : Enc Int := ⟨1, fun x => [.int .i64 x], fun _ => rfl, by decide, fun x u hu => by rw [List.mem_singleton.1 hu]; rfl⟩
def I64 (x : Int) : Prop := -9223372036854775808 ≤ x ∧ x ≤ 9223372036854775807
theorem SlAt.int {w : World} {v : Value} {L : List Int} (h : SlAt intE w v L) (hn : 0 < L.length) : ∃ g o c, v = .slice (some ⟨g, o, none⟩) L.length c ∧ ∀ (i : Nat) (x : Int), L[i]? = some x → w.cell? ⟨g, o + i, none⟩ = some (.int .i64 x) := by
  obtain ⟨g, o, c, rfl, _, _, _, hc⟩ := h.one hn
  refine ⟨g, o, c, rfl, fun i x hx => ?_⟩
  have := hc i x hx 0 _ rfl
  simp only [intE, Nat.mul_one, Nat.add_zero] at this
  exact this
/-- the cells of a row of values -/
def arrV (X : Nat → Value) : Array Value := ((List.range 17).map X).toArray
theorem arrV_size (X : Nat → Value) : (arrV X).size = 17 := by simp [arrV]
theorem arrV_get (X : Nat → Value) {i : Nat} (h : i < 17) : (arrV X)[i]? = some (X i) := by simp [arrV, h]
def upV (X : Nat → Value) (k : Nat) (v : Value) : Nat → Value := fun i => if i = k then v else X i
theorem arrV_set (X : Nat → Value) (k : Nat) (v : Value) : (arrV X).setIfInBounds k v = arrV (upV X k v) := by
  apply Array.ext
  · simp [arrV]
  · intro i h1 h2
    simp [arrV] at h2
    by_cases h : k = i
    · subst h; simp [arrV, upV]
    · have h' : ¬ i = k := fun e => h e.symm
      simp [arrV, upV, h, h']
theorem upV_self (X : Nat → Value) (k : Nat) (v : Value) : upV X k v k = v := if_pos rfl
theorem upV_ne (X : Nat → Value) {k i : Nat} (v : Value) (h : i ≠ k) : upV X k v i = X i := if_neg h
theorem arrV_nil : arrV (fun _ => .slice none 0 0) = #[.slice none 0 0, .slice none 0 0, .slice none 0 0, .slice none 0 0, .slice none 0 0, .slice none 0 0, .slice none 0 0, .slice none 0 0, .slice none 0 0, .slice none 0 0, .slice none 0 0, .slice none 0 0, .slice none 0 0, .slice none 0 0, .slice none 0 0, .slice none 0 0, .slice none 0 0] := by rfl
/-- an operation of the closed set, in memory -/
structure CEnt (b0 : Nat) (w : World) (e : Ent) : Prop where
  deps : w.ownsRow b0 27 2 e.v.deps.v e.D.length (dotE.flat e.D)
  gone : e.v.gone = ⟨none, 0, 0⟩
  join : e.v.Join
  ok : e.v.dot.Ok
  chk : chkV 0 e.D = 0
  get : getV e.D e.v.dot.site = e.v.dot.seq - 1
  len : e.D.length ≤ 17
theorem CEnt.keep {b0 : Nat} {w w' : World} {S : Nat → Prop} {e : Ent} (h : CEnt b0 w e) (hk : Kept S w w') (hs : ∀ b cs, Blk w b 27 cs → ¬ S b) : CEnt b0 w' e :=
  { h with deps := owns_keep h.deps hk fun b hb hS => by obtain ⟨cs, hc⟩ := owns_spared h.deps b hb; exact hs b cs hc hS }
/-- where the making of a closed set stands -/
structure ClAt (b0 : Nat) (hb : Nat) (W : List Ent) (X : Nat → Value) (V : Nat → List Dot) (lv : Value) (w : World) : Prop where
  row : w.ownsRow b0 34 11 lv W.length (entE.flat W)
  arr : Blk w hb 59 (arrV X)
  lo : b0 ≤ hb
  has : ∀ t, 1 ≤ t → t ≤ 5 → w.ownsRow b0 27 2 (X t) (V t).length (dotE.flat (V t)) ∧ (V t).length ≤ 17 ∧ Knows (W.map key) t (V t)
  ents : ∀ e ∈ W, CEnt b0 w e
  cl : Cl (W.map key)
theorem ClAt.kept {b0 hb : Nat} {W : List Ent} {X : Nat → Value} {V : Nat → List Dot} {lv : Value} {w w' : World} (h : ClAt b0 hb W X V lv w) (hk : Kept (fun _ => False) w w') : ClAt b0 hb W X V lv w' :=
  ⟨owns_keep h.row hk (fun _ _ h => h), hk.blk (fun h => h) h.arr, h.lo, fun t h1 h2 => ⟨owns_keep (h.has t h1 h2).1 hk (fun _ _ h => h), (h.has t h1 h2).2⟩, fun e he => (h.ents e he).keep hk (fun _ _ _ h => h), h.cl⟩
theorem ClAt.first {b0 hb : Nat} {w : World} (h : Blk w hb 59 (arrV fun _ => .slice none 0 0)) (hl : b0 ≤ hb) : ClAt b0 hb [] (fun _ => .slice none 0 0) (fun _ => []) (.slice none 0 0) w :=
  ⟨World.ownsRow_nil _ _ _ _, h, hl, fun t _ _ => ⟨World.ownsRow_nil _ _ _ _, by simp, ⟨fun u => by simp [cnt, says], rfl⟩⟩, by simp, Cl.nil⟩
/-- the operation that is made in a round -/
def nextE (K : List Key) (t : Nat) (V : List Dot) (d : Sl) : Ent := ⟨{ dot := nextD K t, deps := d, kind := 3, id := ⟨0, 0⟩, ref := ⟨0, 0⟩, text := ⟨#[]⟩, gone := ⟨none, 0, 0⟩, site := 9 }, mergeV V [], []⟩
theorem nextE_join (K : List Key) (t : Nat) (V : List Dot) (d : Sl) : (nextE K t V d).v.Join := ⟨rfl, rfl, rfl, rfl, rfl, (by decide : (1 : Int) ≤ 9 ∧ (9 : Int) ≤ 16)⟩
theorem nextE_key (K : List Key) (t : Nat) (V : List Dot) (d : Sl) : key (nextE K t V d) = (nextD K t, mergeV V []) := rfl
theorem grow1_lo {w w' : World} {v v' : Value} {b : Nat} (h : Grow1 w w' v v') (hb : v'.ownBlock = some b) : v.ownBlock = some b ∨ w.heap.size ≤ b := by
  rcases h with ⟨h, _⟩ | ⟨h, _⟩
  · exact .inl (h ▸ hb)
  · rw [h] at hb; injection hb with hb; exact .inr (by omega)
/-- a round ends: one operation more, and its site knows it -/
theorem ClAt.more {b0 hb : Nat} {W : List Ent} {X : Nat → Value} {V : Nat → List Dot} {lv lv' nv : Value} {w w' : World} {t : Nat} {U : List Dot} {d : Sl} (h : ClAt b0 hb W X V lv w) (ht : 1 ≤ t ∧ t ≤ 5) (hl : W.length ≤ 900)
    (hU : Knows (W.map key) t U) (hd : w'.ownsRow b0 27 2 d.v (mergeV U []).length (dotE.flat (mergeV U []))) (hn : w'.ownsRow b0 27 2 nv (addV U (nextD (W.map key) t)).length (dotE.flat (addV U (nextD (W.map key) t))))
    (hrow : w'.ownsRow b0 34 11 lv' (W.length + 1) (entE.flat (W ++ [nextE (W.map key) t U d]))) (harr : Blk w' hb 59 (arrV (upV X t nv)))
    (hk : Kept (fun b => b = hb ∨ ∃ cs, Blk w b 34 cs) w w') : ClAt b0 hb (W ++ [nextE (W.map key) t U d]) (upV X t nv) (fun i => if i = t then addV U (nextD (W.map key) t) else V i) lv' w' := by
  have hK : (W.map key).length ≤ 1000 := by simp; omega
  have ht16 : 1 ≤ t ∧ t ≤ 16 := ⟨ht.1, by omega⟩
  have hsp : ∀ b cs, Blk w b 27 cs → ¬ (b = hb ∨ ∃ cs, Blk w b 34 cs) := fun b cs hb2 => by
    rintro (rfl | ⟨cs2, hc⟩)
    · exact h.arr.ne_ hb2 (of_decide_eq_true (by kernel_rfl)) rfl
    · exact hc.ne_ hb2 (of_decide_eq_true (by kernel_rfl)) rfl
  have hkey : (W ++ [nextE (W.map key) t U d]).map key = W.map key ++ [(nextD (W.map key) t, mergeV U [])] := by rw [List.map_append]; rfl
  have hok := nextD_ok (K := W.map key) ht16 hK
  refine ⟨by rw [List.length_append]; exact hrow, harr, h.lo, fun i h1 h2 => ?_, fun e he => ?_, ?_⟩
  · rw [hkey]
    by_cases hi : i = t
    · subst hi
      show _ ∧ (if i = i then addV U (nextD (W.map key) i) else V i).length ≤ 17 ∧ _
      simp only [if_pos, upV_self]
      exact ⟨hn, vecOf_len _ _, hU.next ht16 hK _⟩
    · simp only [if_neg hi, upV_ne X nv hi]
      obtain ⟨a, b, c⟩ := h.has i h1 h2
      exact ⟨owns_keep a hk (fun b hb2 hS => by obtain ⟨cs, hc⟩ := owns_spared a b hb2; exact hsp b cs hc hS), b, c.other (fun e => hi e.symm) _⟩
  · rcases List.mem_append.1 he with he | he
    · exact (h.ents e he).keep hk hsp
    · rw [List.mem_singleton.1 he]
      refine ⟨hd, rfl, nextE_join _ _ _ _, hok, chk_merge _ _, ?_, merge_len _ _⟩
      show getV (mergeV U []) (t : Int) = cnt (W.map key) t + 1 - 1
      rw [get_eq ht16.1 ht16.2, says_merge0, hU.own]
      omega
  · rw [hkey]
    exact h.cl.more hU ht16 hK
end Go.Proofs.Ytaaeomapbigfgaa
