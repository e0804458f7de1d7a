/- slices.Insert of one pointer, walked. An element put: what the document in memory becomes. An element taken out: what the document in memory becomes. Collect, plainly: where an element stands, and what one round leaves. Collect: what a round is given, what it leaves. -/
import Derived.Test.YtlafodnaifghcaaGreatH15
import Derived.Laws.Externs
import Derived.Deep.DeepCutAuto
import Derived.IntWalk
import Derived.Test.YtlafodnaifghcaaGreatH9
import Derived.Test.YtlafodnaifghcaaGreatH3
import Derived.Test.YtlafodnaifghcaaGreatH8
namespace Go.Proofs.YtlafodnaifghcaaGreat.Tr
open Go.RowKit Go.Proofs.YtlafodnaifghcaaGreat.St
theorem wpList_copy_at {P : Program} {w : World} {ops : Array Oper} {rest : List Oper} {o : Oper} {a : Act} {Q : Exit → Act → World → Prop} (hgd : o.guard = none) (d s : Operand) (dT sT : TypeId)
    (ho : o.op = .call { callee := .builtin .copy, args := #[d, s], argTypes := #[dT, sT] }) {vd vs n : Value} (hd : a.eval d = vd) (hs : a.eval s = vs) {w' : World} (hrun : (Builtin.copy_ #[dT, sT] o.type #[vd, vs]).run P w = .ok n w') (h : wpList P ops Q rest (a.put o.dst n) w') : wpList P ops Q (o :: rest) a w := by
  refine wpList_plain hgd fun K hK => ?_
  unfold Oper.wp
  simp [execOp, ho, resolve, invoke, builtin, hd, hs, hrun, Result.andThen]
  exact hK _ _ h
/-- what slices.Insert leaves -/
def InsPost (w : World) (s : Rw) (D : List Nat) (e : Ending) (w' : World) : Prop := ∃ s' : Rw, e = .returned s'.v ∧ RowAt w' s' D ∧ (s'.blk = s.blk ∨ ∃ b, s'.blk = some b ∧ w.heap.size ≤ b) ∧ Kept (fun b => s.blk = some b) w w'
theorem row_owns {w : World} {s : Rw} {D : List Nat} (h : RowAt w s D) : w.ownsRow 0 89 1 s.v D.length (ptrE.flat D) := by
  rcases h with ⟨rfl, rfl⟩ | ⟨b, cap, rfl, h⟩
  · exact World.ownsRow_nil ..
  · exact h.owns (Nat.zero_le _)
theorem owns_row {w : World} {v : Value} {D : List Nat} {n : Nat} (h : w.ownsRow 0 89 1 v n (ptrE.flat D)) : ∃ s : Rw, v = s.v ∧ RowAt w s D ∧ s.blk = v.ownBlock := by
  obtain ⟨hn, h1⟩ := own_of (E := ptrE) h
  rcases h1 with ⟨rfl, rfl⟩ | ⟨g, cap, rfl, _, h2⟩
  · exact ⟨⟨none, 0, 0⟩, rfl, .inl ⟨rfl, rfl⟩, rfl⟩
  · exact ⟨⟨some ⟨g, 0, none⟩, n, cap⟩, rfl, .inr ⟨g, cap, by rw [hn], h2⟩, rfl⟩
set_option maxRecDepth 100000 in
set_option maxHeartbeats 4000000 in
theorem ins_end {w : World} {s : Rw} {D : List Nat} (h : RowAt w s D) (hD : D.length ≤ 900000) {lb x : Nat} (hl : Blk w lb 89 #[.pointer (some ⟨x, 0, none⟩)]) :
    Calls Tryz.prog 82 #[s.v, .int .i64 D.length, .slice (some ⟨lb, 0, none⟩) 1 1] w (InsPost w s (D ++ [x])) := by
  have hlit : SlAt ptrE w (.slice (some ⟨lb, 0, none⟩) 1 1) [x] := .inr ⟨⟨lb, 0, none⟩, 1, rfl, Nat.le_refl _, by unfold maxLen; omega, fun _ => rfl, fun i y hy j u hu => by
    cases i with
    | zero =>
      cases j with
      | zero =>
        simp at hy; subst hy
        have h9 : u = .pointer (some ⟨x, 0, none⟩) := by simpa [ptrE] using hu.symm
        rw [h9]; exact hl.cell' rfl
      | succ j => simp [ptrE] at hu
    | succ i => simp at hy⟩
  have hown := row_owns h
  have HLIT := Lib.hid hlit
  have HD : Hid (D.length ≤ 1000000) := Lib.hid (by omega)
  obtain ⟨sa, sn, sc⟩ := s
  obtain ⟨hsn, hsc⟩ : D.length = sn ∧ sn ≤ sc := by
    rcases h with ⟨h1, rfl⟩ | ⟨b, cap, h1, h2⟩
    · cases h1; exact ⟨rfl, Nat.le_refl _⟩
    · cases h1; exact ⟨rfl, h2.le.1⟩
  have HN := Lib.hid hsn
  have HOWN := Lib.hid hown
  rw [hsn] at hD ⊢
  clear h hlit hown hl hsn
  unfold Rw.v at *
  simp only at *
  have fin : ∀ v' w', w'.ownsRow 0 89 1 v' (D.length + 1) (ptrE.flat (D ++ [x])) → Grow1 w w' (.slice sa sn sc) v' → InsPost w ⟨sa, sn, sc⟩ (D ++ [x]) (.returned v') w' := fun v' w' ho hg => by
    obtain ⟨s', rfl, h2, h3⟩ := owns_row ho
    have hsb : Value.ownBlock (.slice sa sn sc) = (⟨sa, sn, sc⟩ : Rw).blk := by cases sa <;> rfl
    refine ⟨s', rfl, h2, ?_, ?_⟩
    · rcases hg with ⟨h4, _⟩ | ⟨h4, _⟩
      · left; rw [h3, h4, hsb]
      · right; exact ⟨w.heap.size, by rw [h3, h4], Nat.le_refl _⟩
    · rcases hg with ⟨_, h5⟩ | ⟨_, h5⟩
      · rw [hsb] at h5; exact h5
      · exact h5.mono fun _ _ h => h.elim
  have FIN := Lib.hid fin
  clear fin
  by_cases hc : sc = sn
  case' pos => subst hc
  all_goals
    go_enter Tryz.func82, Tryz.ntmps82
    go_wp2_with (at_builtin; (refine wpList_append_keeps ptrE rfl (.tmp 23) (.tmp 24) 27 rfl 0 89 (.pointer none) 8 Tryz.underlying27 info_ptr rfl (by decide) rfl rfl HOWN.out HLIT.out HD.out (Nat.zero_le _) ?_); (intro v4 w4 ho4 hg4); have FF := FIN.out v4 w4 ho4 hg4; clear ho4 hg4)
    all_goals
      go_ret
      exact FF
set_option maxRecDepth 100000 in
set_option maxHeartbeats 4000000 in
theorem ins_room {w : World} {g c n i lb x : Nat} {D : List Nat} (h : OwnAt ptrE w 89 g c D) (hn : D.length = n) (hD : n ≤ 900000) (hi : i < n) (hc : n + 1 ≤ c) (hl : Blk w lb 89 #[.pointer (some ⟨x, 0, none⟩)]) (hne : lb ≠ g) :
    Calls Tryz.prog 82 #[.slice (some ⟨g, 0, none⟩) n c, .int .i64 i, .slice (some ⟨lb, 0, none⟩) 1 1] w (InsPost w ⟨some ⟨g, 0, none⟩, n, c⟩ (D.take i ++ x :: D.drop i)) := by
  have hw1 : w.drew.heap = w.heap := rfl
  obtain ⟨w1, cur, hr1, hb1, hs1, hm1, ha1, hd1, hk1⟩ := ins_up (w := w.drew) (h.keep ((Kept.refl (fun _ => False) w).drew) (fun h => h)) hn hi hc (c - (i + 1)) (c - i) 3
  have hlb1 : Blk w1 lb 89 #[.pointer (some ⟨x, 0, none⟩)] := hk1.blk hne hl
  obtain ⟨w2, hr2, ho2, hk2⟩ := ins_at hb1 hs1 hm1 hn hi hc ha1 hd1 (hlb1.cell' rfl) (c - i) 1 3
  obtain ⟨hcur0, _⟩ : (∃ cu, w.heap[g]? = some (.cells cu 89 (0, 0)) ∧ cu.size = c) ∧ True := by
    obtain ⟨cu, h5, h6, _⟩ := own_cur h
    exact ⟨⟨cu, h5, h6⟩, trivial⟩
  obtain ⟨cu, hcu, hcus⟩ := hcur0
  have hsa : w.shape? lb = some (89, 1) := by have h9 : w.heap[lb]? = some (.cells #[.pointer (some ⟨x, 0, none⟩)] 89 (0, 0)) := hl; simp [World.shape?, h9]
  have hsb : w.shape? g = some (89, c) := by simp [World.shape?, hcu, hcus]
  have hov : (callFunc 105 #[.slice (some ⟨lb, 0, none⟩) 1 1, .slice (some ⟨g, i + 1, none⟩) (n + 1 - (i + 1)) (c - (i + 1))]).run Tryz.prog w = .ok (.value (.bool false)) w := by
    rw [run_callFunc_extern Tryz.func105 (by kernel_rfl) (by kernel_rfl) (by kernel_rfl) (e := Extern.SlicesOverlaps.overlaps #[27, 27] #[4]) (by kernel_rfl), Lib.run_overlaps_apart w _ _ 89 Tryz.underlying27 1 (fun w => by kernel_rfl) _ _ _ _ _ _ hne _ _ _ _ hsa hsb (by omega) (hl.frozen 0) (hl.frozen 1)]
    rfl
  have hcm : c ≤ 9223372036854775807 := by unfold maxLen at hm1; omega
  rw [show n + 1 - (i + 1) = n - i by omega] at hr1 hov
  have K1 : Hid (Kept (fun b => some g = some b) w w2) := Lib.hid ((((Kept.refl (fun b => some g = some b) w).drew).trans (hk1.mono fun _ _ e => by rw [e]) fun _ _ h => h).trans (hk2.mono fun _ _ e => by rw [e]) fun _ _ h => h)
  have O2 := Lib.hid ho2
  have CP1 := Lib.hid hr1
  have CP2 := Lib.hid hr2
  have LN : Hid ((D.take i ++ x :: D.drop i).length = n + 1) := Lib.hid (by simp; omega)
  have g1 : (i : Int) ≤ n := by omega
  have g2 : ¬ (i : Int) = n := by omega
  have g3 : ¬ c = i := by omega
  have g4 : ¬ c = i + 1 := by omega
  have g5 : i ≤ c := by omega
  have g6 : i + 1 ≤ c := by omega
  have g7 : i + 1 ≤ n + 1 := by omega
  have g8 : i ≤ n + 1 := by omega
  have g9 : ¬ (c : Int) < (n : Int) + 1 := by omega
  have g10 : ((i : Int) + 1).toNat = i + 1 := by omega
  have g11 : ((n : Int) + 1).toNat = n + 1 := by omega
  have g12 : ((i : Int) == (n : Int)) = false := by simp; omega
  have g13 : IntKind.i64.wrap ((i : Int) + 1) = (i : Int) + 1 := IntWalk.i64_in _ (by omega)
  have g14 : (0 : Int) ≤ (i : Int) + 1 := by omega
  have g15 : (i : Int) + 1 ≤ (n : Int) + 1 := by omega
  have g16 : (0 : Int) ≤ (i : Int) := by omega
  have g17 : (i : Int) ≤ (n : Int) + 1 := by omega
  clear h hn hw1 hb1 hs1 hm1 ha1 hd1 hk1 hlb1 hr1 hr2 ho2 hk2 hcu hcus hsa hsb hl hne
  go_enter Tryz.func82, Tryz.ntmps82
  go_wp2_with fail
  have cp1 := CP1.out
  have cp2 := CP2.out
  go_region
  go_wp2
  go_ret
  exact ⟨⟨some ⟨g, 0, none⟩, n + 1, c⟩, rfl, .inr ⟨g, c, by rw [LN.out], O2.out⟩, .inl rfl, K1.out⟩
set_option maxRecDepth 100000 in
set_option maxHeartbeats 4000000 in
theorem ins_grow {w : World} {g c n i lb x : Nat} {D : List Nat} (h : OwnAt ptrE w 89 g c D) (hn : D.length = n) (hD : n ≤ 900000) (hi : i < n) (hc : c < n + 1) (hl : Blk w lb 89 #[.pointer (some ⟨x, 0, none⟩)]) :
    Calls Tryz.prog 82 #[.slice (some ⟨g, 0, none⟩) n c, .int .i64 i, .slice (some ⟨lb, 0, none⟩) 1 1] w (InsPost w ⟨some ⟨g, 0, none⟩, n, c⟩ (D.take i ++ x :: D.drop i)) := by
  obtain ⟨w1, cap, cur, hr1, hb1, hs1, hcap, hm1, ha1, hk1, hz1⟩ := ins_zeros h hn hi hc (by omega) 27
  have hlb1 := hk1.blk (fun h => h) hl
  have hnl : ¬ lb = w.heap.size := by have := hl.lt; omega
  have hng : ¬ g = w.heap.size := by have := h.lt; omega
  obtain ⟨w2, cur2, hr2, hb2, hs2, ha2, hk2⟩ := ins_lay1 hb1 hs1 hn hi hcap ha1 (hlb1.cell' rfl) (cap - i) 1 3
  have hkk : Kept (· = w.heap.size) w w2.drew := ((hk1.mono fun _ _ h => h.elim).trans hk2 fun _ _ h => h).drew
  have hos : OwnAt ptrE w2.drew 89 g c D := h.keep hkk hng
  have hb2' : Blk w2.drew w.heap.size 89 cur2 := hb2
  obtain ⟨w3, hr3, ho3, hk3⟩ := ins_lay2 hb2' hs2 hm1 hn hi hcap ha2 hos (cap - (i + 1)) (c - i) 3
  have hcm : cap ≤ 9223372036854775807 := by unfold maxLen at hm1; omega
  have hc0 : n ≤ c := by have := h.le.1; omega
  have K1 : Hid (Kept (fun b => some g = some b) w w3) := Lib.hid ((hkk.trans hk3 fun _ _ h => h).trans (Kept.refl (fun _ => False) _) (fun _ _ h => h.elim) |>.mono fun b hb e => by omega)
  have O2 := Lib.hid ho3
  have AP := Lib.hid hr1
  have CP1 := Lib.hid hr2
  have CP2 := Lib.hid hr3
  have LN : Hid ((D.take i ++ x :: D.drop i).length = n + 1) := Lib.hid (by simp; omega)
  have g1 : (i : Int) ≤ n := by omega
  have g2 : ¬ (i : Int) = n := by omega
  have g3 : ¬ c = i := by omega
  have g4 : ¬ cap = i + 1 := by omega
  have g41 : ¬ cap = i := by omega
  have g5 : i ≤ c := by omega
  have g6 : i + 1 ≤ cap := by omega
  have g61 : i ≤ cap := by omega
  have g7 : i + 1 ≤ n + 1 := by omega
  have g8 : i ≤ n + 1 := by omega
  have g9 : (c : Int) < (n : Int) + 1 := by omega
  have g10 : ((i : Int) + 1).toNat = i + 1 := by omega
  have g11 : ((n : Int) + 1).toNat = n + 1 := by omega
  have g12 : ((i : Int) == (n : Int)) = false := by simp; omega
  have g13 : IntKind.i64.wrap ((i : Int) + 1) = (i : Int) + 1 := IntWalk.i64_in _ (by omega)
  have g14 : (0 : Int) ≤ (i : Int) + 1 := by omega
  have g15 : (i : Int) + 1 ≤ (n : Int) + 1 := by omega
  have g16 : (0 : Int) ≤ (i : Int) := by omega
  have g17 : (i : Int) ≤ (n : Int) + 1 := by omega
  clear h hn hb1 hs1 hm1 ha1 hk1 hlb1 hr1 hr2 hk2 hl hz1 hcap hnl hng hb2 hs2 ha2 hkk hos hb2' hr3 ho3 hk3
  go_enter Tryz.func82, Tryz.ntmps82
  go_wp2_with (at_builtin; refine Lib.wpList_append_run _ rfl (.tmp 34) (.tmp 39) _ _ rfl _ _ rfl rfl _ _ AP.out ?_; have cp1 := CP1.out)
  have cp2 := CP2.out
  go_region
  go_wp2
  go_ret
  exact ⟨⟨some ⟨w.heap.size, 0, none⟩, n + 1, cap⟩, rfl, .inr ⟨w.heap.size, cap, by rw [LN.out], O2.out⟩, .inr ⟨w.heap.size, rfl, Nat.le_refl _⟩, K1.out⟩
/-- slices.Insert of one pointer -/
theorem insP_any {w : World} {s : Rw} {D : List Nat} (h : RowAt w s D) (hD : D.length ≤ 900000) {i : Nat} (hi : i ≤ D.length) {lb x : Nat} (hl : Blk w lb 89 #[.pointer (some ⟨x, 0, none⟩)]) (hne : ∀ b, s.blk = some b → lb ≠ b) :
    Calls Tryz.prog 82 #[s.v, .int .i64 i, .slice (some ⟨lb, 0, none⟩) 1 1] w (InsPost w s (D.take i ++ x :: D.drop i)) := by
  rcases Nat.lt_or_eq_of_le hi with hlt | rfl
  · rcases h with ⟨rfl, rfl⟩ | ⟨b, cap, rfl, h⟩
    · simp at hlt
    · rcases Nat.lt_or_ge cap (D.length + 1) with hc | hc
      · exact ins_grow h rfl hD hlt hc hl
      · exact ins_room h rfl hD hlt hc hl (hne b rfl)
  · rw [List.take_length, List.drop_length]
    exact ins_end h hD hl
end Go.Proofs.YtlafodnaifghcaaGreat.Tr
namespace Go.Proofs.YtlafodnaifghcaaGreat.Tr
open Go.RowKit Go.Proofs.YtlafodnaifghcaaGreat.St
theorem WFs.sorted {r : ID} : ∀ {F : List T}, WFs r F → (F.map T.n).Pairwise fun a b => b.id.lt a.id
  | [], _ => List.Pairwise.nil
  | t :: ts, h => List.Pairwise.cons (fun m hm => by
      obtain ⟨u, hu, rfl⟩ := List.mem_map.1 hm
      exact h.2.1 u hu) (WFs.sorted h.2.2)
/-- those that stand behind one element: the higher ones first -/
theorem Doc.sorted {L : List Nd} (h : Doc L) {r : ID} (hr : Ref L r) : (kids L r).Pairwise fun a b => b.id.lt a.id := by
  obtain ⟨F, rfl, hw, hnd⟩ := h
  rcases hr with rfl | hr
  · rw [kids_root hw]; exact hw.sorted
  · obtain ⟨m, hm, rfl⟩ := List.mem_map.1 hr
    rw [← subss_flat] at hm
    obtain ⟨u, hu, rfl⟩ := List.mem_map.1 hm
    rw [kids_subs F hw hnd u hu]
    obtain ⟨r', hwu⟩ := WFs.sub F hw u hu
    exact (WF.eq.1 hwu).2.2.sorted
theorem takeWhile_count {α : Type} {p : α → Bool} : ∀ {l : List α} {j : Nat}, j ≤ l.length → (∀ i y, l[i]? = some y → (i < j ↔ p y = true)) → (l.takeWhile p).length = j
  | [], j, hj, _ => by simp at hj; simp [hj]
  | a :: l, 0, _, h => by
    have := (h 0 a rfl)
    rw [List.takeWhile_cons_of_neg (fun hp => by have := this.2 hp; omega)]; rfl
  | a :: l, j + 1, hj, h => by
    have h0 := (h 0 a rfl).1 (Nat.succ_pos _)
    rw [List.takeWhile_cons_of_pos h0, List.length_cons, takeWhile_count (l := l) (j := j) (by simpa using hj) (fun i y hy => by
      have h9 := h (i + 1) y (by simpa using hy)
      exact ⟨fun h => h9.1 (by omega), fun h => by have := h9.2 h; omega⟩)]
def putA (A : ID → Nat) (x : ID) (e : Nat) (y : ID) : Nat := if y = x then e else A y
def putS (S : ID → Rw) (x r : ID) (s : Rw) (y : ID) : Rw := if y = r then s else if y = x then ⟨none, 0, 0⟩ else S y
theorem put_perm (L : List Nd) (p : Nat) (x m : Nd) : m ∈ put L p x ↔ m = x ∨ m ∈ L := by
  unfold put
  rw [List.mem_append, List.mem_cons]
  constructor
  · rintro (h | h | h)
    · exact .inr (List.mem_of_mem_take h)
    · exact .inl h
    · exact .inr (List.mem_of_mem_drop h)
  · rintro (h | h)
    · exact .inr (.inl h)
    · rw [← List.take_append_drop p L] at h
      rcases List.mem_append.1 h with h | h
      · exact .inl h
      · exact .inr (.inr h)
theorem put_len (L : List Nd) (p : Nat) (x : Nd) : (put L p x).length = L.length + 1 := by unfold put; simp; omega
theorem put_ref {L : List Nd} {p : Nat} {x : Nd} {r : ID} (h : Ref (put L p x) r) : r = x.id ∨ Ref L r := by
  rcases h with h | h
  · exact .inr (.inl h)
  · rcases put_ids.1 h with h | h
    · exact .inl h
    · exact .inr (.inr h)
variable {w w' : World} {g : Nat} {L : List Nd} {A : ID → Nat} {S : ID → Rw} {mp : Option Nat}
theorem kids_putA {L : List Nd} {x : Nd} (hx : x.id ∉ ids L) (e : Nat) (A : ID → Nat) (r : ID) : (kids L r).map (fun n => putA A x.id e n.id) = (kids L r).map fun n => A n.id :=
  List.map_congr_left fun n hn => if_neg (fun (h : n.id = x.id) => hx (by rw [← h]; exact List.mem_map.2 ⟨n, (List.mem_filter.1 hn).1, rfl⟩))
theorem TAt.put_mem {w w3 w5 : World} {mb e : Nat} {x : Nd} {s' : Rw} {p : Nat} {kvs : List (ID × Value)} (h : TAt w g L A S (some mb)) (hdoc : Doc L) (hid : x.id ≠ ID.zero) (href : Ref L x.ref) (hlt : x.ref.lt x.id) (hx : x.id ∉ ids L)
    (he : Blk w e 97 (ndC x ++ [Value.slice none 0 0]).toArray) (hef : ¬ foot g L A S (some mb) e) (hkv : MapK keyI w mb kvs) (hok : KeysOk kvs) (hkl : kvs.length = L.length) (hkg : ∀ y, getK kvs y = if y ∈ ids L then some (.pointer (some ⟨A y, 0, none⟩)) else none)
    (hk3 : Kept (fun b => (S x.ref).blk = some b) w w3) (hr : RowAt w3 s' ((kids (put L p x) x.ref).map fun n => putA A x.id e n.id)) (hs' : s'.blk = (S x.ref).blk ∨ ∃ b, s'.blk = some b ∧ w.heap.size ≤ b)
    (hk5 : Kept (· = mb) (w3.setCell (place g A x.ref) s'.v) w5) (hm5 : MapK keyI w5 mb (putK kvs x.id (.pointer (some ⟨e, 0, none⟩)))) :
    TAt w5 g (put L p x) (putA A x.id e) (putS S x.id x.ref s') (some mb) := by
  have hrx : x.ref ≠ x.id := fun e => by rw [e] at hlt; exact ID.lt_irrefl _ hlt
  have hAx : putA A x.id e x.id = e := if_pos rfl
  have hAo : ∀ y, y ≠ x.id → putA A x.id e y = A y := fun y hy => if_neg hy
  have hSr : putS S x.id x.ref s' x.ref = s' := if_pos rfl
  have hSx : putS S x.id x.ref s' x.id = ⟨none, 0, 0⟩ := by unfold putS; rw [if_neg (fun h => hrx h.symm), if_pos rfl]
  have hSo : ∀ y, y ≠ x.ref → y ≠ x.id → putS S x.id x.ref s' y = S y := fun y h1 h2 => by unfold putS; rw [if_neg h1, if_neg h2]
  have hxin : ∀ y ∈ ids L, y ≠ x.id := fun y hy e => hx (e ▸ hy)
  have hRx : ∀ y, Ref L y → y ≠ x.id := fun y hy => by rcases hy with rfl | hy; exact fun e => hid e.symm; exact hxin y hy
  -- rows' blocks are no blocks of the document's others
  have hrowne : ∀ r, Ref L r → ∀ b, (S r).blk = some b → b ≠ g ∧ (∀ y ∈ ids L, b ≠ A y) ∧ b ≠ mb ∧ b ≠ e := fun r hr b hb => by
    refine ⟨(h.row r hr).ne h.top (by decide) b hb, fun y hy => ?_, ?_, fun e => hef (e ▸ .inr (.inr (.inr ⟨r, hr, hb⟩)))⟩
    · obtain ⟨n, hn, rfl⟩ := List.mem_map.1 hy
      exact (h.row r hr).ne (h.elt n hn) (by decide) b hb
    · rcases h.row r hr with ⟨e1, _⟩ | ⟨b', cap, e1, cs, h2, _⟩
      · rw [e1] at hb; cases hb
      · rw [e1] at hb; cases hb
        exact hkv.ne_blk h2
  have hplace : (place g A x.ref).block = (if x.ref = ID.zero then g else A x.ref) := by unfold place; split <;> rfl
  -- from w to w5: what is neither the row, nor the place, nor the map
  have keep5 : ∀ b, b < w.heap.size → (S x.ref).blk ≠ some b → b ≠ (place g A x.ref).block → b ≠ mb → w5.heap[b]? = w.heap[b]? := fun b hb h1 h2 h3 => by
    have hb3 : b < w3.heap.size := Nat.lt_of_lt_of_le hb hk3.size
    rw [hk5.block b (by simpa using hb3) h3, Below.heap_setCell _ _ _ _ h2, hk3.block b hb h1]
  have blk5 : ∀ b t cs, Blk w b t cs → (S x.ref).blk ≠ some b → b ≠ (place g A x.ref).block → b ≠ mb → Blk w5 b t cs := fun b t cs hb h1 h2 h3 => (keep5 b hb.lt h1 h2 h3).trans hb
  -- the place's own block
  have put5 : ∀ b t cs o, Blk w b t cs → (S x.ref).blk ≠ some b → place g A x.ref = ⟨b, o, none⟩ → b ≠ mb → Blk w5 b t (cs.setIfInBounds o s'.v) := fun b t cs o hb h1 h2 h3 => by
    have h4 : Blk w3 b t cs := hk3.blk h1 hb
    have h5 := h4.set_ o s'.v
    rw [h2] at hk5
    exact hk5.blk h3 h5
  have hmbg : mb ≠ g := fun e => hkv.ne_blk h.top e.symm
  have hmbe : ∀ n ∈ L, mb ≠ A n.id := fun n hn e => hkv.ne_blk (h.elt n hn) e.symm
  have hgA : ∀ n ∈ L, g ≠ A n.id := fun n hn e => Blk.ne_ h.top (h.elt n hn) (by decide) e
  have hrg := hrowne x.ref href
  refine { top := ?_, elt := ?_, row := ?_, by_ := ?_, one := ?_, far := ?_ }
  · by_cases hz : x.ref = ID.zero
    · have h1 := put5 g _ _ 0 h.top (fun e => (hrg g e).1 rfl) (by unfold place; rw [if_pos hz]) (fun e => hmbg e.symm)
      have e1 : putS S x.id x.ref s' ID.zero = s' := by rw [← hz]; exact hSr
      rw [e1]
      exact h1
    · have e1 : putS S x.id x.ref s' ID.zero = S ID.zero := hSo _ (fun e => hz e.symm) (fun e => hid e.symm)
      rw [e1]
      have hrL : x.ref ∈ ids L := href.resolve_left hz
      obtain ⟨n, hn, hne⟩ := List.mem_map.1 hrL
      exact blk5 g _ _ h.top (fun e => (hrg g e).1 rfl) (by rw [hplace, if_neg hz, ← hne]; exact hgA n hn) (fun e => hmbg e.symm)
  · intro n hn
    rcases (put_perm L p x n).1 hn with rfl | hn
    · rw [hAx, hSx]
      have hpe : e ≠ (place g A n.ref).block := by
        rw [hplace]
        split
        · intro e1; exact hef (e1 ▸ .inl rfl)
        next hz => intro e1; exact hef (e1 ▸ .inr (.inr (.inl ⟨n.ref, href.resolve_left hz, rfl⟩)))
      exact blk5 e _ _ he (fun e1 => (hrg e e1).2.2.2 rfl) hpe (fun e1 => hef (e1 ▸ .inr (.inl rfl)))
    · have hni : n.id ∈ ids L := List.mem_map.2 ⟨n, hn, rfl⟩
      rw [hAo n.id (hxin _ hni)]
      by_cases hz : n.id = x.ref
      · have e1 : putS S x.id x.ref s' n.id = s' := by rw [hz]; exact hSr
        rw [e1]
        have hnz : x.ref ≠ ID.zero := fun e0 => by
          obtain ⟨F, rfl, hw, _⟩ := hdoc
          have := WFs.gt F hw n hn
          rw [hz, e0] at this
          exact ID.lt_irrefl _ this
        have h1 := put5 (A n.id) _ _ 6 (h.elt n hn) (fun e => (hrg _ e).2.1 n.id hni rfl) (by unfold place; rw [if_neg hnz, hz]) (fun e => hmbe n hn e.symm)
        have e2 : ((ndC n ++ [(S n.id).v]).toArray.setIfInBounds 6 s'.v) = (ndC n ++ [s'.v]).toArray := by simp [ndC]
        rw [e2] at h1
        exact h1
      · have e1 : putS S x.id x.ref s' n.id = S n.id := hSo _ hz (hxin _ hni)
        rw [e1]
        refine blk5 (A n.id) _ _ (h.elt n hn) (fun e => (hrg _ e).2.1 n.id hni rfl) ?_ (fun e => hmbe n hn e.symm)
        rw [hplace]
        split
        · exact fun e => hgA n hn e.symm
        next hz2 => exact fun e => hz (h.one _ hni _ (href.resolve_left hz2) e)
  · intro r hr'
    rcases put_ref hr' with rfl | hrL
    · rw [hSx]
      refine .inl ⟨rfl, ?_⟩
      rw [kids_put hrx, kids_none (fun m hm e => ?_)]
      · rfl
      · rcases hdoc.refs m hm with h1 | h1
        · exact hid (e ▸ h1)
        · exact hx (e ▸ h1)
    · by_cases hz : r = x.ref
      · subst hz
        rw [hSr]
        rcases hr with ⟨h1, h2⟩ | ⟨b, cap, h1, h2⟩
        · exact .inl ⟨h1, h2⟩
        · refine .inr ⟨b, cap, h1, h2.keep (S := fun k => k = (place g A x.ref).block ∨ k = mb) ?_ ?_⟩
          · exact (((Kept.refl (fun k => k = (place g A x.ref).block) w3).setCell (fun _ => rfl) _).mono (fun _ _ h => .inl h)).trans (hk5.mono fun _ _ h => .inr h) (fun _ _ h => h)
          · have hbb : s'.blk = some b := by rw [h1]; rfl
            have hbp : b ≠ (place g A x.ref).block ∧ b ≠ mb := by
              rcases hs' with h3 | ⟨b', h3, h4⟩
              · rw [hbb] at h3
                obtain ⟨q1, q2, q3, _⟩ := hrg b h3.symm
                refine ⟨?_, q3⟩
                rw [hplace]
                split
                · exact q1
                next hz => exact q2 _ (href.resolve_left hz)
              · rw [hbb] at h3; cases h3
                have hl := h.lt
                refine ⟨?_, fun e => by have := hl mb (.inr (.inl rfl)); omega⟩
                rw [hplace]
                split
                · intro e; have := hl g (.inl rfl); omega
                next hz => intro e; have := hl _ (.inr (.inr (.inl ⟨x.ref, href.resolve_left hz, rfl⟩))); omega
            rintro (e1 | e1)
            · exact hbp.1 e1
            · exact hbp.2 e1
      · rw [hSo r hz (hRx r hrL), kids_put (fun e => hz e.symm), kids_putA hx]
        rcases h.row r hrL with h1 | ⟨b, cap, h1, cs, h2, h3⟩
        · exact .inl h1
        · obtain ⟨q1, q2, q3, q4⟩ := hrowne r hrL b (by rw [h1]; rfl)
          refine .inr ⟨b, cap, h1, cs, blk5 b _ _ h2 (fun e => hz (h.far r x.ref hrL href b (by rw [h1]; rfl) e)) ?_ q3, h3⟩
          rw [hplace]
          split
          · exact q1
          next hz2 => exact q2 _ (href.resolve_left hz2)
  · refine .inr ⟨mb, _, rfl, hm5, hok.put _ _, ?_, fun y => ?_⟩
    · have hnf : x.id ∉ kvs.map (·.1) := getK_none.1 (by rw [hkg, if_neg hx])
      have : ∀ (l : List (ID × Value)), x.id ∉ l.map (·.1) → (putK l x.id (.pointer (some ⟨e, 0, none⟩))).length = l.length + 1 := by
        intro l
        induction l with
        | nil => intro _; rfl
        | cons y r ih =>
          intro hn
          have h1 : ¬ y.1 = x.id := fun e => hn (by simp [e])
          show (if y.1 = x.id then _ else y :: putK r x.id _).length = _
          rw [if_neg h1, List.length_cons, ih (fun hh => hn (by simp; right; simpa using hh))]
          rfl
      rw [this kvs hnf, put_len, hkl]
    · rw [getK_put]
      by_cases hy : x.id = y
      · subst hy
        rw [if_pos rfl, if_pos (put_ids.2 (.inl rfl)), hAx]
      · rw [if_neg hy, hkg y]
        by_cases hyL : y ∈ ids L
        · rw [if_pos hyL, if_pos (put_ids.2 (.inr hyL)), hAo y (fun e => hy e.symm)]
        · rw [if_neg hyL, if_neg (fun hh => by rcases put_ids.1 hh with h1 | h1; exact hy h1.symm; exact hyL h1)]
  · intro y hy z hz hyz
    have hne : ∀ y ∈ ids L, A y ≠ e := fun y hy e1 => hef (e1 ▸ .inr (.inr (.inl ⟨y, hy, rfl⟩)))
    rcases put_ids.1 hy with rfl | hy' <;> rcases put_ids.1 hz with rfl | hz'
    · rfl
    · rw [hAx, hAo z (hxin z hz')] at hyz; exact absurd hyz.symm (hne z hz')
    · rw [hAx, hAo y (hxin y hy')] at hyz; exact absurd hyz (hne y hy')
    · rw [hAo y (hxin y hy'), hAo z (hxin z hz')] at hyz; exact h.one y hy' z hz' hyz
  · intro y z hy hz b hb1 hb2
    have hSb : ∀ y, Ref (put L p x) y → ∀ b, (putS S x.id x.ref s' y).blk = some b → (y = x.ref ∧ s'.blk = some b) ∨ (y ≠ x.ref ∧ Ref L y ∧ (S y).blk = some b) := fun y hy b hb => by
      by_cases h1 : y = x.ref
      · subst h1; rw [hSr] at hb; exact .inl ⟨rfl, hb⟩
      · rcases put_ref hy with rfl | hyL
        · rw [hSx] at hb; cases hb
        · rw [hSo y h1 (hRx y hyL)] at hb; exact .inr ⟨h1, hyL, hb⟩
    have hmix : ∀ y, y ≠ x.ref → Ref L y → (S y).blk = some b → s'.blk = some b → False := fun y h1 h2 h3 h4 => by
      rcases hs' with h5 | ⟨b', h5, h6⟩
      · rw [h4] at h5; exact h1 (h.far y x.ref h2 href b h3 h5.symm)
      · rw [h4] at h5; cases h5
        have := h.lt b (.inr (.inr (.inr ⟨y, h2, h3⟩)))
        omega
    rcases hSb y hy b hb1 with ⟨h1, h2⟩ | ⟨h1, h2, h3⟩ <;> rcases hSb z hz b hb2 with ⟨k1, k2⟩ | ⟨k1, k2, k3⟩
    · rw [h1, k1]
    · exact (hmix z k1 k2 k3 h2).elim
    · exact (hmix y h1 h2 h3 k2).elim
    · exact h.far y z h2 k2 b h3 k3
end Go.Proofs.YtlafodnaifghcaaGreat.Tr
namespace Go.Proofs.YtlafodnaifghcaaGreat.Tr
open Go.RowKit Go.Proofs.YtlafodnaifghcaaGreat.St
def updS (S : ID → Rw) (r : ID) (s : Rw) (y : ID) : Rw := if y = r then s else S y
theorem delK_len {κ : Type} [DecidableEq κ] {k : κ} : ∀ {l : List (κ × Value)}, k ∈ l.map (·.1) → (delK l k).length + 1 = l.length
  | [], h => by simp at h
  | y :: r, h => by
    show (if y.1 = k then r else y :: delK r k).length + 1 = r.length + 1
    by_cases e : y.1 = k
    · rw [if_pos e]
    · rw [if_neg e, List.length_cons, delK_len (l := r) (by
        rcases List.mem_cons.1 h with h1 | h1
        · exact absurd h1.symm e
        · exact h1)]
variable {w : World} {g : Nat} {A : ID → Nat} {S : ID → Rw}
theorem TAt.del_mem {w3 w5 : World} {mb : Nat} {P K : List Nd} {x : Nd} {s' : Rw} {kvs : List (ID × Value)} (h : TAt w g (P ++ x :: K) A S (some mb)) (hdoc : Doc (P ++ x :: K))
    (hkv : MapK keyI w mb kvs) (hok : KeysOk kvs) (hkl : kvs.length = (P ++ x :: K).length) (hkg : ∀ y, getK kvs y = if y ∈ ids (P ++ x :: K) then some (.pointer (some ⟨A y, 0, none⟩)) else none)
    (hk3 : Kept (fun b => (S x.ref).blk = some b) w w3) (hr : RowAt w3 s' ((kids (P ++ K) x.ref).map fun n => A n.id)) (hs' : s'.blk = (S x.ref).blk)
    (hk5 : Kept (· = mb) (w3.setCell (place g A x.ref) s'.v) w5) (hm5 : MapK keyI w5 mb (delK kvs x.id)) :
    TAt w5 g (P ++ K) A (updS S x.ref s') (some mb) := by
  have hxL : x ∈ P ++ x :: K := by simp
  have hxi : x.id ∈ ids (P ++ x :: K) := List.mem_map.2 ⟨x, hxL, rfl⟩
  have hnd := hdoc.nodup
  have hxz : x.id ≠ ID.zero := fun e => by
    obtain ⟨F, hF, hw, _⟩ := hdoc
    have := WFs.gt F hw x (by rw [hF]; exact hxL)
    rw [e] at this
    exact ID.lt_irrefl _ this
  have hids : ∀ y, y ∈ ids (P ++ K) ↔ y ∈ ids (P ++ x :: K) ∧ y ≠ x.id := fun y => by
    have hnd2 : (ids P ++ x.id :: ids K).Nodup := by have := hnd; simpa [ids] using this
    have h1 := List.nodup_append.1 hnd2
    have h2 : x.id ∉ ids K := (List.nodup_cons.1 h1.2.1).1
    have h3 : x.id ∉ ids P := fun hm => h1.2.2 x.id hm x.id List.mem_cons_self rfl
    have e1 : ids (P ++ K) = ids P ++ ids K := by simp [ids]
    have e2 : ids (P ++ x :: K) = ids P ++ x.id :: ids K := by simp [ids]
    rw [e1, e2, List.mem_append, List.mem_append, List.mem_cons]
    constructor
    · rintro (h | h)
      · exact ⟨.inl h, fun e => h3 (e ▸ h)⟩
      · exact ⟨.inr (.inr h), fun e => h2 (e ▸ h)⟩
    · rintro ⟨h | h | h, hne⟩
      · exact .inl h
      · exact absurd h hne
      · exact .inr h
  have hmem : ∀ n ∈ P ++ K, n ∈ P ++ x :: K := fun n hn => by
    rcases List.mem_append.1 hn with h | h
    · exact List.mem_append.2 (.inl h)
    · exact List.mem_append.2 (.inr (List.mem_cons_of_mem _ h))
  have hRef : ∀ r, Ref (P ++ K) r → Ref (P ++ x :: K) r := fun r hr => hr.imp_right fun h => ((hids r).1 h).1
  have href : Ref (P ++ x :: K) x.ref := hdoc.refs x hxL
  have hSr : updS S x.ref s' x.ref = s' := if_pos rfl
  have hSo : ∀ y, y ≠ x.ref → updS S x.ref s' y = S y := fun y h1 => if_neg h1
  have hrowne : ∀ r, Ref (P ++ x :: K) r → ∀ b, (S r).blk = some b → b ≠ g ∧ (∀ y ∈ ids (P ++ x :: K), b ≠ A y) ∧ b ≠ mb := fun r hr b hb => by
    refine ⟨(h.row r hr).ne h.top (by decide) b hb, fun y hy => ?_, ?_⟩
    · obtain ⟨n, hn, rfl⟩ := List.mem_map.1 hy
      exact (h.row r hr).ne (h.elt n hn) (by decide) b hb
    · rcases h.row r hr with ⟨e1, _⟩ | ⟨b', cap, e1, cs, h2, _⟩
      · rw [e1] at hb; cases hb
      · rw [e1] at hb; cases hb
        exact hkv.ne_blk h2
  have hplace : (place g A x.ref).block = (if x.ref = ID.zero then g else A x.ref) := by unfold place; split <;> rfl
  have keep5 : ∀ b, b < w.heap.size → (S x.ref).blk ≠ some b → b ≠ (place g A x.ref).block → b ≠ mb → w5.heap[b]? = w.heap[b]? := fun b hb h1 h2 h3 => by
    have hb3 : b < w3.heap.size := Nat.lt_of_lt_of_le hb hk3.size
    rw [hk5.block b (by simpa using hb3) h3, Below.heap_setCell _ _ _ _ h2, hk3.block b hb h1]
  have blk5 : ∀ b t cs, Blk w b t cs → (S x.ref).blk ≠ some b → b ≠ (place g A x.ref).block → b ≠ mb → Blk w5 b t cs := fun b t cs hb h1 h2 h3 => (keep5 b hb.lt h1 h2 h3).trans hb
  have put5 : ∀ b t cs o, Blk w b t cs → (S x.ref).blk ≠ some b → place g A x.ref = ⟨b, o, none⟩ → b ≠ mb → Blk w5 b t (cs.setIfInBounds o s'.v) := fun b t cs o hb h1 h2 h3 => by
    have h4 : Blk w3 b t cs := hk3.blk h1 hb
    have h5 := h4.set_ o s'.v
    rw [h2] at hk5
    exact hk5.blk h3 h5
  have hmbg : mb ≠ g := fun e => hkv.ne_blk h.top e.symm
  have hmbe : ∀ n ∈ P ++ x :: K, mb ≠ A n.id := fun n hn e => hkv.ne_blk (h.elt n hn) e.symm
  have hgA : ∀ n ∈ P ++ x :: K, g ≠ A n.id := fun n hn e => Blk.ne_ h.top (h.elt n hn) (by decide) e
  have hrg := hrowne x.ref href
  refine { top := ?_, elt := ?_, row := ?_, by_ := ?_, one := ?_, far := ?_ }
  · by_cases hz : x.ref = ID.zero
    · have h1 := put5 g _ _ 0 h.top (fun e => (hrg g e).1 rfl) (by unfold place; rw [if_pos hz]) (fun e => hmbg e.symm)
      have e1 : updS S x.ref s' ID.zero = s' := by rw [← hz]; exact hSr
      rw [e1]
      exact h1
    · have e1 : updS S x.ref s' ID.zero = S ID.zero := hSo _ (fun e => hz e.symm)
      rw [e1]
      have hrL : x.ref ∈ ids (P ++ x :: K) := href.resolve_left hz
      obtain ⟨n, hn, hne⟩ := List.mem_map.1 hrL
      exact blk5 g _ _ h.top (fun e => (hrg g e).1 rfl) (by rw [hplace, if_neg hz, ← hne]; exact hgA n hn) (fun e => hmbg e.symm)
  · intro n hn0
    have hn := hmem n hn0
    have hni : n.id ∈ ids (P ++ x :: K) := List.mem_map.2 ⟨n, hn, rfl⟩
    by_cases hz : n.id = x.ref
    · have e1 : updS S x.ref s' n.id = s' := by rw [hz]; exact hSr
      rw [e1]
      have hnz : x.ref ≠ ID.zero := fun e0 => by
        obtain ⟨F, hF, hw, _⟩ := hdoc
        have := WFs.gt F hw n (by rw [hF]; exact hn)
        rw [hz, e0] at this
        exact ID.lt_irrefl _ this
      have h1 := put5 (A n.id) _ _ 6 (h.elt n hn) (fun e => (hrg _ e).2.1 n.id hni rfl) (by unfold place; rw [if_neg hnz, hz]) (fun e => hmbe n hn e.symm)
      have e2 : ((ndC n ++ [(S n.id).v]).toArray.setIfInBounds 6 s'.v) = (ndC n ++ [s'.v]).toArray := by simp [ndC]
      rw [e2] at h1
      exact h1
    · have e1 : updS S x.ref s' n.id = S n.id := hSo _ hz
      rw [e1]
      refine blk5 (A n.id) _ _ (h.elt n hn) (fun e => (hrg _ e).2.1 n.id hni rfl) ?_ (fun e => hmbe n hn e.symm)
      rw [hplace]
      split
      · exact fun e => hgA n hn e.symm
      next hz2 => exact fun e => hz (h.one _ hni _ (href.resolve_left hz2) e)
  · intro r hr'
    have hrL := hRef r hr'
    by_cases hz : r = x.ref
    · subst hz
      rw [hSr]
      rcases hr with ⟨h1, h2⟩ | ⟨b, cap, h1, h2⟩
      · exact .inl ⟨h1, h2⟩
      · refine .inr ⟨b, cap, h1, h2.keep (S := fun k => k = (place g A x.ref).block ∨ k = mb) ?_ ?_⟩
        · exact (((Kept.refl (fun k => k = (place g A x.ref).block) w3).setCell (fun _ => rfl) _).mono (fun _ _ h => .inl h)).trans (hk5.mono fun _ _ h => .inr h) (fun _ _ h => h)
        · have hbb : s'.blk = some b := by rw [h1]; rfl
          rw [hs'] at hbb
          obtain ⟨q1, q2, q3⟩ := hrg b hbb
          rintro (e1 | e1)
          · rw [hplace] at e1
            split at e1
            · exact q1 e1
            next hz => exact q2 _ (href.resolve_left hz) e1
          · exact q3 e1
    · rw [hSo r hz, kids_rem (x := x) r, if_neg (fun e => hz e.symm)]
      rcases h.row r hrL with h1 | ⟨b, cap, h1, cs, h2, h3⟩
      · exact .inl h1
      · obtain ⟨q1, q2, q3⟩ := hrowne r hrL b (by rw [h1]; rfl)
        refine .inr ⟨b, cap, h1, cs, blk5 b _ _ h2 (fun e => hz (h.far r x.ref hrL href b (by rw [h1]; rfl) e)) ?_ q3, h3⟩
        rw [hplace]
        split
        · exact q1
        next hz2 => exact q2 _ (href.resolve_left hz2)
  · refine .inr ⟨mb, _, rfl, hm5, hok.del _, ?_, fun y => ?_⟩
    · have hf : x.id ∈ kvs.map (·.1) := Classical.byContradiction fun hn => by
        have h1 := hkg x.id
        rw [if_pos hxi, getK_none.2 hn] at h1
        cases h1
      have h2 := delK_len hf
      have h3 : (P ++ x :: K).length = (P ++ K).length + 1 := by simp; omega
      omega
    · rw [getK_del hok]
      by_cases hy : x.id = y
      · subst hy
        rw [if_pos rfl, if_neg (fun hh => ((hids _).1 hh).2 rfl)]
      · rw [if_neg hy, hkg y]
        by_cases hyL : y ∈ ids (P ++ x :: K)
        · rw [if_pos hyL, if_pos ((hids y).2 ⟨hyL, fun e => hy e.symm⟩)]
        · rw [if_neg hyL, if_neg (fun hh => hyL ((hids y).1 hh).1)]
  · intro y hy z hz hyz
    exact h.one y ((hids y).1 hy).1 z ((hids z).1 hz).1 hyz
  · intro y z hy hz b hb1 hb2
    have hSb : ∀ y, (updS S x.ref s' y).blk = some b → (S y).blk = some b := fun y hb => by
      by_cases h1 : y = x.ref
      · subst h1; rw [hSr, hs'] at hb; exact hb
      · rw [hSo y h1] at hb; exact hb
    exact h.far y z (hRef y hy) (hRef z hz) b (hSb y hb1) (hSb z hb2)
end Go.Proofs.YtlafodnaifghcaaGreat.Tr
namespace Go.Proofs.YtlafodnaifghcaaGreat.Tr
open Go.RowKit Go.Proofs.YtlafodnaifghcaaGreat.St
theorem kids_mid (P K : List Nd) (x : Nd) : kids (P ++ x :: K) x.ref = kids P x.ref ++ x :: kids K x.ref := by
  have h : kids [x] x.ref = [x] := by unfold kids; rw [List.filter_cons_of_pos (by simp), List.filter_nil]
  rw [kids_append, show x :: K = [x] ++ K from rfl, kids_append, h]
  rfl
theorem kids_cut (P K : List Nd) (x : Nd) : (kids (P ++ x :: K) x.ref).eraseIdx (kids P x.ref).length = kids (P ++ K) x.ref := by
  rw [kids_mid, kids_append, List.eraseIdx_append_of_length_le (Nat.le_refl _), Nat.sub_self]
  rfl
/-- its address, and none of the same ahead -/
theorem addr_first {w : World} {g : Nat} {A : ID → Nat} {S : ID → Rw} {mp : Option Nat} {P K : List Nd} {x : Nd} (h : TAt w g (P ++ x :: K) A S mp) (hnd : (ids (P ++ x :: K)).Nodup) :
    ((kids (P ++ x :: K) x.ref).map fun n => A n.id)[(kids P x.ref).length]? = some (A x.id) ∧ ∀ j < (kids P x.ref).length, ((kids (P ++ x :: K) x.ref).map fun n => A n.id)[j]? ≠ some (A x.id) := by
  rw [kids_mid, List.map_append, List.map_cons]
  refine ⟨by rw [List.getElem?_append_right (by simp)]; simp, fun j hj e => ?_⟩
  rw [List.getElem?_append_left (by simpa using hj), List.getElem?_map] at e
  obtain ⟨m, hm, e2⟩ := Option.map_eq_some_iff.1 e
  have hmP : m ∈ P := (List.mem_filter.1 (List.mem_of_getElem? hm)).1
  have h1 : m.id = x.id := h.one _ (List.mem_map.2 ⟨m, by simp [hmP], rfl⟩) _ (List.mem_map.2 ⟨x, by simp, rfl⟩) e2
  have hnd2 : (ids P ++ x.id :: ids K).Nodup := by simpa [ids] using hnd
  exact (List.nodup_append.1 hnd2).2.2 m.id (List.mem_map.2 ⟨m, hmP, rfl⟩) x.id List.mem_cons_self h1
end Go.Proofs.YtlafodnaifghcaaGreat.Tr
namespace Go.Proofs.YtlafodnaifghcaaGreat.Tr
open Go.RowKit Go.Proofs.YtlafodnaifghcaaGreat.St
def collN (L : List Nd) : Int := (L.length : Int) - ((collR L).length : Int)
theorem collR_len (L : List Nd) : (collR L).length ≤ L.length := (collR_sub L).length_le
theorem erase_map {α β : Type} (f : α → β) (l : List α) (j : Nat) : (l.map f).eraseIdx j = (l.eraseIdx j).map f := by
  rw [List.eraseIdx_eq_take_drop_succ, List.eraseIdx_eq_take_drop_succ, List.map_append, List.map_take, List.map_drop]
theorem coll_step {L : List Nd} {i : Nat} (hi : i < L.length) (hdoc : Doc L) : ∃ x P K, L[L.length - 1 - i]? = some x ∧ x ∈ L ∧ L.take (L.length - i) ++ collR (L.drop (L.length - i)) = P ++ x :: K ∧ Doc (P ++ x :: K) ∧ (P ++ x :: K).length ≤ L.length ∧
    (x.st = 3 ∧ kids (P ++ x :: K) x.id = [] → L.take (L.length - (i + 1)) ++ collR (L.drop (L.length - (i + 1))) = P ++ K ∧ collN (L.drop (L.length - (i + 1))) = collN (L.drop (L.length - i)) + 1) ∧
    (¬ (x.st = 3 ∧ kids (P ++ x :: K) x.id = []) → L.take (L.length - (i + 1)) ++ collR (L.drop (L.length - (i + 1))) = P ++ x :: K ∧ collN (L.drop (L.length - (i + 1))) = collN (L.drop (L.length - i))) := by
  have hj : L.length - 1 - i < L.length := by omega
  obtain ⟨x, hx⟩ : ∃ x, L[L.length - 1 - i]? = some x := ⟨_, List.getElem?_eq_getElem hj⟩
  have hx2 : L[L.length - 1 - i] = x := (List.getElem?_eq_some_iff.1 hx).2
  have e1 : L.length - i = L.length - 1 - i + 1 := by omega
  have e2 : L.length - (i + 1) = L.length - 1 - i := by omega
  have e3 : L.drop (L.length - 1 - i) = x :: L.drop (L.length - 1 - i + 1) := by rw [List.drop_eq_getElem_cons hj, hx2]
  have e4 : L.take (L.length - 1 - i + 1) = L.take (L.length - 1 - i) ++ [x] := by rw [List.take_add_one, hx]; rfl
  have hL : L.take (L.length - 1 - i) ++ x :: L.drop (L.length - 1 - i + 1) = L := by rw [← e3, List.take_append_drop]
  have hd : Doc (L.take (L.length - 1 - i) ++ x :: L.drop (L.length - 1 - i + 1)) := by rw [hL]; exact hdoc
  obtain ⟨k1, k2⟩ := coll_kids hd
  have hlc := collR_len (L.drop (L.length - 1 - i + 1))
  have hll : (L.take (L.length - 1 - i) ++ x :: L.drop (L.length - 1 - i + 1)).length = L.length := by rw [hL]
  rw [List.length_append, List.length_cons] at hll
  rw [e1, e2, e4, e3]
  refine ⟨x, L.take (L.length - 1 - i), collR (L.drop (L.length - 1 - i + 1)), hx, List.mem_of_getElem? hx, by simp, k1, by rw [List.length_append, List.length_cons]; omega, fun h => ?_, fun h => ?_⟩
  · have h9 : collR (x :: L.drop (L.length - 1 - i + 1)) = collR (L.drop (L.length - 1 - i + 1)) := by
      rw [collR, if_pos ⟨h.1, k2.1 h.2⟩]
    refine ⟨by rw [h9], ?_⟩
    unfold collN
    rw [h9, List.length_cons]
    push_cast
    omega
  · have h9 : collR (x :: L.drop (L.length - 1 - i + 1)) = x :: collR (L.drop (L.length - 1 - i + 1)) := by
      rw [collR, if_neg (fun hh => h ⟨hh.1, k2.2 hh.2⟩)]
    refine ⟨by rw [h9], ?_⟩
    unfold collN
    rw [h9, List.length_cons, List.length_cons]
    push_cast
    omega
theorem coll_all (L : List Nd) : L.take (L.length - L.length) ++ collR (L.drop (L.length - L.length)) = collR L := by
  rw [Nat.sub_self, List.take_zero, List.drop_zero, List.nil_append]
theorem coll_none (L : List Nd) : L.take (L.length - 0) ++ collR (L.drop (L.length - 0)) = L := by
  rw [Nat.sub_zero, List.take_length, List.drop_length]
  exact List.append_nil _
theorem CJ.later {w W W' : World} {M : Nat → Prop} {bs : List Box} {g : Nat} {L : List Nd} {A : ID → Nat} {S : ID → Rw} {mp : Option Nat} (h : CJ w W.heap.size M bs g L A S mp (fun _ => False) W) (hk : Kept (fun _ => False) W W') : CJ w W'.heap.size M bs g L A S mp (fun _ => False) W' where
  box := fun x hx => ⟨⟨(h.box x hx).1.1, Nat.lt_of_lt_of_le (h.box x hx).1.2 hk.size⟩, hk.blk (fun h => h) (h.box x hx).2⟩
  tree := h.tree.still hk
  low := h.low
  far := fun _ h => h.elim
  size := ⟨Nat.le_trans h.size.1 hk.size, Nat.le_refl _⟩
  kept := h.kept.trans hk fun _ _ h => h.elim
theorem CJ.turned {w W W' : World} {B : Nat} {M X Y : Nat → Prop} {bs : List Box} {g : Nat} {L L' : List Nd} {A A' : ID → Nat} {S S' : ID → Rw} {mp mp' : Option Nat} (h : CJ w B M bs g L A S mp X W) (hk : Kept Y W W') (hY : ∀ b, Y b → foot g L A S mp b) (hM : ∀ b, Y b → M b) (ht : TAt W' g L' A' S' mp') (hf : ∀ b, foot g L' A' S' mp' b → foot g L A S mp b) :
    CJ w B M bs g L' A' S' mp' X W' where
  box := fun x hx => ⟨(h.box x hx).1, hk.blk (fun hy => by have := h.low _ (hY _ hy); have := (h.box x hx).1; omega) (h.box x hx).2⟩
  tree := ht
  low := fun b hb => h.low b (hf b hb)
  far := fun b hb => ⟨(h.far b hb).1, Nat.lt_of_lt_of_le (h.far b hb).2 hk.size⟩
  size := ⟨h.size.1, Nat.le_trans h.size.2 hk.size⟩
  kept := h.kept.trans hk fun b _ hy => hM b hy
theorem foot_cut {g : Nat} {P K : List Nd} {x : Nd} {A : ID → Nat} {S : ID → Rw} {mp : Option Nat} {s' : Rw} (hs' : s'.blk = (S x.ref).blk) (href : Ref (P ++ x :: K) x.ref) {b : Nat} (h : foot g (P ++ K) A (updS S x.ref s') mp b) : foot g (P ++ x :: K) A S mp b := by
  have hi : ∀ y, y ∈ ids (P ++ K) → y ∈ ids (P ++ x :: K) := fun y hy => by
    obtain ⟨n, hn, rfl⟩ := List.mem_map.1 hy
    refine List.mem_map.2 ⟨n, ?_, rfl⟩
    rcases List.mem_append.1 hn with h | h
    · exact List.mem_append.2 (.inl h)
    · exact List.mem_append.2 (.inr (List.mem_cons_of_mem _ h))
  rcases h with h | h | ⟨y, hy, h⟩ | ⟨r, hr, h⟩
  · exact .inl h
  · exact .inr (.inl h)
  · exact .inr (.inr (.inl ⟨y, hi y hy, h⟩))
  · by_cases e : r = x.ref
    · subst e
      rw [updS, if_pos rfl, hs'] at h
      exact .inr (.inr (.inr ⟨_, href, h⟩))
    · rw [updS, if_neg e] at h
      exact .inr (.inr (.inr ⟨r, hr.imp_right (hi r), h⟩))
/-- the caller's boxes -/
def collB (z pl g : Nat) (v : Value) (k : Int) : List Box :=
  [(z, 25, #[.pointer (some ⟨g, 0, none⟩)]), (z + 1, 3, #[.int .i64 k]), (pl, 27, #[v])]
theorem collB_nodup {z pl g : Nat} {v : Value} {k : Int} (h : z + 1 < pl) : ((collB z pl g v k).map (·.1)).Nodup := by
  simp [collB]
  omega
/-- through Collect's rounds -/
def collJ (w : World) (B g pl : Nat) (v : Value) (L : List Nd) (A : ID → Nat) (S : ID → Rw) (mp : Option Nat) (i : Nat) (X : Nat → Prop) (W : World) : Prop :=
  ∃ S', CJ w B (foot g L A S mp) (collB w.heap.size pl g v (collN (L.drop (L.length - i)))) g (L.take (L.length - i) ++ collR (L.drop (L.length - i))) A S' mp X W ∧
    SlAt ptrE W v (L.map fun n => A n.id) ∧ ∀ b, foot g (L.take (L.length - i) ++ collR (L.drop (L.length - i))) A S' mp b → foot g L A S mp b
end Go.Proofs.YtlafodnaifghcaaGreat.Tr
