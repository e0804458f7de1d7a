/- (*tree.Tree).put, walked. A region without defer, inside a round, is walked as outside of it. -/
import Derived.Test.YtlafodnaifghcaaGreatH16
import Derived.Test.YtlafodnaifghcaaGreatH17
import Derived.Test.YtlafodnaifghcaaGreatH8
namespace Go.Proofs.YtlafodnaifghcaaGreat.Tr
open Go.RowKit Go.Sort Go.Proofs.YtlafodnaifghcaaGreat.St
theorem TAt.mapped {w : World} {g : Nat} {L : List Nd} {A : ID → Nat} {S : ID → Rw} (h : TAt w g L A S none) (vs : Array Value) (t : TypeId) : TAt (((w.setCell ⟨g, 1, none⟩ (.map (some (w.heap.size + 1)))).alloc (.cells vs t)).alloc (.map #[] 0)) g L A S (some (w.heap.size + 1)) := by
  have hL : L = [] := by rcases h.by_ with ⟨_, h1⟩ | ⟨_, _, h1, _⟩; exact h1; cases h1
  subst hL
  have hg := h.top.lt
  have hk : Kept (· = g) w (((w.setCell ⟨g, 1, none⟩ (.map (some (w.heap.size + 1)))).alloc (.cells vs t)).alloc (.map #[] 0)) := (((Kept.refl (· = g) w).setCell (p := ⟨g, 1, none⟩) (fun _ => rfl) _).alloc _).alloc _
  refine { top := ((h.top.set_ 1 _).alloc _).alloc _, elt := fun n hn => by simp at hn, row := fun r hr => (h.row r hr).keep hk ((h.row r hr).ne h.top (by decide)), by_ := .inr ⟨w.heap.size + 1, [], rfl, ?_, List.Pairwise.nil, rfl, fun y => by simp [getK]⟩, one := fun x hx => by simp at hx, far := h.far }
  have h9 := MapK.made (K := keyI) ((w.setCell ⟨g, 1, none⟩ (.map (some (w.heap.size + 1)))).alloc (.cells vs t))
  simpa using h9
/-- the place holds the row -/
theorem place_cell {w : World} {g : Nat} {L : List Nd} {A : ID → Nat} {S : ID → Rw} {mp : Option Nat} (h : TAt w g L A S mp) {r : ID} (hr : Ref L r) : ∃ pb po, place g A r = ⟨pb, po, none⟩ ∧ w.cell? ⟨pb, po, none⟩ = some (S r).v ∧ w.frozen? ⟨pb, po, none⟩ = false ∧ foot g L A S mp pb := by
  unfold place
  by_cases hz : r = ID.zero
  · rw [if_pos hz]
    subst hz
    exact ⟨g, 0, rfl, h.top.cell' rfl, h.top.frozen 0, .inl rfl⟩
  · rw [if_neg hz]
    obtain ⟨n, hn, rfl⟩ := List.mem_map.1 (hr.resolve_left hz)
    exact ⟨A n.id, 6, rfl, (h.elt n hn).cell' (by simp [ndC]), (h.elt n hn).frozen 6, .inr (.inr (.inl ⟨n.id, List.mem_map.2 ⟨n, hn, rfl⟩, rfl⟩))⟩
/-- what put leaves -/
def PutPost (w : World) (g : Nat) (L : List Nd) (A : ID → Nat) (S : ID → Rw) (mp : Option Nat) (L' : List Nd) (e : Ending) (w' : World) : Prop :=
  e = .returned (.tuple #[]) ∧ ∃ A' S' mp', TAt w' g L' A' S' mp' ∧ (∀ b, foot g L' A' S' mp' b → foot g L A S mp b ∨ w.heap.size ≤ b) ∧ Kept (foot g L A S mp) w w'
/-- the place's block -/
theorem place_blk {w : World} {g : Nat} {L : List Nd} {A : ID → Nat} {S : ID → Rw} {mp : Option Nat} (h : TAt w g L A S mp) {r : ID} (hr : Ref L r) : ∃ pb po t cs, place g A r = ⟨pb, po, none⟩ ∧ Blk w pb t cs ∧ cs[po]? = some (S r).v ∧ t ≠ 45 ∧ t ≠ 89 ∧ (pb = g → po = 0) := by
  unfold place
  by_cases hz : r = ID.zero
  · rw [if_pos hz]
    subst hz
    exact ⟨g, 0, _, _, rfl, h.top, rfl, by decide, by decide, fun _ => rfl⟩
  · rw [if_neg hz]
    obtain ⟨n, hn, rfl⟩ := List.mem_map.1 (hr.resolve_left hz)
    exact ⟨A n.id, 6, _, _, rfl, h.elt n hn, by simp [ndC], by decide, by decide, fun e => absurd e (Blk.ne_ (h.elt n hn) h.top (by decide))⟩
/-- the joining -/
theorem put_close {w W W4 w3 w7 : World} {g : Nat} {L : List Nd} {A : ID → Nat} {S : ID → Rw} {mp : Option Nat} {mb e : Nat} {x : Nd} {s' : Rw} {j : Nat} (hdoc : Doc L) (hid : x.id ≠ ID.zero) (href : Ref L x.ref) (hlt : x.ref.lt x.id) (hx : x.id ∉ ids L)
    (hKW : Kept (foot g L A S mp) w W) (hFT : ∀ b, foot g L A S (some mb) b → foot g L A S mp b ∨ w.heap.size ≤ b) (hT : TAt W g L A S (some mb)) (h4 : Kept (fun _ => False) W W4) (hwe : w.heap.size ≤ e)
    (he : Blk W4 e 97 (ndC x ++ [Value.slice none 0 0]).toArray) (heW : W.heap.size ≤ e)
    (hj : ((kids L x.ref).takeWhile fun n => decide (x.id.lt n.id)).length = j)
    (hr : RowAt w3 s' (((kids L x.ref).map fun n => A n.id).take j ++ e :: ((kids L x.ref).map fun n => A n.id).drop j)) (hs' : s'.blk = (S x.ref).blk ∨ ∃ b, s'.blk = some b ∧ W4.heap.size ≤ b) (hk3 : Kept (fun b => (S x.ref).blk = some b) W4 w3)
    (hup : ∃ kvs, MapK keyI W mb kvs ∧ KeysOk kvs ∧ kvs.length = L.length ∧ (∀ y, getK kvs y = if y ∈ ids L then some (.pointer (some ⟨A y, 0, none⟩)) else none) ∧ MapK keyI w7 mb (putK kvs x.id (.pointer (some ⟨e, 0, none⟩)))) (hk7 : Kept (· = mb) (w3.setCell (place g A x.ref) s'.v) w7) :
    PutPost w g L A S mp (put L (placeP L x.id x.ref) x) (.returned (.tuple #[])) w7 := by
  obtain ⟨kvs, hm, hok, hkl, hkg, hm7⟩ := hup
  have hT4 := hT.still h4
  have hlt4 := hT.lt
  obtain ⟨hd', _, j', hj1, hkids, hj2⟩ := hdoc.put href hlt hx
  have hjj : j' = j := by rw [← hj]; exact (takeWhile_count hj1 (fun i y hy => by rw [hj2 i y hy]; simp)).symm
  subst hjj
  have hef : ¬ foot g L A S (some mb) e := fun h => by have := hlt4 e h; omega
  have hrow : RowAt w3 s' ((kids (put L (placeP L x.id x.ref) x) x.ref).map fun n => putA A x.id e n.id) := by
    rw [hkids, List.map_append, List.map_cons, show putA A x.id e x.id = e from if_pos rfl]
    have h1 : ∀ l : List Nd, (∀ n ∈ l, n ∈ kids L x.ref) → l.map (fun n => putA A x.id e n.id) = l.map fun n => A n.id := fun l hl =>
      List.map_congr_left fun n hn => if_neg (fun (h : n.id = x.id) => hx (by rw [← h]; exact List.mem_map.2 ⟨n, (List.mem_filter.1 (hl n hn)).1, rfl⟩))
    rw [h1 _ (fun n hn => List.mem_of_mem_take hn), h1 _ (fun n hn => List.mem_of_mem_drop hn), List.map_take, List.map_drop]
    exact hr
  have hfin := TAt.put_mem hT4 hdoc hid href hlt hx he hef (hm.keep h4 (fun h => h)) hok hkl hkg hk3 hrow (hs'.imp_right fun ⟨b, h1, h2⟩ => ⟨b, h1, h2⟩) hk7 hm7
  have hKW4 : Kept (foot g L A S mp) w W4 := hKW.trans h4 fun _ _ h => h.elim
  have hfm : ∀ b, b < w.heap.size → foot g L A S (some mb) b → foot g L A S mp b := fun b hb h => (hFT b h).resolve_right (by omega)
  have hplf : foot g L A S (some mb) (place g A x.ref).block := by
    unfold place
    split
    · exact .inl rfl
    next hz => exact .inr (.inr (.inl ⟨x.ref, href.resolve_left hz, rfl⟩))
  refine ⟨rfl, _, _, _, hfin, fun b hb => ?_, ?_⟩
  · have hsz : w.heap.size ≤ W4.heap.size := hKW4.size
    rcases hb with h1 | h1 | ⟨y, hy, h1⟩ | ⟨r, hr', h1⟩
    · exact hFT b (.inl h1)
    · exact hFT b (.inr (.inl h1))
    · rcases put_ids.1 hy with rfl | hy
      · rw [show putA A x.id e x.id = e from if_pos rfl] at h1; exact .inr (h1 ▸ hwe)
      · rw [show putA A x.id e y = A y from if_neg (fun (h : y = x.id) => hx (h ▸ hy))] at h1
        exact hFT b (.inr (.inr (.inl ⟨y, hy, h1⟩)))
    · unfold putS at h1
      by_cases hq : r = x.ref
      · rw [if_pos hq] at h1
        rcases hs' with h2 | ⟨b', h2, h3⟩
        · rw [h2] at h1; exact hFT b (.inr (.inr (.inr ⟨_, href, h1⟩)))
        · rw [h2] at h1; cases h1; exact .inr (by omega)
      · rw [if_neg hq] at h1
        rcases put_ref hr' with rfl | hrL
        · rw [if_pos rfl] at h1; cases h1
        · by_cases hq2 : r = x.id
          · rw [if_pos hq2] at h1; cases h1
          · rw [if_neg hq2] at h1
            exact hFT b (.inr (.inr (.inr ⟨r, hrL, h1⟩)))
  · have k1 : Kept (foot g L A S mp) w w3 := hKW4.trans hk3 fun b hb h => hfm b hb (.inr (.inr (.inr ⟨_, href, h⟩)))
    have k2 : Kept (foot g L A S mp) w (w3.setCell (place g A x.ref) s'.v) := k1.setCell (fun hb => hfm _ hb hplf) _
    exact k2.trans hk7 fun b hb h => hfm b hb (.inr (.inl (by rw [h])))
variable {w : World} {g : Nat} {L : List Nd} {A : ID → Nat} {S : ID → Rw} {mp : Option Nat}
set_option maxRecDepth 100000 in
set_option maxHeartbeats 8000000 in
theorem put_any (h : TAt w g L A S mp) (hdoc : Doc L) (hlen : L.length ≤ 900000) (x : Nd) (hid : x.id ≠ ID.zero) (href : Ref L x.ref) (hlt : x.ref.lt x.id) (hx : x.id ∉ ids L) :
    Calls Tryz.prog 48 #[.pointer (some ⟨g, 0, none⟩), .agg (ndC x).toArray] w (PutPost w g L A S mp (put L (placeP L x.id x.ref) x)) := by
  have hmm := @run_makeMap Tryz.prog
  have hq0 : ∀ W, (binOp .eql 28 (.map none) (.map none)).run Tryz.prog W = .ok (.bool true) W := fun W => by kernel_rfl
  have hq1 : ∀ b W, (binOp .eql 28 (.map (some b)) (.map none)).run Tryz.prog W = .ok (.bool false) W := fun b W => by kernel_rfl
  have hgl := h.top.lt
  have hng : ¬ g = w.heap.size := by omega
  have hc1 : w.cell? ⟨g, 1, none⟩ = some (.map mp) := h.top.cell' rfl
  have hf1 := h.top.frozen 1
  have HT := Lib.hid h
  have HD := Lib.hid hdoc
  have HL := Lib.hid hlen
  have HX := Lib.hid (And.intro hid (And.intro href (And.intro hlt hx)))
  show Calls _ _ #[_, .agg #[.int .i64 x.id.t, .int .i64 x.id.s, .int .i64 x.ref.t, .int .i64 x.ref.s, .int .i32 x.rune, .int .i64 x.st]] _ _
  clear h hdoc hlen hid href hlt hx
  have ndc : (ndC x).toArray = #[.int .i64 x.id.t, .int .i64 x.id.s, .int .i64 x.ref.t, .int .i64 x.ref.s, .int .i32 x.rune, .int .i64 x.st] := rfl
  cases mp
  case' none =>
    have hTW := HT.out.mapped (ndC x).toArray 45
    rw [ndc] at hTW
    have hBW : Blk (((w.setCell ⟨g, 1, none⟩ (.map (some (w.heap.size + 1)))).alloc (.cells (ndC x).toArray 45)).alloc (.map #[] 0)) w.heap.size 45 (ndC x).toArray := by
      have h9 := Blk.new (w.setCell ⟨g, 1, none⟩ (.map (some (w.heap.size + 1)))) 45 (ndC x).toArray
      rw [World.size_setCell] at h9
      exact h9.alloc _
    rw [ndc] at hBW
    have hKW : Kept (· = g) w (((w.setCell ⟨g, 1, none⟩ (.map (some (w.heap.size + 1)))).alloc (.cells (ndC x).toArray 45)).alloc (.map #[] 0)) := (((Kept.refl (· = g) w).setCell (p := ⟨g, 1, none⟩) (fun _ => rfl) _).alloc _).alloc _
    rw [ndc] at hKW
    have hFT : Hid (∀ b, foot g L A S (some (w.heap.size + 1)) b → foot g L A S none b ∨ w.heap.size ≤ b) := Lib.hid fun b hb => by
      rcases hb with h1 | h1 | h1 | h1
      · exact .inl (.inl h1)
      · cases h1; exact .inr (Nat.le_succ _)
      · exact .inl (.inr (.inr (.inl h1)))
      · exact .inl (.inr (.inr (.inr h1)))
    have TW := Lib.hid hTW
    have BW := Lib.hid hBW
    have KW := Lib.hid hKW
    clear hTW hBW hKW ndc
    go_enter Tryz.func48, Tryz.ntmps48
    go_wp2_with fail
    generalize (((w.setCell ⟨g, 1, none⟩ (.map (some (w.heap.size + 1)))).alloc (.cells #[.int .i64 x.id.t, .int .i64 x.id.s, .int .i64 x.ref.t, .int .i64 x.ref.s, .int .i32 x.rune, .int .i64 x.st] 45)).alloc (.map #[] 0)) = W at *
    clear hc1 hf1
    have TL := Lib.hid (list_any TW.out HX.out.2.1)
    obtain ⟨mb, hmb⟩ : ∃ mb, w.heap.size + 1 = mb := ⟨_, rfl⟩
    rw [hmb] at TW hFT ⊢
    clear hmb
  case' some mb =>
    have hBW : Blk (w.alloc (.cells (ndC x).toArray 45)) w.heap.size 45 (ndC x).toArray := Blk.new w _ _
    rw [ndc] at hBW
    have hKW : Kept (· = g) w (w.alloc (.cells (ndC x).toArray 45)) := (Kept.refl (· = g) w).alloc _
    rw [ndc] at hKW
    have hTW : TAt (w.alloc (.cells (ndC x).toArray 45)) g L A S (some mb) := HT.out.still ((Kept.refl _ w).alloc _)
    rw [ndc] at hTW
    have hFT : Hid (∀ b, foot g L A S (some mb) b → foot g L A S (some mb) b ∨ w.heap.size ≤ b) := Lib.hid fun b hb => .inl hb
    have TW := Lib.hid hTW
    have BW := Lib.hid hBW
    have KW := Lib.hid hKW
    clear hTW hBW hKW ndc
    go_enter Tryz.func48, Tryz.ntmps48
    go_wp2_with fail
    generalize (w.alloc (.cells #[.int .i64 x.id.t, .int .i64 x.id.s, .int .i64 x.ref.t, .int .i64 x.ref.s, .int .i32 x.rune, .int .i64 x.st] 45)) = W at *
    clear hc1 hf1
    have TL := Lib.hid (list_any TW.out HX.out.2.1)
  all_goals
    refine TL.out.mono ?_
    rintro e W1 ⟨rfl, hg1⟩
    have hT1 := TW.out.still hg1.kept
    obtain ⟨pb, po, tp, cp, hp, hpb, hpo, htp, htp2, hpg⟩ := place_blk hT1 HX.out.2.1
    rw [hp]
    have hpc := hpb.cell' hpo
    obtain ⟨⟨sa, sn, sc⟩, hs⟩ : ∃ s, S x.ref = s := ⟨_, rfl⟩
    rw [hs] at hpc
    have hrow := hT1.row x.ref HX.out.2.1
    rw [hs] at hrow
    have hsl := hrow.sl
    have hel : ∀ n ∈ kids L x.ref, W1.cell? ⟨A n.id, 0, none⟩ = some (.int .i64 n.id.t) ∧ W1.cell? ⟨A n.id, 1, none⟩ = some (.int .i64 n.id.s) := fun n hn => by
      have he := hT1.elt n (List.mem_filter.1 hn).1
      exact ⟨he.cell' rfl, he.cell' rfl⟩
    have hkl : (kids L x.ref).length ≤ 900000 := by have := List.length_filter_le (fun n => decide (n.ref = x.ref)) L; have := HL.out; unfold kids; omega
    have hb1 := hg1.box BW.out
    have z0 : W1.cell? ⟨w.heap.size, 0, none⟩ = some (.int .i64 x.id.t) := hb1.cell' rfl
    have z1 : W1.cell? ⟨w.heap.size, 1, none⟩ = some (.int .i64 x.id.s) := hb1.cell' rfl
    have HK := Lib.hid hkl
    obtain ⟨j, hj⟩ : ∃ j, ((kids L x.ref).takeWhile fun n => decide (x.id.lt n.id)).length = j := ⟨_, rfl⟩
    have HBS : Hid (∀ W', Grew W1 W' → Calls Tryz.prog 80 #[.slice sa sn sc, .agg #[.int .i64 x.id.t, .int .i64 x.id.s], .func (.func 81) #[] #[]] W' fun e w'' => e = .returned (.tuple #[.int .i64 j, .bool false]) ∧ Grew W' w'') := Lib.hid (fun W' hg => by
      have hk := hg.kept
      refine (bsf_any (hsl.kept hk) (fun n hn => ⟨cell_keep hk (hel n hn).1, cell_keep hk (hel n hn).2⟩) (by omega) x.id (HD.out.sorted HX.out.2.1)).mono ?_
      rintro e w'' ⟨⟨b, rfl, hb⟩, hgw⟩
      rw [hj]
      cases b with
      | false => exact ⟨rfl, hgw⟩
      | true =>
        obtain ⟨n, hn, hne⟩ := hb rfl
        exact absurd (List.mem_map.2 ⟨n, (List.mem_filter.1 hn).1, hne⟩) HX.out.2.2.2)
    have HJ := Lib.hid hj
    have T1 := Lib.hid hT1
    have G1 := Lib.hid hg1
    have HP := Lib.hid hp
    have HS := Lib.hid hs
    have HR := Lib.hid hrow
    have PB := Lib.hid hpb
    have PO := Lib.hid hpo
    have PG := Lib.hid hpg
    have NZ := Lib.hid (Blk.ne_ hb1 hpb (fun e => htp e.symm))
    have NR := Lib.hid (hrow.ne hpb htp2)
    have NG := Lib.hid (Blk.ne_ hb1 hT1.top (by decide))
    have NRZ := Lib.hid (hrow.ne hb1 (by decide))
    have NRG := Lib.hid (hrow.ne hT1.top (by decide))
    have B1 := Lib.hid hb1
    unfold Rw.v at hpc
    simp only at hpc
    have hpl : pb < W1.heap.size := World.block_lt_of_cell? _ _ hpc
    have hzl : w.heap.size < W1.heap.size := hb1.lt
    have cg0 := cell_grown (a := ⟨pb, po, none⟩) hpl hpc
    have cg1 := cell_grown (a := ⟨w.heap.size, 0, none⟩) hzl z0
    have cg2 := cell_grown (a := ⟨w.heap.size, 1, none⟩) hzl z1
    have hmix : Tryz.prog.follows .mixedOrders = true := by kernel_rfl
    clear hT1 hp hs hrow hsl hel hkl hb1 hg1 hpb hpo htp htp2 hpg hpc hpl hzl z0 z1 hj
    go_wp2_with fail
    go_quiet_grown ((go_at_call 80; exact grown_call HBS.out _ _))
    have hg2 : Grew W1 (grow (W1.drewN nq) osq) := grew_grown _ _
    generalize grow (W1.drewN nq) osq = W2 at *
    clear cg0 cg1 cg2 hmix HBS
    have G2 := Lib.hid hg2
    have hb2 := hg2.box B1.out
    have z0 : W2.cell? ⟨w.heap.size, 0, none⟩ = some (.int .i64 x.id.t) := hb2.cell' rfl
    have z1 : W2.cell? ⟨w.heap.size, 1, none⟩ = some (.int .i64 x.id.s) := hb2.cell' rfl
    have z2 : W2.cell? ⟨w.heap.size, 2, none⟩ = some (.int .i64 x.ref.t) := hb2.cell' rfl
    have z3 : W2.cell? ⟨w.heap.size, 3, none⟩ = some (.int .i64 x.ref.s) := hb2.cell' rfl
    have z4 : W2.cell? ⟨w.heap.size, 4, none⟩ = some (.int .i32 x.rune) := hb2.cell' rfl
    have z5 : W2.cell? ⟨w.heap.size, 5, none⟩ = some (.int .i64 x.st) := hb2.cell' rfl
    have hpc2 : W2.cell? ⟨pb, po, none⟩ = some (.slice sa sn sc) := by
      have h9 := (hg2.box PB.out).cell' PO.out
      rw [HS.out] at h9
      exact h9
    have hn2 : ¬ W2.heap.size = pb := World.new_ne _ _ hpc2
    have hn3 : ¬ pb = W2.heap.size := fun e => hn2 e.symm
    have hlb : (Rw.mk sa sn sc).v = Value.slice sa sn sc := rfl
    have B2 := Lib.hid hb2
    have hel : (ndC x ++ [Value.slice none 0 0]).toArray = #[.int .i64 x.id.t, .int .i64 x.id.s, .int .i64 x.ref.t, .int .i64 x.ref.s, .int .i32 x.rune, .int .i64 x.st, .slice none 0 0] := rfl
    have hE3 : Blk (W2.alloc (.cells (ndC x ++ [Value.slice none 0 0]).toArray 97)) W2.heap.size 97 (ndC x ++ [Value.slice none 0 0]).toArray := Blk.new W2 _ _
    have hE4 := hE3.alloc (.cells #[.pointer (some ⟨W2.heap.size, 0, none⟩)] 89)
    have hL4 := Blk.new (W2.alloc (.cells (ndC x ++ [Value.slice none 0 0]).toArray 97)) 89 #[.pointer (some ⟨W2.heap.size, 0, none⟩)]
    have hK4 : Kept (fun _ => False) W1 ((W2.alloc (.cells (ndC x ++ [Value.slice none 0 0]).toArray 97)).alloc (.cells #[.pointer (some ⟨W2.heap.size, 0, none⟩)] 89)) := (hg2.kept.alloc _).alloc _
    have hs2 : W1.heap.size ≤ W2.heap.size := hg2.kept.size
    have S2 := Lib.hid hs2
    have hpc3 : (W2.alloc (.cells (ndC x ++ [Value.slice none 0 0]).toArray 97)).cell? ⟨pb, po, none⟩ = some (.slice sa sn sc) := ((Kept.refl _ W2).alloc _).cell hpc2
    rw [World.size_alloc] at hL4
    rw [hel] at hpc3
    rw [hel] at hE4 hL4 hK4
    clear hb2 hg2 hel hE3 hlb hs2
    go_wp2_with fail
    obtain ⟨W4, hW4⟩ : ∃ W4, ((W2.alloc (.cells #[.int .i64 x.id.t, .int .i64 x.id.s, .int .i64 x.ref.t, .int .i64 x.ref.s, .int .i32 x.rune, .int .i64 x.st, .slice none 0 0] 97)).alloc (.cells #[.pointer (some ⟨W2.heap.size, 0, none⟩)] 89)) = W4 := ⟨_, rfl⟩
    rw [hW4] at hE4 hL4 hK4 ⊢
    clear hW4 hpc2 hpc3 hn2 hn3 z0 z1 z2 z3 z4 z5
    have E4 := Lib.hid hE4
    have K4 := Lib.hid hK4
    have hjk : j ≤ ((kids L x.ref).map fun n => A n.id).length := by rw [← HJ.out, List.length_map]; exact (List.takeWhile_prefix _).length_le
    have INS := Lib.hid (insP_any (HR.out.keep hK4 (fun _ _ h => h)) (by rw [List.length_map]; exact HK.out) hjk hL4 (fun b hb e => by
      have h1 : b < W1.heap.size := by
        rcases HR.out with ⟨h0, _⟩ | ⟨b', cap, h0, hO⟩
        · rw [h0] at hb; cases hb
        · rw [h0] at hb; cases hb; exact hO.lt
      have := S2.out
      omega))
    clear hE4 hL4 hK4 hjk
    refine INS.out.mono ?_
    rintro e w3 ⟨⟨sa', sn', sc'⟩, rfl, hR3, hS3, hK3⟩
    have hb4 := K4.out.blk (fun h => h) B1.out
    have hb5 := hK3.blk (fun h => NRZ.out _ h rfl) hb4
    have hp5 := hK3.blk (fun h => NR.out _ h rfl) (K4.out.blk (fun h => h) PB.out)
    have ht5 := hK3.blk (fun h => NRG.out _ h rfl) (K4.out.blk (fun h => h) T1.out.top)
    have hst : w3.cell? ⟨pb, po, none⟩ = some (S x.ref).v := hp5.cell' PO.out
    have hsf : w3.frozen? ⟨pb, po, none⟩ = false := hp5.frozen po
    obtain ⟨W5, hW5⟩ : ∃ W5, w3.setCell ⟨pb, po, none⟩ (.slice sa' sn' sc') = W5 := ⟨_, rfl⟩
    have hg1 : W5.cell? ⟨g, 1, none⟩ = some (.map (some mb)) := by
      rw [← hW5]
      by_cases e : pb = g
      · rw [PG.out e, e]
        exact (ht5.set_ 0 _).cell' (by simp)
      · exact (ht5.far (fun h => e h.symm) _).cell' rfl
    have hb6 := hb5.far (p := ⟨pb, po, none⟩) NZ.out (.slice sa' sn' sc')
    rw [hW5] at hb6
    have z0 : W5.cell? ⟨w.heap.size, 0, none⟩ = some (.int .i64 x.id.t) := hb6.cell' rfl
    have z1 : W5.cell? ⟨w.heap.size, 1, none⟩ = some (.int .i64 x.id.s) := hb6.cell' rfl
    obtain ⟨kvs, hmk, hkok, hkl, hkg⟩ : ∃ kvs, MapK keyI W mb kvs ∧ KeysOk kvs ∧ kvs.length = L.length ∧ ∀ y, getK kvs y = if y ∈ ids L then some (.pointer (some ⟨A y, 0, none⟩)) else none := by
      rcases TW.out.by_ with ⟨h0, _⟩ | ⟨b, kvs, h0, h1⟩
      · cases h0
      · cases h0; exact ⟨kvs, h1⟩
    have hm5 : MapK keyI W5.drew mb kvs := by
      have h1 : MapK keyI W4 mb kvs := (hmk.keep G1.out.kept (fun h => h)).keep K4.out (fun h => h)
      have h2 : MapK keyI w3 mb kvs := h1.keep hK3 (fun h => by
        rcases HR.out with ⟨h0, _⟩ | ⟨b', cap, h0, cs, h3, _⟩
        · rw [h0] at h; cases h
        · rw [h0] at h; cases h; exact (hmk.keep G1.out.kept (fun h => h)).ne_blk h3 rfl)
      have h3 : MapK keyI W5 mb kvs := by
        rw [← hW5]
        exact h2.keep (((Kept.refl (fun k => k = pb) w3).setCell (fun _ => rfl) _)) (fun e => h2.ne_blk hp5 e.symm)
      exact h3.keep ((Kept.refl (fun _ => False) W5).drew) (fun h => h)
    obtain ⟨w7, hup0, hM7, hk7⟩ := run_updateK (P := Tryz.prog) (k := x.id) Tryz.underlying28 hm5 (.pointer (some ⟨W2.heap.size, 0, none⟩))
    have hup : (Instr.mapUpdate 28 (.map (some mb)) (.agg #[.int .i64 x.id.t, .int .i64 x.id.s]) (.pointer (some ⟨W2.heap.size, 0, none⟩))).run Tryz.prog W5.drew = .ok () w7 := hup0
    have R3 := Lib.hid hR3
    have S3 := Lib.hid hS3
    have K3 := Lib.hid hK3
    have W5e := Lib.hid hW5
    have MK := Lib.hid hmk
    have KO := Lib.hid hkok
    have KL := Lib.hid hkl
    have KG := Lib.hid hkg
    have M7 := Lib.hid hM7
    have K7 := Lib.hid hk7
    unfold Rw.v
    simp only
    clear hb4 hb5 hp5 ht5 hR3 hS3 hK3 hb6 hmk hkok hkl hkg hm5 hup0 hM7 hk7
    go_wp2_with fail
    go_region
    go_wp2
    go_end0
    refine put_close HD.out HX.out.1 HX.out.2.1 HX.out.2.2.1 HX.out.2.2.2 (KW.out.mono fun b _ h => .inl h) hFT.out TW.out (G1.out.kept.trans K4.out fun _ _ h => h) ?_ E4.out ?_ HJ.out R3.out (by rw [HS.out]; exact S3.out) (by rw [HS.out]; exact K3.out) ⟨kvs, MK.out, KO.out, KL.out, KG.out, M7.out⟩ ?_
    · exact Nat.le_trans KW.out.size (Nat.le_trans G1.out.kept.size S2.out)
    · exact Nat.le_trans G1.out.kept.size S2.out
    · rw [HP.out]
      show Kept _ (w3.setCell ⟨pb, po, none⟩ (.slice sa' sn' sc')) w7
      rw [W5e.out]
      exact ((Kept.refl _ W5).drew).trans K7.out fun _ _ h => h
end Go.Proofs.YtlafodnaifghcaaGreat.Tr
namespace Go.Proofs.YtlafodnaifghcaaGreat.Tr
open Go.RowKit
def noDefer (o : Oper) : Bool := match o.op with | .defer _ => false | _ => true
theorem noDefer_spec {o : Oper} (h : noDefer o = true) : ∀ c, o.op ≠ .defer c := fun c e => by
  unfold noDefer at h
  rw [e] at h
  cases h
theorem wpIn_round {F : Fence} {n : Nat} {P : Program} {o : Oper} {a : Act} {w : World} {K : Act → World → Prop} {Q : Exit → Act → World → Prop} (l : Nat) (hd : noDefer o = true) (h : o.wpIn F n P a w K Q) : o.wpIn (F.inRound l) n P a w K Q := by
  unfold Oper.wpIn at *
  refine ⟨h.1, ?_⟩
  have h2 := h.2
  rw [Oper.semAt_eq _ _ _ (noDefer_spec hd)] at h2 ⊢
  generalize (execOp a.eval o).run P w = r at *
  cases r with
  | ok x w' => cases x <;> exact h2
  | halt x w' => cases x <;> exact h2
theorem wpAnyIn_round {F : Fence} {n : Nat} {P : Program} {md : Region.Mode} {ops : Array Oper} {Q : Exit → Act → World → Prop} (l : Nat) (hd : ops.all noDefer = true) : ∀ (fuel : Nat) (listed : Array Bool) (a : Act) (w : World), wpAnyIn F n P md ops Q fuel listed a w → wpAnyIn (F.inRound l) n P md ops Q fuel listed a w
  | 0, _, _, _, h => h
  | fuel + 1, listed, a, w, h => by
    refine ⟨h.1, fun i hi => ?_⟩
    have h2 := wpOpIn_mono (fun a' w' => wpAnyIn_round l hd fuel (listed.setIfInBounds i true) a' w') (h.2 i hi)
    unfold wpOpIn at h2 ⊢
    cases ho : ops[i]? with
    | none => rw [ho] at h2; exact h2
    | some o =>
      rw [ho] at h2
      simp only at h2 ⊢
      have hdo : noDefer o = true := by
        obtain ⟨hi2, e⟩ := Array.getElem?_eq_some_iff.1 ho
        have h5 := Array.all_eq_true.1 hd i hi2
        rwa [e] at h5
      by_cases hw : Region.wanted o (yielded ops a.tmps) = true
      · rw [if_pos hw] at h2 ⊢
        exact wpIn_round l hdo h2
      · rw [if_neg hw] at h2 ⊢
        exact h2
end Go.Proofs.YtlafodnaifghcaaGreat.Tr
