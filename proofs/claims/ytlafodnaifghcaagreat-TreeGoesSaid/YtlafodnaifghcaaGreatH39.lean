/- hearsaylaw11.does: a step that looks at a place. hearsaylaw11.does: a step that loads. A document is told by the set of its elements: plainly. hearsaylaw11.does: any step. A tree, the document's row in a box of its own. -/
import Derived.Test.YtlafodnaifghcaaGreatH36
import Derived.Test.YtlafodnaifghcaaGreatH37
import Derived.Deep.DeepCutAuto
import Derived.Test.YtlafodnaifghcaaGreatH16
import Derived.Test.YtlafodnaifghcaaGreatH3
import Derived.Test.YtlafodnaifghcaaGreatH38
namespace Go.Proofs.YtlafodnaifghcaaGreat.Tr
open Go.RowKit Go.Sort Go.Proofs.YtlafodnaifghcaaGreat.St Go.Proofs.YtlafodnaifghcaaGreat Go.Proofs.YtlafodnaifghcaaGreat.Gl
attribute [local go_sem] Oper.semAt_some
set_option maxRecDepth 100000 in
set_option maxHeartbeats 8000000 in
theorem does7_any {X : Nat → Prop} {w0 w : World} {g : Nat} {L : List Nd} {v rv : Value} {Y : Nat → Prop} (h : PT X w0 w g L L v Y) (hlen : L.length ≤ 600000) (hI : ∀ n ∈ L, n.id.Is) (i ref : ID) (s : ByteArray) (a b : Int) :
    Calls Tryz.prog 10 #[.pointer (some ⟨g, 0, none⟩), .agg #[v], .agg #[.int .i64 7, .int .i64 i.t, .int .i64 i.s, .int .i64 ref.t, .int .i64 ref.s, .string s, rv, .int .i64 a, .int .i64 b]] w fun e w' =>
      ∃ u, e = .returned (.tuple #[.pointer (some ⟨g, 0, none⟩), .agg #[u], .bool true]) ∧ PT X w0 w' g L L u (grown Y w w') ∧ Kept (chg X Y) w w' := by
  obtain ⟨it, is⟩ := i
  obtain ⟨rt, rs⟩ := ref
  show Calls _ _ #[_, _, .agg #[.int .i64 7, .int .i64 it, .int .i64 is, .int .i64 rt, .int .i64 rs, .string s, rv, .int .i64 a, .int .i64 b]] _ _
  have hI' := Lib.hid hI
  obtain ⟨va, vc, hv0, _, _⟩ := h.row.sl
  have HV0 := Lib.hid hv0
  clear hv0
  obtain ⟨hb, hk0⟩ := DB.made w v (.int .i64 7) (.int .i64 it) (.int .i64 is) (.int .i64 rt) (.int .i64 rs) (.string s) rv (.int .i64 a) (.int .i64 b) (.slice none 0 0)
  go_enter Tryz.func10, Tryz.ntmps10
  go_upto_region 1 with fail
  obtain ⟨z, hz⟩ : ∃ z, w.heap.size = z := ⟨_, rfl⟩
  obtain ⟨W, hW⟩ : ∃ W, ((w.alloc (.cells #[v] 33)).alloc (.cells #[.int .i64 7, .int .i64 it, .int .i64 is, .int .i64 rt, .int .i64 rs, .string s, rv, .int .i64 a, .int .i64 b] 40)).alloc (.cells #[.slice none 0 0] 33) = W := ⟨_, rfl⟩
  rw [hW, hz] at hb
  rw [hW] at hk0
  rw [hz, hW]
  have HZ : Hid (w.heap.size = z ∧ z + 1 + 1 < W.heap.size) := Lib.hid ⟨hz, hb.b2.lt⟩
  have D0 := Lib.hid (h.dt hk0)
  have B0 := Lib.hid hb
  have K0 := Lib.hid hk0
  obtain ⟨c0, ck, c1, c2, c3, c4, c5, cr, ca, cb⟩ := hb.cells
  clear hW hz hb hk0
  obtain ⟨p, hp⟩ : ∃ p, (atP L a).1.t = p := ⟨_, rfl⟩
  obtain ⟨q, hq⟩ : ∃ q, (atP L a).1.s = q := ⟨_, rfl⟩
  obtain ⟨x, hx⟩ : ∃ x, (atP L a).2 = x := ⟨_, rfl⟩
  have INS := Lib.hid (D0.out.pt.look (by omega) a)
  rw [hp, hq, hx] at INS
  have RIN := Lib.hid (fun (W1 : World) (h1 : PT X w0 W1 g L L v (grown Y W W1)) => h1.rlook (by omega) a)
  rw [hp, hq, hx] at RIN
  clear h hI hp hq hx
  go_upto_region 32 with (go_at_call 22; refine INS.out.mono ?_; rintro e w2 ⟨rfl, hk⟩; have D2 := Lib.hid (D0.out.still hk); have B2 := Lib.hid (B0.out.still hk); clear hk)
  clear c0 ck c1 c2 c3 c4 c5 cr ca cb
  have ky : Kept (fun _ => False) w2 (w2.alloc (.cells #[.int .i64 p, .int .i64 q] 37)) := (Kept.refl _ _).alloc _
  have by' := Blk.new w2 37 #[.int .i64 p, .int .i64 q]
  have hzy1 : z + 1 + 1 < w2.heap.size := B2.out.b2.lt
  obtain ⟨w3, hw3⟩ : ∃ w3, w2.alloc (.cells #[.int .i64 p, .int .i64 q] 37) = w3 := ⟨_, rfl⟩
  obtain ⟨zy, hzy⟩ : ∃ zy, w2.heap.size = zy := ⟨_, rfl⟩
  rw [hw3] at ky by' ⊢
  rw [hzy] at by' hzy1 ⊢
  have D3 := Lib.hid (D2.out.still ky)
  have B3 := Lib.hid (B2.out.still ky)
  have Y3 := Lib.hid by'
  have HY := Lib.hid hzy1
  (obtain ⟨d0, dk, d1, d2, d3, d4, d5, dr, da, db⟩ := B3.out.cells)
  clear ky by' hw3 hzy hzy1
  go_upto_region 33 with (go_at_call 39; refine (RIN.out _ D3.out.pt).mono ?_; rintro e w4 ⟨rfl, hk⟩; have D4 := Lib.hid (D3.out.still hk); have B4 := Lib.hid (B3.out.still hk); have Y4 := Lib.hid (hk.blk (fun h => h) Y3.out); clear hk)
  clear d0 dk d1 d2 d3 d4 d5 dr da db
  have ky : Kept (fun _ => False) w4 (w4.alloc (.cells #[.int .i64 p, .int .i64 q] 37)) := (Kept.refl _ _).alloc _
  have by' := Blk.new w4 37 #[.int .i64 p, .int .i64 q]
  have hzx1 : z + 1 + 1 < w4.heap.size := B4.out.b2.lt
  obtain ⟨w5, hw5⟩ : ∃ w5, w4.alloc (.cells #[.int .i64 p, .int .i64 q] 37) = w5 := ⟨_, rfl⟩
  obtain ⟨zx, hzx⟩ : ∃ zx, w4.heap.size = zx := ⟨_, rfl⟩
  rw [hw5] at ky by' ⊢
  rw [hzx] at by' hzx1 ⊢
  have D5 := Lib.hid (D4.out.still ky)
  have B5 := Lib.hid (B4.out.still ky)
  have Y5 := Lib.hid (ky.blk (fun h => h) Y4.out)
  have X5 := Lib.hid by'
  have HX := Lib.hid hzx1
  clear ky by' hw5 hzx hzx1
  have hv0 := HV0.out
  clear HV0
  subst hv0
  have XK : Hid (∀ W1, Kept (fun _ => False) w5 W1 → (W1.cell? ⟨z, 0, none⟩ = some (.slice va L.length vc) ∧ W1.cell? ⟨zy, 0, none⟩ = some (.int .i64 p) ∧ W1.cell? ⟨zy, 1, none⟩ = some (.int .i64 q) ∧ W1.cell? ⟨zx, 0, none⟩ = some (.int .i64 p) ∧ W1.cell? ⟨zx, 1, none⟩ = some (.int .i64 q))) := Lib.hid fun W1 hk => ⟨(B5.out.still hk).cells.1, (hk.blk (fun h => h) Y5.out).cell' (i := 0) rfl, (hk.blk (fun h => h) Y5.out).cell' (i := 1) rfl, (hk.blk (fun h => h) X5.out).cell' (i := 0) rfl, (hk.blk (fun h => h) X5.out).cell' (i := 1) rfl⟩
  have XS : Hid ((w5.setCell ⟨z + 1 + 1, 0, none⟩ (.slice va L.length vc)).cell? ⟨z, 0, none⟩ = some (.slice va L.length vc) ∧ (w5.setCell ⟨z + 1 + 1, 0, none⟩ (.slice va L.length vc)).cell? ⟨zy, 0, none⟩ = some (.int .i64 p) ∧ (w5.setCell ⟨z + 1 + 1, 0, none⟩ (.slice va L.length vc)).cell? ⟨zy, 1, none⟩ = some (.int .i64 q) ∧ (w5.setCell ⟨z + 1 + 1, 0, none⟩ (.slice va L.length vc)).cell? ⟨zx, 0, none⟩ = some (.int .i64 p) ∧ (w5.setCell ⟨z + 1 + 1, 0, none⟩ (.slice va L.length vc)).cell? ⟨zx, 1, none⟩ = some (.int .i64 q)) := Lib.hid (by
    have h1 := (kept_cell w5 (z + 1 + 1) (.slice va L.length vc)).blk (by have := HY.out; omega) Y5.out
    have h2 := (kept_cell w5 (z + 1 + 1) (.slice va L.length vc)).blk (by have := HX.out; omega) X5.out
    exact ⟨(B5.out.set_ _).cells.1, h1.cell' (i := 0) rfl, h1.cell' (i := 1) rfl, h2.cell' (i := 0) rfl, h2.cell' (i := 1) rfl⟩)
  obtain ⟨y0, f0⟩ := B5.out.ans
  go_wp2_with fail
  go_region_held3 (fun W1 : World => W1.cell? ⟨z, 0, none⟩ = some (.slice va L.length vc) ∧ W1.cell? ⟨zy, 0, none⟩ = some (.int .i64 p) ∧ W1.cell? ⟨zy, 1, none⟩ = some (.int .i64 q) ∧ W1.cell? ⟨zx, 0, none⟩ = some (.int .i64 p) ∧ W1.cell? ⟨zx, 1, none⟩ = some (.int .i64 q)) (first | exact XK.out _ (Kept.refl _ _) | exact XK.out _ (Kept.refl _ _).drew | exact XS.out) (fail)
  all_goals go_wp2_with fail
  have c9 := (B5.out.set_ (.slice va L.length vc)).b2.cell' (i := 0) (v := .slice va L.length vc) rfl
  have hk9 := kept_cell w5 (z + 1 + 1) (.slice va L.length vc)
  obtain ⟨hp9, hq9⟩ := (D5.out.store (x := z + 1 + 1) (by have := HZ.out.1; omega) HZ.out.2 hk9.drew).fin
  exact bodyPost_ret (v := .tuple #[.pointer (some ⟨g, 0, none⟩), .agg #[.slice va L.length vc], .bool true]) (by simp [results, Tryz.results10, go_sem, c9]) rfl ⟨_, rfl, hp9, hq9⟩
end Go.Proofs.YtlafodnaifghcaaGreat.Tr
namespace Go.Proofs.YtlafodnaifghcaaGreat.Tr
open Go.RowKit Go.Sort Go.Proofs.YtlafodnaifghcaaGreat.St Go.Proofs.YtlafodnaifghcaaGreat Go.Proofs.YtlafodnaifghcaaGreat.Gl
attribute [local go_sem] Oper.semAt_some
set_option maxRecDepth 100000 in
set_option maxHeartbeats 8000000 in
theorem does8_any {X : Nat → Prop} {w0 w : World} {g : Nat} {L : List Nd} {v rv : Value} {Y : Nat → Prop} (h : PT X w0 w g L L v Y) (hlen : L.length ≤ 600000) (hI : ∀ n ∈ L, n.id.Is) (i ref : ID) (s : ByteArray) (a b : Int) (hz : loadC L = 0) (hr : ∀ n ∈ L, isRuneP n.rune) :
    Calls Tryz.prog 10 #[.pointer (some ⟨g, 0, none⟩), .agg #[v], .agg #[.int .i64 8, .int .i64 i.t, .int .i64 i.s, .int .i64 ref.t, .int .i64 ref.s, .string s, rv, .int .i64 a, .int .i64 b]] w fun e w' =>
      ∃ g' u, e = .returned (.tuple #[.pointer (some ⟨g', 0, none⟩), .agg #[u], .bool true]) ∧ PT X w0 w' g' L L u (grown Y w w') ∧ Kept (chg X Y) w w' := by
  obtain ⟨it, is⟩ := i
  obtain ⟨rt, rs⟩ := ref
  show Calls _ _ #[_, _, .agg #[.int .i64 8, .int .i64 it, .int .i64 is, .int .i64 rt, .int .i64 rs, .string s, rv, .int .i64 a, .int .i64 b]] _ _
  have hI' := Lib.hid hI
  obtain ⟨va, vc, hv0, _, _⟩ := h.row.sl
  have HV0 := Lib.hid hv0
  clear hv0
  obtain ⟨hb, hk0⟩ := DB.made w v (.int .i64 8) (.int .i64 it) (.int .i64 is) (.int .i64 rt) (.int .i64 rs) (.string s) rv (.int .i64 a) (.int .i64 b) (.slice none 0 0)
  go_enter Tryz.func10, Tryz.ntmps10
  go_upto_region 1 with fail
  obtain ⟨z, hz⟩ : ∃ z, w.heap.size = z := ⟨_, rfl⟩
  obtain ⟨W, hW⟩ : ∃ W, ((w.alloc (.cells #[v] 33)).alloc (.cells #[.int .i64 8, .int .i64 it, .int .i64 is, .int .i64 rt, .int .i64 rs, .string s, rv, .int .i64 a, .int .i64 b] 40)).alloc (.cells #[.slice none 0 0] 33) = W := ⟨_, rfl⟩
  rw [hW, hz] at hb
  rw [hW] at hk0
  rw [hz, hW]
  have HZ : Hid (w.heap.size = z ∧ z + 1 + 1 < W.heap.size) := Lib.hid ⟨hz, hb.b2.lt⟩
  have D0 := Lib.hid (h.dt hk0)
  have B0 := Lib.hid hb
  have K0 := Lib.hid hk0
  obtain ⟨c0, ck, c1, c2, c3, c4, c5, cr, ca, cb⟩ := hb.cells
  clear hW hz hb hk0
  have INS := Lib.hid (D0.out.pt.nodes (by omega))
  have LOD := Lib.hid (fun (W1 : World) (h1 : PT X w0 W1 g L L v (grown Y W W1)) (lv : Value) (hl : SlAt nodeE W1 lv L) => h1.load hl (by omega) hz)
  have ALK := Lib.hid (fun (W1 : World) (g' : Nat) (h1 : PT X w0 W1 g' L L v (grown Y W W1)) => h1.alike (by omega) hr)
  clear h hI hz hr
  go_upto_region 36 with (first
    | (go_at_call 40; refine INS.out.mono ?_; rintro e w2 ⟨⟨na, nc, rfl, hn⟩, hk⟩; have D2 := Lib.hid (D0.out.still hk); have B2 := Lib.hid (B0.out.still hk); have N2 := Lib.hid hn; clear hk hn)
    | (go_at_call 12; refine (LOD.out _ D2.out.pt _ N2.out).mono ?_; rintro e w3 ⟨g', rfl, hp, hk⟩; have D3 := Lib.hid (D2.out.next hp hk); have B3 := Lib.hid (B2.out.still hk); (obtain ⟨d0, dk, d1, d2, d3, d4, d5, dr, da, db⟩ := B3.out.cells); clear hp hk))
  clear c0 ck c1 c2 c3 c4 c5 cr ca cb
  go_upto_region 38 with (go_at_call 11; refine (ALK.out _ _ D3.out.pt).mono ?_; rintro e w4 ⟨rfl, hk⟩; have D4 := Lib.hid (D3.out.still hk); have B4 := Lib.hid (B3.out.still hk); (obtain ⟨x0, xk, x1, x2, x3, x4, x5, xr, xa, xb⟩ := B4.out.cells); (obtain ⟨y0, f0⟩ := B4.out.ans); clear hk)
  clear d0 dk d1 d2 d3 d4 d5 dr da db
  have hv0 := HV0.out
  clear HV0
  subst hv0
  have x10 := (B4.out.set_ (.slice va L.length vc)).cells.1
  go_wp2_with fail
  go_region_held3 (fun W : World => W.cell? ⟨z, 0, none⟩ = some (.slice va L.length vc)) (first | exact x0 | exact x10) (fail)
  all_goals go_wp2_with fail
  have c9 := (B4.out.set_ (.slice va L.length vc)).b2.cell' (i := 0) (v := .slice va L.length vc) rfl
  have hk9 := kept_cell w4 (z + 1 + 1) (.slice va L.length vc)
  obtain ⟨hp9, hq9⟩ := (D4.out.store (x := z + 1 + 1) (by have := HZ.out.1; omega) HZ.out.2 hk9.drew).fin
  exact bodyPost_ret (v := .tuple #[.pointer (some ⟨g', 0, none⟩), .agg #[.slice va L.length vc], .bool true]) (by simp [results, Tryz.results10, go_sem, c9]) rfl ⟨_, _, rfl, hp9, hq9⟩
end Go.Proofs.YtlafodnaifghcaaGreat.Tr
namespace Go.Proofs.YtlafodnaifghcaaGreat.Tr
open Go.Proofs.YtlafodnaifghcaaGreat.St
theorem sorted_same : ∀ {A B : List Nd}, (A.Pairwise fun a b => b.id.lt a.id) → (B.Pairwise fun a b => b.id.lt a.id) → (∀ n, n ∈ A ↔ n ∈ B) → A = B
  | [], [], _, _, _ => rfl
  | [], b :: B, _, _, h => by have := (h b).2 List.mem_cons_self; simp at this
  | a :: A, [], _, _, h => by have := (h a).1 List.mem_cons_self; simp at this
  | a :: A, b :: B, hA, hB, h => by
    obtain ⟨a1, a2⟩ := List.pairwise_cons.1 hA
    obtain ⟨b1, b2⟩ := List.pairwise_cons.1 hB
    have e : a = b := by
      rcases List.mem_cons.1 ((h a).1 List.mem_cons_self) with h1 | h1
      · exact h1
      · rcases List.mem_cons.1 ((h b).2 List.mem_cons_self) with h2 | h2
        · exact h2.symm
        · exact absurd (ID.lt_trans (a1 b h2) (b1 a h1)) (ID.lt_irrefl _)
    subst e
    have hn : ∀ n, n ∈ A ↔ n ∈ B := by
      intro n
      constructor
      · intro hn
        rcases List.mem_cons.1 ((h n).1 (List.mem_cons_of_mem _ hn)) with h1 | h1
        · subst h1; exact absurd (a1 n hn) (ID.lt_irrefl _)
        · exact h1
      · intro hn
        rcases List.mem_cons.1 ((h n).2 (List.mem_cons_of_mem _ hn)) with h1 | h1
        · subst h1; exact absurd (b1 n hn) (ID.lt_irrefl _)
        · exact h1
    rw [sorted_same a2 b2 hn]
mutual
theorem flat_same {L L' : List Nd} (hk : ∀ s, kids L s = kids L' s) : ∀ (t t' : T), t.n = t'.n → (∀ u ∈ subs t, kids L u.n.id = u.ks.map T.n) → (∀ u ∈ subs t', kids L' u.n.id = u.ks.map T.n) → flat t = flat t'
  | .mk n ks, .mk n' ks', e, h, h' => by
    have e : n = n' := e
    subst e
    show n :: flats ks = n :: flats ks'
    have h1 := h (.mk n ks) List.mem_cons_self
    have h2 := h' (.mk n ks') List.mem_cons_self
    have e1 : ks.map T.n = ks'.map T.n := h1.symm.trans ((hk n.id).trans h2)
    rw [flats_same hk ks ks' e1 (fun u hu => h u (List.mem_cons_of_mem _ hu)) (fun u hu => h' u (List.mem_cons_of_mem _ hu))]
theorem flats_same {L L' : List Nd} (hk : ∀ s, kids L s = kids L' s) : ∀ (F F' : List T), F.map T.n = F'.map T.n → (∀ u ∈ subss F, kids L u.n.id = u.ks.map T.n) → (∀ u ∈ subss F', kids L' u.n.id = u.ks.map T.n) → flats F = flats F'
  | [], [], _, _, _ => rfl
  | [], t' :: ts', e, _, _ => by simp at e
  | t :: ts, [], e, _, _ => by simp at e
  | t :: ts, t' :: ts', e, h, h' => by
    have e : t.n :: ts.map T.n = t'.n :: ts'.map T.n := e
    injection e with e1 e2
    show flat t ++ flats ts = flat t' ++ flats ts'
    rw [flat_same hk t t' e1 (fun u hu => h u (List.mem_append.2 (.inl hu))) (fun u hu => h' u (List.mem_append.2 (.inl hu))),
      flats_same hk ts ts' e2 (fun u hu => h u (List.mem_append.2 (.inr hu))) (fun u hu => h' u (List.mem_append.2 (.inr hu)))]
end
theorem Doc.kids_sorted {L : List Nd} (h : Doc L) (s : ID) : (kids L s).Pairwise fun a b => b.id.lt a.id := by
  obtain ⟨F, rfl, hw, hnd⟩ := h
  by_cases hz : s = ID.zero
  · rw [hz, kids_root hw]
    exact hw.sorted
  · by_cases hs : s ∈ ids (flats F)
    · obtain ⟨n, hn, e⟩ := List.mem_map.1 hs
      rw [← subss_flat] at hn
      obtain ⟨u, hu, rfl⟩ := List.mem_map.1 hn
      rw [← e, kids_subs F hw hnd u hu]
      obtain ⟨r', hr'⟩ := WFs.sub F hw u hu
      exact ((WF.eq.1 hr').2.2).sorted
    · rw [kids_none]
      · exact List.Pairwise.nil
      · intro m hm e
        rcases hw.refs m hm with h1 | h1
        · exact hz (e.symm.trans h1)
        · exact hs (e ▸ h1)
/-- the same elements, the same document -/
theorem Doc.uniq {L L' : List Nd} (h : Doc L) (h' : Doc L') (hm : ∀ n, n ∈ L ↔ n ∈ L') : L = L' := by
  have hk : ∀ s, kids L s = kids L' s := fun s => sorted_same (h.kids_sorted s) (h'.kids_sorted s) fun n => by
    unfold kids
    rw [List.mem_filter, List.mem_filter, hm n]
  obtain ⟨F, e1, hw, hnd⟩ := h
  obtain ⟨F', e2, hw', hnd'⟩ := h'
  subst e1 e2
  have e : F.map T.n = F'.map T.n := (kids_root hw).symm.trans ((hk ID.zero).trans (kids_root hw'))
  exact flats_same hk F F' e (fun u hu => kids_subs F hw hnd u hu) (fun u hu => kids_subs F' hw' hnd' u hu)
theorem puts_mem {y : Nd} : ∀ {xs L : List Nd}, y ∈ puts L xs ↔ y ∈ L ∨ y ∈ xs
  | [], L => by simp [puts]
  | x :: xs, L => by
    show y ∈ puts (put L _ x) xs ↔ _
    rw [puts_mem, put_mem, List.mem_cons]
    constructor
    · rintro ((h | h) | h)
      · exact .inr (.inl h)
      · exact .inl h
      · exact .inr (.inr h)
    · rintro (h | h | h)
      · exact .inl (.inr h)
      · exact .inl (.inl h)
      · exact .inr h
/-- what may stand in a document one by one -/
theorem offs_doc {L : List Nd} (h : Doc L) (hi : ∀ n ∈ L, n.id.Is ∧ isRuneP n.rune ∧ 1 ≤ n.st ∧ n.st ≤ 3) : offsC [] L = 0 := by
  have hnd := h.nodup
  obtain ⟨F, hF, hw, _⟩ := h
  have key : ∀ (K P : List Nd), L = P ++ K → offsC (ids P) K = 0 := by
    intro K
    induction K with
    | nil => intro P _; rfl
    | cons x K ih =>
      intro P e
      have hx : x ∈ L := by rw [e]; simp
      obtain ⟨h1, h2, h3, h4⟩ := hi x hx
      have href : x.ref = ID.zero ∨ x.ref ∈ ids P := WFs.ahead F hw P K x (hF.trans e)
      have hrl : x.ref.lt x.id := by
        rw [← hF, ← subss_flat] at hx
        obtain ⟨u, hu, rfl⟩ := List.mem_map.1 hx
        obtain ⟨r', hr'⟩ := WFs.sub F hw u hu
        have := WF.eq.1 hr'
        rw [this.1]
        exact this.2.1
      have hnx : x.id ∉ ids P := by
        intro hm
        rw [e] at hnd
        have h9 : (ids P ++ ids (x :: K)).Nodup := by rw [← ids_append]; exact hnd
        exact (List.nodup_append.1 h9).2.2 x.id hm x.id (List.mem_map.2 ⟨x, List.mem_cons_self, rfl⟩) rfl
      have h0 : offC (ids P) x = 0 := by
        unfold offC
        rw [if_neg, if_neg, if_neg (fun h => h hrl), if_neg hnx, if_neg (fun h => href.elim h.1 h.2)]
        · rintro (h | h | h)
          · exact h h2
          · omega
          · omega
        · rintro (h | h)
          · exact h h1
          · rcases href with h5 | h5
            · exact h.1 h5
            · obtain ⟨n, hn, en⟩ := List.mem_map.1 h5
              exact h.2 (by rw [← en]; exact (hi n (by rw [e]; exact List.mem_append.2 (.inl hn))).1)
      unfold offsC
      rw [if_neg (fun h => h h0)]
      have h9 := ih (P ++ [x]) (by rw [e]; simp)
      rw [ids_append] at h9
      exact h9
  exact key L [] rfl
/-- a document's elements load as the document -/
theorem load_doc {L : List Nd} (h : Doc L) (hi : ∀ n ∈ L, n.id.Is ∧ isRuneP n.rune ∧ 1 ≤ n.st ∧ n.st ≤ 3) : loadC L = 0 ∧ puts [] L = L := by
  have h0 := offs_doc h hi
  have h1 : puts [] L = L := (puts_doc L [] Doc.nil h0).uniq h fun n => by rw [puts_mem]; simp
  refine ⟨?_, h1⟩
  unfold loadC
  rw [if_neg (fun hh => hh h0), if_pos h1]
end Go.Proofs.YtlafodnaifghcaaGreat.Tr
namespace Go.Proofs.YtlafodnaifghcaaGreat.Tr
open Go.RowKit Go.Sort Go.Proofs.YtlafodnaifghcaaGreat.St Go.Proofs.YtlafodnaifghcaaGreat Go.Proofs.YtlafodnaifghcaaGreat.Gl
set_option maxRecDepth 10000 in
theorem decode_isRune (s : ByteArray) (i : Nat) : isRuneP ((Utf8.decode s i).1 : Int) := by
  have h0 := (s.get! i).toNat_lt
  have h1 := (s.get! (i + 1)).toNat_lt
  have h2 := (s.get! (i + 2)).toNat_lt
  have h3 := (s.get! (i + 3)).toNat_lt
  obtain ⟨x, hx⟩ : ∃ x, Utf8.decode s i = x := ⟨_, rfl⟩
  rw [hx]
  simp only [Utf8.decode, Nat.add_zero] at hx
  simp only [Bool.and_eq_true, beq_iff_eq, decide_eq_true_iff, Gl.valid_iff] at hx
  generalize (s.get! i).toNat = a at *
  generalize (s.get! (i + 1)).toNat = b at *
  generalize (s.get! (i + 2)).toNat = c at *
  generalize (s.get! (i + 3)).toNat = d at *
  have hE : Utf8.runeError = 65533 := rfl
  rw [hE] at hx
  unfold isRuneP
  repeat' split at hx
  all_goals
    subst hx
    dsimp only
    omega
theorem runesL_isRune {s : ByteArray} {i : Nat} {r : Int} (h : r ∈ runesL s i) : isRuneP r := by
  unfold runesL at h
  obtain ⟨j, _, rfl⟩ := List.mem_map.1 h
  exact decode_isRune s j
theorem fresh_ok : ∀ {rs : List Int} {i ref : ID} {y : Nd}, y ∈ freshL i ref rs → y.rune ∈ rs ∧ y.st = 1
  | [], _, _, _, h => by simp [freshL] at h
  | r :: rs, i, ref, y, h => by
    simp only [freshL, List.mem_cons] at h
    rcases h with rfl | h
    · exact ⟨List.mem_cons_self .., rfl⟩
    · exact ⟨List.mem_cons_of_mem _ (fresh_ok h).1, (fresh_ok h).2⟩
/-- what a step leaves of the document -/
noncomputable def goOn (x : StV) (rs : List Run) (L : List Nd) : List Nd :=
  if x.kind = 1 then insL L x.id x.ref x.text.size (badB x.text) (runesL x.text 0)
  else if x.kind = 2 then L.map (turnF rs 1 2) else if x.kind = 3 then L.map (turnF rs 2 3) else if x.kind = 4 then collR L else L
/-- what stays of the elements through any steps -/
structure OkN (L : List Nd) (N : Nat) : Prop where
  len : L.length ≤ N
  ok : ∀ n ∈ L, isRuneP n.rune ∧ 1 ≤ n.st ∧ n.st ≤ 3
theorem OkN.turned {L : List Nd} {N M : Nat} (h : OkN L N) (hM : N ≤ M) (rs : List Run) {fr tz : Int} (ht : 1 ≤ tz ∧ tz ≤ 3) : OkN (L.map (turnF rs fr tz)) M := by
  refine ⟨by rw [List.length_map]; exact Nat.le_trans h.len hM, fun n hn => ?_⟩
  obtain ⟨m, hm, rfl⟩ := List.mem_map.1 hn
  have h9 := h.ok m hm
  unfold turnF
  split
  · exact ⟨h9.1, ht⟩
  · exact h9
theorem OkN.step {L : List Nd} {N : Nat} (h : OkN L N) (x : StV) (rs : List Run) : OkN (goOn x rs L) (N + x.text.size) := by
  have hN : N ≤ N + x.text.size := Nat.le_add_right _ _
  have hL : OkN L (N + x.text.size) := ⟨Nat.le_trans h.len hN, h.ok⟩
  unfold goOn
  split
  · unfold insL
    split
    · exact hL
    · refine ⟨?_, fun n hn => ?_⟩
      · have h1 := countR_le x.text
        have h2 := runesL_len x.text
        have h3 := h.len
        simp only [List.length_append, List.length_take, List.length_drop, freshL_len]
        omega
      · rcases List.mem_append.1 hn with hn | hn
        · rcases List.mem_append.1 hn with hn | hn
          · exact h.ok n (List.mem_of_mem_take hn)
          · obtain ⟨a, b⟩ := fresh_ok hn
            exact ⟨runesL_isRune a, by omega, by omega⟩
        · exact h.ok n (List.mem_of_mem_drop hn)
  · split
    · exact h.turned hN rs (by decide)
    · split
      · exact h.turned hN rs (by decide)
      · split
        · exact ⟨Nat.le_trans (collR_sub L).length_le hL.len, fun n hn => h.ok n ((collR_sub L).subset hn)⟩
        · exact hL
theorem PT.is {X : Nat → Prop} {w0 w : World} {g : Nat} {L M : List Nd} {v : Value} {Y : Nat → Prop} (h : PT X w0 w g L M v Y) : ∀ n ∈ L, n.id.Is := by
  obtain ⟨F, h1, _⟩ := h.tree
  exact h1.is
theorem PT.doc {X : Nat → Prop} {w0 w : World} {g : Nat} {L M : List Nd} {v : Value} {Y : Nat → Prop} (h : PT X w0 w g L M v Y) : Doc L := by
  obtain ⟨F, h1, _⟩ := h.tree
  exact h1.doc
def DoesPost (X : Nat → Prop) (w0 w : World) (L' : List Nd) (Y : Nat → Prop) (e : Ending) (w' : World) : Prop := ∃ g' ua uc, e = .returned (.tuple #[.pointer (some ⟨g', 0, none⟩), .agg #[.slice ua L'.length uc], .bool true]) ∧ PT X w0 w' g' L' L' (.slice ua L'.length uc) (grown Y w w') ∧ Kept (chg X Y) w w'
theorem does_post {X : Nat → Prop} {w0 w w' : World} {L' : List Nd} {Y : Nat → Prop} {e : Ending} {g : Nat} (h : ∃ u, e = .returned (.tuple #[.pointer (some ⟨g, 0, none⟩), .agg #[u], .bool true]) ∧ PT X w0 w' g L' L' u (grown Y w w') ∧ Kept (chg X Y) w w') : DoesPost X w0 w L' Y e w' := by
  obtain ⟨u, he, hp, hk⟩ := h
  obtain ⟨ua, uc, rfl, _, _⟩ := hp.row.sl
  exact ⟨g, ua, uc, he, hp, hk⟩
theorem does_any {X : Nat → Prop} {w0 w : World} {g : Nat} {L : List Nd} {v : Value} {Y : Nat → Prop} (h : PT X w0 w g L L v Y) {N : Nat} (ho : OkN L N) (hN : N ≤ 600000) {x : StV} {rs : List Run} (hs : StepIn w0 x rs) (hrl : rs.length ≤ 1000000) (ht : x.text.size ≤ 100000) :
    Calls Tryz.prog 10 #[.pointer (some ⟨g, 0, none⟩), .agg #[v], .agg #[.int .i64 x.kind, .int .i64 x.id.t, .int .i64 x.id.s, .int .i64 x.ref.t, .int .i64 x.ref.s, .string x.text, .slice x.runs.a x.runs.n x.runs.c, .int .i64 x.i, .int .i64 x.n]] w (DoesPost X w0 w (goOn x rs L) Y) := by
  obtain ⟨k, i, ref, s, r, a, b⟩ := x
  have hlen : L.length ≤ 600000 := Nat.le_trans ho.len hN
  have hI := h.is
  by_cases k1 : k = 1
  · subst k1
    exact (does1_any h hlen hI i ref s a b ht).mono fun _ _ h9 => does_post h9
  by_cases k2 : k = 2
  · subst k2
    exact (does2_any h hlen hI i ref s a b hs.row hrl hs.rin).mono fun _ _ h9 => does_post h9
  by_cases k3 : k = 3
  · subst k3
    exact (does3_any h hlen hI i ref s a b hs.row hrl hs.rin).mono fun _ _ h9 => does_post h9
  by_cases k4 : k = 4
  · subst k4
    exact (does4_any h hlen hI i ref s a b).mono fun _ _ h9 => does_post h9
  have hsame : goOn ⟨k, i, ref, s, r, a, b⟩ rs L = L := by unfold goOn; rw [if_neg k1, if_neg k2, if_neg k3, if_neg k4]
  rw [hsame]
  by_cases k5 : k = 5
  · subst k5
    exact (does5_any h hlen hI i ref s a b ⟨hs.nums.2.1, hs.nums.2.2⟩).mono fun _ _ h9 => does_post h9
  by_cases k6 : k = 6
  · subst k6
    exact (does6_any h hlen hI i ref s a b).mono fun _ _ h9 => does_post h9
  by_cases k7 : k = 7
  · subst k7
    exact (does7_any h hlen hI i ref s a b).mono fun _ _ h9 => does_post h9
  by_cases k8 : k = 8
  · subst k8
    refine (does8_any h hlen hI i ref s a b (load_doc h.doc fun n hn => ⟨hI n hn, ho.ok n hn⟩).1 fun n hn => (ho.ok n hn).1).mono ?_
    rintro e w' ⟨g', u, he, hp, hk⟩
    exact does_post ⟨u, he, hp, hk⟩
  exact (does0_any h hlen hI i ref s a b k1 k2 k3 k4 k5 k6 k7 k8).mono fun _ _ h9 => does_post h9
end Go.Proofs.YtlafodnaifghcaaGreat.Tr
namespace Go.Proofs.YtlafodnaifghcaaGreat.Tr
open Go.RowKit Go.Sort Go.Proofs.YtlafodnaifghcaaGreat.St Go.Proofs.YtlafodnaifghcaaGreat Go.Proofs.YtlafodnaifghcaaGreat.Gl
/-- the pair, and a box of the document's row -/
structure PJ (X : Nat → Prop) (w0 : World) (z : Nat) (g : Nat) (L : List Nd) (v : Value) (Y : Nat → Prop) (W : World) : Prop where
  pt : PT X w0 W g L L v Y
  box : Blk W z 33 #[v]
  far : w0.heap.size ≤ z ∧ ¬ Y z
section
variable {X : Nat → Prop} {w0 W W' : World} {z g g' : Nat} {L L' : List Nd} {v v' : Value} {Y : Nat → Prop}
theorem PJ.keep {S : Nat → Prop} (h : PJ X w0 z g L v Y W) (hk : Kept S W W') (hS : ∀ b, S b → w0.heap.size ≤ b ∧ ¬ Y b ∧ ¬ b = z) : PJ X w0 z g L v Y W' :=
  ⟨h.pt.keep hk fun b hb => ⟨(hS b hb).1, (hS b hb).2.1⟩, hk.blk (fun h9 => (hS z h9).2.2 rfl) h.box, h.far⟩
theorem PJ.still (h : PJ X w0 z g L v Y W) (hk : Kept (fun _ => False) W W') : PJ X w0 z g L v Y W' := h.keep hk fun _ h => h.elim
theorem PJ.cell (h : PJ X w0 z g L v Y W) : W.cell? ⟨z, 0, none⟩ = some v := h.box.cell' (i := 0) rfl
theorem PJ.kept (h : PJ X w0 z g L v Y W) : Kept (fun _ => False) w0 W := h.pt.kept
/-- a call of does, its row laid into the box -/
theorem PJ.does (h : PJ X w0 z g L v Y W) (hp : PT X w0 W' g' L' L' v' (grown Y W W')) (hk : Kept (chg X Y) W W') : PJ X w0 z g' L' v' (grown Y W W') (W'.setCell ⟨z, 0, none⟩ v') ∧ Kept (fun b => chg X Y b ∨ b = z) W (W'.setCell ⟨z, 0, none⟩ v') := by
  have hz : ¬ grown Y W W' z := fun h9 => h9.elim h.far.2 fun h8 => by have := h.box.lt; omega
  exact ⟨⟨hp.keep (kept_cell W' z v') fun b hb => by subst hb; exact ⟨h.far.1, hz⟩, (hk.blk (fun h9 => h.far.2 h9.1) h.box).set_ 0 v', h.far.1, hz⟩, (hk.mono fun _ _ h => .inl h).trans (kept_cell W' z v') fun b _ hb => .inr hb⟩
theorem PJ.drew (h : PJ X w0 z g L v Y W) : PJ X w0 z g L v Y W.drew := h.still (Kept.refl _ _).drew
theorem PJ.out (h : PJ X w0 z g L v Y W) {b : Nat} (hb : Y b ∨ b = z) : w0.heap.size ≤ b := hb.elim (fun h9 => (h.pt.room b h9).1) fun e => by rw [e]; exact h.far.1
/-- none -/
theorem pt_made {w0 w : World} (hk : Kept (fun _ => False) w0 w) : PT (fun _ => False) w0 (w.alloc (.cells #[.slice none 0 0, .map none] 30)) w.heap.size [] [] (.slice none 0 0) (· = w.heap.size) :=
  ⟨hk.alloc _, ⟨_, TBox.made w, fun b hb => ⟨⟨hb, id⟩, fun e => by cases e⟩⟩, .inl ⟨rfl, rfl⟩, .inl rfl, fun b hb => (by cases hb), fun b hb => by subst hb; exact ⟨hk.size, by rw [World.size_alloc]; omega⟩, fun b hb => hb.elim⟩
/-- the box of none -/
theorem PT.boxed {w : World} (h : PT X w0 w g L L v Y) : PJ X w0 w.heap.size g L v Y (w.alloc (.cells #[v] 33)) :=
  ⟨h.still ((Kept.refl _ _).alloc _), Blk.new w _ _, h.kept.size, fun h9 => by have := (h.room _ h9).2; omega⟩
theorem okN_nil (N : Nat) : OkN [] N := ⟨Nat.zero_le _, fun n hn => by simp at hn⟩
end
/-- two pairs, apart from one another -/
structure TJ (w0 : World) (zc zd a b : Nat) (M : List Nd) (v : Value) (Ya : Nat → Prop) (M' : List Nd) (v' : Value) (Yb : Nat → Prop) (W : World) : Prop where
  one : PJ (fun _ => False) w0 zc a M v Ya W
  two : PJ (fun _ => False) w0 zd b M' v' Yb W
  apart : ∀ x, Ya x → ¬ Yb x
  sep : ¬ Ya zd ∧ ¬ Yb zc ∧ ¬ zc = zd
section
variable {w0 W W' : World} {zc zd a b g' : Nat} {M M' L' : List Nd} {v v' u : Value} {Ya Yb : Nat → Prop}
theorem TJ.swap (h : TJ w0 zc zd a b M v Ya M' v' Yb W) : TJ w0 zd zc b a M' v' Yb M v Ya W :=
  ⟨h.two, h.one, fun x hb ha => h.apart x ha hb, h.sep.2.1, h.sep.1, fun e => h.sep.2.2 e.symm⟩
theorem TJ.still (h : TJ w0 zc zd a b M v Ya M' v' Yb W) (hk : Kept (fun _ => False) W W') : TJ w0 zc zd a b M v Ya M' v' Yb W' := ⟨h.one.still hk, h.two.still hk, h.apart, h.sep⟩
theorem TJ.drew (h : TJ w0 zc zd a b M v Ya M' v' Yb W) : TJ w0 zc zd a b M v Ya M' v' Yb W.drew := h.still (Kept.refl _ _).drew
theorem TJ.first (h : TJ w0 zc zd a b M v Ya M' v' Yb W) (hp : PT (fun _ => False) w0 W' g' L' L' u (grown Ya W W')) (hk : Kept (chg (fun _ => False) Ya) W W') : TJ w0 zc zd g' b L' u (grown Ya W W') M' v' Yb (W'.setCell ⟨zc, 0, none⟩ u) := by
  obtain ⟨h1, h2⟩ := h.one.does hp hk
  refine ⟨h1, h.two.keep h2 fun x hx => ⟨h.one.out (hx.imp (fun h9 => h9.1) id), fun hy => hx.elim (fun h9 => h.apart x h9.1 hy) fun e => h.sep.2.1 (e ▸ hy), fun e => hx.elim (fun h9 => h.sep.1 (e ▸ h9.1)) fun e2 => h.sep.2.2 (e2.symm.trans e)⟩, ?_, ?_, h.sep.2⟩
  · rintro x (hx | hx) hy
    · exact h.apart x hx hy
    · have := (h.two.pt.room x hy).2; omega
  · rintro (hx | hx)
    · exact h.sep.1 hx
    · have := h.two.box.lt; omega
theorem TJ.second (h : TJ w0 zc zd a b M v Ya M' v' Yb W) (hp : PT (fun _ => False) w0 W' g' L' L' u (grown Yb W W')) (hk : Kept (chg (fun _ => False) Yb) W W') : TJ w0 zc zd a g' M v Ya L' u (grown Yb W W') (W'.setCell ⟨zd, 0, none⟩ u) := (h.swap.first hp hk).swap
end
/-- the steps' own runs, each step's -/
def StepsIn (w : World) (L : List StV) : Prop := ∀ s ∈ L, ∃ rs, StepIn w s rs
theorem StepIn.len {w : World} {s : StV} {rs : List Run} (h : StepIn w s rs) (hn : s.runs.n ≤ 400) : rs.length ≤ 1000000 := by
  obtain ⟨a, c, e, _, _⟩ := h.row.sl
  have e9 : s.runs.n = rs.length := by injection e
  omega
theorem textN_take (L : List StV) (n : Nat) : textN (L.take n) ≤ textN L := by
  have h := List.take_append_drop n L
  have h2 : textN L = textN (L.take n) + textN (L.drop n) := by
    conv => lhs; rw [← h]
    unfold textN
    rw [List.map_append, List.sum_append]
  omega
end Go.Proofs.YtlafodnaifghcaaGreat.Tr
