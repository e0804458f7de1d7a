/- hearsaylaw11.does: a step that collects. hearsaylaw11.does: a step that asks for the identifiers of a stretch. hearsaylaw11.does: a step that finds. hearsaylaw11.does: a step that looks at a place. hearsaylaw11.does: a step that loads. A document is told by the set of its elements: plainly. -/
import Derived.Test.YtlafodnaifghcaaGreatG37
import Derived.Test.YtlafodnaifghcaaGreatG38
import Derived.Deep.DeepCutAuto
import Derived.Test.YtlafodnaifghcaaGreatG16
import Derived.Test.YtlafodnaifghcaaGreatG3
namespace Go.Proofs.YtlafodnaifghcaaGreat.Tr
open Go.RowKit Go.Sort Go.Proofs.YtlafodnaifghcaaGreat.St Go.Proofs.YtlafodnaifghcaaGreat Go.Proofs.YtlafodnaifghcaaGreat.Gl
attribute [local go_sem] Oper.semAt_some
set_option maxRecDepth 100000 in
set_option maxHeartbeats 8000000 in
theorem does4_any {w0 w : World} {g : Nat} {L : List Nd} {v rv : Value} {Y : Nat → Prop} (h : PT w0 w g L L v Y) (hlen : L.length ≤ 600000) (hI : ∀ n ∈ L, n.id.Is) (i ref : ID) (s : ByteArray) (a b : Int) :
    Calls Tryz.prog 10 #[.pointer (some ⟨g, 0, none⟩), .agg #[v], .agg #[.int .i64 4, .int .i64 i.t, .int .i64 i.s, .int .i64 ref.t, .int .i64 ref.s, .string s, rv, .int .i64 a, .int .i64 b]] w fun e w' =>
      ∃ u, e = .returned (.tuple #[.pointer (some ⟨g, 0, none⟩), .agg #[u], .bool true]) ∧ PT w0 w' g (collR L) (collR L) u (grown Y w w') ∧ Kept Y w w' := by
  obtain ⟨it, is⟩ := i
  obtain ⟨rt, rs⟩ := ref
  show Calls _ _ #[_, _, .agg #[.int .i64 4, .int .i64 it, .int .i64 is, .int .i64 rt, .int .i64 rs, .string s, rv, .int .i64 a, .int .i64 b]] _ _
  have hI' := Lib.hid hI
  obtain ⟨M, hM⟩ : ∃ M, collR L = M := ⟨_, rfl⟩
  rw [hM]
  obtain ⟨hb, hk0⟩ := DB.made w v (.int .i64 4) (.int .i64 it) (.int .i64 is) (.int .i64 rt) (.int .i64 rs) (.string s) rv (.int .i64 a) (.int .i64 b) (.slice none 0 0)
  go_enter Tryz.func10, Tryz.ntmps10
  go_upto_region 1 with fail
  obtain ⟨z, hz⟩ : ∃ z, w.heap.size = z := ⟨_, rfl⟩
  obtain ⟨W, hW⟩ : ∃ W, ((w.alloc (.cells #[v] 33)).alloc (.cells #[.int .i64 4, .int .i64 it, .int .i64 is, .int .i64 rt, .int .i64 rs, .string s, rv, .int .i64 a, .int .i64 b] 40)).alloc (.cells #[.slice none 0 0] 33) = W := ⟨_, rfl⟩
  rw [hW, hz] at hb
  rw [hW] at hk0
  rw [hz, hW]
  have HZ : Hid (w.heap.size = z ∧ z + 1 + 1 < W.heap.size) := Lib.hid ⟨hz, hb.b2.lt⟩
  have D0 := Lib.hid (h.dt hk0)
  have B0 := Lib.hid hb
  have K0 := Lib.hid hk0
  obtain ⟨c0, ck, c1, c2, c3, c4, c5, cr, ca, cb⟩ := hb.cells
  clear hW hz hb hk0
  obtain ⟨E, hE⟩ : ∃ E, collN L = E := ⟨_, rfl⟩
  have INS := Lib.hid (D0.out.pt.coll (by omega))
  rw [hE, hM] at INS
  have RIN := Lib.hid (fun (W1 : World) (h1 : PT w0 W1 g M L v (grown Y W W1)) => h1.rcoll (by omega))
  rw [hE, hM] at RIN
  clear h hI hE hM
  go_upto_region 20 with (go_at_call 27; refine INS.out.mono ?_; rintro e w2 ⟨rfl, hp, hk⟩; have D2 := Lib.hid (D0.out.turn hp hk); have B2 := Lib.hid (B0.out.op D0.out hk HZ.out.1 HZ.out.2); (obtain ⟨d0, dk, d1, d2, d3, d4, d5, dr, da, db⟩ := B2.out.cells); have hs2 := hk.size; have P2 := Lib.hid (D2.out.pt.wide (Y' := grown Y W w2) (fun _ h => h) D2.out.pt.room); clear hp hk hs2)
  clear c0 ck c1 c2 c3 c4 c5 cr ca cb
  go_upto_region 21 with (go_at_call 36; refine (RIN.out _ P2.out).mono ?_; rintro e w3 ⟨u, rfl, hp, hk3⟩; (obtain ⟨ua, uc, rfl, _, _⟩ := hp.row.sl); have D3 := Lib.hid (D2.out.next hp hk3); have B3 := Lib.hid (B2.out.still hk3); clear hp)
  clear d0 dk d1 d2 d3 d4 d5 dr da db
  have kx : Kept (fun _ => False) w3 (w3.alloc (.cells #[.slice ua M.length uc] 33)) := (Kept.refl _ _).alloc _
  have bx := Blk.new w3 33 #[.slice ua M.length uc]
  have hzx1 : z + 1 + 1 < w3.heap.size := B3.out.b2.lt
  obtain ⟨w4, hw4⟩ : ∃ w4, w3.alloc (.cells #[.slice ua M.length uc] 33) = w4 := ⟨_, rfl⟩
  obtain ⟨zx, hzx⟩ : ∃ zx, w3.heap.size = zx := ⟨_, rfl⟩
  rw [hw4] at kx bx ⊢
  rw [hzx] at bx hzx1 ⊢
  have DX := Lib.hid (D3.out.still kx)
  have BX := Lib.hid (B3.out.still kx)
  have hne : ¬ zx = z + 1 + 1 := by omega
  have x0 := bx.cell' (i := 0) (v := .slice ua M.length uc) rfl
  have x1 := ((kept_cell w4 (z + 1 + 1) (.slice ua M.length uc)).blk hne bx).cell' (i := 0) (v := .slice ua M.length uc) rfl
  obtain ⟨y0, f0⟩ := BX.out.ans
  clear kx bx hw4 hzx hzx1 hne
  go_wp2_with fail
  go_region_held3 (fun W : World => W.cell? ⟨zx, 0, none⟩ = some (.slice ua M.length uc)) (first | exact x0 | exact x1) (fail)
  all_goals go_wp2_with fail
  have c9 := (BX.out.set_ (.slice ua M.length uc)).b2.cell' (i := 0) (v := .slice ua M.length uc) rfl
  have hk9 := kept_cell w4 (z + 1 + 1) (.slice ua M.length uc)
  obtain ⟨hp9, hq9⟩ := (DX.out.store (x := z + 1 + 1) (by have := HZ.out.1; omega) HZ.out.2 hk9.drew).fin
  exact bodyPost_ret (v := .tuple #[.pointer (some ⟨g, 0, none⟩), .agg #[.slice ua M.length uc], .bool true]) (by simp [results, Tryz.results10, go_sem, c9]) rfl ⟨_, rfl, hp9, hq9⟩
end Go.Proofs.YtlafodnaifghcaaGreat.Tr
namespace Go.Proofs.YtlafodnaifghcaaGreat.Tr
open Go.RowKit Go.Sort Go.Proofs.YtlafodnaifghcaaGreat.St Go.Proofs.YtlafodnaifghcaaGreat Go.Proofs.YtlafodnaifghcaaGreat.Gl
attribute [local go_sem] Oper.semAt_some
set_option maxRecDepth 100000 in
set_option maxHeartbeats 8000000 in
theorem does5_any {w0 w : World} {g : Nat} {L : List Nd} {v rv : Value} {Y : Nat → Prop} (h : PT w0 w g L L v Y) (hlen : L.length ≤ 600000) (hI : ∀ n ∈ L, n.id.Is) (i ref : ID) (s : ByteArray) (a b : Int) (hx : I64 a ∧ I64 b) :
    Calls Tryz.prog 10 #[.pointer (some ⟨g, 0, none⟩), .agg #[v], .agg #[.int .i64 5, .int .i64 i.t, .int .i64 i.s, .int .i64 ref.t, .int .i64 ref.s, .string s, rv, .int .i64 a, .int .i64 b]] w fun e w' =>
      ∃ u, e = .returned (.tuple #[.pointer (some ⟨g, 0, none⟩), .agg #[u], .bool true]) ∧ PT w0 w' g L L u (grown Y w w') ∧ Kept Y w w' := by
  obtain ⟨it, is⟩ := i
  obtain ⟨rt, rs⟩ := ref
  show Calls _ _ #[_, _, .agg #[.int .i64 5, .int .i64 it, .int .i64 is, .int .i64 rt, .int .i64 rs, .string s, rv, .int .i64 a, .int .i64 b]] _ _
  have hI' := Lib.hid hI
  obtain ⟨va, vc, hv0, _, _⟩ := h.row.sl
  have HV0 := Lib.hid hv0
  clear hv0
  obtain ⟨hb, hk0⟩ := DB.made w v (.int .i64 5) (.int .i64 it) (.int .i64 is) (.int .i64 rt) (.int .i64 rs) (.string s) rv (.int .i64 a) (.int .i64 b) (.slice none 0 0)
  go_enter Tryz.func10, Tryz.ntmps10
  go_upto_region 1 with fail
  obtain ⟨z, hz⟩ : ∃ z, w.heap.size = z := ⟨_, rfl⟩
  obtain ⟨W, hW⟩ : ∃ W, ((w.alloc (.cells #[v] 33)).alloc (.cells #[.int .i64 5, .int .i64 it, .int .i64 is, .int .i64 rt, .int .i64 rs, .string s, rv, .int .i64 a, .int .i64 b] 40)).alloc (.cells #[.slice none 0 0] 33) = W := ⟨_, rfl⟩
  rw [hW, hz] at hb
  rw [hW] at hk0
  rw [hz, hW]
  have HZ : Hid (w.heap.size = z ∧ z + 1 + 1 < W.heap.size) := Lib.hid ⟨hz, hb.b2.lt⟩
  have D0 := Lib.hid (h.dt hk0)
  have B0 := Lib.hid hb
  have K0 := Lib.hid hk0
  obtain ⟨c0, ck, c1, c2, c3, c4, c5, cr, ca, cb⟩ := hb.cells
  clear hW hz hb hk0
  have INS := Lib.hid (D0.out.pt.span (by omega) hx)
  have RIN := Lib.hid (fun (W1 : World) (h1 : PT w0 W1 g L L v (grown Y W W1)) => h1.rspan (by omega) hx)
  clear h hI hx
  go_upto_region 24 with (go_at_call 23; refine INS.out.mono ?_; rintro e w2 ⟨u, R, k, rfl, hu, hs, hk⟩; have D2 := Lib.hid (D0.out.still hk); have B2 := Lib.hid (B0.out.still hk); have U2 := Lib.hid hu; have S2 := Lib.hid hs; (obtain ⟨d0, dk, d1, d2, d3, d4, d5, dr, da, db⟩ := B2.out.cells); clear hk hu hs)
  clear c0 ck c1 c2 c3 c4 c5 cr ca cb
  go_upto_region 25 with (go_at_call 37; refine (RIN.out _ D2.out.pt).mono ?_; rintro e w3 ⟨u', R', k', rfl, hu, hs, hk3⟩; (obtain ⟨rfl, rfl⟩ := S2.out.same hs); have D3 := Lib.hid (D2.out.still hk3); have B3 := Lib.hid (B2.out.still hk3); have U3 := Lib.hid (U2.out.kept hk3); have V3 := Lib.hid hu; (obtain ⟨x0, xk, x1, x2, x3, x4, x5, xr, xa, xb⟩ := B3.out.cells); (obtain ⟨y0, f0⟩ := B3.out.ans); clear hk3 hu hs)
  clear d0 dk d1 d2 d3 d4 d5 dr da db
  have HR := Lib.hid (S2.out.few (by omega))
  have RUN : Hid (∀ W1, Kept (fun _ => False) w3 W1 → Calls Tryz.prog 28 #[u, u'] W1 fun e w' => e = .returned (.bool true) ∧ Kept (fun _ => False) w3 w') := Lib.hid fun W1 hk => (lruns_eq (U3.out.kept hk) (V3.out.kept hk) HR.out).mono fun e w' h9 => by
    obtain ⟨he, n, rfl⟩ := h9
    rw [decide_eq_true rfl] at he
    exact ⟨he, hk.drewN n⟩
  have hv0 := HV0.out
  clear HV0
  subst hv0
  have XK : Hid (∀ W1, Kept (fun _ => False) w3 W1 → W1.cell? ⟨z, 0, none⟩ = some (.slice va L.length vc) ∧ (W1.setCell ⟨z + 1 + 1, 0, none⟩ (.slice va L.length vc)).cell? ⟨z, 0, none⟩ = some (.slice va L.length vc)) := Lib.hid fun W1 hk => ⟨(B3.out.still hk).cells.1, ((B3.out.still hk).set_ _).cells.1⟩
  go_wp2_with fail
  go_region_held3 (fun W : World => W.cell? ⟨z, 0, none⟩ = some (.slice va L.length vc)) (first | exact (XK.out _ (Kept.refl _ _)).1 | exact (XK.out _ (Kept.refl _ _).drew).1 | exact (XK.out _ K5.out).1 | exact (XK.out _ K5.out).2 | exact (XK.out _ K5.out.drew).2) ((go_at_call 28; (first | refine (RUN.out _ (Kept.refl _ _)).mono ?_ | refine (RUN.out _ (Kept.refl _ _).drew).mono ?_); rintro e w5 ⟨rfl, hk⟩; have K5 := Lib.hid hk; (obtain ⟨y5, f5⟩ := (B3.out.still hk).ans); clear hk))
  all_goals go_wp2_with fail
  have B5 := Lib.hid (B3.out.still K5.out)
  have D5 := Lib.hid (D3.out.still K5.out)
  have c9 := (B5.out.set_ (.slice va L.length vc)).b2.cell' (i := 0) (v := .slice va L.length vc) rfl
  have hk9 := kept_cell w5 (z + 1 + 1) (.slice va L.length vc)
  obtain ⟨hp9, hq9⟩ := (D5.out.store (x := z + 1 + 1) (by have := HZ.out.1; omega) HZ.out.2 hk9).fin
  exact bodyPost_ret (v := .tuple #[.pointer (some ⟨g, 0, none⟩), .agg #[.slice va L.length vc], .bool true]) (by simp [results, Tryz.results10, go_sem, c9]) rfl ⟨_, rfl, hp9, hq9⟩
end Go.Proofs.YtlafodnaifghcaaGreat.Tr
namespace Go.Proofs.YtlafodnaifghcaaGreat.Tr
open Go.RowKit Go.Sort Go.Proofs.YtlafodnaifghcaaGreat.St Go.Proofs.YtlafodnaifghcaaGreat Go.Proofs.YtlafodnaifghcaaGreat.Gl
attribute [local go_sem] Oper.semAt_some
set_option maxRecDepth 100000 in
set_option maxHeartbeats 8000000 in
theorem does6_any {w0 w : World} {g : Nat} {L : List Nd} {v rv : Value} {Y : Nat → Prop} (h : PT w0 w g L L v Y) (hlen : L.length ≤ 600000) (hI : ∀ n ∈ L, n.id.Is) (i ref : ID) (s : ByteArray) (a b : Int) :
    Calls Tryz.prog 10 #[.pointer (some ⟨g, 0, none⟩), .agg #[v], .agg #[.int .i64 6, .int .i64 i.t, .int .i64 i.s, .int .i64 ref.t, .int .i64 ref.s, .string s, rv, .int .i64 a, .int .i64 b]] w fun e w' =>
      ∃ u, e = .returned (.tuple #[.pointer (some ⟨g, 0, none⟩), .agg #[u], .bool true]) ∧ PT w0 w' g L L u (grown Y w w') ∧ Kept Y w w' := by
  obtain ⟨it, is⟩ := i
  obtain ⟨rt, rs⟩ := ref
  show Calls _ _ #[_, _, .agg #[.int .i64 6, .int .i64 it, .int .i64 is, .int .i64 rt, .int .i64 rs, .string s, rv, .int .i64 a, .int .i64 b]] _ _
  have hI' := Lib.hid hI
  obtain ⟨va, vc, hv0, _, _⟩ := h.row.sl
  have HV0 := Lib.hid hv0
  clear hv0
  obtain ⟨hb, hk0⟩ := DB.made w v (.int .i64 6) (.int .i64 it) (.int .i64 is) (.int .i64 rt) (.int .i64 rs) (.string s) rv (.int .i64 a) (.int .i64 b) (.slice none 0 0)
  go_enter Tryz.func10, Tryz.ntmps10
  go_upto_region 1 with fail
  obtain ⟨z, hz⟩ : ∃ z, w.heap.size = z := ⟨_, rfl⟩
  obtain ⟨W, hW⟩ : ∃ W, ((w.alloc (.cells #[v] 33)).alloc (.cells #[.int .i64 6, .int .i64 it, .int .i64 is, .int .i64 rt, .int .i64 rs, .string s, rv, .int .i64 a, .int .i64 b] 40)).alloc (.cells #[.slice none 0 0] 33) = W := ⟨_, rfl⟩
  rw [hW, hz] at hb
  rw [hW] at hk0
  rw [hz, hW]
  have HZ : Hid (w.heap.size = z ∧ z + 1 + 1 < W.heap.size) := Lib.hid ⟨hz, hb.b2.lt⟩
  have D0 := Lib.hid (h.dt hk0)
  have B0 := Lib.hid hb
  have K0 := Lib.hid hk0
  obtain ⟨c0, ck, c1, c2, c3, c4, c5, cr, ca, cb⟩ := hb.cells
  clear hW hz hb hk0
  obtain ⟨p, hp⟩ : ∃ p, (findP L ⟨it, is⟩).1 = p := ⟨_, rfl⟩
  obtain ⟨q, hq⟩ : ∃ q, (findP L ⟨it, is⟩).2 = q := ⟨_, rfl⟩
  have INS := Lib.hid (D0.out.pt.find (by omega) ⟨it, is⟩)
  rw [hp, hq] at INS
  have RIN := Lib.hid (fun (W1 : World) (h1 : PT w0 W1 g L L v (grown Y W W1)) => h1.rfind (by omega) ⟨it, is⟩)
  rw [hp, hq] at RIN
  clear h hI hp hq
  go_upto_region 28 with (go_at_call 25; refine INS.out.mono ?_; rintro e w2 ⟨rfl, hk⟩; have D2 := Lib.hid (D0.out.still hk); have B2 := Lib.hid (B0.out.still hk); (obtain ⟨d0, dk, d1, d2, d3, d4, d5, dr, da, db⟩ := B2.out.cells); clear hk)
  clear c0 ck c1 c2 c3 c4 c5 cr ca cb
  go_upto_region 29 with (go_at_call 38; refine (RIN.out _ D2.out.pt).mono ?_; rintro e w3 ⟨rfl, hk3⟩; have D3 := Lib.hid (D2.out.still hk3); have B3 := Lib.hid (B2.out.still hk3); (obtain ⟨x0, xk, x1, x2, x3, x4, x5, xr, xa, xb⟩ := B3.out.cells); (obtain ⟨y0, f0⟩ := B3.out.ans))
  clear d0 dk d1 d2 d3 d4 d5 dr da db
  have hv0 := HV0.out
  clear HV0
  subst hv0
  have x1 := (B3.out.set_ (.slice va L.length vc)).cells.1
  go_wp2_with fail
  go_region_held3 (fun W : World => W.cell? ⟨z, 0, none⟩ = some (.slice va L.length vc)) (first | exact x0 | exact x1) (fail)
  all_goals go_wp2_with fail
  have c9 := (B3.out.set_ (.slice va L.length vc)).b2.cell' (i := 0) (v := .slice va L.length vc) rfl
  have hk9 := kept_cell w3 (z + 1 + 1) (.slice va L.length vc)
  obtain ⟨hp9, hq9⟩ := (D3.out.store (x := z + 1 + 1) (by have := HZ.out.1; omega) HZ.out.2 hk9.drew).fin
  exact bodyPost_ret (v := .tuple #[.pointer (some ⟨g, 0, none⟩), .agg #[.slice va L.length vc], .bool true]) (by simp [results, Tryz.results10, go_sem, c9]) rfl ⟨_, rfl, hp9, hq9⟩
end Go.Proofs.YtlafodnaifghcaaGreat.Tr
namespace Go.Proofs.YtlafodnaifghcaaGreat.Tr
open Go.RowKit Go.Sort Go.Proofs.YtlafodnaifghcaaGreat.St Go.Proofs.YtlafodnaifghcaaGreat Go.Proofs.YtlafodnaifghcaaGreat.Gl
attribute [local go_sem] Oper.semAt_some
set_option maxRecDepth 100000 in
set_option maxHeartbeats 8000000 in
theorem does7_any {w0 w : World} {g : Nat} {L : List Nd} {v rv : Value} {Y : Nat → Prop} (h : PT w0 w g L L v Y) (hlen : L.length ≤ 600000) (hI : ∀ n ∈ L, n.id.Is) (i ref : ID) (s : ByteArray) (a b : Int) :
    Calls Tryz.prog 10 #[.pointer (some ⟨g, 0, none⟩), .agg #[v], .agg #[.int .i64 7, .int .i64 i.t, .int .i64 i.s, .int .i64 ref.t, .int .i64 ref.s, .string s, rv, .int .i64 a, .int .i64 b]] w fun e w' =>
      ∃ u, e = .returned (.tuple #[.pointer (some ⟨g, 0, none⟩), .agg #[u], .bool true]) ∧ PT w0 w' g L L u (grown Y w w') ∧ Kept Y w w' := by
  obtain ⟨it, is⟩ := i
  obtain ⟨rt, rs⟩ := ref
  show Calls _ _ #[_, _, .agg #[.int .i64 7, .int .i64 it, .int .i64 is, .int .i64 rt, .int .i64 rs, .string s, rv, .int .i64 a, .int .i64 b]] _ _
  have hI' := Lib.hid hI
  obtain ⟨va, vc, hv0, _, _⟩ := h.row.sl
  have HV0 := Lib.hid hv0
  clear hv0
  obtain ⟨hb, hk0⟩ := DB.made w v (.int .i64 7) (.int .i64 it) (.int .i64 is) (.int .i64 rt) (.int .i64 rs) (.string s) rv (.int .i64 a) (.int .i64 b) (.slice none 0 0)
  go_enter Tryz.func10, Tryz.ntmps10
  go_upto_region 1 with fail
  obtain ⟨z, hz⟩ : ∃ z, w.heap.size = z := ⟨_, rfl⟩
  obtain ⟨W, hW⟩ : ∃ W, ((w.alloc (.cells #[v] 33)).alloc (.cells #[.int .i64 7, .int .i64 it, .int .i64 is, .int .i64 rt, .int .i64 rs, .string s, rv, .int .i64 a, .int .i64 b] 40)).alloc (.cells #[.slice none 0 0] 33) = W := ⟨_, rfl⟩
  rw [hW, hz] at hb
  rw [hW] at hk0
  rw [hz, hW]
  have HZ : Hid (w.heap.size = z ∧ z + 1 + 1 < W.heap.size) := Lib.hid ⟨hz, hb.b2.lt⟩
  have D0 := Lib.hid (h.dt hk0)
  have B0 := Lib.hid hb
  have K0 := Lib.hid hk0
  obtain ⟨c0, ck, c1, c2, c3, c4, c5, cr, ca, cb⟩ := hb.cells
  clear hW hz hb hk0
  obtain ⟨p, hp⟩ : ∃ p, (atP L a).1.t = p := ⟨_, rfl⟩
  obtain ⟨q, hq⟩ : ∃ q, (atP L a).1.s = q := ⟨_, rfl⟩
  obtain ⟨x, hx⟩ : ∃ x, (atP L a).2 = x := ⟨_, rfl⟩
  have INS := Lib.hid (D0.out.pt.look (by omega) a)
  rw [hp, hq, hx] at INS
  have RIN := Lib.hid (fun (W1 : World) (h1 : PT w0 W1 g L L v (grown Y W W1)) => h1.rlook (by omega) a)
  rw [hp, hq, hx] at RIN
  clear h hI hp hq hx
  go_upto_region 32 with (go_at_call 22; refine INS.out.mono ?_; rintro e w2 ⟨rfl, hk⟩; have D2 := Lib.hid (D0.out.still hk); have B2 := Lib.hid (B0.out.still hk); clear hk)
  clear c0 ck c1 c2 c3 c4 c5 cr ca cb
  have ky : Kept (fun _ => False) w2 (w2.alloc (.cells #[.int .i64 p, .int .i64 q] 37)) := (Kept.refl _ _).alloc _
  have by' := Blk.new w2 37 #[.int .i64 p, .int .i64 q]
  have hzy1 : z + 1 + 1 < w2.heap.size := B2.out.b2.lt
  obtain ⟨w3, hw3⟩ : ∃ w3, w2.alloc (.cells #[.int .i64 p, .int .i64 q] 37) = w3 := ⟨_, rfl⟩
  obtain ⟨zy, hzy⟩ : ∃ zy, w2.heap.size = zy := ⟨_, rfl⟩
  rw [hw3] at ky by' ⊢
  rw [hzy] at by' hzy1 ⊢
  have D3 := Lib.hid (D2.out.still ky)
  have B3 := Lib.hid (B2.out.still ky)
  have Y3 := Lib.hid by'
  have HY := Lib.hid hzy1
  (obtain ⟨d0, dk, d1, d2, d3, d4, d5, dr, da, db⟩ := B3.out.cells)
  clear ky by' hw3 hzy hzy1
  go_upto_region 33 with (go_at_call 39; refine (RIN.out _ D3.out.pt).mono ?_; rintro e w4 ⟨rfl, hk⟩; have D4 := Lib.hid (D3.out.still hk); have B4 := Lib.hid (B3.out.still hk); have Y4 := Lib.hid (hk.blk (fun h => h) Y3.out); clear hk)
  clear d0 dk d1 d2 d3 d4 d5 dr da db
  have ky : Kept (fun _ => False) w4 (w4.alloc (.cells #[.int .i64 p, .int .i64 q] 37)) := (Kept.refl _ _).alloc _
  have by' := Blk.new w4 37 #[.int .i64 p, .int .i64 q]
  have hzx1 : z + 1 + 1 < w4.heap.size := B4.out.b2.lt
  obtain ⟨w5, hw5⟩ : ∃ w5, w4.alloc (.cells #[.int .i64 p, .int .i64 q] 37) = w5 := ⟨_, rfl⟩
  obtain ⟨zx, hzx⟩ : ∃ zx, w4.heap.size = zx := ⟨_, rfl⟩
  rw [hw5] at ky by' ⊢
  rw [hzx] at by' hzx1 ⊢
  have D5 := Lib.hid (D4.out.still ky)
  have B5 := Lib.hid (B4.out.still ky)
  have Y5 := Lib.hid (ky.blk (fun h => h) Y4.out)
  have X5 := Lib.hid by'
  have HX := Lib.hid hzx1
  clear ky by' hw5 hzx hzx1
  have hv0 := HV0.out
  clear HV0
  subst hv0
  have XK : Hid (∀ W1, Kept (fun _ => False) w5 W1 → (W1.cell? ⟨z, 0, none⟩ = some (.slice va L.length vc) ∧ W1.cell? ⟨zy, 0, none⟩ = some (.int .i64 p) ∧ W1.cell? ⟨zy, 1, none⟩ = some (.int .i64 q) ∧ W1.cell? ⟨zx, 0, none⟩ = some (.int .i64 p) ∧ W1.cell? ⟨zx, 1, none⟩ = some (.int .i64 q))) := Lib.hid fun W1 hk => ⟨(B5.out.still hk).cells.1, (hk.blk (fun h => h) Y5.out).cell' (i := 0) rfl, (hk.blk (fun h => h) Y5.out).cell' (i := 1) rfl, (hk.blk (fun h => h) X5.out).cell' (i := 0) rfl, (hk.blk (fun h => h) X5.out).cell' (i := 1) rfl⟩
  have XS : Hid ((w5.setCell ⟨z + 1 + 1, 0, none⟩ (.slice va L.length vc)).cell? ⟨z, 0, none⟩ = some (.slice va L.length vc) ∧ (w5.setCell ⟨z + 1 + 1, 0, none⟩ (.slice va L.length vc)).cell? ⟨zy, 0, none⟩ = some (.int .i64 p) ∧ (w5.setCell ⟨z + 1 + 1, 0, none⟩ (.slice va L.length vc)).cell? ⟨zy, 1, none⟩ = some (.int .i64 q) ∧ (w5.setCell ⟨z + 1 + 1, 0, none⟩ (.slice va L.length vc)).cell? ⟨zx, 0, none⟩ = some (.int .i64 p) ∧ (w5.setCell ⟨z + 1 + 1, 0, none⟩ (.slice va L.length vc)).cell? ⟨zx, 1, none⟩ = some (.int .i64 q)) := Lib.hid (by
    have h1 := (kept_cell w5 (z + 1 + 1) (.slice va L.length vc)).blk (by have := HY.out; omega) Y5.out
    have h2 := (kept_cell w5 (z + 1 + 1) (.slice va L.length vc)).blk (by have := HX.out; omega) X5.out
    exact ⟨(B5.out.set_ _).cells.1, h1.cell' (i := 0) rfl, h1.cell' (i := 1) rfl, h2.cell' (i := 0) rfl, h2.cell' (i := 1) rfl⟩)
  obtain ⟨y0, f0⟩ := B5.out.ans
  go_wp2_with fail
  go_region_held3 (fun W1 : World => W1.cell? ⟨z, 0, none⟩ = some (.slice va L.length vc) ∧ W1.cell? ⟨zy, 0, none⟩ = some (.int .i64 p) ∧ W1.cell? ⟨zy, 1, none⟩ = some (.int .i64 q) ∧ W1.cell? ⟨zx, 0, none⟩ = some (.int .i64 p) ∧ W1.cell? ⟨zx, 1, none⟩ = some (.int .i64 q)) (first | exact XK.out _ (Kept.refl _ _) | exact XK.out _ (Kept.refl _ _).drew | exact XS.out) (fail)
  all_goals go_wp2_with fail
  have c9 := (B5.out.set_ (.slice va L.length vc)).b2.cell' (i := 0) (v := .slice va L.length vc) rfl
  have hk9 := kept_cell w5 (z + 1 + 1) (.slice va L.length vc)
  obtain ⟨hp9, hq9⟩ := (D5.out.store (x := z + 1 + 1) (by have := HZ.out.1; omega) HZ.out.2 hk9.drew).fin
  exact bodyPost_ret (v := .tuple #[.pointer (some ⟨g, 0, none⟩), .agg #[.slice va L.length vc], .bool true]) (by simp [results, Tryz.results10, go_sem, c9]) rfl ⟨_, rfl, hp9, hq9⟩
end Go.Proofs.YtlafodnaifghcaaGreat.Tr
namespace Go.Proofs.YtlafodnaifghcaaGreat.Tr
open Go.RowKit Go.Sort Go.Proofs.YtlafodnaifghcaaGreat.St Go.Proofs.YtlafodnaifghcaaGreat Go.Proofs.YtlafodnaifghcaaGreat.Gl
attribute [local go_sem] Oper.semAt_some
set_option maxRecDepth 100000 in
set_option maxHeartbeats 8000000 in
theorem does8_any {w0 w : World} {g : Nat} {L : List Nd} {v rv : Value} {Y : Nat → Prop} (h : PT w0 w g L L v Y) (hlen : L.length ≤ 600000) (hI : ∀ n ∈ L, n.id.Is) (i ref : ID) (s : ByteArray) (a b : Int) (hz : loadC L = 0) (hr : ∀ n ∈ L, isRuneP n.rune) :
    Calls Tryz.prog 10 #[.pointer (some ⟨g, 0, none⟩), .agg #[v], .agg #[.int .i64 8, .int .i64 i.t, .int .i64 i.s, .int .i64 ref.t, .int .i64 ref.s, .string s, rv, .int .i64 a, .int .i64 b]] w fun e w' =>
      ∃ g' u, e = .returned (.tuple #[.pointer (some ⟨g', 0, none⟩), .agg #[u], .bool true]) ∧ PT w0 w' g' L L u (grown Y w w') ∧ Kept Y w w' := by
  obtain ⟨it, is⟩ := i
  obtain ⟨rt, rs⟩ := ref
  show Calls _ _ #[_, _, .agg #[.int .i64 8, .int .i64 it, .int .i64 is, .int .i64 rt, .int .i64 rs, .string s, rv, .int .i64 a, .int .i64 b]] _ _
  have hI' := Lib.hid hI
  obtain ⟨va, vc, hv0, _, _⟩ := h.row.sl
  have HV0 := Lib.hid hv0
  clear hv0
  obtain ⟨hb, hk0⟩ := DB.made w v (.int .i64 8) (.int .i64 it) (.int .i64 is) (.int .i64 rt) (.int .i64 rs) (.string s) rv (.int .i64 a) (.int .i64 b) (.slice none 0 0)
  go_enter Tryz.func10, Tryz.ntmps10
  go_upto_region 1 with fail
  obtain ⟨z, hz⟩ : ∃ z, w.heap.size = z := ⟨_, rfl⟩
  obtain ⟨W, hW⟩ : ∃ W, ((w.alloc (.cells #[v] 33)).alloc (.cells #[.int .i64 8, .int .i64 it, .int .i64 is, .int .i64 rt, .int .i64 rs, .string s, rv, .int .i64 a, .int .i64 b] 40)).alloc (.cells #[.slice none 0 0] 33) = W := ⟨_, rfl⟩
  rw [hW, hz] at hb
  rw [hW] at hk0
  rw [hz, hW]
  have HZ : Hid (w.heap.size = z ∧ z + 1 + 1 < W.heap.size) := Lib.hid ⟨hz, hb.b2.lt⟩
  have D0 := Lib.hid (h.dt hk0)
  have B0 := Lib.hid hb
  have K0 := Lib.hid hk0
  obtain ⟨c0, ck, c1, c2, c3, c4, c5, cr, ca, cb⟩ := hb.cells
  clear hW hz hb hk0
  have INS := Lib.hid (D0.out.pt.nodes (by omega))
  have LOD := Lib.hid (fun (W1 : World) (h1 : PT w0 W1 g L L v (grown Y W W1)) (lv : Value) (hl : SlAt nodeE W1 lv L) => h1.load hl (by omega) hz)
  have ALK := Lib.hid (fun (W1 : World) (g' : Nat) (h1 : PT w0 W1 g' L L v (grown Y W W1)) => h1.alike (by omega) hr)
  clear h hI hz hr
  go_upto_region 36 with (first
    | (go_at_call 40; refine INS.out.mono ?_; rintro e w2 ⟨⟨na, nc, rfl, hn⟩, hk⟩; have D2 := Lib.hid (D0.out.still hk); have B2 := Lib.hid (B0.out.still hk); have N2 := Lib.hid hn; clear hk hn)
    | (go_at_call 12; refine (LOD.out _ D2.out.pt _ N2.out).mono ?_; rintro e w3 ⟨g', rfl, hp, hk⟩; have D3 := Lib.hid (D2.out.next hp hk); have B3 := Lib.hid (B2.out.still hk); (obtain ⟨d0, dk, d1, d2, d3, d4, d5, dr, da, db⟩ := B3.out.cells); clear hp hk))
  clear c0 ck c1 c2 c3 c4 c5 cr ca cb
  go_upto_region 38 with (go_at_call 11; refine (ALK.out _ _ D3.out.pt).mono ?_; rintro e w4 ⟨rfl, hk⟩; have D4 := Lib.hid (D3.out.still hk); have B4 := Lib.hid (B3.out.still hk); (obtain ⟨x0, xk, x1, x2, x3, x4, x5, xr, xa, xb⟩ := B4.out.cells); (obtain ⟨y0, f0⟩ := B4.out.ans); clear hk)
  clear d0 dk d1 d2 d3 d4 d5 dr da db
  have hv0 := HV0.out
  clear HV0
  subst hv0
  have x10 := (B4.out.set_ (.slice va L.length vc)).cells.1
  go_wp2_with fail
  go_region_held3 (fun W : World => W.cell? ⟨z, 0, none⟩ = some (.slice va L.length vc)) (first | exact x0 | exact x10) (fail)
  all_goals go_wp2_with fail
  have c9 := (B4.out.set_ (.slice va L.length vc)).b2.cell' (i := 0) (v := .slice va L.length vc) rfl
  have hk9 := kept_cell w4 (z + 1 + 1) (.slice va L.length vc)
  obtain ⟨hp9, hq9⟩ := (D4.out.store (x := z + 1 + 1) (by have := HZ.out.1; omega) HZ.out.2 hk9.drew).fin
  exact bodyPost_ret (v := .tuple #[.pointer (some ⟨g', 0, none⟩), .agg #[.slice va L.length vc], .bool true]) (by simp [results, Tryz.results10, go_sem, c9]) rfl ⟨_, _, rfl, hp9, hq9⟩
end Go.Proofs.YtlafodnaifghcaaGreat.Tr
namespace Go.Proofs.YtlafodnaifghcaaGreat.Tr
open Go.Proofs.YtlafodnaifghcaaGreat.St
theorem sorted_same : ∀ {A B : List Nd}, (A.Pairwise fun a b => b.id.lt a.id) → (B.Pairwise fun a b => b.id.lt a.id) → (∀ n, n ∈ A ↔ n ∈ B) → A = B
  | [], [], _, _, _ => rfl
  | [], b :: B, _, _, h => by have := (h b).2 List.mem_cons_self; simp at this
  | a :: A, [], _, _, h => by have := (h a).1 List.mem_cons_self; simp at this
  | a :: A, b :: B, hA, hB, h => by
    obtain ⟨a1, a2⟩ := List.pairwise_cons.1 hA
    obtain ⟨b1, b2⟩ := List.pairwise_cons.1 hB
    have e : a = b := by
      rcases List.mem_cons.1 ((h a).1 List.mem_cons_self) with h1 | h1
      · exact h1
      · rcases List.mem_cons.1 ((h b).2 List.mem_cons_self) with h2 | h2
        · exact h2.symm
        · exact absurd (ID.lt_trans (a1 b h2) (b1 a h1)) (ID.lt_irrefl _)
    subst e
    have hn : ∀ n, n ∈ A ↔ n ∈ B := by
      intro n
      constructor
      · intro hn
        rcases List.mem_cons.1 ((h n).1 (List.mem_cons_of_mem _ hn)) with h1 | h1
        · subst h1; exact absurd (a1 n hn) (ID.lt_irrefl _)
        · exact h1
      · intro hn
        rcases List.mem_cons.1 ((h n).2 (List.mem_cons_of_mem _ hn)) with h1 | h1
        · subst h1; exact absurd (b1 n hn) (ID.lt_irrefl _)
        · exact h1
    rw [sorted_same a2 b2 hn]
mutual
theorem flat_same {L L' : List Nd} (hk : ∀ s, kids L s = kids L' s) : ∀ (t t' : T), t.n = t'.n → (∀ u ∈ subs t, kids L u.n.id = u.ks.map T.n) → (∀ u ∈ subs t', kids L' u.n.id = u.ks.map T.n) → flat t = flat t'
  | .mk n ks, .mk n' ks', e, h, h' => by
    have e : n = n' := e
    subst e
    show n :: flats ks = n :: flats ks'
    have h1 := h (.mk n ks) List.mem_cons_self
    have h2 := h' (.mk n ks') List.mem_cons_self
    have e1 : ks.map T.n = ks'.map T.n := h1.symm.trans ((hk n.id).trans h2)
    rw [flats_same hk ks ks' e1 (fun u hu => h u (List.mem_cons_of_mem _ hu)) (fun u hu => h' u (List.mem_cons_of_mem _ hu))]
theorem flats_same {L L' : List Nd} (hk : ∀ s, kids L s = kids L' s) : ∀ (F F' : List T), F.map T.n = F'.map T.n → (∀ u ∈ subss F, kids L u.n.id = u.ks.map T.n) → (∀ u ∈ subss F', kids L' u.n.id = u.ks.map T.n) → flats F = flats F'
  | [], [], _, _, _ => rfl
  | [], t' :: ts', e, _, _ => by simp at e
  | t :: ts, [], e, _, _ => by simp at e
  | t :: ts, t' :: ts', e, h, h' => by
    have e : t.n :: ts.map T.n = t'.n :: ts'.map T.n := e
    injection e with e1 e2
    show flat t ++ flats ts = flat t' ++ flats ts'
    rw [flat_same hk t t' e1 (fun u hu => h u (List.mem_append.2 (.inl hu))) (fun u hu => h' u (List.mem_append.2 (.inl hu))),
      flats_same hk ts ts' e2 (fun u hu => h u (List.mem_append.2 (.inr hu))) (fun u hu => h' u (List.mem_append.2 (.inr hu)))]
end
theorem Doc.kids_sorted {L : List Nd} (h : Doc L) (s : ID) : (kids L s).Pairwise fun a b => b.id.lt a.id := by
  obtain ⟨F, rfl, hw, hnd⟩ := h
  by_cases hz : s = ID.zero
  · rw [hz, kids_root hw]
    exact hw.sorted
  · by_cases hs : s ∈ ids (flats F)
    · obtain ⟨n, hn, e⟩ := List.mem_map.1 hs
      rw [← subss_flat] at hn
      obtain ⟨u, hu, rfl⟩ := List.mem_map.1 hn
      rw [← e, kids_subs F hw hnd u hu]
      obtain ⟨r', hr'⟩ := WFs.sub F hw u hu
      exact ((WF.eq.1 hr').2.2).sorted
    · rw [kids_none]
      · exact List.Pairwise.nil
      · intro m hm e
        rcases hw.refs m hm with h1 | h1
        · exact hz (e.symm.trans h1)
        · exact hs (e ▸ h1)
/-- the same elements, the same document -/
theorem Doc.uniq {L L' : List Nd} (h : Doc L) (h' : Doc L') (hm : ∀ n, n ∈ L ↔ n ∈ L') : L = L' := by
  have hk : ∀ s, kids L s = kids L' s := fun s => sorted_same (h.kids_sorted s) (h'.kids_sorted s) fun n => by
    unfold kids
    rw [List.mem_filter, List.mem_filter, hm n]
  obtain ⟨F, e1, hw, hnd⟩ := h
  obtain ⟨F', e2, hw', hnd'⟩ := h'
  subst e1 e2
  have e : F.map T.n = F'.map T.n := (kids_root hw).symm.trans ((hk ID.zero).trans (kids_root hw'))
  exact flats_same hk F F' e (fun u hu => kids_subs F hw hnd u hu) (fun u hu => kids_subs F' hw' hnd' u hu)
theorem puts_mem {y : Nd} : ∀ {xs L : List Nd}, y ∈ puts L xs ↔ y ∈ L ∨ y ∈ xs
  | [], L => by simp [puts]
  | x :: xs, L => by
    show y ∈ puts (put L _ x) xs ↔ _
    rw [puts_mem, put_mem, List.mem_cons]
    constructor
    · rintro ((h | h) | h)
      · exact .inr (.inl h)
      · exact .inl h
      · exact .inr (.inr h)
    · rintro (h | h | h)
      · exact .inl (.inr h)
      · exact .inl (.inl h)
      · exact .inr h
/-- what may stand in a document one by one -/
theorem offs_doc {L : List Nd} (h : Doc L) (hi : ∀ n ∈ L, n.id.Is ∧ isRuneP n.rune ∧ 1 ≤ n.st ∧ n.st ≤ 3) : offsC [] L = 0 := by
  have hnd := h.nodup
  obtain ⟨F, hF, hw, _⟩ := h
  have key : ∀ (K P : List Nd), L = P ++ K → offsC (ids P) K = 0 := by
    intro K
    induction K with
    | nil => intro P _; rfl
    | cons x K ih =>
      intro P e
      have hx : x ∈ L := by rw [e]; simp
      obtain ⟨h1, h2, h3, h4⟩ := hi x hx
      have href : x.ref = ID.zero ∨ x.ref ∈ ids P := WFs.ahead F hw P K x (hF.trans e)
      have hrl : x.ref.lt x.id := by
        rw [← hF, ← subss_flat] at hx
        obtain ⟨u, hu, rfl⟩ := List.mem_map.1 hx
        obtain ⟨r', hr'⟩ := WFs.sub F hw u hu
        have := WF.eq.1 hr'
        rw [this.1]
        exact this.2.1
      have hnx : x.id ∉ ids P := by
        intro hm
        rw [e] at hnd
        have h9 : (ids P ++ ids (x :: K)).Nodup := by rw [← ids_append]; exact hnd
        exact (List.nodup_append.1 h9).2.2 x.id hm x.id (List.mem_map.2 ⟨x, List.mem_cons_self, rfl⟩) rfl
      have h0 : offC (ids P) x = 0 := by
        unfold offC
        rw [if_neg, if_neg, if_neg (fun h => h hrl), if_neg hnx, if_neg (fun h => href.elim h.1 h.2)]
        · rintro (h | h | h)
          · exact h h2
          · omega
          · omega
        · rintro (h | h)
          · exact h h1
          · rcases href with h5 | h5
            · exact h.1 h5
            · obtain ⟨n, hn, en⟩ := List.mem_map.1 h5
              exact h.2 (by rw [← en]; exact (hi n (by rw [e]; exact List.mem_append.2 (.inl hn))).1)
      unfold offsC
      rw [if_neg (fun h => h h0)]
      have h9 := ih (P ++ [x]) (by rw [e]; simp)
      rw [ids_append] at h9
      exact h9
  exact key L [] rfl
/-- a document's elements load as the document -/
theorem load_doc {L : List Nd} (h : Doc L) (hi : ∀ n ∈ L, n.id.Is ∧ isRuneP n.rune ∧ 1 ≤ n.st ∧ n.st ≤ 3) : loadC L = 0 ∧ puts [] L = L := by
  have h0 := offs_doc h hi
  have h1 : puts [] L = L := (puts_doc L [] Doc.nil h0).uniq h fun n => by rw [puts_mem]; simp
  refine ⟨?_, h1⟩
  unfold loadC
  rw [if_neg (fun hh => hh h0), if_pos h1]
end Go.Proofs.YtlafodnaifghcaaGreat.Tr
