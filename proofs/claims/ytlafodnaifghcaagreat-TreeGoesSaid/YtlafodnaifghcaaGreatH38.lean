/- hearsaylaw11.does: a step that deletes. hearsaylaw11.does: a step that settles. hearsaylaw11.does: a step that collects. hearsaylaw11.does: a step that asks for the identifiers of a stretch. hearsaylaw11.does: a step that finds. -/
import Derived.Test.YtlafodnaifghcaaGreatH36
import Derived.Test.YtlafodnaifghcaaGreatH37
import Derived.Deep.DeepCutAuto
namespace Go.Proofs.YtlafodnaifghcaaGreat.Tr
open Go.RowKit Go.Sort Go.Proofs.YtlafodnaifghcaaGreat.St Go.Proofs.YtlafodnaifghcaaGreat Go.Proofs.YtlafodnaifghcaaGreat.Gl
attribute [local go_sem] Oper.semAt_some
set_option maxRecDepth 100000 in
set_option maxHeartbeats 8000000 in
theorem does2_any {X : Nat → Prop} {w0 w : World} {g : Nat} {L : List Nd} {v rv : Value} {Y : Nat → Prop} (h : PT X w0 w g L L v Y) (hlen : L.length ≤ 600000) (hI : ∀ n ∈ L, n.id.Is) (i ref : ID) (s : ByteArray) (a b : Int) {G : List Run} (hv0 : SlAt runE w0 rv G) (hGl : G.length ≤ 1000000) (hin : ∀ r ∈ G, r.In) :
    Calls Tryz.prog 10 #[.pointer (some ⟨g, 0, none⟩), .agg #[v], .agg #[.int .i64 2, .int .i64 i.t, .int .i64 i.s, .int .i64 ref.t, .int .i64 ref.s, .string s, rv, .int .i64 a, .int .i64 b]] w fun e w' =>
      ∃ u, e = .returned (.tuple #[.pointer (some ⟨g, 0, none⟩), .agg #[u], .bool true]) ∧ PT X w0 w' g (L.map (turnF G 1 2)) (L.map (turnF G 1 2)) u (grown Y w w') ∧ Kept (chg X Y) w w' := by
  obtain ⟨it, is⟩ := i
  obtain ⟨rt, rs⟩ := ref
  show Calls _ _ #[_, _, .agg #[.int .i64 2, .int .i64 it, .int .i64 is, .int .i64 rt, .int .i64 rs, .string s, rv, .int .i64 a, .int .i64 b]] _ _
  obtain ⟨va, vc, rfl, _, _⟩ := h.row.sl
  have hI' := Lib.hid hI
  obtain ⟨M, hM⟩ : ∃ M, L.map (turnF G 1 2) = M := ⟨_, rfl⟩
  rw [hM]
  obtain ⟨hb, hk0⟩ := DB.made w (.slice va L.length vc) (.int .i64 2) (.int .i64 it) (.int .i64 is) (.int .i64 rt) (.int .i64 rs) (.string s) rv (.int .i64 a) (.int .i64 b) (.slice none 0 0)
  go_enter Tryz.func10, Tryz.ntmps10
  go_upto_region 1 with fail
  obtain ⟨z, hz⟩ : ∃ z, w.heap.size = z := ⟨_, rfl⟩
  obtain ⟨W, hW⟩ : ∃ W, ((w.alloc (.cells #[(.slice va L.length vc)] 33)).alloc (.cells #[.int .i64 2, .int .i64 it, .int .i64 is, .int .i64 rt, .int .i64 rs, .string s, rv, .int .i64 a, .int .i64 b] 40)).alloc (.cells #[.slice none 0 0] 33) = W := ⟨_, rfl⟩
  rw [hW, hz] at hb
  rw [hW] at hk0
  rw [hz, hW]
  have HZ : Hid (w.heap.size = z ∧ z + 1 + 1 < W.heap.size) := Lib.hid ⟨hz, hb.b2.lt⟩
  have D0 := Lib.hid (h.dt hk0)
  have B0 := Lib.hid hb
  have K0 := Lib.hid hk0
  obtain ⟨c0, ck, c1, c2, c3, c4, c5, cr, ca, cb⟩ := hb.cells
  clear hW hz hb hk0
  obtain ⟨E, hE⟩ : ∃ E, turnN G 1 L = E := ⟨_, rfl⟩
  have H := Lib.hid h
  have HV0 := Lib.hid hv0
  have HV := Lib.hid ((hv0.kept h.kept).kept K0.out)
  have LEN := Lib.hid (tlent_any HV.out hGl)
  have HG := Lib.hid hGl
  have INS := Lib.hid (fun (W1 W2 : World) (h1 : PT X w0 W2 g L L (.slice va L.length vc) (grown Y W1 W2)) (rv : Value) (hv : SlAt runE W2 rv G) (hb : ∀ b, rv.ownBlock = some b → ¬ grown Y W1 W2 b) => h1.del (by omega) hv hin (by omega) hb)
  rw [hE, hM] at INS
  have RIN := Lib.hid (fun (W1 W2 : World) (h1 : PT X w0 W2 g M L (.slice va L.length vc) (grown Y W1 W2)) (hv : SlAt runE W2 rv G) => h1.rdel (by omega) hv hin hGl hI)
  rw [hE, hM] at RIN
  clear h hI hE hM hv0 hin hGl
  go_upto_region 12 with (go_at_call 32; refine LEN.out.mono ?_; rintro e w1 ⟨gl, cl, rfl, hO, hgl, hk⟩; have O1 := Lib.hid hO; have K1 := Lib.hid (K0.out.trans hk fun _ _ h => h); have HV1 := Lib.hid (HV.out.kept hk); have B1 := Lib.hid (B0.out.still hk); have GL := Lib.hid hgl; (obtain ⟨d0, dk, d1, d2, d3, d4, d5, dr, da, db⟩ := B1.out.cells); clear hO hk hgl)
  clear c0 ck c1 c2 c3 c4 c5 cr ca cb
  have kx : Kept (fun _ => False) w1 (w1.alloc (.cells #[(.slice va L.length vc)] 33)) := (Kept.refl _ _).alloc _
  have bx := Blk.new w1 33 #[(.slice va L.length vc)]
  have hgw : gl < w1.heap.size := O1.out.lt
  have hzw : z + 1 + 1 < w1.heap.size := B1.out.b2.lt
  have hww : w.heap.size ≤ w1.heap.size := K1.out.size
  obtain ⟨w2, hw2⟩ : ∃ w2, w1.alloc (.cells #[(.slice va L.length vc)] 33) = w2 := ⟨_, rfl⟩
  obtain ⟨zx, hzx⟩ : ∃ zx, w1.heap.size = zx := ⟨_, rfl⟩
  rw [hw2] at kx bx ⊢
  rw [hzx] at bx hgw hzw hww ⊢
  have SZ : Hid (w.heap.size ≤ zx ∧ zx < w2.heap.size ∧ z + 1 + 1 < zx ∧ w.heap.size ≤ gl ∧ gl < zx ∧ ¬ gl = zx) := Lib.hid ⟨hww, bx.lt, hzw, by have := GL.out; have := K0.out.size; omega, hgw, by omega⟩
  have D2 := Lib.hid (H.out.dt (K1.out.trans kx fun _ _ h => h))
  have B2 := Lib.hid (B1.out.still kx)
  have O2 := Lib.hid (O1.out.keep kx fun h => h)
  have HV2 := Lib.hid (HV1.out.kept kx)
  have Z2 := Lib.hid bx
  have LS : Hid (SlAt runE w2 (.slice (some ⟨gl, 0, none⟩) G.length cl) G) := Lib.hid (by
    have h9 := own_pre7 O2.out (n := G.length) (by simp)
    rwa [List.take_left' rfl] at h9)
  have NG : Hid (∀ b, Value.ownBlock (.slice (some ⟨gl, 0, none⟩) G.length cl) = some b → ¬ grown Y w2 w2 b) := Lib.hid fun b hb => by
    cases hb
    exact D2.out.out (b := gl) SZ.out.2.2.2.1 (by have := SZ.out; omega)
  (obtain ⟨c0, ck, c1, c2, c3, c4, c5, cr, ca, cb⟩ := B2.out.cells)
  clear d0 dk d1 d2 d3 d4 d5 dr da db kx bx hw2 hzx hgw hzw hww
  go_upto_region 14 with (go_at_call 24; refine (INS.out w2 w2 D2.out.pt _ LS.out NG.out).mono ?_; rintro e w3 ⟨rfl, hp, hk⟩; have D3 := Lib.hid (D2.out.turn hp hk); have B3 := Lib.hid (B2.out.op D2.out hk HZ.out.1 (by have := SZ.out; omega)); have O3 := Lib.hid (O2.out.keep hk (D2.out.out9 SZ.out.2.2.2.1 (by have := SZ.out; omega))); have Z3 := Lib.hid (hk.blk (D2.out.out9 SZ.out.1 SZ.out.2.1) Z2.out); have HV3 := Lib.hid (slAt_low HV0.out HV2.out hk fun b _ hlt h9 => by have h8 := (D2.out.pt.room b h9.1).1; omega); (obtain ⟨d0, dk, d1, d2, d3, d4, d5, dr, da, db⟩ := B3.out.cells); clear hp hk)
  clear c0 ck c1 c2 c3 c4 c5 cr ca cb
  go_upto_region 17 with (go_at_call 33; refine (RIN.out _ _ D3.out.pt HV3.out).mono ?_; rintro e w4 ⟨u, rfl, hp, hk⟩; (obtain ⟨ua, uc, rfl, _, _⟩ := hp.row.sl); have D4 := Lib.hid (D3.out.next hp hk); have B4 := Lib.hid (B3.out.still hk); have O4 := Lib.hid (O3.out.keep hk fun h => h); have Z4 := Lib.hid (hk.blk (fun h => h) Z3.out); have HV4 := Lib.hid (HV3.out.kept hk); have q0 := Z4.out.cell' (i := 0) (v := (.slice va L.length vc)) rfl; have qf := Z4.out.frozen 0; clear hp hk)
  clear d0 dk d1 d2 d3 d4 d5 dr da db q0 qf
  have k5 := kept_cell w4 zx (.slice ua M.length uc)
  obtain ⟨w5, hw5⟩ : ∃ w5, w4.setCell ⟨zx, 0, none⟩ (.slice ua M.length uc) = w5 := ⟨_, rfl⟩
  have b5 := Z4.out.set_ 0 (.slice ua M.length uc)
  rw [hw5] at k5 b5 ⊢
  have D5 := Lib.hid (D4.out.store SZ.out.1 SZ.out.2.1 k5)
  have B5 := Lib.hid (B4.out.keep k5 (by have := SZ.out; omega) (by have := SZ.out; omega) (by have := SZ.out; omega))
  have O5 := Lib.hid (O4.out.keep k5 SZ.out.2.2.2.2.2)
  have HV5 := Lib.hid (slAt_low HV0.out HV4.out k5 fun b _ hlt e => by have := SZ.out.1; have := D4.out.s0; omega)
  have Z5 : Hid (Blk w5 zx 33 #[.slice ua M.length uc]) := Lib.hid b5
  have BK : Hid (∀ W1, Kept (fun _ => False) w5 W1 → Calls Tryz.prog 35 #[.slice (some ⟨gl, 0, none⟩) G.length cl, rv] W1 fun e w' => e = .returned (.bool true) ∧ Kept (fun _ => False) w5 w') := Lib.hid fun W1 hk => (tback_any (O5.out.keep hk fun h => h) (HV5.out.kept hk) HG.out).mono fun e w' h9 => ⟨h9.1, hk.trans h9.2 fun _ _ h => h⟩
  have XK : Hid (∀ W1, Kept (fun _ => False) w5 W1 → (W1.cell? ⟨zx, 0, none⟩ = some (.slice ua M.length uc) ∧ W1.cell? ⟨z + 1, 6, none⟩ = some rv) ∧ ((W1.setCell ⟨z + 1 + 1, 0, none⟩ (.slice ua M.length uc)).cell? ⟨zx, 0, none⟩ = some (.slice ua M.length uc) ∧ (W1.setCell ⟨z + 1 + 1, 0, none⟩ (.slice ua M.length uc)).cell? ⟨z + 1, 6, none⟩ = some rv)) := Lib.hid fun W1 hk => ⟨⟨(hk.blk (fun h => h) Z5.out).cell' (i := 0) rfl, (B5.out.still hk).b1.cell' (i := 6) rfl⟩, ⟨((kept_cell W1 (z + 1 + 1) _).blk (by have := SZ.out; omega) (hk.blk (fun h => h) Z5.out)).cell' (i := 0) rfl, ((B5.out.still hk).set_ _).b1.cell' (i := 6) rfl⟩⟩
  (obtain ⟨y0, f0⟩ := B5.out.ans)
  (obtain ⟨x0, xk, x1, x2, x3, x4, x5, xr, xa, xb⟩ := B5.out.cells)
  clear k5 b5 hw5
  go_wp2_with fail
  go_region_held3 (fun W : World => W.cell? ⟨zx, 0, none⟩ = some (.slice ua M.length uc) ∧ W.cell? ⟨z + 1, 6, none⟩ = some rv) (first | exact (XK.out _ (Kept.refl _ _)).1 | exact (XK.out _ (Kept.refl _ _).drew).1 | exact (XK.out _ K6.out).1 | exact (XK.out _ K6.out).2 | exact (XK.out _ K6.out.drew).2) ((go_at_call 35; (first | refine (BK.out _ (Kept.refl _ _)).mono ?_ | refine (BK.out _ (Kept.refl _ _).drew).mono ?_); rintro e w6 ⟨rfl, hk⟩; have K6 := Lib.hid hk; (obtain ⟨y6, f6⟩ := (B5.out.still hk).ans); clear hk))
  all_goals go_wp2_with fail
  have B6 := Lib.hid (B5.out.still K6.out)
  have D6 := Lib.hid (D5.out.still K6.out)
  have c9 := (B6.out.set_ (.slice ua M.length uc)).b2.cell' (i := 0) (v := .slice ua M.length uc) rfl
  have hk9 := kept_cell w6 (z + 1 + 1) (.slice ua M.length uc)
  obtain ⟨hp9, hq9⟩ := (D6.out.store (x := z + 1 + 1) (by have := HZ.out.1; omega) (by have := SZ.out; omega) hk9).fin
  exact bodyPost_ret (v := .tuple #[.pointer (some ⟨g, 0, none⟩), .agg #[.slice ua M.length uc], .bool true]) (by simp [results, Tryz.results10, go_sem, c9]) rfl ⟨_, rfl, hp9, hq9⟩
end Go.Proofs.YtlafodnaifghcaaGreat.Tr
namespace Go.Proofs.YtlafodnaifghcaaGreat.Tr
open Go.RowKit Go.Sort Go.Proofs.YtlafodnaifghcaaGreat.St Go.Proofs.YtlafodnaifghcaaGreat Go.Proofs.YtlafodnaifghcaaGreat.Gl
attribute [local go_sem] Oper.semAt_some
set_option maxRecDepth 100000 in
set_option maxHeartbeats 8000000 in
theorem does3_any {X : Nat → Prop} {w0 w : World} {g : Nat} {L : List Nd} {v rv : Value} {Y : Nat → Prop} (h : PT X w0 w g L L v Y) (hlen : L.length ≤ 600000) (hI : ∀ n ∈ L, n.id.Is) (i ref : ID) (s : ByteArray) (a b : Int) {G : List Run} (hv0 : SlAt runE w0 rv G) (hGl : G.length ≤ 1000000) (hin : ∀ r ∈ G, r.In) :
    Calls Tryz.prog 10 #[.pointer (some ⟨g, 0, none⟩), .agg #[v], .agg #[.int .i64 3, .int .i64 i.t, .int .i64 i.s, .int .i64 ref.t, .int .i64 ref.s, .string s, rv, .int .i64 a, .int .i64 b]] w fun e w' =>
      ∃ u, e = .returned (.tuple #[.pointer (some ⟨g, 0, none⟩), .agg #[u], .bool true]) ∧ PT X w0 w' g (L.map (turnF G 2 3)) (L.map (turnF G 2 3)) u (grown Y w w') ∧ Kept (chg X Y) w w' := by
  obtain ⟨it, is⟩ := i
  obtain ⟨rt, rs⟩ := ref
  show Calls _ _ #[_, _, .agg #[.int .i64 3, .int .i64 it, .int .i64 is, .int .i64 rt, .int .i64 rs, .string s, rv, .int .i64 a, .int .i64 b]] _ _
  obtain ⟨va, vc, rfl, _, _⟩ := h.row.sl
  have hI' := Lib.hid hI
  obtain ⟨M, hM⟩ : ∃ M, L.map (turnF G 2 3) = M := ⟨_, rfl⟩
  rw [hM]
  obtain ⟨hb, hk0⟩ := DB.made w (.slice va L.length vc) (.int .i64 3) (.int .i64 it) (.int .i64 is) (.int .i64 rt) (.int .i64 rs) (.string s) rv (.int .i64 a) (.int .i64 b) (.slice none 0 0)
  go_enter Tryz.func10, Tryz.ntmps10
  go_upto_region 1 with fail
  obtain ⟨z, hz⟩ : ∃ z, w.heap.size = z := ⟨_, rfl⟩
  obtain ⟨W, hW⟩ : ∃ W, ((w.alloc (.cells #[(.slice va L.length vc)] 33)).alloc (.cells #[.int .i64 3, .int .i64 it, .int .i64 is, .int .i64 rt, .int .i64 rs, .string s, rv, .int .i64 a, .int .i64 b] 40)).alloc (.cells #[.slice none 0 0] 33) = W := ⟨_, rfl⟩
  rw [hW, hz] at hb
  rw [hW] at hk0
  rw [hz, hW]
  have HZ : Hid (w.heap.size = z ∧ z + 1 + 1 < W.heap.size) := Lib.hid ⟨hz, hb.b2.lt⟩
  have D0 := Lib.hid (h.dt hk0)
  have B0 := Lib.hid hb
  have K0 := Lib.hid hk0
  obtain ⟨c0, ck, c1, c2, c3, c4, c5, cr, ca, cb⟩ := hb.cells
  clear hW hz hb hk0
  obtain ⟨E, hE⟩ : ∃ E, turnN G 2 L = E := ⟨_, rfl⟩
  have H := Lib.hid h
  have HV0 := Lib.hid hv0
  have HV := Lib.hid ((hv0.kept h.kept).kept K0.out)
  have LEN := Lib.hid (tlent_any HV.out hGl)
  have HG := Lib.hid hGl
  have INS := Lib.hid (fun (W1 W2 : World) (h1 : PT X w0 W2 g L L (.slice va L.length vc) (grown Y W1 W2)) (rv : Value) (hv : SlAt runE W2 rv G) (hb : ∀ b, rv.ownBlock = some b → ¬ grown Y W1 W2 b) => h1.set_ (by omega) hv hin (by omega) hb)
  rw [hE, hM] at INS
  have RIN := Lib.hid (fun (W1 W2 : World) (h1 : PT X w0 W2 g M L (.slice va L.length vc) (grown Y W1 W2)) (hv : SlAt runE W2 rv G) => h1.rset (by omega) hv hin hGl hI)
  rw [hE, hM] at RIN
  clear h hI hE hM hv0 hin hGl
  go_upto_region 12 with (go_at_call 32; refine LEN.out.mono ?_; rintro e w1 ⟨gl, cl, rfl, hO, hgl, hk⟩; have O1 := Lib.hid hO; have K1 := Lib.hid (K0.out.trans hk fun _ _ h => h); have HV1 := Lib.hid (HV.out.kept hk); have B1 := Lib.hid (B0.out.still hk); have GL := Lib.hid hgl; (obtain ⟨d0, dk, d1, d2, d3, d4, d5, dr, da, db⟩ := B1.out.cells); clear hO hk hgl)
  clear c0 ck c1 c2 c3 c4 c5 cr ca cb
  have kx : Kept (fun _ => False) w1 (w1.alloc (.cells #[(.slice va L.length vc)] 33)) := (Kept.refl _ _).alloc _
  have bx := Blk.new w1 33 #[(.slice va L.length vc)]
  have hgw : gl < w1.heap.size := O1.out.lt
  have hzw : z + 1 + 1 < w1.heap.size := B1.out.b2.lt
  have hww : w.heap.size ≤ w1.heap.size := K1.out.size
  obtain ⟨w2, hw2⟩ : ∃ w2, w1.alloc (.cells #[(.slice va L.length vc)] 33) = w2 := ⟨_, rfl⟩
  obtain ⟨zx, hzx⟩ : ∃ zx, w1.heap.size = zx := ⟨_, rfl⟩
  rw [hw2] at kx bx ⊢
  rw [hzx] at bx hgw hzw hww ⊢
  have SZ : Hid (w.heap.size ≤ zx ∧ zx < w2.heap.size ∧ z + 1 + 1 < zx ∧ w.heap.size ≤ gl ∧ gl < zx ∧ ¬ gl = zx) := Lib.hid ⟨hww, bx.lt, hzw, by have := GL.out; have := K0.out.size; omega, hgw, by omega⟩
  have D2 := Lib.hid (H.out.dt (K1.out.trans kx fun _ _ h => h))
  have B2 := Lib.hid (B1.out.still kx)
  have O2 := Lib.hid (O1.out.keep kx fun h => h)
  have HV2 := Lib.hid (HV1.out.kept kx)
  have Z2 := Lib.hid bx
  have LS : Hid (SlAt runE w2 (.slice (some ⟨gl, 0, none⟩) G.length cl) G) := Lib.hid (by
    have h9 := own_pre7 O2.out (n := G.length) (by simp)
    rwa [List.take_left' rfl] at h9)
  have NG : Hid (∀ b, Value.ownBlock (.slice (some ⟨gl, 0, none⟩) G.length cl) = some b → ¬ grown Y w2 w2 b) := Lib.hid fun b hb => by
    cases hb
    exact D2.out.out (b := gl) SZ.out.2.2.2.1 (by have := SZ.out; omega)
  (obtain ⟨c0, ck, c1, c2, c3, c4, c5, cr, ca, cb⟩ := B2.out.cells)
  clear d0 dk d1 d2 d3 d4 d5 dr da db kx bx hw2 hzx hgw hzw hww
  go_upto_region 16 with (go_at_call 26; refine (INS.out w2 w2 D2.out.pt _ LS.out NG.out).mono ?_; rintro e w3 ⟨rfl, hp, hk⟩; have D3 := Lib.hid (D2.out.turn hp hk); have B3 := Lib.hid (B2.out.op D2.out hk HZ.out.1 (by have := SZ.out; omega)); have O3 := Lib.hid (O2.out.keep hk (D2.out.out9 SZ.out.2.2.2.1 (by have := SZ.out; omega))); have Z3 := Lib.hid (hk.blk (D2.out.out9 SZ.out.1 SZ.out.2.1) Z2.out); have HV3 := Lib.hid (slAt_low HV0.out HV2.out hk fun b _ hlt h9 => by have h8 := (D2.out.pt.room b h9.1).1; omega); (obtain ⟨d0, dk, d1, d2, d3, d4, d5, dr, da, db⟩ := B3.out.cells); clear hp hk)
  clear c0 ck c1 c2 c3 c4 c5 cr ca cb
  go_upto_region 17 with (go_at_call 34; refine (RIN.out _ _ D3.out.pt HV3.out).mono ?_; rintro e w4 ⟨u, rfl, hp, hk⟩; (obtain ⟨ua, uc, rfl, _, _⟩ := hp.row.sl); have D4 := Lib.hid (D3.out.next hp hk); have B4 := Lib.hid (B3.out.still hk); have O4 := Lib.hid (O3.out.keep hk fun h => h); have Z4 := Lib.hid (hk.blk (fun h => h) Z3.out); have HV4 := Lib.hid (HV3.out.kept hk); have q0 := Z4.out.cell' (i := 0) (v := (.slice va L.length vc)) rfl; have qf := Z4.out.frozen 0; clear hp hk)
  clear d0 dk d1 d2 d3 d4 d5 dr da db q0 qf
  have k5 := kept_cell w4 zx (.slice ua M.length uc)
  obtain ⟨w5, hw5⟩ : ∃ w5, w4.setCell ⟨zx, 0, none⟩ (.slice ua M.length uc) = w5 := ⟨_, rfl⟩
  have b5 := Z4.out.set_ 0 (.slice ua M.length uc)
  rw [hw5] at k5 b5 ⊢
  have D5 := Lib.hid (D4.out.store SZ.out.1 SZ.out.2.1 k5)
  have B5 := Lib.hid (B4.out.keep k5 (by have := SZ.out; omega) (by have := SZ.out; omega) (by have := SZ.out; omega))
  have O5 := Lib.hid (O4.out.keep k5 SZ.out.2.2.2.2.2)
  have HV5 := Lib.hid (slAt_low HV0.out HV4.out k5 fun b _ hlt e => by have := SZ.out.1; have := D4.out.s0; omega)
  have Z5 : Hid (Blk w5 zx 33 #[.slice ua M.length uc]) := Lib.hid b5
  have BK : Hid (∀ W1, Kept (fun _ => False) w5 W1 → Calls Tryz.prog 35 #[.slice (some ⟨gl, 0, none⟩) G.length cl, rv] W1 fun e w' => e = .returned (.bool true) ∧ Kept (fun _ => False) w5 w') := Lib.hid fun W1 hk => (tback_any (O5.out.keep hk fun h => h) (HV5.out.kept hk) HG.out).mono fun e w' h9 => ⟨h9.1, hk.trans h9.2 fun _ _ h => h⟩
  have XK : Hid (∀ W1, Kept (fun _ => False) w5 W1 → (W1.cell? ⟨zx, 0, none⟩ = some (.slice ua M.length uc) ∧ W1.cell? ⟨z + 1, 6, none⟩ = some rv) ∧ ((W1.setCell ⟨z + 1 + 1, 0, none⟩ (.slice ua M.length uc)).cell? ⟨zx, 0, none⟩ = some (.slice ua M.length uc) ∧ (W1.setCell ⟨z + 1 + 1, 0, none⟩ (.slice ua M.length uc)).cell? ⟨z + 1, 6, none⟩ = some rv)) := Lib.hid fun W1 hk => ⟨⟨(hk.blk (fun h => h) Z5.out).cell' (i := 0) rfl, (B5.out.still hk).b1.cell' (i := 6) rfl⟩, ⟨((kept_cell W1 (z + 1 + 1) _).blk (by have := SZ.out; omega) (hk.blk (fun h => h) Z5.out)).cell' (i := 0) rfl, ((B5.out.still hk).set_ _).b1.cell' (i := 6) rfl⟩⟩
  (obtain ⟨y0, f0⟩ := B5.out.ans)
  (obtain ⟨x0, xk, x1, x2, x3, x4, x5, xr, xa, xb⟩ := B5.out.cells)
  clear k5 b5 hw5
  go_wp2_with fail
  go_region_held3 (fun W : World => W.cell? ⟨zx, 0, none⟩ = some (.slice ua M.length uc) ∧ W.cell? ⟨z + 1, 6, none⟩ = some rv) (first | exact (XK.out _ (Kept.refl _ _)).1 | exact (XK.out _ (Kept.refl _ _).drew).1 | exact (XK.out _ K6.out).1 | exact (XK.out _ K6.out).2 | exact (XK.out _ K6.out.drew).2) ((go_at_call 35; (first | refine (BK.out _ (Kept.refl _ _)).mono ?_ | refine (BK.out _ (Kept.refl _ _).drew).mono ?_); rintro e w6 ⟨rfl, hk⟩; have K6 := Lib.hid hk; (obtain ⟨y6, f6⟩ := (B5.out.still hk).ans); clear hk))
  all_goals go_wp2_with fail
  have B6 := Lib.hid (B5.out.still K6.out)
  have D6 := Lib.hid (D5.out.still K6.out)
  have c9 := (B6.out.set_ (.slice ua M.length uc)).b2.cell' (i := 0) (v := .slice ua M.length uc) rfl
  have hk9 := kept_cell w6 (z + 1 + 1) (.slice ua M.length uc)
  obtain ⟨hp9, hq9⟩ := (D6.out.store (x := z + 1 + 1) (by have := HZ.out.1; omega) (by have := SZ.out; omega) hk9).fin
  exact bodyPost_ret (v := .tuple #[.pointer (some ⟨g, 0, none⟩), .agg #[.slice ua M.length uc], .bool true]) (by simp [results, Tryz.results10, go_sem, c9]) rfl ⟨_, rfl, hp9, hq9⟩
end Go.Proofs.YtlafodnaifghcaaGreat.Tr
namespace Go.Proofs.YtlafodnaifghcaaGreat.Tr
open Go.RowKit Go.Sort Go.Proofs.YtlafodnaifghcaaGreat.St Go.Proofs.YtlafodnaifghcaaGreat Go.Proofs.YtlafodnaifghcaaGreat.Gl
attribute [local go_sem] Oper.semAt_some
set_option maxRecDepth 100000 in
set_option maxHeartbeats 8000000 in
theorem does4_any {X : Nat → Prop} {w0 w : World} {g : Nat} {L : List Nd} {v rv : Value} {Y : Nat → Prop} (h : PT X w0 w g L L v Y) (hlen : L.length ≤ 600000) (hI : ∀ n ∈ L, n.id.Is) (i ref : ID) (s : ByteArray) (a b : Int) :
    Calls Tryz.prog 10 #[.pointer (some ⟨g, 0, none⟩), .agg #[v], .agg #[.int .i64 4, .int .i64 i.t, .int .i64 i.s, .int .i64 ref.t, .int .i64 ref.s, .string s, rv, .int .i64 a, .int .i64 b]] w fun e w' =>
      ∃ u, e = .returned (.tuple #[.pointer (some ⟨g, 0, none⟩), .agg #[u], .bool true]) ∧ PT X w0 w' g (collR L) (collR L) u (grown Y w w') ∧ Kept (chg X Y) w w' := by
  obtain ⟨it, is⟩ := i
  obtain ⟨rt, rs⟩ := ref
  show Calls _ _ #[_, _, .agg #[.int .i64 4, .int .i64 it, .int .i64 is, .int .i64 rt, .int .i64 rs, .string s, rv, .int .i64 a, .int .i64 b]] _ _
  have hI' := Lib.hid hI
  obtain ⟨M, hM⟩ : ∃ M, collR L = M := ⟨_, rfl⟩
  rw [hM]
  obtain ⟨hb, hk0⟩ := DB.made w v (.int .i64 4) (.int .i64 it) (.int .i64 is) (.int .i64 rt) (.int .i64 rs) (.string s) rv (.int .i64 a) (.int .i64 b) (.slice none 0 0)
  go_enter Tryz.func10, Tryz.ntmps10
  go_upto_region 1 with fail
  obtain ⟨z, hz⟩ : ∃ z, w.heap.size = z := ⟨_, rfl⟩
  obtain ⟨W, hW⟩ : ∃ W, ((w.alloc (.cells #[v] 33)).alloc (.cells #[.int .i64 4, .int .i64 it, .int .i64 is, .int .i64 rt, .int .i64 rs, .string s, rv, .int .i64 a, .int .i64 b] 40)).alloc (.cells #[.slice none 0 0] 33) = W := ⟨_, rfl⟩
  rw [hW, hz] at hb
  rw [hW] at hk0
  rw [hz, hW]
  have HZ : Hid (w.heap.size = z ∧ z + 1 + 1 < W.heap.size) := Lib.hid ⟨hz, hb.b2.lt⟩
  have D0 := Lib.hid (h.dt hk0)
  have B0 := Lib.hid hb
  have K0 := Lib.hid hk0
  obtain ⟨c0, ck, c1, c2, c3, c4, c5, cr, ca, cb⟩ := hb.cells
  clear hW hz hb hk0
  obtain ⟨E, hE⟩ : ∃ E, collN L = E := ⟨_, rfl⟩
  have INS := Lib.hid (D0.out.pt.coll (by omega))
  rw [hE, hM] at INS
  have RIN := Lib.hid (fun (W1 : World) (h1 : PT X w0 W1 g M L v (grown Y W W1)) => h1.rcoll (by omega))
  rw [hE, hM] at RIN
  clear h hI hE hM
  go_upto_region 20 with (go_at_call 27; refine INS.out.mono ?_; rintro e w2 ⟨rfl, hp, hk⟩; have D2 := Lib.hid (D0.out.turn hp hk); have B2 := Lib.hid (B0.out.op D0.out hk HZ.out.1 HZ.out.2); (obtain ⟨d0, dk, d1, d2, d3, d4, d5, dr, da, db⟩ := B2.out.cells); have hs2 := hk.size; have P2 := Lib.hid (D2.out.pt.wide (Y' := grown Y W w2) (fun _ h => h) D2.out.pt.room); clear hp hk hs2)
  clear c0 ck c1 c2 c3 c4 c5 cr ca cb
  go_upto_region 21 with (go_at_call 36; refine (RIN.out _ P2.out).mono ?_; rintro e w3 ⟨u, rfl, hp, hk3⟩; (obtain ⟨ua, uc, rfl, _, _⟩ := hp.row.sl); have D3 := Lib.hid (D2.out.next hp hk3); have B3 := Lib.hid (B2.out.still hk3); clear hp)
  clear d0 dk d1 d2 d3 d4 d5 dr da db
  have kx : Kept (fun _ => False) w3 (w3.alloc (.cells #[.slice ua M.length uc] 33)) := (Kept.refl _ _).alloc _
  have bx := Blk.new w3 33 #[.slice ua M.length uc]
  have hzx1 : z + 1 + 1 < w3.heap.size := B3.out.b2.lt
  obtain ⟨w4, hw4⟩ : ∃ w4, w3.alloc (.cells #[.slice ua M.length uc] 33) = w4 := ⟨_, rfl⟩
  obtain ⟨zx, hzx⟩ : ∃ zx, w3.heap.size = zx := ⟨_, rfl⟩
  rw [hw4] at kx bx ⊢
  rw [hzx] at bx hzx1 ⊢
  have DX := Lib.hid (D3.out.still kx)
  have BX := Lib.hid (B3.out.still kx)
  have hne : ¬ zx = z + 1 + 1 := by omega
  have x0 := bx.cell' (i := 0) (v := .slice ua M.length uc) rfl
  have x1 := ((kept_cell w4 (z + 1 + 1) (.slice ua M.length uc)).blk hne bx).cell' (i := 0) (v := .slice ua M.length uc) rfl
  obtain ⟨y0, f0⟩ := BX.out.ans
  clear kx bx hw4 hzx hzx1 hne
  go_wp2_with fail
  go_region_held3 (fun W : World => W.cell? ⟨zx, 0, none⟩ = some (.slice ua M.length uc)) (first | exact x0 | exact x1) (fail)
  all_goals go_wp2_with fail
  have c9 := (BX.out.set_ (.slice ua M.length uc)).b2.cell' (i := 0) (v := .slice ua M.length uc) rfl
  have hk9 := kept_cell w4 (z + 1 + 1) (.slice ua M.length uc)
  obtain ⟨hp9, hq9⟩ := (DX.out.store (x := z + 1 + 1) (by have := HZ.out.1; omega) HZ.out.2 hk9.drew).fin
  exact bodyPost_ret (v := .tuple #[.pointer (some ⟨g, 0, none⟩), .agg #[.slice ua M.length uc], .bool true]) (by simp [results, Tryz.results10, go_sem, c9]) rfl ⟨_, rfl, hp9, hq9⟩
end Go.Proofs.YtlafodnaifghcaaGreat.Tr
namespace Go.Proofs.YtlafodnaifghcaaGreat.Tr
open Go.RowKit Go.Sort Go.Proofs.YtlafodnaifghcaaGreat.St Go.Proofs.YtlafodnaifghcaaGreat Go.Proofs.YtlafodnaifghcaaGreat.Gl
attribute [local go_sem] Oper.semAt_some
set_option maxRecDepth 100000 in
set_option maxHeartbeats 8000000 in
theorem does5_any {X : Nat → Prop} {w0 w : World} {g : Nat} {L : List Nd} {v rv : Value} {Y : Nat → Prop} (h : PT X w0 w g L L v Y) (hlen : L.length ≤ 600000) (hI : ∀ n ∈ L, n.id.Is) (i ref : ID) (s : ByteArray) (a b : Int) (hx : I64 a ∧ I64 b) :
    Calls Tryz.prog 10 #[.pointer (some ⟨g, 0, none⟩), .agg #[v], .agg #[.int .i64 5, .int .i64 i.t, .int .i64 i.s, .int .i64 ref.t, .int .i64 ref.s, .string s, rv, .int .i64 a, .int .i64 b]] w fun e w' =>
      ∃ u, e = .returned (.tuple #[.pointer (some ⟨g, 0, none⟩), .agg #[u], .bool true]) ∧ PT X w0 w' g L L u (grown Y w w') ∧ Kept (chg X Y) w w' := by
  obtain ⟨it, is⟩ := i
  obtain ⟨rt, rs⟩ := ref
  show Calls _ _ #[_, _, .agg #[.int .i64 5, .int .i64 it, .int .i64 is, .int .i64 rt, .int .i64 rs, .string s, rv, .int .i64 a, .int .i64 b]] _ _
  have hI' := Lib.hid hI
  obtain ⟨va, vc, hv0, _, _⟩ := h.row.sl
  have HV0 := Lib.hid hv0
  clear hv0
  obtain ⟨hb, hk0⟩ := DB.made w v (.int .i64 5) (.int .i64 it) (.int .i64 is) (.int .i64 rt) (.int .i64 rs) (.string s) rv (.int .i64 a) (.int .i64 b) (.slice none 0 0)
  go_enter Tryz.func10, Tryz.ntmps10
  go_upto_region 1 with fail
  obtain ⟨z, hz⟩ : ∃ z, w.heap.size = z := ⟨_, rfl⟩
  obtain ⟨W, hW⟩ : ∃ W, ((w.alloc (.cells #[v] 33)).alloc (.cells #[.int .i64 5, .int .i64 it, .int .i64 is, .int .i64 rt, .int .i64 rs, .string s, rv, .int .i64 a, .int .i64 b] 40)).alloc (.cells #[.slice none 0 0] 33) = W := ⟨_, rfl⟩
  rw [hW, hz] at hb
  rw [hW] at hk0
  rw [hz, hW]
  have HZ : Hid (w.heap.size = z ∧ z + 1 + 1 < W.heap.size) := Lib.hid ⟨hz, hb.b2.lt⟩
  have D0 := Lib.hid (h.dt hk0)
  have B0 := Lib.hid hb
  have K0 := Lib.hid hk0
  obtain ⟨c0, ck, c1, c2, c3, c4, c5, cr, ca, cb⟩ := hb.cells
  clear hW hz hb hk0
  have INS := Lib.hid (D0.out.pt.span (by omega) hx)
  have RIN := Lib.hid (fun (W1 : World) (h1 : PT X w0 W1 g L L v (grown Y W W1)) => h1.rspan (by omega) hx)
  clear h hI hx
  go_upto_region 24 with (go_at_call 23; refine INS.out.mono ?_; rintro e w2 ⟨u, R, k, rfl, hu, hs, hk⟩; have D2 := Lib.hid (D0.out.still hk); have B2 := Lib.hid (B0.out.still hk); have U2 := Lib.hid hu; have S2 := Lib.hid hs; (obtain ⟨d0, dk, d1, d2, d3, d4, d5, dr, da, db⟩ := B2.out.cells); clear hk hu hs)
  clear c0 ck c1 c2 c3 c4 c5 cr ca cb
  go_upto_region 25 with (go_at_call 37; refine (RIN.out _ D2.out.pt).mono ?_; rintro e w3 ⟨u', R', k', rfl, hu, hs, hk3⟩; (obtain ⟨rfl, rfl⟩ := S2.out.same hs); have D3 := Lib.hid (D2.out.still hk3); have B3 := Lib.hid (B2.out.still hk3); have U3 := Lib.hid (U2.out.kept hk3); have V3 := Lib.hid hu; (obtain ⟨x0, xk, x1, x2, x3, x4, x5, xr, xa, xb⟩ := B3.out.cells); (obtain ⟨y0, f0⟩ := B3.out.ans); clear hk3 hu hs)
  clear d0 dk d1 d2 d3 d4 d5 dr da db
  have HR := Lib.hid (S2.out.few (by omega))
  have RUN : Hid (∀ W1, Kept (fun _ => False) w3 W1 → Calls Tryz.prog 28 #[u, u'] W1 fun e w' => e = .returned (.bool true) ∧ Kept (fun _ => False) w3 w') := Lib.hid fun W1 hk => (lruns_eq (U3.out.kept hk) (V3.out.kept hk) HR.out).mono fun e w' h9 => by
    obtain ⟨he, n, rfl⟩ := h9
    rw [decide_eq_true rfl] at he
    exact ⟨he, hk.drewN n⟩
  have hv0 := HV0.out
  clear HV0
  subst hv0
  have XK : Hid (∀ W1, Kept (fun _ => False) w3 W1 → W1.cell? ⟨z, 0, none⟩ = some (.slice va L.length vc) ∧ (W1.setCell ⟨z + 1 + 1, 0, none⟩ (.slice va L.length vc)).cell? ⟨z, 0, none⟩ = some (.slice va L.length vc)) := Lib.hid fun W1 hk => ⟨(B3.out.still hk).cells.1, ((B3.out.still hk).set_ _).cells.1⟩
  go_wp2_with fail
  go_region_held3 (fun W : World => W.cell? ⟨z, 0, none⟩ = some (.slice va L.length vc)) (first | exact (XK.out _ (Kept.refl _ _)).1 | exact (XK.out _ (Kept.refl _ _).drew).1 | exact (XK.out _ K5.out).1 | exact (XK.out _ K5.out).2 | exact (XK.out _ K5.out.drew).2) ((go_at_call 28; (first | refine (RUN.out _ (Kept.refl _ _)).mono ?_ | refine (RUN.out _ (Kept.refl _ _).drew).mono ?_); rintro e w5 ⟨rfl, hk⟩; have K5 := Lib.hid hk; (obtain ⟨y5, f5⟩ := (B3.out.still hk).ans); clear hk))
  all_goals go_wp2_with fail
  have B5 := Lib.hid (B3.out.still K5.out)
  have D5 := Lib.hid (D3.out.still K5.out)
  have c9 := (B5.out.set_ (.slice va L.length vc)).b2.cell' (i := 0) (v := .slice va L.length vc) rfl
  have hk9 := kept_cell w5 (z + 1 + 1) (.slice va L.length vc)
  obtain ⟨hp9, hq9⟩ := (D5.out.store (x := z + 1 + 1) (by have := HZ.out.1; omega) HZ.out.2 hk9).fin
  exact bodyPost_ret (v := .tuple #[.pointer (some ⟨g, 0, none⟩), .agg #[.slice va L.length vc], .bool true]) (by simp [results, Tryz.results10, go_sem, c9]) rfl ⟨_, rfl, hp9, hq9⟩
end Go.Proofs.YtlafodnaifghcaaGreat.Tr
namespace Go.Proofs.YtlafodnaifghcaaGreat.Tr
open Go.RowKit Go.Sort Go.Proofs.YtlafodnaifghcaaGreat.St Go.Proofs.YtlafodnaifghcaaGreat Go.Proofs.YtlafodnaifghcaaGreat.Gl
attribute [local go_sem] Oper.semAt_some
set_option maxRecDepth 100000 in
set_option maxHeartbeats 8000000 in
theorem does6_any {X : Nat → Prop} {w0 w : World} {g : Nat} {L : List Nd} {v rv : Value} {Y : Nat → Prop} (h : PT X w0 w g L L v Y) (hlen : L.length ≤ 600000) (hI : ∀ n ∈ L, n.id.Is) (i ref : ID) (s : ByteArray) (a b : Int) :
    Calls Tryz.prog 10 #[.pointer (some ⟨g, 0, none⟩), .agg #[v], .agg #[.int .i64 6, .int .i64 i.t, .int .i64 i.s, .int .i64 ref.t, .int .i64 ref.s, .string s, rv, .int .i64 a, .int .i64 b]] w fun e w' =>
      ∃ u, e = .returned (.tuple #[.pointer (some ⟨g, 0, none⟩), .agg #[u], .bool true]) ∧ PT X w0 w' g L L u (grown Y w w') ∧ Kept (chg X Y) w w' := by
  obtain ⟨it, is⟩ := i
  obtain ⟨rt, rs⟩ := ref
  show Calls _ _ #[_, _, .agg #[.int .i64 6, .int .i64 it, .int .i64 is, .int .i64 rt, .int .i64 rs, .string s, rv, .int .i64 a, .int .i64 b]] _ _
  have hI' := Lib.hid hI
  obtain ⟨va, vc, hv0, _, _⟩ := h.row.sl
  have HV0 := Lib.hid hv0
  clear hv0
  obtain ⟨hb, hk0⟩ := DB.made w v (.int .i64 6) (.int .i64 it) (.int .i64 is) (.int .i64 rt) (.int .i64 rs) (.string s) rv (.int .i64 a) (.int .i64 b) (.slice none 0 0)
  go_enter Tryz.func10, Tryz.ntmps10
  go_upto_region 1 with fail
  obtain ⟨z, hz⟩ : ∃ z, w.heap.size = z := ⟨_, rfl⟩
  obtain ⟨W, hW⟩ : ∃ W, ((w.alloc (.cells #[v] 33)).alloc (.cells #[.int .i64 6, .int .i64 it, .int .i64 is, .int .i64 rt, .int .i64 rs, .string s, rv, .int .i64 a, .int .i64 b] 40)).alloc (.cells #[.slice none 0 0] 33) = W := ⟨_, rfl⟩
  rw [hW, hz] at hb
  rw [hW] at hk0
  rw [hz, hW]
  have HZ : Hid (w.heap.size = z ∧ z + 1 + 1 < W.heap.size) := Lib.hid ⟨hz, hb.b2.lt⟩
  have D0 := Lib.hid (h.dt hk0)
  have B0 := Lib.hid hb
  have K0 := Lib.hid hk0
  obtain ⟨c0, ck, c1, c2, c3, c4, c5, cr, ca, cb⟩ := hb.cells
  clear hW hz hb hk0
  obtain ⟨p, hp⟩ : ∃ p, (findP L ⟨it, is⟩).1 = p := ⟨_, rfl⟩
  obtain ⟨q, hq⟩ : ∃ q, (findP L ⟨it, is⟩).2 = q := ⟨_, rfl⟩
  have INS := Lib.hid (D0.out.pt.find (by omega) ⟨it, is⟩)
  rw [hp, hq] at INS
  have RIN := Lib.hid (fun (W1 : World) (h1 : PT X w0 W1 g L L v (grown Y W W1)) => h1.rfind (by omega) ⟨it, is⟩)
  rw [hp, hq] at RIN
  clear h hI hp hq
  go_upto_region 28 with (go_at_call 25; refine INS.out.mono ?_; rintro e w2 ⟨rfl, hk⟩; have D2 := Lib.hid (D0.out.still hk); have B2 := Lib.hid (B0.out.still hk); (obtain ⟨d0, dk, d1, d2, d3, d4, d5, dr, da, db⟩ := B2.out.cells); clear hk)
  clear c0 ck c1 c2 c3 c4 c5 cr ca cb
  go_upto_region 29 with (go_at_call 38; refine (RIN.out _ D2.out.pt).mono ?_; rintro e w3 ⟨rfl, hk3⟩; have D3 := Lib.hid (D2.out.still hk3); have B3 := Lib.hid (B2.out.still hk3); (obtain ⟨x0, xk, x1, x2, x3, x4, x5, xr, xa, xb⟩ := B3.out.cells); (obtain ⟨y0, f0⟩ := B3.out.ans))
  clear d0 dk d1 d2 d3 d4 d5 dr da db
  have hv0 := HV0.out
  clear HV0
  subst hv0
  have x1 := (B3.out.set_ (.slice va L.length vc)).cells.1
  go_wp2_with fail
  go_region_held3 (fun W : World => W.cell? ⟨z, 0, none⟩ = some (.slice va L.length vc)) (first | exact x0 | exact x1) (fail)
  all_goals go_wp2_with fail
  have c9 := (B3.out.set_ (.slice va L.length vc)).b2.cell' (i := 0) (v := .slice va L.length vc) rfl
  have hk9 := kept_cell w3 (z + 1 + 1) (.slice va L.length vc)
  obtain ⟨hp9, hq9⟩ := (D3.out.store (x := z + 1 + 1) (by have := HZ.out.1; omega) HZ.out.2 hk9.drew).fin
  exact bodyPost_ret (v := .tuple #[.pointer (some ⟨g, 0, none⟩), .agg #[.slice va L.length vc], .bool true]) (by simp [results, Tryz.results10, go_sem, c9]) rfl ⟨_, rfl, hp9, hq9⟩
end Go.Proofs.YtlafodnaifghcaaGreat.Tr
