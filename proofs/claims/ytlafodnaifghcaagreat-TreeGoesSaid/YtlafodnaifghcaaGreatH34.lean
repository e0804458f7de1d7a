/- hearsayref11.Load. hearsaylaw11.lent. hearsaylaw11.back: the lent runs are as they were. The nil Tree: Kept, Insert. -/
import Derived.Test.YtlafodnaifghcaaGreatH33
import Derived.Test.YtlafodnaifghcaaGreatH30
import Derived.Test.YtlafodnaifghcaaGreatH28
import Derived.Test.YtlafodnaifghcaaGreatH9
namespace Go.Proofs.YtlafodnaifghcaaGreat.Tr
open Go.RowKit Go.Sort Go.Proofs.YtlafodnaifghcaaGreat.St Go.Proofs.YtlafodnaifghcaaGreat Go.Proofs.YtlafodnaifghcaaGreat.Gl
attribute [local go_sem] Oper.semAt_some
def RLoadPost (w : World) (L : List Nd) (e : Ending) (w' : World) : Prop :=
  (∃ u, e = .returned (.tuple #[.agg #[u], .int .i64 (loadC L)]) ∧ ((loadC L ≠ 0 ∧ u = .slice none 0 0) ∨ (loadC L = 0 ∧ w'.ownsRow w.heap.size 45 6 u L.length (nodeE.flat L)))) ∧ Kept (fun _ => False) w w'
set_option maxHeartbeats 4000000 in
theorem rload_any {w : World} {v : Value} {L : List Nd} (h : SlAt nodeE w v L) (hlen : L.length ≤ 800000) : Calls Tryz.prog 13 #[v] w (RLoadPost w L) := by
  obtain ⟨E, hE⟩ : ∃ E, loadC L = E := ⟨_, rfl⟩
  have post : RLoadPost w L = fun e w' => (∃ u, e = .returned (.tuple #[.agg #[u], .int .i64 E]) ∧ ((E ≠ 0 ∧ u = .slice none 0 0) ∨ (E = 0 ∧ w'.ownsRow w.heap.size 45 6 u L.length (nodeE.flat L)))) ∧ Kept (fun _ => False) w w' := by
    unfold RLoadPost
    rw [hE]
  rw [post]
  clear post
  obtain ⟨w1, hw1⟩ : ∃ w1, w.alloc (.cells #[.slice none 0 0] 33) = w1 := ⟨_, rfl⟩
  have k1 : Kept (fun _ => False) w w1 := by rw [← hw1]; exact (Kept.refl _ _).alloc _
  have b0 := Blk.new w 33 #[.slice none 0 0]
  rw [hw1] at b0
  have K1 := Lib.hid k1
  have B0 := Lib.hid b0
  have HL := Lib.hid (h.kept k1)
  have CHK := Lib.hid (rcheck_any HL.out hlen)
  rw [hE] at CHK
  have NW : Hid (∀ W : World, W.ownsRow W.heap.size 45 nodeE.k (.slice none 0 0) ([] : List Nd).length (nodeE.flat [])) := Lib.hid fun _ => World.ownsRow_nil ..
  have HLEN := Lib.hid hlen
  clear h k1 b0 hE hlen
  go_enter Tryz.func13, Tryz.ntmps13
  go_upto_region 1 with fail
  obtain ⟨z, hz⟩ : ∃ z, w.heap.size = z := ⟨_, rfl⟩
  have HZ := Lib.hid hz
  rw [hz] at B0 ⊢
  clear hz hw1
  by_cases hE0 : E = 0
  case neg =>
    go_upto_region 3 with (go_at_call 50; refine CHK.out.mono ?_; rintro e w2 ⟨rfl, hk⟩; have K2 := Lib.hid (K1.out.trans hk fun _ _ h => h); have B2 := Lib.hid (hk.blk (fun h => h) B0.out); clear hk)
    have c0 := B2.out.cell' (i := 0) (v := .slice none 0 0) rfl
    have f0 := B2.out.frozen 0
    go_wp2_with fail
    have c9 := (B2.out.set_ 0 (.slice none 0 0)).cell' (i := 0) (v := .slice none 0 0) (by simp)
    exact bodyPost_ret (v := .tuple #[.agg #[.slice none 0 0], .int .i64 E]) (by simp [results, Tryz.results13, go_sem, c9]) rfl ⟨⟨_, rfl, .inl ⟨hE0, rfl⟩⟩, K2.out.trans (kept_cell _ z _) (fun b hb h9 => by have := HZ.out; omega)⟩
  case pos =>
  subst hE0
  go_upto_region 5 with (go_at_call 50; refine CHK.out.mono ?_; rintro e w2 ⟨rfl, hk⟩; have K2 := Lib.hid (K1.out.trans hk fun _ _ h => h); have B2 := Lib.hid (hk.blk (fun h => h) B0.out); have HL2 := Lib.hid (HL.out.kept hk); clear hk)
  go_wp2_with (at_builtin; (refine wpList_append_row nodeE rfl (.tmp 12) (.tmp 13) 31 rfl w2.heap.size 45 _ 48 Tryz.underlying31 info_node rfl rfl rfl (NW.out _) HL2.out (by have := HLEN.out; simp only [List.length_nil]; unfold maxLen; omega) (by have := HLEN.out; simp only [List.length_nil]; omega) (Nat.le_refl _) ?_); intro v1 w3 ho1 hk1; rw [List.nil_append] at ho1; have K3 : Hid (Kept (fun _ => False) w2 w3) := Lib.hid (hk1.mono (fun b _ e => by have e : (Value.slice none 0 0).ownBlock = some b := e; cases e)); (obtain ⟨ua, uc, rfl⟩ := owns_sl ho1); have O1 := Lib.hid ho1; have B3 := Lib.hid (K3.out.blk (fun h => h) B2.out); have f0 := B3.out.frozen 0; have c0 := B3.out.cell' (i := 0) (v := .slice none 0 0) rfl; clear ho1 hk1)
  have c9 := (B3.out.set_ 0 (.slice ua L.length uc)).cell' (i := 0) (v := .slice ua L.length uc) (by simp)
  have hkz := kept_cell w3 z (.slice ua L.length uc)
  refine bodyPost_ret (v := .tuple #[.agg #[.slice ua L.length uc], .int .i64 0]) (by simp [results, Tryz.results13, go_sem, c9]) rfl ⟨⟨_, rfl, ?_⟩, (K2.out.trans K3.out fun _ _ h => h).trans hkz (fun b hb h9 => by have := HZ.out; omega)⟩
  exact owns_keep (owns_base9 O1.out K2.out.size) hkz fun b hb h => by have h1 := owns_new O1.out b hb; have h2 := B2.out.lt; omega
end Go.Proofs.YtlafodnaifghcaaGreat.Tr
namespace Go.Proofs.YtlafodnaifghcaaGreat.Tr
open Go.RowKit Go.Sort Go.Proofs.YtlafodnaifghcaaGreat.St Go.Proofs.YtlafodnaifghcaaGreat Go.Proofs.YtlafodnaifghcaaGreat.Gl
theorem lit_run7 (w : World) (c : Int) : SlAt runE (w.alloc (.cells #[.int .i64 0, .int .i64 0, .int .i64 c] 69)) (.slice (some ⟨w.heap.size, 0, none⟩) 1 1) [(⟨⟨0, 0⟩, c⟩ : Run)] :=
  SlAt.lit (E := runE) [⟨⟨0, 0⟩, c⟩] _ rfl (by show 1 ≤ maxLen; decide)
set_option maxHeartbeats 4000000 in
theorem tlent_any {w : World} {v : Value} {G : List Run} (h : SlAt runE w v G) (hGl : G.length ≤ 1000000) :
    Calls Tryz.prog 32 #[v] w fun e w' => ∃ (g c : Nat), e = .returned (.slice (some ⟨g, 0, none⟩) G.length c) ∧ OwnAt runE w' 69 g c (G ++ [⟨⟨0, 0⟩, 777⟩]) ∧ w.heap.size ≤ g ∧ Kept (fun _ => False) w w' := by
  have H := Lib.hid h
  obtain ⟨a, c, rfl, _, _⟩ := h.sl
  have HLEN := Lib.hid hGl
  have NW : Hid (w.ownsRow w.heap.size 69 runE.k (.slice none 0 0) ([] : List Run).length (runE.flat [])) := Lib.hid (World.ownsRow_nil ..)
  have hg0 : (0 : Int) ≤ G.length := by omega
  have hg1 : (G.length : Int) ≤ 1000000 := by omega
  clear h
  go_enter Tryz.func32, Tryz.ntmps32
  go_upto_region 3 with (at_builtin; (refine wpList_append_row runE rfl (.tmp 4) (.tmp 5) 38 rfl w.heap.size 69 _ 24 Tryz.underlying38 info_run rfl rfl rfl NW.out H.out (by have := HLEN.out; simp only [List.length_nil]; unfold maxLen; omega) (by have := HLEN.out; simp only [List.length_nil]; omega) (Nat.le_refl _) ?_); intro v1 w1 ho1 hk1; rw [List.nil_append] at ho1; have K1 : Hid (Kept (fun _ => False) w w1) := Lib.hid (hk1.mono (fun b _ e => by have e : (Value.slice none 0 0).ownBlock = some b := e; cases e)); have O1 := Lib.hid ho1; clear ho1 hk1)
  have ka : Kept (fun _ => False) w1 (w1.alloc (.cells #[.int .i64 0, .int .i64 0, .int .i64 777] 69)) := (Kept.refl _ _).alloc _
  have LR := Lib.hid (lit_run7 w1 777)
  have OL := Lib.hid (owns_keep O1.out ka fun _ _ h => h)
  have KL := Lib.hid (K1.out.trans ka fun _ _ h => h)
  clear ka
  go_upto_region 4 with (at_builtin; (refine wpList_append_row runE rfl (.tmp 7) (.tmp 9) 38 rfl w.heap.size 69 _ 24 Tryz.underlying38 info_run rfl rfl rfl OL.out LR.out (by have := HLEN.out; show G.length + 1 ≤ maxLen; unfold maxLen; omega) (by have := HLEN.out; show (G.length + 1) * 24 ≤ 140737488355328; omega) KL.out.size ?_); intro v2 w2 ho2 hk2; have K2 : Hid (Kept (fun _ => False) w w2) := Lib.hid (KL.out.over hk2 fun b hb => owns_new O1.out b hb); have O2 := Lib.hid ho2; clear ho2 hk2)
  obtain ⟨_, ⟨_, hno⟩ | ⟨g, cg, hv, hzg, hO⟩⟩ := own_of (E := runE) O2.out
  · simp at hno
  have hm : (G ++ [(⟨⟨0, 0⟩, 777⟩ : Run)]).length = G.length + 1 := by simp
  have hle := hO.le
  rw [hm] at hv hle
  unfold maxLen at hle
  subst hv
  have hgc : (G.length : Int) ≤ cg := by omega
  have hgi : (G.length : Int) ≤ (G.length : Int) + 1 := by omega
  have OO := Lib.hid hO
  have HZ := Lib.hid hzg
  clear hO hm hzg
  go_wp2_with fail
  go_ret
  exact ⟨_, _, rfl, OO.out, HZ.out, K2.out⟩
end Go.Proofs.YtlafodnaifghcaaGreat.Tr
namespace Go.Proofs.YtlafodnaifghcaaGreat.Tr
open Go.RowKit Go.Sort Go.Proofs.YtlafodnaifghcaaGreat.St Go.Proofs.YtlafodnaifghcaaGreat Go.Proofs.YtlafodnaifghcaaGreat.Gl
theorem own_pre7 {α : Type} {E : Enc α} {w : World} {t : TypeId} {g cap : Nat} {D : List α} (h : OwnAt E w t g cap D) {n : Nat} (hn : n ≤ D.length) : SlAt E w (.slice (some ⟨g, 0, none⟩) n cap) (D.take n) := by
  have := (h.take n).slAt
  rwa [List.length_take, Nat.min_eq_left hn] at this
set_option maxHeartbeats 4000000 in
theorem tback_any {w : World} {v : Value} {G : List Run} {g c : Nat} (hO : OwnAt runE w 69 g c (G ++ [⟨⟨0, 0⟩, 777⟩])) (hv : SlAt runE w v G) (hGl : G.length ≤ 1000000) :
    Calls Tryz.prog 35 #[.slice (some ⟨g, 0, none⟩) G.length c, v] w fun e w' => e = .returned (.bool true) ∧ Kept (fun _ => False) w w' := by
  have hp : SlAt runE w (.slice (some ⟨g, 0, none⟩) G.length c) G := by
    have := own_pre7 hO (n := G.length) (by simp)
    rwa [List.take_left' rfl] at this
  have RUNS : Hid (Calls Tryz.prog 28 #[.slice (some ⟨g, 0, none⟩) G.length c, v] w fun e w' => e = .returned (.bool true) ∧ Kept (fun _ => False) w w') := Lib.hid ((lruns_eq hp hv (by omega)).mono fun e w' h => by
    obtain ⟨he, q, rfl⟩ := h
    rw [decide_eq_true rfl] at he
    exact ⟨he, (Kept.refl _ _).drewN q⟩)
  have m0 : w.cell? ⟨g, G.length * 3 + 2, none⟩ = some (.int .i64 777) := hO.cell (i := G.length) (j := 2) (x := ⟨⟨0, 0⟩, 777⟩) (by simp) rfl
  have M0 := Lib.hid m0
  obtain ⟨a, c2, rfl, _, _⟩ := hv.sl
  have hle := hO.le
  have hm : (G ++ [(⟨⟨0, 0⟩, 777⟩ : Run)]).length = G.length + 1 := by simp
  rw [hm] at hle
  unfold maxLen at hle
  have hw : IntKind.i64.wrap ((G.length : Int) + 1) = (G.length : Int) + 1 := IntWalk.i64_in _ (by omega)
  have h0 : (0 : Int) ≤ (G.length : Int) + 1 := by omega
  have h00 : (0 : Int) ≤ (G.length : Int) := by omega
  have h1 : (G.length : Int) + 1 ≤ c := by omega
  have h2 : (G.length : Int) < (G.length : Int) + 1 := by omega
  clear hO hv hp hm m0 hle
  go_enter Tryz.func35, Tryz.ntmps35
  go_wp2_with (go_at_call 28; refine RUNS.out.mono ?_; rintro e w1 ⟨rfl, hk⟩; have K1 := Lib.hid hk; have m1 := cell_keep hk M0.out; clear hk)
  go_ret
  exact ⟨rfl, K1.out⟩
end Go.Proofs.YtlafodnaifghcaaGreat.Tr
namespace Go.Proofs.YtlafodnaifghcaaGreat.Tr
open Go.RowKit Go.Proofs.YtlafodnaifghcaaGreat.St Go.Shelf
attribute [local go_sem] Oper.semAt_some
theorem kept_nil (w : World) : Calls Tryz.prog 29 #[.pointer none] w fun e w' => e = .returned (.int .i64 0) ∧ w = w' := by
  go_enter Tryz.func29, Tryz.ntmps29
  go_wp2
  go_ret
  exact ⟨rfl, rfl⟩
set_option maxRecDepth 100000 in
theorem insert_nil (i ref : ID) (s : ByteArray) (w : World) : Calls Tryz.prog 19 #[.pointer none, idV i, idV ref, .string s] w fun e w' => e = .returned (.int .i64 1) ∧ Grew w w' := by
  unfold idV
  go_enter Tryz.func19, Tryz.ntmps19
  go_wp2
  go_ret
  exact ⟨rfl, ((Grew.refl w).alloc _).alloc _⟩
/-- nothing is handed over -/
theorem all1_nil {F : Fence} {n : Nat} (h62 : F.fn 95) (hro : F.round = none) {pl : Nat} (enc : Nat → Array Value) :
    IterOk F n Tryz.prog 95 #[.pointer (some ⟨pl, 0, none⟩)] 0 enc (fun w => w.cell? ⟨pl, 0, none⟩ = some (.pointer none)) := by
  intro yl I Z X0 w hrd hgr hgz hy h0
  have r0 := hrd _ _ _ h0
  have H0 := Lib.hid h0
  clear hrd hgr hgz hy h0
  refine callsIn_of_wp Tryz.func95 rfl h62 ?_ hro
  simp only [Tryz.ntmps95, List.size_toArray, List.length_cons, List.length_nil, Nat.reduceAdd, Nat.reduceSub, Array.replicate_succ, Array.replicate_zero, List.push_toArray, List.append_toArray, List.nil_append, List.cons_append]
  gi_wp2
  refine bodyPost_ret (results_none rfl _ _ _) rfl ?_
  exact ⟨⟨_, rfl⟩, .inl ⟨_, H0.out⟩⟩
theorem all_nil (w : World) : Calls Tryz.prog 63 #[.pointer none] w fun e w' =>
    e = .returned (.func (.func 95) #[] #[.pointer (some ⟨w.heap.size, 0, none⟩)]) ∧ w' = w.alloc (.cells #[.pointer none] 25) := by
  go_enter Tryz.func63, Tryz.ntmps63
  go_wp2
  go_ret
  exact ⟨rfl, rfl⟩
/-- a caller's boxes through no rounds -/
def NilJ (w : World) (B : Nat) (bs : List Box) (_ : Nat) (X : Nat → Prop) (W : World) : Prop :=
  Kept (fun _ => False) w W ∧ (∀ x ∈ bs, Blk W x.1 x.2.1 x.2.2 ∧ x.1 < B) ∧ (∀ b, X b → B ≤ b) ∧ B ≤ W.heap.size ∧ w.heap.size ≤ B
theorem NilJ.step {w W W' : World} {B i : Nat} {bs : List Box} {X X' Y : Nat → Prop} (h : NilJ w B bs i X W) (hk : Kept Y W W') (hY : ∀ b, Y b → B ≤ b) (hX : ∀ b, X' b → B ≤ b) : NilJ w B bs i X' W' := by
  obtain ⟨h1, h2, h3, h4, h5⟩ := h
  exact ⟨h1.trans hk fun b hb h => by have := hY b h; omega, fun x hx => ⟨hk.blk (fun h => by have := hY _ h; have := (h2 x hx).2; omega) (h2 x hx).1, (h2 x hx).2⟩, hX, Nat.le_trans h4 hk.size, h5⟩
theorem NilJ.grow {w W W' : World} {B i : Nat} {bs : List Box} {X : Nat → Prop} (h : NilJ w B bs i X W) (hk : Kept X W W') : NilJ w B bs i (fun b => X b ∨ (W.heap.size ≤ b ∧ b < W'.heap.size)) W' :=
  h.step hk h.2.2.1 fun b hb => hb.elim (h.2.2.1 b) fun h9 => Nat.le_trans h.2.2.2.1 h9.1
theorem NilJ.start (w : World) : NilJ w w.heap.size [] 0 (fun _ => False) w := ⟨Kept.refl _ _, fun _ hx => (List.not_mem_nil hx).elim, fun _ h => h.elim, Nat.le_refl _, Nat.le_refl _⟩
theorem NilJ.boxed {w W : World} {bs : List Box} (h : NilJ w W.heap.size bs 0 (fun _ => False) W) (cs : Array Value) (t : TypeId) : NilJ w (W.alloc (.cells cs t)).heap.size (bs ++ [(W.heap.size, t, cs)]) 0 (fun _ => False) (W.alloc (.cells cs t)) := by
  obtain ⟨h1, h2, _, _, h5⟩ := h
  refine ⟨h1.alloc _, fun x hx => ?_, fun _ h => h.elim, Nat.le_refl _, by rw [World.size_alloc]; omega⟩
  rcases List.mem_append.1 hx with hx | hx
  · exact ⟨(h2 x hx).1.alloc _, by rw [World.size_alloc]; have := (h2 x hx).2; omega⟩
  · rw [List.mem_singleton.1 hx]; exact ⟨Blk.new W _ _, by rw [World.size_alloc]; exact Nat.lt_succ_self _⟩
theorem NilJ.cell {w W : World} {B i : Nat} {bs : List Box} {X : Nat → Prop} (h : NilJ w B bs i X W) (j : Nat) {z : Nat} {T : TypeId} {us : Array Value} (hj : bs[j]? = some (z, T, us)) (o : Nat) {u : Value} (hu : us[o]? = some u) : W.cell? ⟨z, o, none⟩ = some u := (h.2.1 _ (List.mem_of_getElem? hj)).1.cell' hu
set_option maxHeartbeats 4000000 in
theorem nodes_nil (w : World) :
    Calls Tryz.prog 40 #[.pointer none] w fun e w' => e = .returned (.slice none 0 0) ∧ Kept (fun _ => False) w w' := by
  refine (callsIn_wide (n := 6)).1 ?_
  refine callsIn_of_wp_marks Tryz.func40 rfl trivial ?_ rfl
  simp only [Tryz.ntmps40, List.size_toArray, List.length_cons, List.length_nil, Nat.reduceAdd, Nat.reduceSub, Array.replicate_succ, Array.replicate_zero, List.push_toArray, List.append_toArray, List.nil_append, List.cons_append]
  gi_wp2_with (refine ⟨trivial, ?_⟩; gi_at_call 63; refine (callsIn_wide.2 (all_nil _)).mono ?_; rintro e w' ⟨rfl, rfl⟩)
  obtain ⟨W0, hW0⟩ : ∃ W0, ((w.alloc (.cells #[.slice none 0 0] 31)).alloc (.cells #[.pointer none] 25)) = W0 := ⟨_, rfl⟩
  have b0 := (Blk.new w 31 #[.slice none 0 0]).alloc (.cells #[.pointer none] 25)
  have b1 := Blk.new (w.alloc (.cells #[.slice none 0 0] 31)) 25 #[.pointer none]
  have k0 : Kept (fun _ => False) w ((w.alloc (.cells #[.slice none 0 0] 31)).alloc (.cells #[.pointer none] 25)) := ((Kept.refl _ _).alloc _).alloc _
  rw [World.size_alloc] at b1
  rw [hW0] at b0 b1 k0
  have hJ0 : NilJ w W0.heap.size [(w.heap.size, 31, #[.slice none 0 0]), (w.heap.size + 1, 25, #[.pointer none])] 0 (fun _ => False) W0 :=
    ⟨k0, fun x hx => by rcases List.mem_cons.1 hx with rfl | hx; exact ⟨b0, b0.lt⟩; rw [List.mem_singleton.1 hx]; exact ⟨b1, b1.lt⟩, fun _ h => h.elim, Nat.le_refl _, k0.size⟩
  rw [hW0]
  clear hW0 b0 b1 k0
  refine wpIn_iter (N := 0) (enc := fun _ => #[]) rfl (by decide) (gf := 95) (lb := #[.pointer (some ⟨w.heap.size + 1, 0, none⟩)]) rfl trivial (enters_of Tryz.func95 (by kernel_rfl) rfl) (all1_nil trivial rfl _) (fun i h => absurd h (Nat.not_lt_zero _)) W0.heap.size rfl (NilJ w W0.heap.size [(w.heap.size, 31, #[.slice none 0 0]), (w.heap.size + 1, 25, #[.pointer none])]) (fun _ _ _ => False) ?hrd ?hgr ?hgx ?hob ?hox ?h0 ?round ?done ?stop
  case hrd => intro i X W hJ; exact (hJ.2.1 _ (List.mem_cons_of_mem _ List.mem_cons_self)).1.cell' rfl
  case hgr => intro i X W W' hJ hk; exact hJ.grow hk
  case hgx => intro c X W W' h _; exact h
  case hob => intro i X W o' hJ; exact hJ.step (kept_put W _ o') (fun b hb => by rw [hb]; omega) hJ.2.2.1
  case hox => intro c X W o' hJ; exact hJ
  case h0 => intro o1 o2; exact hJ0.step (((Kept.refl (fun _ => False) W0).alloc o1).alloc o2) (fun _ h => h.elim) (fun _ h => h.elim)
  case round => intro i W K hi; exact absurd hi (Nat.not_lt_zero _)
  case done =>
    intro X W hJ hK
    have c0 : W.cell? ⟨w.heap.size, 0, none⟩ = some (.slice none 0 0) := (hJ.2.1 _ List.mem_cons_self).1.cell' rfl
    have HJ := Lib.hid hJ
    have HK := Lib.hid hK
    have hcl := clip_any none 0 0 (Nat.le_refl _) W
    clear hJ hK
    gi_wp2_with (refine ⟨trivial, ?_⟩; gi_at_call 76; refine (callsIn_wide.2 hcl).mono ?_; rintro e w' ⟨rfl, rfl⟩)
    refine ret_range HK.out (results_tmp rfl _ _ _) ⟨rfl, ?_⟩
    exact (HJ.out.step (X' := fun _ => False) (kept_put w' W0.heap.size (.deferred none)) (fun b hb => by rw [hb]; exact Nat.le_refl _) (fun _ h => h.elim)).1
  case stop => rintro c X W h _; exact h.elim
def tnilB (z : Nat) (v : Value) (fr tz : Int) : List Box :=
  [(z, 38, #[v]), (z + 1, 3, #[.int .i64 fr]), (z + 1 + 1, 3, #[.int .i64 tz]), (z + 1 + 1 + 1, 3, #[.int .i64 0]), (z + 1 + 1 + 1 + 1, 25, #[.pointer none])]
set_option maxHeartbeats 4000000 in
theorem turn_nil (va : Option Addr) (vn vc : Nat) (fr tz : Int) (w : World) :
    Calls Tryz.prog 62 #[.pointer none, .slice va vn vc, .int .i64 fr, .int .i64 tz] w fun e w' => e = .returned (.int .i64 0) ∧ Kept (fun _ => False) w w' := by
  refine (callsIn_wide (n := 6)).1 ?_
  refine callsIn_of_wp_marks Tryz.func62 rfl trivial ?_ rfl
  simp only [Tryz.ntmps62, List.size_toArray, List.length_cons, List.length_nil, Nat.reduceAdd, Nat.reduceSub, Array.replicate_succ, Array.replicate_zero, List.push_toArray, List.append_toArray, List.nil_append, List.cons_append]
  gi_wp2_with (refine ⟨trivial, ?_⟩; gi_at_call 63; refine (callsIn_wide.2 (all_nil _)).mono ?_; rintro e w' ⟨rfl, rfl⟩)
  obtain ⟨W0, hW0⟩ : ∃ W0, (((((w.alloc (.cells #[.slice va vn vc] 38)).alloc (.cells #[.int .i64 fr] 3)).alloc (.cells #[.int .i64 tz] 3)).alloc (.cells #[.int .i64 0] 3)).alloc (.cells #[.pointer none] 25)) = W0 := ⟨_, rfl⟩
  have hJ0 : NilJ w W0.heap.size (tnilB w.heap.size (.slice va vn vc) fr tz) 0 (fun _ => False) W0 := by
    rw [← hW0]
    have h9 := (((((NilJ.start w).boxed #[.slice va vn vc] 38).boxed #[.int .i64 fr] 3).boxed #[.int .i64 tz] 3).boxed #[.int .i64 0] 3).boxed #[.pointer none] 25
    simp only [World.size_alloc] at h9 ⊢
    exact h9
  rw [hW0]
  clear hW0
  refine wpIn_iter (N := 0) (enc := fun _ => #[]) rfl (by decide) (gf := 95) (lb := #[.pointer (some ⟨w.heap.size + 1 + 1 + 1 + 1, 0, none⟩)]) rfl trivial (enters_of Tryz.func95 (by kernel_rfl) rfl) (all1_nil trivial rfl _) (fun i h => absurd h (Nat.not_lt_zero _)) W0.heap.size rfl (NilJ w W0.heap.size (tnilB w.heap.size (.slice va vn vc) fr tz)) (fun _ _ _ => False) ?hrd ?hgr ?hgx ?hob ?hox ?h0 ?round ?done ?stop
  case hrd => intro i X W hJ; exact hJ.cell 4 rfl 0 rfl
  case hgr => intro i X W W' hJ hk; exact hJ.grow hk
  case hgx => intro c X W W' h _; exact h
  case hob => intro i X W o' hJ; exact hJ.step (kept_put W _ o') (fun b hb => by rw [hb]; omega) hJ.2.2.1
  case hox => intro c X W o' hJ; exact hJ
  case h0 => intro o1 o2; exact hJ0.step (((Kept.refl (fun _ => False) W0).alloc o1).alloc o2) (fun _ h => h.elim) (fun _ h => h.elim)
  case round => intro i W K hi; exact absurd hi (Nat.not_lt_zero _)
  case done =>
    intro X W hJ hK
    have c3 : W.cell? ⟨w.heap.size + 1 + 1 + 1, 0, none⟩ = some (.int .i64 0) := hJ.cell 3 rfl 0 rfl
    have HJ := Lib.hid hJ
    have HK := Lib.hid hK
    clear hJ hK
    gi_wp2
    exact ret_range HK.out (results_tmp rfl _ _ _) ⟨rfl, (HJ.out.step (X' := fun _ => False) (kept_put W W0.heap.size (.deferred none)) (fun b hb => by rw [hb]; exact Nat.le_refl _) (fun _ h => h.elim)).1⟩
  case stop => rintro c X W h _; exact h.elim
theorem delete_nil (va : Option Addr) (vn vc : Nat) (w : World) : Calls Tryz.prog 24 #[.pointer none, .slice va vn vc] w fun e w' => e = .returned (.int .i64 0) ∧ Kept (fun _ => False) w w' := by
  have HT := Lib.hid (turn_nil va vn vc 1 2 w)
  go_enter Tryz.func24, Tryz.ntmps24
  go_wp2_with (go_at_call 62; refine HT.out.mono ?_; rintro e w' ⟨rfl, h2⟩)
  go_ret
  exact ⟨rfl, h2⟩
theorem settle_nil (va : Option Addr) (vn vc : Nat) (w : World) : Calls Tryz.prog 26 #[.pointer none, .slice va vn vc] w fun e w' => e = .returned (.int .i64 0) ∧ Kept (fun _ => False) w w' := by
  have HT := Lib.hid (turn_nil va vn vc 2 3 w)
  go_enter Tryz.func26, Tryz.ntmps26
  go_wp2_with (go_at_call 62; refine HT.out.mono ?_; rintro e w' ⟨rfl, h2⟩)
  go_ret
  exact ⟨rfl, h2⟩
end Go.Proofs.YtlafodnaifghcaaGreat.Tr
