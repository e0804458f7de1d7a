/- hearsayref11.Collect. hearsayref11: end. hearsayref11: place. -/
import Derived.Test.YtlafodnaifghcaaGreatH14
import Derived.Test.YtlafodnaifghcaaGreatH19
import Derived.Deep.DeepCutAuto
import Derived.Test.YtlafodnaifghcaaGreatH11
import Derived.Test.YtlafodnaifghcaaGreatH2
import Derived.Test.YtlafodnaifghcaaGreatH17
import Derived.Deep.CutBlock
namespace Go.Proofs.YtlafodnaifghcaaGreat.Tr
open Go.RowKit Go.Sort Go.Proofs.YtlafodnaifghcaaGreat.St
attribute [local go_sem] Oper.semAt_some
/-- does what is left begin with one that stands behind -/
def headRef (B : List Nd) (i : ID) : Bool := match B with | [] => false | m :: _ => decide (m.ref = i)
theorem collR_cons (x : Nd) (r : List Nd) : collR (x :: r) = if x.st = 3 ∧ headRef (collR r) x.id = false then collR r else x :: collR r := by
  have e : (∀ m, (collR r).head? = some m → m.ref ≠ x.id) ↔ headRef (collR r) x.id = false := by
    unfold headRef
    cases collR r with
    | nil => simp
    | cons m B => simp
  show (if x.st = 3 ∧ (∀ m, (collR r).head? = some m → m.ref ≠ x.id) then collR r else x :: collR r) = _
  by_cases c : x.st = 3 ∧ headRef (collR r) x.id = false
  · rw [if_pos c, if_pos ⟨c.1, e.2 c.2⟩]
  · rw [if_neg c, if_neg (fun h => c ⟨h.1, e.1 h.2⟩)]
theorem collN_cons (x : Nd) (r : List Nd) : collN (x :: r) = if x.st = 3 ∧ headRef (collR r) x.id = false then collN r + 1 else collN r := by
  unfold collN
  rw [collR_cons]
  split
  · simp only [List.length_cons]; omega
  · simp only [List.length_cons]; omega
theorem collN_le (L : List Nd) : 0 ≤ collN L ∧ collN L ≤ L.length := by
  unfold collN
  have := collR_len L
  omega
set_option maxRecDepth 100000 in
set_option maxHeartbeats 8000000 in
theorem rcollect_any {w : World} {v : Value} {L : List Nd} (h : SlAt nodeE w v L) (hlen : L.length ≤ 900000) :
    Calls Tryz.prog 36 #[.agg #[v]] w fun e w' => (∃ u, e = .returned (.tuple #[.agg #[u], .int .i64 (collN L)]) ∧ w'.ownsRow w.heap.size 45 6 u (collR L).length (nodeE.flat (collR L))) ∧ Kept (fun _ => False) w w' := by
  obtain ⟨a, c, rfl, _, _⟩ := h.sl
  have hk0 : Kept (fun _ => False) w ((w.alloc (.cells #[.slice a L.length c] 33)).alloc (.cells #[.slice none 0 0] 33)) := ((Kept.refl _ _).alloc _).alloc _
  have HL := Lib.hid (h.kept hk0)
  have K0 := Lib.hid hk0
  have b0 := (Blk.new w 33 #[.slice a L.length c]).alloc (.cells #[.slice none 0 0] 33)
  have b1 := Blk.new (w.alloc (.cells #[.slice a L.length c] 33)) 33 #[.slice none 0 0]
  rw [World.size_alloc] at b1
  clear h hk0
  go_enter Tryz.func36, Tryz.ntmps36
  go_upto_region 1 with fail
  obtain ⟨z, hz⟩ : ∃ z, w.heap.size = z := ⟨_, rfl⟩
  obtain ⟨W0, hW0⟩ : ∃ W0, ((w.alloc (.cells #[.slice a L.length c] 33)).alloc (.cells #[.slice none 0 0] 33)) = W0 := ⟨_, rfl⟩
  rw [hW0] at HL K0 b0 b1 ⊢
  rw [hz] at b0 b1 ⊢
  have B0 := Lib.hid b0
  have B1 := Lib.hid b1
  have HZ := Lib.hid hz
  have c0' := b0.cell' (i := 0) (v := .slice a L.length c) rfl
  have hLI : (L.length : Int) ≤ 900000 := by omega
  have ewL : IntKind.i64.wrap ((L.length : Int) - 1) = (L.length : Int) - 1 := IntWalk.i64_in _ (by omega)
  clear hW0 hz b0 b1
  go_wp2_with fail
  clear c0' ewL
  go_loopw [4, 5, 6] (fun bv nv iv wr => ∃ k : Nat, iv = .int .i64 ((k : Int) - 1) ∧ nv = .int .i64 (collN (L.drop k)) ∧ k ≤ L.length ∧ wr.ownsRow W0.heap.size 45 6 bv (collR (L.drop k)).length (nodeE.flat (collR (L.drop k)).reverse) ∧ Kept (fun _ => False) W0 wr) (fun _ _ iv _ => (intOf iv + 1).toNat)
  case atStart => exact ⟨L.length, rfl, by rw [List.drop_length]; rfl, Nat.le_refl _, by rw [List.drop_length]; exact World.ownsRow_nil .., Kept.refl _ _⟩
  case round =>
    obtain ⟨k, rfl, rfl, hk, ho, hkw⟩ := hrel
    obtain ⟨ua, uc, rfl⟩ := owns_sl ho
    have HO := Lib.hid ho
    have KW := Lib.hid hkw
    have c0 := (hkw.blk (fun h => h) B0.out).cell' (i := 0) (v := .slice a L.length c) rfl
    have hcl := collR_len (L.drop k)
    have hcd : (L.drop k).length ≤ L.length := by rw [List.length_drop]; omega
    have hcn := collN_le (L.drop k)
    clear ho hkw
    by_cases hk0 : k = 0
    case pos =>
      have hnl : ¬ (0 : Int) ≤ (k : Int) - 1 := by omega
      have EB : Hid (L.drop k = L) := Lib.hid (by rw [hk0]; rfl)
      rw [EB.out] at HO hcl hcn ⊢
      obtain ⟨C, hC⟩ : ∃ C, collR L = C := ⟨_, rfl⟩
      obtain ⟨cn, hcnn⟩ : ∃ cn, collN L = cn := ⟨_, rfl⟩
      obtain ⟨n1, hn1⟩ : ∃ n1, C.length = n1 := ⟨_, rfl⟩
      rw [hC, hn1] at HO hcl ⊢
      rw [hcnn] at hcn ⊢
      have HC := Lib.hid hC
      have HCN := Lib.hid hcnn
      have HN1 := Lib.hid hn1
      have hnI : (n1 : Int) ≤ 900000 := by omega
      have ewn : IntKind.i64.wrap ((n1 : Int) - 1) = (n1 : Int) - 1 := IntWalk.i64_in _ (by omega)
      obtain ⟨w9, hw9⟩ : ∃ w9, wr = w9 := ⟨_, rfl⟩
      rw [hw9] at HO KW ⊢
      clear hC hcnn hn1 hw9 c0
      go_wp2_with fail
      clear ewn
      go_loopw [9, 10] (fun ov iv wx => ∃ k : Nat, iv = .int .i64 ((k : Int) - 1) ∧ k ≤ n1 ∧ wx.ownsRow w9.heap.size 45 6 ov (C.reverse.drop k).length (nodeE.flat (C.reverse.drop k).reverse) ∧ Kept (fun _ => False) w9 wx) (fun _ iv _ => (intOf iv + 1).toNat)
      case atStart => exact ⟨n1, rfl, Nat.le_refl _, by rw [List.drop_of_length_le (by rw [List.length_reverse, HN1.out]; exact Nat.le_refl _)]; exact World.ownsRow_nil .., Kept.refl _ _⟩
      case round =>
        obtain ⟨k2, rfl, hk2, ho2, hkw2⟩ := hrel
        obtain ⟨va, vc, rfl⟩ := owns_sl ho2
        have HO2 := Lib.hid ho2
        have KW2 := Lib.hid hkw2
        clear ho2 hkw2
        by_cases hk20 : k2 = 0
        case pos =>
          have hnl2 : ¬ (0 : Int) ≤ (k2 : Int) - 1 := by omega
          have e9 : C.reverse.drop k2 = C.reverse := by rw [hk20]; rfl
          rw [e9, List.reverse_reverse, List.length_reverse, HN1.out] at HO2
          rw [e9, List.length_reverse, HN1.out]
          have KT := Lib.hid (KW.out.trans KW2.out fun _ _ h => h)
          have hb1 := KT.out.blk (fun h => h) B1.out
          have f1 := hb1.frozen 0
          have c1 := hb1.cell' (i := 0) (v := .slice none 0 0) rfl
          have HB1 := Lib.hid hb1
          have hzl : z + 1 < W0.heap.size := B1.out.lt
          clear hb1 e9
          go_wp2_with fail
          have c9 := (HB1.out.set_ 0 (.slice va n1 vc)).cell' (i := 0) (v := (.slice va n1 vc)) (by simp)
          refine bodyPost_ret (v := .tuple #[.agg #[(.slice va n1 vc)], .int .i64 cn]) (by simp [results, Tryz.results36, go_sem, c9]) rfl ⟨⟨(.slice va n1 vc), by rw [HCN.out], ?_⟩, (K0.out.trans KT.out fun _ _ h => h).trans (kept_cell wr (z + 1) (.slice va n1 vc)) (fun b hb h9 => by have := HZ.out; omega)⟩
          rw [HC.out, HN1.out]
          have hsz9 := KW.out.size
          exact owns_base9 (owns_keep HO2.out (kept_cell wr (z + 1) (.slice va n1 vc)) (fun b hb h9 => by have := owns_new HO2.out b hb; omega)) (Nat.le_trans K0.out.size hsz9)
        case neg =>
          obtain ⟨j, rfl⟩ : ∃ j, k2 = j + 1 := ⟨k2 - 1, by omega⟩
          have ej : (((j + 1 : Nat) : Int) - 1) = (j : Int) := by omega
          rw [ej]
          have hj0 : (0 : Int) ≤ j := by omega
          have hjl : (j : Int) < n1 := by omega
          obtain ⟨_, ⟨_, hno⟩ | ⟨g', cap, hv, _, hO⟩⟩ := own_of (E := nodeE) HO.out
          · have := congrArg List.length hno; rw [List.length_reverse, HN1.out] at this; simp at this; omega
          injection hv with q1 _ q3
          subst q1 q3
          obtain ⟨y, hy⟩ := get_of_lt (show j < C.reverse.length by rw [List.length_reverse, HN1.out]; omega)
          have hd : C.reverse.drop j = y :: C.reverse.drop (j + 1) := by rw [List.drop_eq_getElem_cons (by rw [List.length_reverse, HN1.out]; omega), (List.getElem?_eq_some_iff.1 hy).2]
          obtain ⟨D, hD⟩ : ∃ D, C.reverse.drop (j + 1) = D := ⟨_, rfl⟩
          rw [hD] at HO2 hd ⊢
          have hDl : D.length ≤ 900000 := by rw [← hD, List.length_drop, List.length_reverse, HN1.out]; omega
          obtain ⟨dl, hdl⟩ : ∃ dl, D.length = dl := ⟨_, rfl⟩
          rw [hdl] at HO2 hDl ⊢
          have HDD := Lib.hid hd
          have HDL := Lib.hid hdl
          have HDB := Lib.hid hDl
          have hO9 := hO.keep KW2.out (fun h => h)
          have y0 : wr.cell? ⟨g', j * 6, none⟩ = some (.int .i64 y.id.t) := hO9.cell hy (j := 0) rfl
          have y1 : wr.cell? ⟨g', j * 6 + 1, none⟩ = some (.int .i64 y.id.s) := hO9.cell hy (j := 1) rfl
          have y2 : wr.cell? ⟨g', j * 6 + 2, none⟩ = some (.int .i64 y.ref.t) := hO9.cell hy (j := 2) rfl
          have y3 : wr.cell? ⟨g', j * 6 + 3, none⟩ = some (.int .i64 y.ref.s) := hO9.cell hy (j := 3) rfl
          have y4 : wr.cell? ⟨g', j * 6 + 4, none⟩ = some (.int .i32 y.rune) := hO9.cell hy (j := 4) rfl
          have y5 : wr.cell? ⟨g', j * 6 + 5, none⟩ = some (.int .i64 y.st) := hO9.cell hy (j := 5) rfl
          have ewj : IntKind.i64.wrap ((j : Int) - 1) = (j : Int) - 1 := IntWalk.i64_in _ (by omega)
          have LD : Hid (SlAt nodeE (wr.alloc (.cells #[.int .i64 y.id.t, .int .i64 y.id.s, .int .i64 y.ref.t, .int .i64 y.ref.s, .int .i32 y.rune, .int .i64 y.st] 45)) (.slice (some ⟨wr.heap.size, 0, none⟩) 1 1) [y]) := Lib.hid (SlAt.lit (E := nodeE) [y] _ rfl (by simp [maxLen]))
          have kal : Kept (fun _ => False) wr (wr.alloc (.cells #[.int .i64 y.id.t, .int .i64 y.id.s, .int .i64 y.ref.t, .int .i64 y.ref.s, .int .i32 y.rune, .int .i64 y.st] 45)) := (Kept.refl _ _).alloc _
          have O3 := Lib.hid (owns_keep HO2.out kal fun _ _ h => h)
          have K3 := Lib.hid (KW2.out.trans kal fun _ _ h => h)
          have RL : Hid (D.reverse.length = dl) := Lib.hid (by rw [List.length_reverse]; exact HDL.out)
          clear hO hO9 hy hd hD hDl hdl kal
          go_wp2_with (at_builtin; refine wpList_append_row nodeE rfl (.tmp 59) (.tmp 64) 31 rfl w9.heap.size 45 _ 48 Tryz.underlying31 info_node rfl (D := D.reverse) rfl rfl (by rw [RL.out]; exact O3.out) LD.out (by rw [RL.out]; have := HDB.out; show dl + 1 ≤ maxLen; unfold maxLen; omega) (by rw [RL.out]; have := HDB.out; show (dl + 1) * 48 ≤ 140737488355328; omega) K3.out.size ?_; intro v9 w10 ho9 hk9)
          go_roundw
          case rel => exact ⟨j, rfl, by omega, by rw [HDD.out, List.reverse_cons, List.length_cons, HDL.out]; have h9 := ho9; rw [List.length_append, RL.out] at h9; exact h9, K3.out.over hk9 (fun b hb => owns_new O3.out b hb)⟩
          case measure => simp [intOf] <;> omega
    case neg =>
      obtain ⟨j, rfl⟩ : ∃ j, k = j + 1 := ⟨k - 1, by omega⟩
      have ej : (((j + 1 : Nat) : Int) - 1) = (j : Int) := by omega
      rw [ej]
      have hj0 : (0 : Int) ≤ j := by omega
      have hjl : (j : Int) < L.length := by omega
      obtain ⟨x, hx⟩ := get_of_lt (show j < L.length by omega)
      have hd : L.drop j = x :: L.drop (j + 1) := by rw [List.drop_eq_getElem_cons (by omega), (List.getElem?_eq_some_iff.1 hx).2]
      obtain ⟨B, hB⟩ : ∃ B, collR (L.drop (j + 1)) = B := ⟨_, rfl⟩
      obtain ⟨cn, hcnn⟩ : ∃ cn, collN (L.drop (j + 1)) = cn := ⟨_, rfl⟩
      rw [hB] at HO hcl ⊢
      rw [hcnn] at hcn ⊢
      have hcR := collR_cons x (L.drop (j + 1))
      have hcN := collN_cons x (L.drop (j + 1))
      rw [← hd, hB] at hcR hcN
      rw [hcnn] at hcN
      have CR := Lib.hid hcR
      have CN := Lib.hid hcN
      have hBl : B.length ≤ 900000 := by omega
      have HBL := Lib.hid hBl
      obtain ⟨g, o, c', e1, _, h1⟩ := SlAt.node (HL.out.kept KW.out) (by omega)
      cases e1
      obtain ⟨r0, r1, r2, r3, r4, r5⟩ := h1 j x hx
      have ewj : IntKind.i64.wrap ((j : Int) - 1) = (j : Int) - 1 := IntWalk.i64_in _ (by omega)
      have ewc : IntKind.i64.wrap (cn + 1) = cn + 1 := IntWalk.i64_in _ (by omega)
      have kx : Kept (fun _ => False) wr (wr.alloc (.cells #[.int .i64 x.id.t, .int .i64 x.id.s, .int .i64 x.ref.t, .int .i64 x.ref.s, .int .i32 x.rune, .int .i64 x.st] 45)) := (Kept.refl _ _).alloc _
      have hB2 := Blk.new wr 45 #[.int .i64 x.id.t, .int .i64 x.id.s, .int .i64 x.ref.t, .int .i64 x.ref.s, .int .i32 x.rune, .int .i64 x.st]
      have K1 := Lib.hid (KW.out.trans kx fun _ _ h => h)
      have O1 := Lib.hid (owns_keep HO.out kx fun _ _ h => h)
      clear hd hB hcnn hcR hcN h1 hx hcl hcd hBl
      go_upto_region 7 with fail
      obtain ⟨W1, hW1⟩ : ∃ W1, (wr.alloc (.cells #[.int .i64 x.id.t, .int .i64 x.id.s, .int .i64 x.ref.t, .int .i64 x.ref.s, .int .i32 x.rune, .int .i64 x.st] 45)) = W1 := ⟨_, rfl⟩
      obtain ⟨zb, hzb⟩ : ∃ zb, wr.heap.size = zb := ⟨_, rfl⟩
      rw [hzb] at hB2 ⊢
      rw [hW1] at hB2 K1 O1 ⊢
      clear hW1 hzb kx r0 r1 r2 r3 r4 r5 c0 HO KW
      have z0 := hB2.cell' (i := 0) (v := .int .i64 x.id.t) rfl
      have z1 := hB2.cell' (i := 1) (v := .int .i64 x.id.s) rfl
      have BX := Lib.hid hB2
      clear hB2
      obtain ⟨n1, hn1⟩ : ∃ n1, B.length = n1 := ⟨_, rfl⟩
      rw [hn1] at O1 ⊢
      have HN1 := Lib.hid hn1
      clear hn1
      go_cut [8] (fun v wx => v = .bool (headRef B x.id) ∧ ∃ q, wx = W1.drewN q)
      case first =>
        cases B with
        | nil =>
          obtain rfl : n1 = 0 := HN1.out.symm
          go_wp2_with fail
          go_quiet (fail)
          go_wp2_with fail
          go_meet
          case rel => exact ⟨rfl, _, rfl⟩
        | cons m B' =>
          obtain ⟨_, ⟨_, hno⟩ | ⟨g', cap, hv, _, hO⟩⟩ := own_of (E := nodeE) O1.out
          · simp at hno
          injection hv with q1 _ q3
          subst q1 q3
          obtain ⟨bn, hbn⟩ : ∃ bn, B'.length = bn := ⟨_, rfl⟩
          have hlast : ((m :: B').reverse)[bn]? = some m := by rw [List.reverse_cons, List.getElem?_append_right (by simp; omega)]; simp [hbn]
          have y0 : W1.cell? ⟨g', bn * 6 + 2, none⟩ = some (.int .i64 m.ref.t) := hO.cell hlast (j := 2) rfl
          have y1 : W1.cell? ⟨g', bn * 6 + 3, none⟩ = some (.int .i64 m.ref.s) := hO.cell hlast (j := 3) rfl
          have hn1 : bn + 1 = n1 := by rw [← HN1.out]; simp [hbn]
          have hbb : (bn : Int) ≤ 900000 := by have := HBL.out; simp at this; omega
          have heq := eq_id m.ref x.id
          have ew1 : IntKind.i64.wrap ((n1 : Int) - 1) = (bn : Int) := by rw [IntWalk.i64_in _ (by omega)]; omega
          have hn1p : (0 : Int) < n1 := by omega
          have hn1n : 0 < n1 := by omega
          have hg1 : decide (0 < n1) = true := decide_eq_true hn1n
          have hg2 : decide ((0 : Int) < n1) = true := decide_eq_true hn1p
          have hbn1 : (bn : Int) < n1 := by omega
          have hbn0 : (0 : Int) ≤ bn := by omega
          clear hO hlast hbn hn1
          go_wp2_with fail
          go_quiet (fail)
          go_wp2_with fail
          go_meet
          case rel => exact ⟨rfl, _, rfl⟩
      case' rest =>
      obtain ⟨rfl, q, rfl⟩ := hcut
      have hBX := (Kept.refl (fun _ => False) W1).drewN q |>.blk (fun h => h) BX.out
      have z0 := hBX.cell' (i := 0) (v := .int .i64 x.id.t) rfl
      have z1 := hBX.cell' (i := 1) (v := .int .i64 x.id.s) rfl
      have z2 := hBX.cell' (i := 2) (v := .int .i64 x.ref.t) rfl
      have z3 := hBX.cell' (i := 3) (v := .int .i64 x.ref.s) rfl
      have z4 := hBX.cell' (i := 4) (v := .int .i32 x.rune) rfl
      have z5 := hBX.cell' (i := 5) (v := .int .i64 x.st) rfl
      have K2 := Lib.hid (K1.out.drewN q)
      have O2 := Lib.hid (owns_keep O1.out ((Kept.refl (fun _ => False) W1).drewN q) fun _ _ h => h)
      obtain ⟨W2, hW2⟩ : ∃ W2, W1.drewN q = W2 := ⟨_, rfl⟩
      rw [hW2] at z0 z1 z2 z3 z4 z5 K2 O2 ⊢
      obtain ⟨bh, hbh⟩ : ∃ bh, headRef B x.id = bh := ⟨_, rfl⟩
      rw [hbh] at CR CN ⊢
      clear hW2 hBX hbh
      by_cases hgo : x.st = 3 ∧ bh = false
      · obtain ⟨hs3, hbf⟩ := hgo
        subst hbf
        have CR2 : Hid (collR (L.drop j) = B) := Lib.hid (by rw [CR.out, if_pos ⟨hs3, rfl⟩])
        have CN2 : Hid (collN (L.drop j) = cn + 1) := Lib.hid (by rw [CN.out, if_pos ⟨hs3, rfl⟩])
        rw [hs3] at z5
        go_wp2_with fail
        go_roundw
        case rel => exact ⟨j, rfl, by rw [CN2.out], by omega, by rw [CR2.out, HN1.out]; exact O2.out, K2.out⟩
        case measure => simp [intOf] <;> omega
      · have CR2 : Hid (collR (L.drop j) = x :: B) := Lib.hid (by rw [CR.out, if_neg hgo])
        have CN2 : Hid (collN (L.drop j) = cn) := Lib.hid (by rw [CN.out, if_neg hgo])
        have LD : Hid (SlAt nodeE (W2.alloc (.cells #[.int .i64 x.id.t, .int .i64 x.id.s, .int .i64 x.ref.t, .int .i64 x.ref.s, .int .i32 x.rune, .int .i64 x.st] 45)) (.slice (some ⟨W2.heap.size, 0, none⟩) 1 1) [x]) := Lib.hid (SlAt.lit (E := nodeE) [x] _ rfl (by simp [maxLen]))
        have kal : Kept (fun _ => False) W2 (W2.alloc (.cells #[.int .i64 x.id.t, .int .i64 x.id.s, .int .i64 x.ref.t, .int .i64 x.ref.s, .int .i32 x.rune, .int .i64 x.st] 45)) := (Kept.refl _ _).alloc _
        have O3 := Lib.hid (owns_keep O2.out kal fun _ _ h => h)
        have K3 := Lib.hid (K2.out.trans kal fun _ _ h => h)
        have RL : Hid (B.reverse.length = n1) := Lib.hid (by rw [List.length_reverse]; exact HN1.out)
        have hst : (x.st = 3 ∧ bh = true) ∨ ¬ x.st = 3 := by
          by_cases h3 : x.st = 3
          · exact .inl ⟨h3, by cases bh; exact absurd ⟨h3, rfl⟩ hgo; rfl⟩
          · exact .inr h3
        clear kal hgo
        rcases hst with ⟨h3, hb3⟩ | h3
        case' inl =>
          subst hb3
          obtain ⟨xi, xr, xc, xs⟩ := x
          simp only at h3 LD CR2 O3 K3 z0 z1 z2 z3 z4 z5
          subst h3
        case' inr => have h3b : (x.st == 3) = false := by simpa using h3
        all_goals
          go_wp2_with (at_builtin; refine wpList_append_row nodeE rfl (.tmp 48) (.tmp 50) 31 rfl W0.heap.size 45 _ 48 Tryz.underlying31 info_node rfl (D := B.reverse) rfl rfl (by rw [RL.out]; exact O3.out) LD.out (by rw [RL.out]; have := HBL.out; have := HN1.out; show n1 + 1 ≤ maxLen; unfold maxLen; omega) (by rw [RL.out]; have := HBL.out; have := HN1.out; show (n1 + 1) * 48 ≤ 140737488355328; omega) K3.out.size ?_; intro v9 w9 ho9 hk9)
          go_roundw
          case rel => exact ⟨j, rfl, by rw [CN2.out], by omega, by rw [CR2.out, List.reverse_cons, List.length_cons, HN1.out]; have h9 := ho9; rw [List.length_append, RL.out] at h9; exact h9, K3.out.over hk9 (fun b hb => owns_new O3.out b hb)⟩
          case measure => simp [intOf] <;> omega
end Go.Proofs.YtlafodnaifghcaaGreat.Tr
namespace Go.Proofs.YtlafodnaifghcaaGreat.Tr
open Go.RowKit Go.Sort Go.Proofs.YtlafodnaifghcaaGreat.St
theorem endGo_cons (m : Nd) (R : List Nd) (U : List ID) : endGo (m :: R) U = if m.ref ∈ U then endGo R (U ++ [m.id]) + 1 else 0 := rfl
set_option maxRecDepth 100000 in
set_option maxHeartbeats 8000000 in
theorem rend_any {w : World} {v : Value} {L : List Nd} (h : SlAt nodeE w v L) (hlen : L.length ≤ 900000) (i : Nat) (hi : i < L.length) :
    Calls Tryz.prog 100 #[v, .int .i64 i] w fun e w' => e = .returned (.int .i64 (endP L i)) ∧ Kept (fun _ => False) w w' := by
  obtain ⟨x0, hx0⟩ := get_of_lt hi
  obtain ⟨g, o, c, rfl, _, h1⟩ := SlAt.node h (by omega)
  obtain ⟨r0, r1, _⟩ := h1 i x0 hx0
  have hi0 : (0 : Int) ≤ i := by omega
  have hil : (i : Int) < L.length := by omega
  have e0 : IntKind.i64.wrap ((i : Int) + 1) = (i : Int) + 1 := IntWalk.i64_in _ (by omega)
  have hE0 : endP L i = i + 1 + endGo (L.drop (i + 1)) [x0.id] := by unfold endP; rw [hx0]
  obtain ⟨E, hE⟩ : ∃ E, endP L i = E := ⟨_, rfl⟩
  rw [hE] at hE0 ⊢
  have EE := Lib.hid hE0
  have HL := Lib.hid h
  obtain ⟨⟨xt, xs⟩, xr, xc, xst⟩ := x0
  simp only at r0 r1 EE
  have U0 : Hid ((w.alloc (.cells #[.int .i64 xt, .int .i64 xs] 37)).ownsRow w.heap.size 37 2 (.slice (some ⟨w.heap.size, 0, none⟩) 1 1) [(⟨xt, xs⟩ : ID)].length (idE.flat [(⟨xt, xs⟩ : ID)])) := Lib.hid
    ⟨by simp [idE, Enc.flat], .inr ⟨_, 1, _, rfl, Nat.le_refl _, Blk.new w _ _, Nat.le_refl _, by simp [maxLen], by simp, by simp [idE, Enc.flat]⟩⟩
  have K0 : Hid (Kept (fun _ => False) w (w.alloc (.cells #[.int .i64 xt, .int .i64 xs] 37))) := Lib.hid ((Kept.refl _ _).alloc _)
  clear h h1 hx0 hE0 hE
  go_enter Tryz.func100, Tryz.ntmps100
  go_wp2_with fail
  clear r0 r1 e0 hil hi0
  go_loopw [5, 6] (fun uv kv wr => ∃ (k : Nat) (U : List ID), kv = .int .i64 k ∧ k ≤ L.length ∧ U.length ≤ k + 1 ∧ E = k + endGo (L.drop k) U ∧ wr.ownsRow w.heap.size 37 2 uv U.length (idE.flat U) ∧ Kept (fun _ => False) w wr) (fun _ kv _ => L.length - (intOf kv).toNat)
  case atStart => exact ⟨i + 1, _, by push_cast; rfl, by omega, by simp, EE.out, U0.out, K0.out⟩
  case round =>
    obtain ⟨k, U, rfl, hk, hUk, hEk, ho, hkw⟩ := hrel
    have EK := Lib.hid hEk
    have HO := Lib.hid ho
    have KW := Lib.hid hkw
    obtain ⟨ua, uc, rfl⟩ := owns_sl ho
    have hk0 : (0 : Int) ≤ k := by omega
    clear hEk ho hkw U0 K0 EE
    by_cases hlt : k < L.length
    case neg =>
      have hnl : ¬ (k : Int) < L.length := by omega
      have EN : Hid (E = k) := Lib.hid (by rw [EK.out, List.drop_of_length_le (by omega)]; rfl)
      go_wp2_with fail
      go_ret
      exact ⟨by rw [EN.out]; rfl, KW.out⟩
    case pos =>
      have hnl : (k : Int) < L.length := by omega
      obtain ⟨x, hx⟩ := get_of_lt hlt
      obtain ⟨g', o', c', e1, _, h1⟩ := SlAt.node (HL.out.kept KW.out) (by omega)
      cases e1
      obtain ⟨r0, r1, r2, r3, r4, r5⟩ := h1 k x hx
      have EX : Hid (E = k + if x.ref ∈ U then endGo (L.drop (k + 1)) (U ++ [x.id]) + 1 else 0) := Lib.hid (by
        rw [EK.out, List.drop_eq_getElem_cons hlt, (List.getElem?_eq_some_iff.1 hx).2, endGo_cons])
      have hUb : U.length ≤ 900001 := by omega
      have e1 : IntKind.i64.wrap ((U.length : Int) - 1) = (U.length : Int) - 1 := IntWalk.i64_in _ (by omega)
      have e2 : IntKind.i64.wrap ((k : Int) + 1) = (k : Int) + 1 := IntWalk.i64_in _ (by omega)
      have SU := Lib.hid (owns_slAt HO.out)
      clear hx h1
      go_wp2_with fail
      go_loopw [7, 8] (fun fv jv w2 => ∃ (p q : Nat) (b : Bool), fv = .bool b ∧ jv = .int .i64 ((p : Int) - 1) ∧ p ≤ U.length ∧ (b = true → x.ref ∈ U) ∧ (b = false → ∀ y ∈ U.drop p, y ≠ x.ref) ∧ w2 = wr.drewN q) (fun fv jv _ => (intOf jv + 1).toNat)
      case atStart => exact ⟨U.length, 0, false, rfl, rfl, Nat.le_refl _, (fun h => by cases h), (fun _ y hy => by simp at hy), rfl⟩
      case round =>
        obtain ⟨p, q, b, rfl, rfl, hp, ht, hf, rfl⟩ := hrel
        cases b with
        | true =>
          have HT := Lib.hid (ht rfl)
          clear hf
          by_cases hp0 : (0 : Int) ≤ (p : Int) - 1
          case pos =>
            have KW2 : Hid (Kept (fun _ => False) w ((wr.drewN q).alloc (.cells #[.int .i64 x.id.t, .int .i64 x.id.s] 37))) := Lib.hid ((KW.out.drewN q).alloc _)
            have O2 : Hid (((wr.drewN q).alloc (.cells #[.int .i64 x.id.t, .int .i64 x.id.s] 37)).ownsRow w.heap.size 37 2 (.slice ua U.length uc) U.length (idE.flat U)) := Lib.hid (owns_keep HO.out (((Kept.refl (fun _ => False) wr).drewN q).alloc _) (fun _ _ h => h))
            have LD : Hid (SlAt idE ((wr.drewN q).alloc (.cells #[.int .i64 x.id.t, .int .i64 x.id.s] 37)) (.slice (some ⟨(wr.drewN q).heap.size, 0, none⟩) 1 1) [x.id]) := Lib.hid (SlAt.lit (E := idE) [x.id] _ rfl (by simp [maxLen]))
            go_wp2_with (at_builtin; refine wpList_append_row idE rfl (.tmp 44) (.tmp 50) 98 rfl w.heap.size 37 _ 16 Tryz.underlying98 info_id2 rfl (D := U) rfl rfl O2.out LD.out (by show U.length + 1 ≤ maxLen; unfold maxLen; omega) (by show (U.length + 1) * 16 ≤ 140737488355328; omega) KW2.out.size ?_; intro v9 w9 ho9 hk9)
            go_roundw
            case rel => exact ⟨k + 1, U ++ [x.id], by go_num, by omega, by rw [List.length_append]; simp; omega, by rw [EX.out, if_pos (ht rfl)]; omega, ho9, KW2.out.over hk9 (fun b hb => owns_new O2.out b hb)⟩
            case measure => simp [intOf]; omega
          case neg =>
            have KW2 : Hid (Kept (fun _ => False) w ((wr.drewN q).alloc (.cells #[.int .i64 x.id.t, .int .i64 x.id.s] 37))) := Lib.hid ((KW.out.drewN q).alloc _)
            have O2 : Hid (((wr.drewN q).alloc (.cells #[.int .i64 x.id.t, .int .i64 x.id.s] 37)).ownsRow w.heap.size 37 2 (.slice ua U.length uc) U.length (idE.flat U)) := Lib.hid (owns_keep HO.out (((Kept.refl (fun _ => False) wr).drewN q).alloc _) (fun _ _ h => h))
            have LD : Hid (SlAt idE ((wr.drewN q).alloc (.cells #[.int .i64 x.id.t, .int .i64 x.id.s] 37)) (.slice (some ⟨(wr.drewN q).heap.size, 0, none⟩) 1 1) [x.id]) := Lib.hid (SlAt.lit (E := idE) [x.id] _ rfl (by simp [maxLen]))
            go_wp2_with (at_builtin; refine wpList_append_row idE rfl (.tmp 44) (.tmp 50) 98 rfl w.heap.size 37 _ 16 Tryz.underlying98 info_id2 rfl (D := U) rfl rfl O2.out LD.out (by show U.length + 1 ≤ maxLen; unfold maxLen; omega) (by show (U.length + 1) * 16 ≤ 140737488355328; omega) KW2.out.size ?_; intro v9 w9 ho9 hk9)
            go_roundw
            case rel => exact ⟨k + 1, U ++ [x.id], by go_num, by omega, by rw [List.length_append]; simp; omega, by rw [EX.out, if_pos (ht rfl)]; omega, ho9, KW2.out.over hk9 (fun b hb => owns_new O2.out b hb)⟩
            case measure => simp [intOf]; omega
        | false =>
          have HF := Lib.hid (hf rfl)
          clear ht hf
          by_cases hp0 : (0 : Int) ≤ (p : Int) - 1
          case neg =>
            have EN : Hid (E = k) := Lib.hid (by
              have hn9 : x.ref ∉ U := fun hm => by
                have h9 := HF.out x.ref (by rw [show p = 0 by omega, List.drop_zero]; exact hm)
                exact h9 rfl
              rw [EX.out, if_neg hn9]; rfl)
            go_wp2_with fail
            go_ret
            exact ⟨by rw [EN.out]; rfl, KW.out.drewN q⟩
          case pos =>
            obtain ⟨j, rfl⟩ : ∃ j, p = j + 1 := ⟨p - 1, by omega⟩
            have e3 : ((j + 1 : Nat) : Int) - 1 = j := by omega
            rw [e3] at hp0 ⊢
            have hjl : j < U.length := by omega
            have hjI : (j : Int) < U.length := by omega
            have e4 : IntKind.i64.wrap ((j : Int) - 1) = (j : Int) - 1 := IntWalk.i64_in _ (by omega)
            obtain ⟨y, hy⟩ := get_of_lt hjl
            obtain ⟨g2, o2, c2, e5, _, h2⟩ := SlAt.id SU.out (by omega)
            cases e5
            obtain ⟨s0, s1⟩ := h2 j y hy
            have heq := eq_id y x.ref
            have YM := Lib.hid (List.mem_of_getElem? hy)
            have YD : Hid (U.drop j = y :: U.drop (j + 1)) := Lib.hid (by rw [List.drop_eq_getElem_cons hjl, (List.getElem?_eq_some_iff.1 hy).2])
            clear hy h2
            by_cases he : y = x.ref
            · rw [decide_eq_true he] at heq
              have HE := Lib.hid he
              clear he
              go_wp2_with fail
              go_quiet (fail)
              go_wp2_with fail
              go_roundw
              case rel => exact ⟨j, _, true, rfl, rfl, by omega, fun _ => by rw [← HE.out]; exact YM.out, (fun h => by cases h), rfl⟩
              case measure => simp [intOf]
            · rw [decide_eq_false he] at heq
              have HE := Lib.hid he
              clear he
              go_wp2_with fail
              go_quiet (fail)
              go_wp2_with fail
              go_roundw
              case rel => exact ⟨j, _, false, rfl, rfl, by omega, (fun h => by cases h), fun _ z hz => by
                rw [YD.out] at hz
                rcases List.mem_cons.1 hz with rfl | hz
                · exact HE.out
                · exact HF.out z hz, rfl⟩
              case measure => simp [intOf]
end Go.Proofs.YtlafodnaifghcaaGreat.Tr
namespace Go.Proofs.YtlafodnaifghcaaGreat.Tr
open Go.RowKit Go.Sort Go.Proofs.YtlafodnaifghcaaGreat.St
theorem endGo_le : ∀ (R : List Nd) (U : List ID), endGo R U ≤ R.length
  | [], _ => Nat.le_refl _
  | m :: R, U => by
    rw [endGo_cons]
    split
    · have := endGo_le R (U ++ [m.id]); rw [List.length_cons]; omega
    · exact Nat.zero_le _
theorem endP_in {L : List Nd} {k : Nat} (hk : k < L.length) : k < endP L k ∧ endP L k ≤ L.length := by
  unfold endP
  rw [List.getElem?_eq_getElem hk]
  simp only
  have := endGo_le (L.drop (k + 1)) [L[k].id]
  rw [List.length_drop] at this
  omega
theorem placeGo_at {L : List Nd} {k f : Nat} {x : Nd} {ref i : ID} (hx : L[k]? = some x) (hf : L.length ≤ f + k) : ∃ f', f = f' + 1 ∧ placeGo f L ref i k = if x.ref = ref ∧ i.lt x.id then placeGo f' L ref i (endP L k) else k := by
  have hk := (List.getElem?_eq_some_iff.1 hx).1
  obtain ⟨f', rfl⟩ : ∃ f', f = f' + 1 := ⟨f - 1, by omega⟩
  refine ⟨f', rfl, ?_⟩
  show (match L[k]? with | none => k | some n => _) = _
  rw [hx]
theorem placeGo_end {L : List Nd} {k f : Nat} {ref i : ID} (hk : L.length ≤ k) : placeGo f L ref i k = k := by
  cases f with
  | zero => rfl
  | succ f =>
    show (match L[k]? with | none => k | some n => _) = _
    rw [List.getElem?_eq_none hk]
theorem findIdx_first {p : Nd → Bool} : ∀ {L : List Nd} {n : Nat} {x : Nd}, L[n]? = some x → p x = true → (∀ m ∈ L.take n, p m = false) → L.findIdx p = n
  | [], n, x, h, _, _ => by simp at h
  | y :: L, 0, x, h, hp, _ => by
    simp at h
    subst h
    rw [List.findIdx_cons, hp]
    rfl
  | y :: L, n + 1, x, h, hp, hn => by
    have hy : p y = false := hn y (by simp)
    rw [List.findIdx_cons, hy]
    have h2 := findIdx_first (L := L) (n := n) (x := x) (by simpa using h) hp fun m hm => hn m (by simp [hm])
    rw [h2]
    rfl
theorem findIdx_not {p : Nd → Bool} : ∀ {L : List Nd}, (∀ m ∈ L, p m = false) → L.findIdx p = L.length
  | [], _ => rfl
  | y :: L, h => by
    rw [List.findIdx_cons, h y List.mem_cons_self, findIdx_not (L := L) fun m hm => h m (List.mem_cons_of_mem _ hm)]
    rfl
set_option maxRecDepth 100000 in
set_option maxHeartbeats 8000000 in
theorem rplace_any {w : World} {v : Value} {L : List Nd} (h : SlAt nodeE w v L) (hlen : L.length ≤ 900000) (i ref : ID) :
    Calls Tryz.prog 73 #[v, idV i, idV ref] w fun e w' => e = .returned (.int .i64 (placeP L i ref)) ∧ Kept (fun _ => False) w w' := by
  obtain ⟨it, is⟩ := i
  obtain ⟨rt, rs⟩ := ref
  show Calls _ _ #[_, .agg #[.int .i64 it, .int .i64 is], .agg #[.int .i64 rt, .int .i64 rs]] _ _
  obtain ⟨PP, hPP⟩ : ∃ PP, placeP L ⟨it, is⟩ ⟨rt, rs⟩ = PP := ⟨_, rfl⟩
  rw [hPP]
  have PE := Lib.hid hPP
  obtain ⟨a, c, rfl, _, _⟩ := h.sl
  have hk0 : Kept (fun _ => False) w ((w.alloc (.cells #[.int .i64 it, .int .i64 is] 37)).alloc (.cells #[.int .i64 rt, .int .i64 rs] 37)) := ((Kept.refl _ _).alloc _).alloc _
  have b0 := (Blk.new w 37 #[.int .i64 it, .int .i64 is]).alloc (.cells #[.int .i64 rt, .int .i64 rs] 37)
  have b1 := Blk.new (w.alloc (.cells #[.int .i64 it, .int .i64 is] 37)) 37 #[.int .i64 rt, .int .i64 rs]
  rw [World.size_alloc] at b1
  have HL := Lib.hid (h.kept hk0)
  have K0 := Lib.hid hk0
  clear h hk0 hPP
  go_enter Tryz.func73, Tryz.ntmps73
  go_upto_region 1 with fail
  obtain ⟨z, hz⟩ : ∃ z, w.heap.size = z := ⟨_, rfl⟩
  obtain ⟨W0, hW0⟩ : ∃ W0, ((w.alloc (.cells #[.int .i64 it, .int .i64 is] 37)).alloc (.cells #[.int .i64 rt, .int .i64 rs] 37)) = W0 := ⟨_, rfl⟩
  rw [hW0] at HL K0 b0 b1 ⊢
  rw [hz] at b0 b1 ⊢
  have B0 := Lib.hid b0
  have B1 := Lib.hid b1
  clear hW0 hz b0 b1
  -- where the search begins
  have c1 := B1.out.cell' (i := 0) (v := .int .i64 rt) rfl
  have c2 := B1.out.cell' (i := 1) (v := .int .i64 rs) rfl
  have hne := ne_id ⟨rt, rs⟩ ⟨0, 0⟩ W0
  by_cases hz : (⟨rt, rs⟩ : ID) = ID.zero
  case' pos =>
    have P0 : Hid (PP = placeGo L.length L ⟨rt, rs⟩ ⟨it, is⟩ 0) := Lib.hid (by rw [← PE.out]; unfold placeP; rw [if_pos hz])
    have h0 : rt = 0 := congrArg ID.t hz
    have h1 : rs = 0 := congrArg ID.s hz
    clear hne PE hz
    go_wp2_with fail
    clear c1 c2 h0 h1
  case' neg =>
    have PZ : Hid (PP = placeGo L.length L ⟨rt, rs⟩ ⟨it, is⟩ (L.findIdx (fun n => decide (n.id = ⟨rt, rs⟩)) + 1)) := Lib.hid (by rw [← PE.out]; unfold placeP; rw [if_neg hz])
    clear PE hne
    go_upto_region 2 with fail
    go_cut [10] (fun v wx => v = .bool true ∧ W0 = wx)
    case first =>
      by_cases h0 : rt = 0
      · subst h0
        have h1 : ¬ rs = 0 := fun h => hz (by rw [h]; rfl)
        clear hz
        go_wp2_with fail
        go_meet
        case rel => exact ⟨rfl, rfl⟩
      · clear hz
        go_wp2_with fail
        go_meet
        case rel => exact ⟨rfl, rfl⟩
    case' rest =>
      obtain ⟨rfl, rfl⟩ := hcut
      clear hz
      go_upto_if 10 with fail
      go_cut [7] (fun v wx => ∃ (k q : Nat), v = .int .i64 k ∧ k ≤ L.length + 1 ∧ PP = placeGo L.length L ⟨rt, rs⟩ ⟨it, is⟩ k ∧ wx = W0.drewN q)
      case first =>
        go_wp2_with fail
        go_loopw [7] (fun kv wr => ∃ n q : Nat, kv = .int .i64 n ∧ n ≤ L.length ∧ (∀ m ∈ L.take n, m.id ≠ ⟨rt, rs⟩) ∧ wr = W0.drewN q) (fun kv _ => L.length - (intOf kv).toNat)
        case atStart => exact ⟨0, 0, rfl, Nat.zero_le _, fun m hm => by simp at hm, rfl⟩
        case round =>
          obtain ⟨n, q, rfl, hn, hno, rfl⟩ := hrel
          have NO := Lib.hid hno
          clear hno
          have hn0 : (0 : Int) ≤ n := by omega
          have e1 : IntKind.i64.wrap ((n : Int) + 1) = (n : Int) + 1 := IntWalk.i64_in _ (by omega)
          by_cases hlt : n < L.length
          case neg =>
            have hnl : ¬ (n : Int) < L.length := by omega
            have FI : Hid (PP = placeGo L.length L ⟨rt, rs⟩ ⟨it, is⟩ (n + 1)) := Lib.hid (by
              rw [PZ.out, findIdx_not fun m hm => decide_eq_false (NO.out m (by rw [List.take_of_length_le (by omega)]; exact hm)), show n = L.length by omega])
            go_wp2_with fail
            go_quiet (fail)
            go_wp2_with fail
            go_meet
            case rel => exact ⟨n + 1, _, by go_num, by omega, FI.out, rfl⟩
          case pos =>
            have hnl : (n : Int) < L.length := by omega
            obtain ⟨x, hx⟩ := get_of_lt hlt
            obtain ⟨g, o, c', e5, _, h1⟩ := SlAt.node HL.out (by omega)
            cases e5
            obtain ⟨r0, r1, r2, r3, r4, r5⟩ := h1 n x hx
            have heq := ne_id x.id ⟨rt, rs⟩
            have HX := Lib.hid hx
            simp only at heq
            clear hx h1
            by_cases he : x.id = ⟨rt, rs⟩
            · rw [decide_eq_true he] at heq
              have FI : Hid (PP = placeGo L.length L ⟨rt, rs⟩ ⟨it, is⟩ (n + 1)) := Lib.hid (by
                rw [PZ.out, findIdx_first HX.out (decide_eq_true he) fun m hm => decide_eq_false (NO.out m hm)])
              clear he
              go_wp2_with fail
              go_quiet (fail)
              go_wp2_with fail
              go_meet
              case rel => exact ⟨n + 1, _, by go_num, by omega, FI.out, rfl⟩
            · rw [decide_eq_false he] at heq
              have HE := Lib.hid he
              clear he
              go_wp2_with fail
              go_quiet (fail)
              go_wp2_with fail
              go_roundw
              case rel =>
                refine ⟨n + 1, _, by go_num, by omega, fun m hm => ?_, rfl⟩
                rw [List.take_add_one, HX.out] at hm
                rcases List.mem_append.1 hm with hm | hm
                · exact NO.out m hm
                · have h9 : m = x := by simpa using hm
                  rw [h9]
                  exact HE.out
              case measure => simp [intOf]; omega
      case' rest =>
        obtain ⟨k0, q0, rfl, hk0, hP0, rfl⟩ := hcut
        have P0 := Lib.hid hP0
        clear hP0 PZ
        go_wp2_with fail
        clear c1 c2
  all_goals
    go_loopw [7] (fun kv wr => ∃ k f : Nat, kv = .int .i64 k ∧ k ≤ L.length + 1 ∧ PP = placeGo f L ⟨rt, rs⟩ ⟨it, is⟩ k ∧ L.length ≤ f + k ∧ Kept (fun _ => False) W0 wr) (fun kv _ => L.length - (intOf kv).toNat)
    case atStart => first | exact ⟨0, L.length, rfl, Nat.zero_le _, P0.out, by omega, Kept.refl _ _⟩ | exact ⟨k0, L.length, rfl, hk0, P0.out, by omega, (Kept.refl _ _).drewN _⟩
    case round =>
      obtain ⟨k, f, rfl, hkl, hP, hf, hg⟩ := hrel
      have HG := Lib.hid hg
      have HP := Lib.hid hP
      have hk1 : (0 : Int) ≤ k := by omega
      have hb0 := hg.blk (fun h => h) B0.out
      have hb1 := hg.blk (fun h => h) B1.out
      have d0 := hb0.cell' (i := 0) (v := .int .i64 it) rfl
      have d1 := hb0.cell' (i := 1) (v := .int .i64 is) rfl
      have d2 := hb1.cell' (i := 0) (v := .int .i64 rt) rfl
      have d3 := hb1.cell' (i := 1) (v := .int .i64 rs) rfl
      have hmix : Tryz.prog.follows .mixedOrders = true := by kernel_rfl
      clear hg hP
      by_cases hlt : k < L.length
      case neg =>
        have hnl : ¬ (k : Int) < L.length := by omega
        have AN : Hid (PP = k) := Lib.hid (by rw [HP.out]; exact placeGo_end (by omega))
        clear hb0 hb1
        go_wp2_with fail
        go_quiet (fail)
        go_wp2_with fail
        go_ret
        exact ⟨by rw [AN.out]; rfl, (K0.out.trans HG.out fun _ _ h => h).drewN _⟩
      case pos =>
        have hnl : (k : Int) < L.length := by omega
        obtain ⟨x, hx⟩ := get_of_lt hlt
        obtain ⟨f', hfe, hpe⟩ := placeGo_at (ref := ⟨rt, rs⟩) (i := ⟨it, is⟩) hx hf
        subst hfe
        have PX := Lib.hid (HP.out.trans hpe)
        have hsl := HL.out.kept HG.out
        have HSL := Lib.hid hsl
        obtain ⟨g, o, c', e5, hgl, h1⟩ := SlAt.node hsl (by omega)
        cases e5
        obtain ⟨r0, r1, r2, r3, r4, r5⟩ := h1 k x hx
        have heq := eq_id x.ref ⟨rt, rs⟩
        simp only at heq
        clear hx h1 hpe hsl
        by_cases he : x.ref = ⟨rt, rs⟩
        case neg =>
          rw [decide_eq_false he] at heq
          have AN : Hid (PP = k) := Lib.hid (by rw [PX.out, if_neg (fun h => he h.1)])
          clear he hb0 hb1
          go_wp2_with fail
          go_quiet (fail)
          go_wp2_with fail
          go_ret
          exact ⟨by rw [AN.out]; rfl, (K0.out.trans HG.out fun _ _ h => h).drewN _⟩
        case pos =>
          rw [decide_eq_true he] at heq
          have HE := Lib.hid he
          obtain ⟨lb, hlb⟩ : ∃ b, decide ((⟨it, is⟩ : ID).lt x.id) = b := ⟨_, rfl⟩
          have HLW : Hid (∀ W', Grew wr W' → Calls Tryz.prog 71 #[.agg #[.int .i64 it, .int .i64 is], .agg #[.int .i64 x.id.t, .int .i64 x.id.s]] W' fun e w'' => e = .returned (.bool lb) ∧ Grew W' w'') := Lib.hid (fun W' _ => by rw [← hlb]; exact lower_any ⟨it, is⟩ x.id W')
          have LB := Lib.hid hlb
          have cg0 := cell_grown (a := ⟨z, 0, none⟩) hb0.lt d0
          have cg1 := cell_grown (a := ⟨z, 1, none⟩) hb0.lt d1
          have cg2 := cell_grown (a := ⟨z + 1, 0, none⟩) hb1.lt d2
          have cg3 := cell_grown (a := ⟨z + 1, 1, none⟩) hb1.lt d3
          have cg4 := cell_grown (a := ⟨g, o + k * 6, none⟩) hgl r0
          have cg5 := cell_grown (a := ⟨g, o + k * 6 + 1, none⟩) hgl r1
          have cg6 := cell_grown (a := ⟨g, o + k * 6 + 2, none⟩) hgl r2
          have cg7 := cell_grown (a := ⟨g, o + k * 6 + 3, none⟩) hgl r3
          clear he hb0 hb1 hlb r4 r5
          go_wp2_with fail
          go_quiet_grown ((go_at_call 71; exact grown_call HLW.out _ _))
          have hg2 : Grew wr (grow (wr.drewN nq) osq) := grew_grown _ _
          generalize grow (wr.drewN nq) osq = W2 at *
          have G2 := Lib.hid hg2
          clear cg0 cg1 cg2 cg3 cg4 cg5 cg6 cg7 hmix HLW hg2
          cases lb
          case false =>
            have AN : Hid (PP = k) := Lib.hid (by rw [PX.out, if_neg (fun h => of_decide_eq_false LB.out h.2)])
            go_wp2_with fail
            go_ret
            exact ⟨by rw [AN.out]; rfl, K0.out.trans (HG.out.trans G2.out.kept fun _ _ h => h) fun _ _ h => h⟩
          case true =>
            have EN := Lib.hid (rend_any (HSL.out.kept G2.out.kept) hlen k hlt)
            obtain ⟨y1, y2⟩ := endP_in hlt
            have PN : Hid (PP = placeGo f' L ⟨rt, rs⟩ ⟨it, is⟩ (endP L k)) := Lib.hid (by rw [PX.out, if_pos ⟨HE.out, of_decide_eq_true LB.out⟩])
            obtain ⟨ke, hke⟩ : ∃ ke, endP L k = ke := ⟨_, rfl⟩
            rw [hke] at EN PN y1 y2
            clear hke
            go_wp2_with (go_at_call 100; refine EN.out.mono ?_; rintro e w5 ⟨rfl, hk5⟩)
            go_roundw
            case rel => exact ⟨ke, f', rfl, by omega, PN.out, by omega, (HG.out.trans G2.out.kept fun _ _ h => h).trans hk5 fun _ _ h => h⟩
            case measure => simp [intOf]; omega
end Go.Proofs.YtlafodnaifghcaaGreat.Tr
