/- (*hearsayref13.Queue).next. hearsayref13.cut. hearsayref13.farther; the farthest one, plainly. hearsayref7.Same. -/
import Derived.Test.YtaaeomapbigfgaaGreatU12
import Derived.Test.YtaaeomapbigfgaaGreatU7
import Derived.Test.YtaaeomapbigfgaaGreatU6
import Derived.Test.YtaaeomapbigfgaaGreatU4
import Derived.Test.YtaaeomapbigfgaaGreatU8
import Derived.Test.YtaaeomapbigfgaaGreatU11
import Derived.Test.YtaaeomapbigfgaaGreatU3
namespace Go.Proofs.YtaaeomapbigfgaaGreat
open Go.RowKit Go.Proofs.YtaaeomapbigfgaaGreat.St
open Go.Sort (grow)
/-- the place of the first one that can be delivered -/
def NextIs (V : List Dot) (W : List Ent) (k : Int) : Prop := (k = -1 ∧ ∀ e ∈ W, ¬ Ent.can V e.v.dot e.D) ∨ ∃ (i : Nat) (e : Ent), k = i ∧ W[i]? = some e ∧ Ent.can V e.v.dot e.D ∧ ∀ e ∈ W.take i, ¬ Ent.can V e.v.dot e.D
set_option maxRecDepth 100000 in
set_option maxHeartbeats 4000000 in
theorem rnext_any {w : World} {g : Nat} {h0 v wv ov : Value} {V : List Dot} {W : List Ent} (hq : Blk w g 51 #[h0, v, wv, ov]) (hv : SlAt dotE w v V) (hVl : V.length ≤ 1000000000) (hW : w.ownsRow 0 42 11 wv W.length (entE.flat W)) (hE : ∀ e ∈ W, SlAt dotE w e.v.deps.v e.D ∧ e.D.length ≤ 1000000) (hWl : W.length ≤ 1000000) :
    Calls Tryz.prog 57 #[.pointer (some ⟨g, 0, none⟩)] w fun r w' => ∃ k, r = .returned (.int .i64 k) ∧ Grew w w' ∧ NextIs V W k := by
  have HQ := Lib.hid hq
  have HV := Lib.hid hv
  have HW := Lib.hid hW
  have HE := Lib.hid hE
  obtain ⟨wa, wc, rfl⟩ := owns_sl hW
  clear hq hv hW hE
  go_enter Tryz.func57, Tryz.ntmps57
  go_wp2_with fail
  go_loopw [3] (fun iv wr => ∃ n : Nat, iv = .int .i64 n ∧ n ≤ W.length ∧ (∀ e ∈ W.take n, ¬ Ent.can V e.v.dot e.D) ∧ Grew w wr) (fun iv _ => W.length - (intOf iv).toNat)
  case atStart => exact ⟨0, rfl, Nat.zero_le _, fun e he => by simp at he, Grew.refl _⟩
  case round =>
    obtain ⟨n, rfl, hn, hnone, hg⟩ := hrel
    have hn0 : (0 : Int) ≤ n := by omega
    have NONE := Lib.hid hnone
    have GR := Lib.hid hg
    have QR := Lib.hid (hg.kept.blk (fun h => h) HQ.out)
    have q2 : wr.cell? ⟨g, 2, none⟩ = some (.slice wa W.length wc) := QR.out.cell' (i := 2) rfl
    clear hnone
    by_cases hlt : n < W.length
    case neg =>
      have hnl : ¬ (n : Int) < W.length := by omega
      have ND : Hid (∀ e ∈ W, ¬ Ent.can V e.v.dot e.D) := Lib.hid (fun e he => NONE.out e (by rw [List.take_of_length_le (by omega)]; exact he))
      clear hg
      go_wp2_with fail
      go_ret
      exact ⟨-1, rfl, GR.out, .inl ⟨rfl, ND.out⟩⟩
    case pos =>
      have hltI : (n : Int) < W.length := by omega
      obtain ⟨e, he⟩ := get_of_lt hlt
      obtain ⟨hl0, ⟨_, hno⟩ | ⟨b, cap, hv, hz0, hO⟩⟩ := own_of (E := entE) (owns_keep HW.out hg.kept (fun _ _ h => h))
      · rw [hno] at hlt; simp at hlt
      injection hv with ha6 hl6 hc6
      subst ha6
      obtain rfl : cap = wc := hc6.symm
      clear hl0 hz0 hl6 hc6
      have EM := HE.out e (List.mem_of_getElem? he)
      have CAN := Lib.hid (rcan_grew (x := e.v) QR.out (HV.out.kept hg.kept) (EM.1.kept hg.kept) hVl (by have := EM.2; omega))
      have HX := Lib.hid he
      have OW := Lib.hid hO
      clear he hO EM hg
      by_cases hcan : Ent.can V e.v.dot e.D
      case neg =>
        rw [decide_eq_false hcan] at CAN
        have NC := Lib.hid hcan
        clear hcan
        go_wp2_with (first
          | (refine wpList_load_elem (E := entE) rfl 42 _ rfl (i := n) rfl OW.out HX.out Tryz.underlying42 rfl size_op ?_)
          | (go_at_call 55; refine CAN.out.mono ?_; rintro r w1 ⟨rfl, hg1⟩))
        go_roundw
        case rel =>
          refine ⟨n + 1, by go_num, by omega, fun e2 he2 => ?_, GR.out.trans hg1⟩
          rw [List.take_add_one, HX.out] at he2
          rcases List.mem_append.1 he2 with he2 | he2
          · exact NONE.out e2 he2
          · obtain rfl : e2 = e := by simpa using he2
            exact NC.out
        case measure => simp [intOf] <;> omega
      case pos =>
        rw [decide_eq_true hcan] at CAN
        have NC := Lib.hid hcan
        clear hcan
        go_wp2_with (first
          | (refine wpList_load_elem (E := entE) rfl 42 _ rfl (i := n) rfl OW.out HX.out Tryz.underlying42 rfl size_op ?_)
          | (go_at_call 55; refine CAN.out.mono ?_; rintro r w1 ⟨rfl, hg1⟩))
        go_ret
        exact ⟨n, rfl, GR.out.trans hg1, .inr ⟨n, e, rfl, HX.out, NC.out, NONE.out⟩⟩
end Go.Proofs.YtaaeomapbigfgaaGreat
namespace Go.Proofs.YtaaeomapbigfgaaGreat
open Go.RowKit Go.Proofs.YtaaeomapbigfgaaGreat.St
theorem OwnAt.pre {α : Type} {E : Enc α} {w : World} {t : TypeId} {g cap : Nat} {D : List α} (h : OwnAt E w t g cap D) {n : Nat} (hn : n ≤ D.length) : SlAt E w (.slice (some ⟨g, 0, none⟩) n cap) (D.take n) := by
  have := (h.take n).slAt
  rwa [List.length_take, Nat.min_eq_left hn] at this
theorem OwnAt.suf {α : Type} {E : Enc α} {w : World} {t : TypeId} {g cap : Nat} {D : List α} (h : OwnAt E w t g cap D) {n : Nat} (hn : n ≤ D.length) : SlAt E w (.slice (some ⟨g, n * E.k, none⟩) (D.length - n) (cap - n)) (D.drop n) := by
  have hle := h.le
  refine .inr ⟨⟨g, n * E.k, none⟩, cap - n, by rw [List.length_drop], by rw [List.length_drop]; omega, by omega, fun _ => rfl, fun i y hy j u hu => ?_⟩
  rw [List.getElem?_drop] at hy
  have := h.cell hy hu
  rw [Nat.add_mul, Nat.add_assoc] at this
  exact this
theorem SlAt.void {α : Type} {E : Enc α} {w : World} (a : Addr) {c : Nat} (hc : c ≤ maxLen) : SlAt E w (.slice (some a) 0 c) [] := .inr ⟨a, c, rfl, Nat.zero_le _, hc, fun h => absurd rfl h, fun i y hy => by simp at hy⟩
set_option maxRecDepth 100000 in
set_option maxHeartbeats 4000000 in
theorem rcut_any {w : World} {b cap i : Nat} {W : List Ent} (h : OwnAt entE w 42 b cap W) (hi : i < W.length) (hl : W.length ≤ 1000000) :
    Calls Tryz.prog 58 #[.slice (some ⟨b, 0, none⟩) W.length cap, .int .i64 i] w fun r w' => ∃ v', r = .returned v' ∧ w'.ownsRow w.heap.size 42 11 v' (W.eraseIdx i).length (entE.flat (W.eraseIdx i)) ∧ Kept (fun _ => False) w w' := by
  have hle := h.le
  have hm := hle.2
  unfold maxLen at hm
  have hi0 : (0 : Int) ≤ i := by omega
  have hic : (i : Int) ≤ cap := by omega
  have hiL : (i : Int) ≤ W.length := by omega
  have hcL : (W.length : Int) ≤ cap := by omega
  have hw1 : IntKind.i64.wrap ((i : Int) + 1) = ((i + 1 : Nat) : Int) := IntWalk.i64_in _ (by omega)
  obtain ⟨n, hn⟩ : ∃ n, i + 1 = n := ⟨_, rfl⟩
  rw [hn] at hw1
  have hn0 : (0 : Int) ≤ n := by omega
  have hnL : (n : Int) ≤ W.length := by omega
  have hnc : (n : Int) ≤ cap := by omega
  have hnL2 : n ≤ W.length := by omega
  have PRE := Lib.hid (h.pre (Nat.le_of_lt hi))
  have E1 : Hid ((W.take i).length = i) := Lib.hid (by rw [List.length_take]; omega)
  have ERA : Hid (W.eraseIdx i = W.take i ++ W.drop n) := Lib.hid (by rw [List.eraseIdx_eq_take_drop_succ, hn])
  have SIZ : Hid (W.length ≤ 1000000 ∧ (W.take i).length ≤ W.length ∧ (W.drop n).length ≤ W.length) := Lib.hid ⟨hl, by rw [List.length_take]; omega, by rw [List.length_drop]; omega⟩
  have HO := Lib.hid h
  have hcap63 : (cap : Int) ≤ 9223372036854775807 := by omega
  have NW : Hid (w.ownsRow w.heap.size 42 entE.k (.slice none 0 0) ([] : List Ent).length (entE.flat [])) := Lib.hid (World.ownsRow_nil _ _ _ _)
  by_cases hcn : cap = n
  · subst hcn
    have hWn : W.length - cap = 0 := by omega
    have SUF : Hid (∀ w', Kept (fun _ => False) w w' → SlAt entE w' (.slice (some ⟨b, 0, none⟩) 0 0) (W.drop cap)) := Lib.hid (fun w' _ => by rw [List.drop_of_length_le (by omega)]; exact SlAt.void _ (Nat.zero_le _))
    clear h hle hm hl hn hi
    go_enter Tryz.func58, Tryz.ntmps58
    go_wp2_with (first
      | (at_builtin; (refine wpList_append_row entE rfl (.tmp 11) (.tmp 15) 47 rfl w.heap.size 42 _ 128 Tryz.underlying47 info_op (by decide) rfl rfl O1.out (SUF.out _ K1.out) (by have := SIZ.out; unfold maxLen; omega) (by have := SIZ.out; omega) K1.out.size ?_); (intro v2 w2 ho2 hk2; have K2 : Hid (Kept (fun _ => False) w w2) := Lib.hid (K1.out.over hk2 N1.out); have O2 := Lib.hid ho2; clear ho2 hk2))
      | (at_builtin; (refine wpList_append_row entE rfl (.tmp 6) (.tmp 9) 47 rfl w.heap.size 42 _ 128 Tryz.underlying47 info_op (by decide) rfl rfl NW.out PRE.out (by have := SIZ.out; unfold maxLen; simp; omega) (by have := SIZ.out; simp; omega) (Nat.le_refl _) ?_); (intro v1 w1 ho1 hk1; rw [List.nil_append] at ho1; have K1 : Hid (Kept (fun _ => False) w w1) := Lib.hid (hk1.mono (fun b _ e => by have e : (Value.slice none 0 0).ownBlock = some b := e; cases e)); have O1 := Lib.hid ho1; have N1 := Lib.hid (owns_new ho1); clear ho1 hk1)))
    go_ret
    exact ⟨_, rfl, by rw [ERA.out]; exact O2.out, K2.out⟩
  · have hcn2 : n < cap := by omega
    have SUF : Hid (∀ w', Kept (fun _ => False) w w' → SlAt entE w' (.slice (some ⟨b, n * 11, none⟩) (W.length - n) (cap - n)) (W.drop n)) := Lib.hid (fun w' hk => (h.keep hk (fun h => h)).suf hnL2)
    clear h hle hm hl hn hi
    go_enter Tryz.func58, Tryz.ntmps58
    go_wp2_with (first
      | (at_builtin; (refine wpList_append_row entE rfl (.tmp 11) (.tmp 15) 47 rfl w.heap.size 42 _ 128 Tryz.underlying47 info_op (by decide) rfl rfl O1.out (SUF.out _ K1.out) (by have := SIZ.out; unfold maxLen; omega) (by have := SIZ.out; omega) K1.out.size ?_); (intro v2 w2 ho2 hk2; have K2 : Hid (Kept (fun _ => False) w w2) := Lib.hid (K1.out.over hk2 N1.out); have O2 := Lib.hid ho2; clear ho2 hk2))
      | (at_builtin; (refine wpList_append_row entE rfl (.tmp 6) (.tmp 9) 47 rfl w.heap.size 42 _ 128 Tryz.underlying47 info_op (by decide) rfl rfl NW.out PRE.out (by have := SIZ.out; unfold maxLen; simp; omega) (by have := SIZ.out; simp; omega) (Nat.le_refl _) ?_); (intro v1 w1 ho1 hk1; rw [List.nil_append] at ho1; have K1 : Hid (Kept (fun _ => False) w w1) := Lib.hid (hk1.mono (fun b _ e => by have e : (Value.slice none 0 0).ownBlock = some b := e; cases e)); have O1 := Lib.hid ho1; have N1 := Lib.hid (owns_new ho1); clear ho1 hk1)))
    go_ret
    exact ⟨_, rfl, by rw [ERA.out]; exact O2.out, K2.out⟩
end Go.Proofs.YtaaeomapbigfgaaGreat
namespace Go.Proofs.YtaaeomapbigfgaaGreat
open Go.RowKit Go.Proofs.YtaaeomapbigfgaaGreat.St
open Go.Sort (grow)
theorem cmp_pos (a b : Int) : (0 < cmpI a b ↔ b < a) ∧ (cmpI a b = 0 ↔ a = b) := by
  unfold cmpI
  split
  · omega
  · split <;> omega
theorem far_pos {a b : Dot} {A B : List Dot} : 0 < farV a b A B ↔ (sumV B < sumV A ∨ (sumV A = sumV B ∧ (b.site < a.site ∨ (a.site = b.site ∧ b.seq < a.seq)))) := by
  unfold farV
  obtain ⟨h1, h2⟩ := cmp_pos (sumV A) (sumV B)
  obtain ⟨h3, h4⟩ := cmp_pos a.site b.site
  obtain ⟨h5, h6⟩ := cmp_pos a.seq b.seq
  simp only [orL]
  split
  · split
    · split <;> omega
    · omega
  · omega
/-- not farther -/
def NoFar (y f : Ent) : Prop := ¬ 0 < farV y.v.dot f.v.dot y.D f.D
theorem NoFar.refl (y : Ent) : NoFar y y := by unfold NoFar; rw [far_pos]; omega
theorem NoFar.trans {x y z : Ent} (h1 : NoFar x y) (h2 : NoFar y z) : NoFar x z := by
  unfold NoFar at *; rw [far_pos] at *; omega
theorem NoFar.of_far {x y : Ent} (h : 0 < farV y.v.dot x.v.dot y.D x.D) : NoFar x y := by
  unfold NoFar; rw [far_pos] at *; omega
theorem NoFar.same {x y : Ent} (h1 : NoFar x y) (h2 : NoFar y x) : x.v.dot = y.v.dot := by
  unfold NoFar at *; rw [far_pos] at *
  rw [Dot.ext_iff]; omega
theorem gr_max (L : List Ent) : ∀ n, n ≤ L.length → 0 < n → ∃ f, L[grI L n]? = some f ∧ ∀ j y, j < n → L[j]? = some y → NoFar y f
  | 0, _, h => by omega
  | 1, hn, _ => by
    obtain ⟨f, hf⟩ := get_of_lt (show 0 < L.length by omega)
    have h0 : grI L 0 = 0 := rfl
    refine ⟨f, ?_, fun j y hj hy => ?_⟩
    · rw [grI_succ hf (by rw [h0]; exact hf)]
      split
      · exact hf
      · rw [h0]; exact hf
    · obtain rfl : j = 0 := by omega
      rw [hf] at hy; injection hy with hy; subst hy
      exact NoFar.refl _
  | n + 2, hn, _ => by
    obtain ⟨f, hf, hall⟩ := gr_max L (n + 1) (by omega) (by omega)
    obtain ⟨e, he⟩ := get_of_lt (show n + 1 < L.length by omega)
    rw [grI_succ he hf]
    by_cases h : 0 < farV e.v.dot f.v.dot e.D f.D
    · rw [if_pos h]
      refine ⟨e, he, fun j y hj hy => ?_⟩
      by_cases hj2 : j < n + 1
      · exact (hall j y hj2 hy).trans (NoFar.of_far h)
      · obtain rfl : j = n + 1 := by omega
        rw [he] at hy; injection hy with hy; subst hy
        exact NoFar.refl _
    · rw [if_neg h]
      refine ⟨f, hf, fun j y hj hy => ?_⟩
      by_cases hj2 : j < n + 1
      · exact hall j y hj2 hy
      · obtain rfl : j = n + 1 := by omega
        rw [he] at hy; injection hy with hy; subst hy
        exact h
/-- where dots are apart, the farthest one is one -/
theorem gr_one {L : List Ent} (hnd : (L.map (·.v.dot)).Nodup) {m : Nat} {f : Ent} (hm : L[m]? = some f) (hall : ∀ y ∈ L, NoFar y f) : grI L L.length = m := by
  have hml := (List.getElem?_eq_some_iff.1 hm).1
  obtain ⟨f2, h2, hall2⟩ := gr_max L L.length (Nat.le_refl _) (by omega)
  have e := (hall f2 (List.mem_of_getElem? h2)).same (hall2 m f hml hm)
  obtain ⟨h3, h4⟩ := List.getElem?_eq_some_iff.1 h2
  obtain ⟨h5, h6⟩ := List.getElem?_eq_some_iff.1 hm
  have := (List.getElem_inj (i := grI L L.length) (j := m) (h₀ := by simpa using h3) (h₁ := by simpa using h5) hnd).1 (by simp only [List.getElem_map, h4, h6, e])
  exact this
set_option maxRecDepth 100000 in
set_option maxHeartbeats 4000000 in
theorem rfar_any {w : World} {x y : OpV} {A B : List Dot} (hA : SlAt dotE w x.deps.v A) (hB : SlAt dotE w y.deps.v B) (hAl : A.length ≤ 1000000000) (hBl : B.length ≤ 1000000000) :
    Calls Tryz.prog 59 #[.agg (opA x), .agg (opA y)] w fun e w' => e = .returned (.bool (decide (0 < farV x.dot y.dot A B))) ∧ Kept (fun _ => False) w w' := by
  have hX := (Blk.new w 42 (opA x)).alloc (.cells (opA y) 42)
  have hY := Blk.new (w.alloc (.cells (opA x) 42)) 42 (opA y)
  have k0 : Kept (fun _ => False) w ((w.alloc (.cells (opA x) 42)).alloc (.cells (opA y) 42)) := ((Kept.refl _ _).alloc _).alloc _
  rw [World.size_alloc] at hY
  have HA := Lib.hid (fun (w' : World) (hk : Kept (fun _ => False) w w') => rsum_any (hA.kept hk) hAl)
  have HB := Lib.hid (fun (w' : World) (hk : Kept (fun _ => False) w w') => rsum_any (hB.kept hk) hBl)
  have FP := Lib.hid (@far_pos x.dot y.dot A B)
  go_enter Tryz.func59, Tryz.ntmps59
  go_upto_region 1 with fail
  obtain ⟨W, hW⟩ : ∃ W, ((w.alloc (.cells (opA x) 42)).alloc (.cells (opA y) 42)) = W := ⟨_, rfl⟩
  rw [hW] at hX hY k0 ⊢
  have BX := Lib.hid hX
  have BY := Lib.hid hY
  have K0 := Lib.hid k0
  have a2 : W.cell? ⟨w.heap.size, 2, none⟩ = some x.deps.v := hX.cell' (i := 2) rfl
  have b2 : W.cell? ⟨w.heap.size + 1, 2, none⟩ = some y.deps.v := hY.cell' (i := 2) rfl
  clear hX hY k0 hW hA hB
  go_upto_region 3 with (first
    | (go_at_call 28; refine (HB.out _ K1.out).mono ?_; rintro r w2 ⟨rfl, hk2⟩; have K2 := Lib.hid (K1.out.trans hk2 (fun _ _ h => h)); have BX2 := Lib.hid (hk2.blk (fun h => h) BX1.out); have BY2 := Lib.hid (hk2.blk (fun h => h) BY1.out))
    | (go_at_call 28; refine (HA.out _ K0.out).mono ?_; rintro r w1 ⟨rfl, hk1⟩; have K1 := Lib.hid (K0.out.trans hk1 (fun _ _ h => h)); have BX1 := Lib.hid (hk1.blk (fun h => h) BX.out); have BY1 := Lib.hid (hk1.blk (fun h => h) BY.out); have b2 := hk1.cell b2))
  clear a2 b2 hk1 hk2 BX BY BX1 BY1 K0 K1 HA HB
  have a0 : w2.cell? ⟨w.heap.size, 0, none⟩ = some (.int .i64 x.dot.site) := BX2.out.cell' (i := 0) rfl
  have a1 : w2.cell? ⟨w.heap.size, 1, none⟩ = some (.int .i64 x.dot.seq) := BX2.out.cell' (i := 1) rfl
  have b0 : w2.cell? ⟨w.heap.size + 1, 0, none⟩ = some (.int .i64 y.dot.site) := BY2.out.cell' (i := 0) rfl
  have b1 : w2.cell? ⟨w.heap.size + 1, 1, none⟩ = some (.int .i64 y.dot.seq) := BY2.out.cell' (i := 1) rfl
  generalize sumV A = m at *
  generalize sumV B = n at *
  by_cases h1 : m = n
  · have h1b : (m != n) = false := by simpa using h1
    by_cases h2 : x.dot.site = y.dot.site
    · have h2b : (x.dot.site != y.dot.site) = false := by simpa using h2
      have ANS : Hid (decide (y.dot.seq < x.dot.seq) = decide (0 < farV x.dot y.dot A B)) := Lib.hid (decide_eq_decide.2 (by rw [FP.out]; omega))
      clear h1 h2
      go_wp2_with fail
      go_ret
      exact ⟨congrArg (fun b => Ending.returned (Value.bool b)) ANS.out, K2.out⟩
    · have h2b : (x.dot.site != y.dot.site) = true := by simpa using h2
      have ANS : Hid (decide (y.dot.site < x.dot.site) = decide (0 < farV x.dot y.dot A B)) := Lib.hid (decide_eq_decide.2 (by rw [FP.out]; omega))
      clear h1 h2
      go_wp2_with fail
      go_ret
      exact ⟨congrArg (fun b => Ending.returned (Value.bool b)) ANS.out, K2.out⟩
  · have h1b : (m != n) = true := by simpa using h1
    have ANS : Hid (decide (n < m) = decide (0 < farV x.dot y.dot A B)) := Lib.hid (decide_eq_decide.2 (by rw [FP.out]; omega))
    clear h1
    go_wp2_with fail
    go_ret
    exact ⟨congrArg (fun b => Ending.returned (Value.bool b)) ANS.out, K2.out⟩
end Go.Proofs.YtaaeomapbigfgaaGreat
namespace Go.Proofs.YtaaeomapbigfgaaGreat
open Go.RowKit Go.Proofs.YtaaeomapbigfgaaGreat.St
theorem eq_dot (x y : Dot) : x = y ∨ (x ≠ y ∧ (x.site == y.site) = false) ∨ (x ≠ y ∧ (x.site == y.site) = true ∧ (x.seq == y.seq) = false) := by
  by_cases h1 : x.site = y.site
  · by_cases h2 : x.seq = y.seq
    · exact .inl (Dot.ext h1 h2)
    · exact .inr (.inr ⟨fun e => h2 (by rw [e]), by simpa using h1, by simpa using h2⟩)
  · exact .inr (.inl ⟨fun e => h1 (by rw [e]), by simpa using h1⟩)
set_option maxHeartbeats 1000000 in
theorem same_any {w : World} {u v : Value} {L M : List Dot} (hu : SlAt dotE w u L) (hv : SlAt dotE w v M) (hb : L.length ≤ 1000000000) :
    Calls Tryz.prog 11 #[u, v] w fun e w' => e = .returned (.bool (decide (L = M))) ∧ ∃ q, w' = w.drewN q := by
  obtain ⟨a, c, rfl, _, _⟩ := hu.sl
  obtain ⟨b, d, rfl, _, _⟩ := hv.sl
  by_cases hl : L.length = M.length
  case neg =>
    have hne : decide (L = M) = false := decide_eq_false fun e => hl (by rw [e])
    have hlb : ((L.length : Int) != M.length) = true := by simp; omega
    rw [hne]
    clear hu hv hl hne
    go_enter Tryz.func11, Tryz.ntmps11
    go_wp2
    go_ret
    exact ⟨rfl, 0, rfl⟩
  case pos =>
    have hlb : ((L.length : Int) != M.length) = false := by simp; omega
    have HU := Lib.hid hu
    have HV := Lib.hid hv
    have HL := Lib.hid hl
    clear hu hv hl
    go_enter Tryz.func11, Tryz.ntmps11
    go_wp2
    go_loopw [5] (fun i wr => ∃ n q : Nat, i = .int .i64 n ∧ n ≤ L.length ∧ L.take n = M.take n ∧ wr = w.drewN q) (fun i _ => L.length - (intOf i).toNat)
    case atStart => exact ⟨0, 0, rfl, Nat.zero_le _, rfl, rfl⟩
    case round =>
      obtain ⟨n, q, rfl, hn, ht, rfl⟩ := hrel
      have TT := Lib.hid ht
      clear ht
      by_cases hlt : n < L.length
      case neg =>
        have hge : L.length ≤ n := by omega
        have e : decide (L = M) = true := decide_eq_true (by have := TT.out; rw [List.take_of_length_le hge, List.take_of_length_le (by rw [← HL.out]; exact hge)] at this; exact this)
        have E := Lib.hid e
        clear e
        go_wp2
        go_ret
        exact ⟨by rw [E.out]; rfl, _, rfl⟩
      case pos =>
        have hlM := HL.out
        obtain ⟨x, hx⟩ := get_of_lt hlt
        obtain ⟨y, hy⟩ := get_of_lt (show n < M.length by omega)
        obtain ⟨g, o, c', e1, _, h1⟩ := SlAt.dot HU.out (by omega)
        obtain ⟨g', o', c2, e2, _, h2⟩ := SlAt.dot HV.out (by omega)
        cases e1
        cases e2
        obtain ⟨k1, k2⟩ := h1 n x hx
        obtain ⟨k4, k5⟩ := h2 n y hy
        have X0 := Lib.hid hx
        have Y0 := Lib.hid hy
        have hn0 : (0 : Int) ≤ n := by omega
        have hnl : (n : Int) < L.length := by omega
        have hnm : (n : Int) < M.length := by omega
        clear hx hy h1 h2 hlM
        rcases eq_dot x y with rfl | ⟨hxy, e1⟩ | ⟨hxy, e1, e2⟩
        · go_wp2
          go_quiet (fail)
          go_wp2
          go_roundw
          case rel => exact ⟨n + 1, _, by go_num, by omega, by rw [List.take_add_one, List.take_add_one, X0.out, Y0.out, TT.out], rfl⟩
          case measure => simp [intOf]; omega
        all_goals
          have HNE := Lib.hid hxy
          clear hxy
          have NE : Hid (decide (L = M) = false) := decide_eq_false fun e => by
            have hz := Y0.out
            rw [← e, X0.out] at hz
            exact HNE.out (Option.some.inj hz)
          go_wp2
          go_quiet (fail)
          go_wp2
          go_ret
          exact ⟨by rw [NE.out]; rfl, _, World.drewN_drewN _ _ _⟩
end Go.Proofs.YtaaeomapbigfgaaGreat
