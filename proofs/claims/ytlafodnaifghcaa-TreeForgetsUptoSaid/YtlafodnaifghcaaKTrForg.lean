/- hearsaylaw11.TreeForgets, walked. -/
import Derived.Test.YtlafodnaifghcaaK38
import Derived.Test.YtlafodnaifghcaaK37
import Derived.Test.YtlafodnaifghcaaKTrDuo
import Derived.Deep.RegionHeld3
import Derived.Deep.CutBlock
import Derived.Deep.DeepCutAuto
namespace Go.Proofs.Ytlafodnaifghcaa.Tr
open Go.RowKit Go.Sort Go.Proofs.Ytlafodnaifghcaa.St Go.Proofs.Ytlafodnaifghcaa.Gl Go.Proofs.Ytlafodnaifghcaa
attribute [local go_sem] Oper.semAt_some
theorem info_piece : (Try.prog.info? 112).map (fun i => (i.zero, i.size, i.bytes)) = some (some (.agg #[.int .i64 0, .int .i64 0, .string ⟨#[]⟩]), 3, 32) := by kernel_rfl
/-- the document, its blocks below z, and the first telling of its elements behind them -/
structure FT (W2 : World) (g z : Nat) (wv : Value) (L0 L : List Nd) (wr : World) : Prop where
  kept : Kept (fun _ => False) W2 wr
  tree : TBox wr g L (fun b => W2.heap.size ≤ b ∧ b < z)
  row : SlAt nodeE wr wv L0
  far : ∀ b, wv.ownBlock = some b → z ≤ b
section
variable {W2 wr w' : World} {g z : Nat} {wv : Value} {L0 L L' : List Nd}
theorem FT.step (h : FT W2 g z wv L0 L wr) (ht : TBox w' g L' (fun b => W2.heap.size ≤ b ∧ b < z)) (hk : Kept (fun b => W2.heap.size ≤ b ∧ b < z) wr w') : FT W2 g z wv L0 L' w' :=
  ⟨h.kept.trans hk fun b hb h9 => by omega, ht, h.row.keep hk fun b hb _ h9 => by have := h.far b hb; omega, h.far⟩
theorem FT.still (h : FT W2 g z wv L0 L wr) (hk : Kept (fun _ => False) wr w') : FT W2 g z wv L0 L w' :=
  ⟨h.kept.trans hk fun _ _ h => h, h.tree.still hk, h.row.kept hk, h.far⟩
theorem FT.del (h : FT W2 g z wv L0 L wr) (hlen : L.length ≤ 900000) {v : Value} {rs : List Run} (hv : SlAt runE W2 v rs) (hin : ∀ r ∈ rs, r.In) (hrl : rs.length ≤ 1000000000) (hvb : ∀ b, v.ownBlock = some b → b < W2.heap.size) :
    Calls Try.prog 14 #[.pointer (some ⟨g, 0, none⟩), v] wr fun e w' => e = .returned (.int .i64 (turnN rs 1 L)) ∧ FT W2 g z wv L0 (L.map (turnF rs 1 2)) w' :=
  (h.tree.delete hlen (hv.kept h.kept) hin hrl (fun b hb _ hF => by have := hvb b hb; omega)).mono fun _ _ ⟨he, h3, h4⟩ => ⟨he, h.step h3 h4⟩
theorem FT.settle (h : FT W2 g z wv L0 L wr) (hlen : L.length ≤ 900000) {v : Value} {rs : List Run} (hv : SlAt runE W2 v rs) (hin : ∀ r ∈ rs, r.In) (hrl : rs.length ≤ 1000000000) (hvb : ∀ b, v.ownBlock = some b → b < W2.heap.size) :
    Calls Try.prog 15 #[.pointer (some ⟨g, 0, none⟩), v] wr fun e w' => e = .returned (.int .i64 (turnN rs 2 L)) ∧ FT W2 g z wv L0 (L.map (turnF rs 2 3)) w' :=
  (h.tree.settle hlen (hv.kept h.kept) hin hrl (fun b hb _ hF => by have := hvb b hb; omega)).mono fun _ _ ⟨he, h3, h4⟩ => ⟨he, h.step h3 h4⟩
theorem FT.coll (h : FT W2 g z wv L0 L wr) (hlen : L.length ≤ 900000) :
    Calls Try.prog 16 #[.pointer (some ⟨g, 0, none⟩)] wr fun e w' => e = .returned (.int .i64 (collN L)) ∧ FT W2 g z wv L0 (collR L) w' :=
  (h.tree.collect hlen).mono fun _ _ ⟨he, h3, h4⟩ => ⟨he, h.step h3 h4⟩
theorem FT.text (h : FT W2 g z wv L0 L wr) (hlen : L.length ≤ 900000) : Calls Try.prog 17 #[.pointer (some ⟨g, 0, none⟩)] wr fun e w' => e = .returned (.string (runeText ((shL L).map Nd.rune))) ∧ FT W2 g z wv L0 L w' :=
  (h.tree.text hlen).mono fun _ _ ⟨he, hk⟩ => ⟨by rw [he]; unfold textB runeText; rw [List.flatMap_map], h.still hk⟩
theorem FT.len (h : FT W2 g z wv L0 L wr) (hlen : L.length ≤ 900000) : Calls Try.prog 18 #[.pointer (some ⟨g, 0, none⟩)] wr fun e w' => e = .returned (.int .i64 (shL L).length) ∧ FT W2 g z wv L0 L w' :=
  (h.tree.len hlen).mono fun _ _ ⟨he, hk⟩ => ⟨he, h.still hk⟩
theorem FT.many (h : FT W2 g z wv L0 L wr) : Calls Try.prog 19 #[.pointer (some ⟨g, 0, none⟩)] wr fun e w' => e = .returned (.int .i64 L.length) ∧ FT W2 g z wv L0 L w' :=
  h.tree.kept.mono fun _ _ ⟨he, hk⟩ => ⟨he, hk ▸ h⟩
end
theorem turn_states {rs : List Run} {fr tz : Int} {n : Nd} (h : 1 ≤ n.st ∧ n.st ≤ 3) (h1 : 1 ≤ tz) (h3 : tz ≤ 3) : 1 ≤ (turnF rs fr tz n).st ∧ (turnF rs fr tz n).st ≤ 3 := by
  unfold turnF
  split
  · exact ⟨h1, h3⟩
  · exact h
def KFin2 (w : World) (e : Ending) (w' : World) : Prop := e = .returned (.bool true) ∧ Kept (fun _ => False) w w'
set_option maxRecDepth 100000 in
set_option maxHeartbeats 8000000 in
theorem forg_any {w : World} {v gv sv mv : Value} {P Q : List Pc} {G S : List Run} (h : SlAt pcE w v P) (hin : ∀ p ∈ P, p.In) (hg : SlAt runE w gv G) (hgin : ∀ r ∈ G, r.In) (hgb : ∀ b, gv.ownBlock = some b → b < w.heap.size)
    (hs : SlAt runE w sv S) (hsin : ∀ r ∈ S, r.In) (hsb : ∀ b, sv.ownBlock = some b → b < w.heap.size) (hq : SlAt pcE w mv Q) (hqin : ∀ p ∈ Q, p.In) (hbulk : P.length + Q.length ≤ 3000000) :
    Calls Try.prog 7 #[v, gv, sv, mv] w (KFin2 w) := by
  have hgl := hg.le
  have hsl := hs.le
  unfold maxLen at hgl hsl
  obtain ⟨ga, gc, rfl, _, _⟩ := hg.sl
  obtain ⟨sa, sc, rfl, _, _⟩ := hs.sl
  obtain ⟨va, vc, rfl, _, _⟩ := h.sl
  obtain ⟨qa, qc, rfl, _, _⟩ := hq.sl
  have HP := Lib.hid h
  have HQ := Lib.hid hq
  have HPQ : Hid (∀ p ∈ P ++ Q, p.In) := Lib.hid fun p hp => (List.mem_append.1 hp).elim (hin p) (hqin p)
  have HG := Lib.hid hg
  have GI := Lib.hid hgin
  have HGB0 := Lib.hid hgb
  have HS := Lib.hid hs
  have SI := Lib.hid hsin
  have HSB0 := Lib.hid hsb
  have BK := Lib.hid hbulk
  have KN := Lib.hid known_any
  clear h hin hq hqin hg hgin hgb hs hsin hsb hbulk
  have k0 : Kept (fun _ => False) w (w.alloc (.cells #[] 112)) := (Kept.refl _ _).alloc _
  have o0 : (w.alloc (.cells #[] 112)).ownsRow w.heap.size 112 3 (.slice (some ⟨w.heap.size, 0, none⟩) 0 0) 0 (pcE.flat []) :=
    OwnAt.owns (E := pcE) (D := []) ⟨#[], Blk.new .., rfl, Nat.le_refl _, Nat.zero_le _, fun i x hx => by simp at hx⟩ (Nat.le_refl _)
  have K0 := Lib.hid k0
  have O0 := Lib.hid o0
  clear k0 o0
  go_enter Try.func7, Try.ntmps7
  go_upto_region 2 with (first
    | (at_builtin; refine wpList_append_row pcE rfl (.tmp 23) (.tmp 24) 45 rfl w.heap.size 112 _ 32 Try.underlying45 info_piece rfl (D := []) (L := P) rfl rfl O0.out (HP.out.kept K0.out) (by have := BK.out; unfold maxLen; simp; omega) (by have := BK.out; simp; omega) K0.out.size ?_; intro v1 w1 ho1 hk1; have O1 := Lib.hid ho1; have K1 := Lib.hid (K0.out.over hk1 (fun b hb => (owns_lt O0.out b hb).1)); clear ho1 hk1)
    | (at_builtin; refine wpList_append_row pcE rfl (.tmp 25) (.tmp 26) 45 rfl w.heap.size 112 _ 32 Try.underlying45 info_piece rfl (D := [] ++ P) (L := Q) rfl rfl O1.out (HQ.out.kept K1.out) (by have := BK.out; unfold maxLen; simp; omega) (by have := BK.out; simp; omega) K1.out.size ?_; intro v2 w2 ho2 hk2; have O2 := Lib.hid ho2; have K2 := Lib.hid (K1.out.over hk2 (fun b hb => (owns_lt O1.out b hb).1)); clear ho2 hk2)
    | (go_at_call 22; refine (laid_any (owns_slAt (E := pcE) O2.out) HPQ.out).mono ?_; rintro e W1 hL; obtain ⟨hk1, u, n, c, b, rfl, hL2⟩ := hL.form; clear hL; have K1 := Lib.hid (K2.out.trans hk1 fun _ _ h => h); clear hk1))
  cases b
  case false =>
    go_wp2_with (go_at_call 9; refine (KN.out _).mono ?_; rintro e W2 ⟨rfl, hk2⟩; have K2 := Lib.hid hk2; clear hk2)
    go_ret
    exact ⟨rfl, K1.out.trans K2.out fun _ _ h => h⟩
  case true =>
  obtain ⟨M, t, rfl, hok, hM, hu⟩ := hL2 rfl
  clear hL2
  by_cases h400 : 400 < G.length
  · have h400' : (400 : Int) < G.length := by omega
    go_wp2_with (go_at_call 9; refine (KN.out _).mono ?_; rintro e W2 ⟨rfl, hk2⟩; have K2 := Lib.hid hk2; clear hk2)
    go_ret
    exact ⟨rfl, K1.out.trans K2.out fun _ _ h => h⟩
  have h400' : ¬ (400 : Int) < G.length := by omega
  by_cases h200 : 400 < S.length
  · have h200' : (400 : Int) < S.length := by omega
    go_wp2_with (go_at_call 9; refine (KN.out _).mono ?_; rintro e W2 ⟨rfl, hk2⟩; have K2 := Lib.hid hk2; clear hk2)
    go_ret
    exact ⟨rfl, K1.out.trans K2.out fun _ _ h => h⟩
  have h200' : ¬ (400 : Int) < S.length := by omega
  have OK := Lib.hid (And.intro hok hM)
  have HU := Lib.hid hu
  clear hok hM hu K0 O0 HP HQ O1 HPQ O2
  go_upto_region 7 with (go_at_call 23; refine (new_any _).mono ?_; rintro e W3 ⟨rfl, rfl⟩)
  have KT0 := Lib.hid (KT.made W1)
  obtain ⟨g, hg⟩ : ∃ g, W1.heap.size = g := ⟨_, rfl⟩
  rw [hg] at KT0 ⊢
  obtain ⟨W3, hW3⟩ : ∃ W3, W1.alloc (.cells #[.slice none 0 0, .map none] 88) = W3 := ⟨_, rfl⟩
  rw [hW3] at KT0 ⊢
  have HU2 := Lib.hid (owns_slAt (E := ladE) HU.out)
  have HG2 := Lib.hid (HG.out.kept K1.out)
  have HS2 := Lib.hid (HS.out.kept K1.out)
  have HGB := Lib.hid (fun b hb => Nat.lt_of_lt_of_le (HGB0.out b hb) K1.out.size)
  have HSB := Lib.hid (fun b hb => Nat.lt_of_lt_of_le (HSB0.out b hb) K1.out.size)
  clear hW3 hg HU HG HS HGB0 HSB0
  have hm60 := OK.out.2
  go_wp2_with fail
  go_loopw [12] (fun iv wr => ∃ (i t' : Nat), iv = .int .i64 i ∧ i ≤ M.length ∧ LaidOk (M.take i) t' ∧ KT W1 g (insM (M.take i)) wr) (fun iv _ => M.length - (intOf iv).toNat)
  case atStart => exact ⟨0, 0, rfl, Nat.zero_le _, .nil, KT0.out⟩
  case round =>
    obtain ⟨i, t', rfl, hi, hok', hkt⟩ := hrel
    have KTI := Lib.hid hkt
    have hi0 : (0 : Int) ≤ i := by omega
    by_cases hlt : i < M.length
    case pos =>
      --[
      have hltI : (i : Int) < M.length := by omega
      obtain ⟨x, hx⟩ := get_of_lt hlt
      have INS := Lib.hid (KT.lad OK.out.1 OK.out.2 hx (hkt.still ((Kept.refl (fun _ => False) wr).drew)))
      have h0 := HU2.out.kept hkt.1
      obtain ⟨gu, o, c', e1, _, _, _, h1⟩ := h0.one (by omega)
      cases e1
      have r0 : wr.cell? ⟨gu, o + i * 5, none⟩ = some (.int .i64 x.id.t) := h1 i x hx 0 _ rfl
      have r1 : wr.cell? ⟨gu, o + i * 5 + 1, none⟩ = some (.int .i64 x.id.s) := h1 i x hx 1 _ rfl
      have r2 : wr.cell? ⟨gu, o + i * 5 + 2, none⟩ = some (.int .i64 x.ref.t) := h1 i x hx 2 _ rfl
      have r3 : wr.cell? ⟨gu, o + i * 5 + 3, none⟩ = some (.int .i64 x.ref.s) := h1 i x hx 3 _ rfl
      have r4 : wr.cell? ⟨gu, o + i * 5 + 4, none⟩ = some (.string x.text) := h1 i x hx 4 _ rfl
      have CELLS : Hid (∀ w', Kept (fun _ => False) W1 w' → w'.cell? ⟨gu, o + i * 5, none⟩ = some (.int .i64 x.id.t) ∧ w'.cell? ⟨gu, o + i * 5 + 1, none⟩ = some (.int .i64 x.id.s) ∧ w'.cell? ⟨gu, o + i * 5 + 2, none⟩ = some (.int .i64 x.ref.t) ∧ w'.cell? ⟨gu, o + i * 5 + 3, none⟩ = some (.int .i64 x.ref.s) ∧ w'.cell? ⟨gu, o + i * 5 + 4, none⟩ = some (.string x.text)) := Lib.hid fun w' hk' => by
        obtain ⟨gu', o', c'', e2, _, _, _, h2⟩ := (HU2.out.kept hk').one (by omega)
        cases e2
        exact ⟨h2 i x hx 0 _ rfl, h2 i x hx 1 _ rfl, h2 i x hx 2 _ rfl, h2 i x hx 3 _ rfl, h2 i x hx 4 _ rfl⟩
      have OK2 := Lib.hid (OK.out.1.step (by omega) hx hok').1
      clear h1 h0 hx hok' hkt
      go_upto_region 10 with fail
      go_region_held3 (fun w' : World => w'.cell? ⟨gu, o + i * 5, none⟩ = some (.int .i64 x.id.t) ∧ w'.cell? ⟨gu, o + i * 5 + 1, none⟩ = some (.int .i64 x.id.s) ∧ w'.cell? ⟨gu, o + i * 5 + 2, none⟩ = some (.int .i64 x.ref.t) ∧ w'.cell? ⟨gu, o + i * 5 + 3, none⟩ = some (.int .i64 x.ref.s) ∧ w'.cell? ⟨gu, o + i * 5 + 4, none⟩ = some (.string x.text)) (first | exact CELLS.out _ KT4.out.1 | go_keep) (first | (go_at_call 13; refine INS.out.mono ?_; rintro e W4 ⟨rfl, hk4⟩; have KT4 := Lib.hid hk4; clear hk4))
      go_wp2_with fail
      go_roundw
      case rel => exact ⟨i + 1, _, by go_num, by omega, OK2.out, KT4.out⟩
      case measure => simp [intOf]; omega
      --]
    case neg =>
      have hltI : ¬ (i : Int) < M.length := by omega
      obtain rfl : i = M.length := by omega
      rw [List.take_length] at KTI
      rw [List.take_length] at hok'
      have hI := hok'.ins (by omega)
      have ht' := hok'.len.2
      have hmb : (M.length : Int) ≤ 60 := by omega
      clear hkt hok'
      obtain ⟨L0, hL0⟩ : ∃ L0, insM M = L0 := ⟨_, rfl⟩
      rw [hL0] at hI KTI
      have hl0 : L0.length ≤ 12000 := by rw [hI.len]; omega
      obtain ⟨L1, hL1⟩ : ∃ L1, L0.map (turnF G 1 2) = L1 := ⟨_, rfl⟩
      obtain ⟨L2, hL2⟩ : ∃ L2, L1.map (turnF S 2 3) = L2 := ⟨_, rfl⟩
      obtain ⟨L3, hL3⟩ : ∃ L3, collR L2 = L3 := ⟨_, rfl⟩
      have hI2 : ∀ n ∈ L3, n.id.Is ∧ isRuneP n.rune ∧ 1 ≤ n.st ∧ n.st ≤ 3 := by
        intro n hn
        rw [← hL3] at hn
        have hn2 := (collR_sub L2).subset hn
        rw [← hL2] at hn2
        obtain ⟨m2, hm2, rfl⟩ := List.mem_map.1 hn2
        rw [← hL1] at hm2
        obtain ⟨m1, hm1, rfl⟩ := List.mem_map.1 hm2
        obtain ⟨a1, _, a3⟩ := turnF_id S 2 3 (turnF G 1 2 m1)
        obtain ⟨b1, _, b3⟩ := turnF_id G 1 2 m1
        refine ⟨by rw [a1, b1]; exact hI.is_ m1 hm1, by rw [a3, b3]; exact (hI.st m1 hm1).2, ?_⟩
        exact turn_states (turn_states (by have := (hI.st m1 hm1).1; omega) (by decide) (by decide)) (by decide) (by decide)
      have hd1 : Doc L1 := by rw [← hL1]; exact turn_doc hI.doc
      have hd2 : Doc L2 := by rw [← hL2]; exact turn_doc hd1
      have hd3 : Doc L3 := by rw [← hL3]; have h9 := coll_doc L2 [] (by simpa using hd2); simpa using h9
      have hl1 : L1.length = L0.length := by rw [← hL1, List.length_map]
      have hl2 : L2.length = L0.length := by rw [← hL2, List.length_map, hl1]
      have hl3 : L3.length ≤ L2.length := by rw [← hL3]; exact (collR_sub L2).length_le
      have hsub : L3.Sublist L2 := by rw [← hL3]; exact collR_sub L2
      have hst1 : ∀ n ∈ L0, n.st = 1 := fun n hn => (hI.st n hn).1
      have hdel : turnN G 1 L0 = (L0.length : Int) - ((shL L1).length : Int) := by rw [← hL1]; exact del_count hst1
      have hset : turnN S 2 L1 ≤ turnN G 1 L0 := by rw [← hL1]; exact settle_count hst1
      have hag1 : turnN G 1 L1 = 0 ∧ L1.map (turnF G 1 2) = L1 := by rw [← hL1]; exact turn_again (by decide) L0
      have hag2 : turnN S 2 L2 = 0 ∧ L2.map (turnF S 2 3) = L2 := by rw [← hL2]; exact turn_again (by decide) L1
      have hsh2 : shL L2 = shL L1 := by rw [← hL2]; exact settle_shown S L1
      have hsh3 : shL L3 = shL L1 := by rw [← hL3, coll_shown, hsh2]
      have hcz : collN L3 = 0 ∧ collR L3 = L3 := by rw [← hL3]; exact ⟨collN_zero L2, coll_again L2⟩
      have hcn : collN L2 = (L0.length : Int) - L3.length := by rw [← hl2, ← hL3]; rfl
      have hbeh : ∀ (k : Nat) (x : Nd), L3[k]? = some x → x.st = 3 → ∃ m, L3[k + 1]? = some m ∧ m.ref = x.id := by rw [← hL3]; exact fun k x h => coll_behind h
      have hrow : ∀ (i : Nat) (x : Nd), L0[i]? = some x → ∃ y, L2[i]? = some y ∧ y.id = x.id ∧ y.ref = x.ref ∧ y.rune = x.rune := fun i x hx => by
        obtain ⟨a1, a2, a3⟩ := turnF_id S 2 3 (turnF G 1 2 x)
        obtain ⟨b1, b2, b3⟩ := turnF_id G 1 2 x
        exact ⟨turnF S 2 3 (turnF G 1 2 x), by rw [← hL2, ← hL1, List.getElem?_map, List.getElem?_map, hx]; rfl, by rw [a1, b1], by rw [a2, b2], by rw [a3, b3]⟩
      have NOD := Lib.hid (KTI.out.2.nodes (by omega))
      obtain ⟨z, hz⟩ : ∃ z, wr.heap.size = z := ⟨_, rfl⟩
      have LOWT := Lib.hid KTI.out.2.low
      rw [hz] at NOD LOWT
      clear hz
      obtain ⟨dn, hdn⟩ : ∃ dn, turnN G 1 L0 = dn := ⟨_, rfl⟩
      obtain ⟨sn, hsn⟩ : ∃ sn, turnN S 2 L1 = sn := ⟨_, rfl⟩
      obtain ⟨cn, hcn'⟩ : ∃ cn, collN L2 = cn := ⟨_, rfl⟩
      obtain ⟨tx, htx⟩ : ∃ tx, runeText ((shL L1).map Nd.rune) = tx := ⟨_, rfl⟩
      obtain ⟨ls, hls⟩ : ∃ ls, (shL L1).length = ls := ⟨_, rfl⟩
      have hlsl : ls ≤ L0.length := by rw [← hls, ← hl1]; exact shL_le L1
      have D0 : Hid (∀ W (wv : Value), FT W1 g z wv L0 L0 W → Calls Try.prog 14 #[.pointer (some ⟨g, 0, none⟩), .slice ga G.length gc] W fun e w' => e = .returned (.int .i64 dn) ∧ FT W1 g z wv L0 L1 w') := Lib.hid fun W wv hW => by
        have h9 := hW.del (by omega) HG2.out GI.out (by omega) HGB.out; rw [hdn, hL1] at h9; exact h9
      have D1 : Hid (∀ W (wv : Value), FT W1 g z wv L0 L1 W → Calls Try.prog 14 #[.pointer (some ⟨g, 0, none⟩), .slice ga G.length gc] W fun e w' => e = .returned (.int .i64 0) ∧ FT W1 g z wv L0 L1 w') := Lib.hid fun W wv hW => by
        have h9 := hW.del (by omega) HG2.out GI.out (by omega) HGB.out; rw [hag1.1, hag1.2] at h9; exact h9
      have S1 : Hid (∀ W (wv : Value), FT W1 g z wv L0 L1 W → Calls Try.prog 15 #[.pointer (some ⟨g, 0, none⟩), .slice sa S.length sc] W fun e w' => e = .returned (.int .i64 sn) ∧ FT W1 g z wv L0 L2 w') := Lib.hid fun W wv hW => by
        have h9 := hW.settle (by omega) HS2.out SI.out (by omega) HSB.out; rw [hsn, hL2] at h9; exact h9
      have S2 : Hid (∀ W (wv : Value), FT W1 g z wv L0 L2 W → Calls Try.prog 15 #[.pointer (some ⟨g, 0, none⟩), .slice sa S.length sc] W fun e w' => e = .returned (.int .i64 0) ∧ FT W1 g z wv L0 L2 w') := Lib.hid fun W wv hW => by
        have h9 := hW.settle (by omega) HS2.out SI.out (by omega) HSB.out; rw [hag2.1, hag2.2] at h9; exact h9
      have TX1 : Hid (∀ W (wv : Value), FT W1 g z wv L0 L1 W → Calls Try.prog 17 #[.pointer (some ⟨g, 0, none⟩)] W fun e w' => e = .returned (.string tx) ∧ FT W1 g z wv L0 L1 w') := Lib.hid fun W wv hW => by
        have h9 := hW.text (by omega); rw [htx] at h9; exact h9
      have TX2 : Hid (∀ W (wv : Value), FT W1 g z wv L0 L2 W → Calls Try.prog 17 #[.pointer (some ⟨g, 0, none⟩)] W fun e w' => e = .returned (.string tx) ∧ FT W1 g z wv L0 L2 w') := Lib.hid fun W wv hW => by
        have h9 := hW.text (by omega); rw [hsh2, htx] at h9; exact h9
      have TX3 : Hid (∀ W (wv : Value), FT W1 g z wv L0 L3 W → Calls Try.prog 17 #[.pointer (some ⟨g, 0, none⟩)] W fun e w' => e = .returned (.string tx) ∧ FT W1 g z wv L0 L3 w') := Lib.hid fun W wv hW => by
        have h9 := hW.text (by omega); rw [hsh3, htx] at h9; exact h9
      have LN1 : Hid (∀ W (wv : Value), FT W1 g z wv L0 L1 W → Calls Try.prog 18 #[.pointer (some ⟨g, 0, none⟩)] W fun e w' => e = .returned (.int .i64 ls) ∧ FT W1 g z wv L0 L1 w') := Lib.hid fun W wv hW => by
        have h9 := hW.len (by omega); rw [hls] at h9; exact h9
      have KP2 : Hid (∀ W (wv : Value), FT W1 g z wv L0 L2 W → Calls Try.prog 19 #[.pointer (some ⟨g, 0, none⟩)] W fun e w' => e = .returned (.int .i64 L0.length) ∧ FT W1 g z wv L0 L2 w') := Lib.hid fun W wv hW => by
        have h9 := hW.many; rw [hl2] at h9; exact h9
      have C2 : Hid (∀ W (wv : Value), FT W1 g z wv L0 L2 W → Calls Try.prog 16 #[.pointer (some ⟨g, 0, none⟩)] W fun e w' => e = .returned (.int .i64 cn) ∧ FT W1 g z wv L0 L3 w') := Lib.hid fun W wv hW => by
        have h9 := hW.coll (by omega); rw [hcn', hL3] at h9; exact h9
      have C3 : Hid (∀ W (wv : Value), FT W1 g z wv L0 L3 W → Calls Try.prog 16 #[.pointer (some ⟨g, 0, none⟩)] W fun e w' => e = .returned (.int .i64 0) ∧ FT W1 g z wv L0 L3 w') := Lib.hid fun W wv hW => by
        have h9 := hW.coll (by omega); rw [hcz.1, hcz.2] at h9; exact h9
      have KP3 : Hid (∀ W (wv : Value), FT W1 g z wv L0 L3 W → Calls Try.prog 19 #[.pointer (some ⟨g, 0, none⟩)] W fun e w' => e = .returned (.int .i64 L3.length) ∧ FT W1 g z wv L0 L3 w') := Lib.hid fun W wv hW => hW.many
      have N3 : Hid (∀ W (wv : Value), FT W1 g z wv L0 L3 W → Calls Try.prog 20 #[.pointer (some ⟨g, 0, none⟩)] W fun e w' => ∃ a c, e = .returned (.slice a L3.length c) ∧ SlAt nodeE w' (.slice a L3.length c) L3 ∧ FT W1 g z wv L0 L3 w') := Lib.hid fun W wv hW =>
        (hW.tree.nodes (by omega)).mono fun e w' ⟨⟨a, c, he, h8, _⟩, hk⟩ => ⟨a, c, he, h8, hW.still hk⟩
      have HI2 := Lib.hid hI2
      have HD2 := Lib.hid hd2
      have HL2 : Hid (L2.length ≤ L0.length) := Lib.hid (by omega)
      have HD3 := Lib.hid hd3
      have HSUB := Lib.hid hsub
      have HBEH := Lib.hid hbeh
      have HROW := Lib.hid hrow
      have HTX := Lib.hid (show runeText ((shL L3).map Nd.rune) = tx by rw [hsh3]; exact htx)
      have HCZ := Lib.hid hcz
      have hb3 : (L3.length : Int) ≤ L0.length := by omega
      have hb0 : (L0.length : Int) ≤ 12000 := by omega
      have hdn2 : dn = (L0.length : Int) - ls := by rw [← hdn, hdel, hls]
      have hsn2 : ¬ dn < sn := by omega
      have hcn2 : cn = (L0.length : Int) - L3.length := by omega
      have ew1 : IntKind.i64.wrap ((L0.length : Int) - ls) = dn := by rw [IntWalk.i64_in _ (by omega)]; exact hdn2.symm
      have ew2 : IntKind.i64.wrap ((L0.length : Int) - cn) = L3.length := by rw [IntWalk.i64_in _ (by omega)]; omega
      clear hI2 hd1 hd2 hd3 hl1 hl2 hl3 hsub hst1 hdel hset hag1 hag2 hsh2 hsh3 hcz hcn hbeh hrow hdn hsn hcn' htx hls hlsl hI ht' hL0 hL1 hL2 hL3 hdn2 hcn2
      go_upto_region 15 with (first
        | (go_at_call 20; refine NOD.out.mono ?_; rintro e W4 ⟨⟨wa, wc, rfl, hsl, hfar⟩, hk⟩; have F4 : Hid (FT W1 g z (.slice wa L0.length wc) L0 L0 W4) := Lib.hid ⟨KTI.out.1.trans hk fun _ _ h => h, LOWT.out.still hk, hsl, hfar⟩; clear hk hsl hfar)
        | (go_at_call 14; refine (D0.out _ _ F4.out).mono ?_; rintro e W5 ⟨rfl, hk⟩; have F5 := Lib.hid hk; clear hk)
        | (go_at_call 17; refine (TX1.out _ _ F5.out).mono ?_; rintro e W6 ⟨rfl, hk⟩; have F6 := Lib.hid hk; clear hk))
      go_upto_region 18 with (first
        | (go_at_call 18; refine (LN1.out _ _ F6.out).mono ?_; rintro e W7 ⟨rfl, hk⟩; have F7 := Lib.hid hk; clear hk)
        | (go_at_call 14; refine (D1.out _ _ F7.out).mono ?_; rintro e W8 ⟨rfl, hk⟩; have F8 := Lib.hid hk; clear hk)
        | (go_at_call 15; with_reducible refine (S2.out _ _ F9.out).mono ?_; rintro e W10 ⟨rfl, hk⟩; have F10 := Lib.hid hk; clear hk)
        | (go_at_call 15; with_reducible refine (S1.out _ _ F8.out).mono ?_; rintro e W9 ⟨rfl, hk⟩; have F9 := Lib.hid hk; clear hk)
        | (go_at_call 17; refine (TX2.out _ _ F10.out).mono ?_; rintro e W11 ⟨rfl, hk⟩; have F11 := Lib.hid hk; clear hk)
        | (go_at_call 19; refine (KP2.out _ _ F11.out).mono ?_; rintro e W12 ⟨rfl, hk⟩; have F12 := Lib.hid hk; clear hk)
        | (go_at_call 16; refine (C2.out _ _ F12.out).mono ?_; rintro e W13 ⟨rfl, hk⟩; have F13 := Lib.hid hk; clear hk))
      go_upto_region 21 with (first
        | (go_at_call 16; refine (C3.out _ _ F13.out).mono ?_; rintro e W14 ⟨rfl, hk⟩; have F14 := Lib.hid hk; clear hk)
        | (go_at_call 17; refine (TX3.out _ _ F14.out).mono ?_; rintro e W15 ⟨rfl, hk⟩; have F15 := Lib.hid hk; clear hk)
        | (go_at_call 19; refine (KP3.out _ _ F15.out).mono ?_; rintro e W16 ⟨rfl, hk⟩; have F16 := Lib.hid hk; clear hk)
        | (go_at_call 20; refine (N3.out _ _ F16.out).mono ?_; rintro e W17 ⟨na, nc, rfl, hsl, hk⟩; have F17 := Lib.hid hk; have NW := Lib.hid hsl; clear hk hsl))
      have WAS := Lib.hid F17.out.row
      have KK := Lib.hid F17.out.kept
      clear F4 F5 F6 F7 F8 F9 F10 F11 F12 F13 F14 F15 F16 F17 D0 D1 S1 S2 TX1 TX2 TX3 LN1 KP2 C2 C3 KP3 N3 NOD LOWT KTI KT0 HU2 HG2 HS2 ew1 ew2 hsn2
      go_wp2_with fail
      go_loopw [18, 19] (fun kv iv wr => ∃ k i q : Nat, kv = .int .i64 k ∧ iv = .int .i64 i ∧ i ≤ L0.length ∧ k ≤ L3.length ∧ (L3.drop k).Sublist (L2.drop i) ∧ wr = W17.drewN q) (fun _ iv _ => L0.length - (intOf iv).toNat)
      case atStart => exact ⟨0, 0, 0, rfl, rfl, Nat.zero_le _, Nat.zero_le _, HSUB.out, rfl⟩
      case round =>
        obtain ⟨k, i, q, rfl, rfl, hi, hk, hs, rfl⟩ := hrel
        have HS9 := Lib.hid hs
        have hi0 : (0 : Int) ≤ i := by omega
        have hk0 : (0 : Int) ≤ k := by omega
        by_cases hc : i < L0.length ∧ k < L3.length
        case pos =>
          obtain ⟨h1, h2⟩ := hc
          have h1I : (i : Int) < L0.length := by omega
          have h2I : (k : Int) < L3.length := by omega
          obtain ⟨x, hx⟩ := get_of_lt h1
          obtain ⟨y, hy⟩ := get_of_lt h2
          obtain ⟨x2, hx2, e1, e2, e3⟩ := HROW.out i x hx
          obtain ⟨g1, o1, c1, q1, _, r1⟩ := SlAt.node WAS.out (by omega)
          obtain ⟨g2, o2, c2, q2, _, r2⟩ := SlAt.node NW.out (by omega)
          cases q1
          cases q2
          obtain ⟨k1, k2, k3, k4, k5, k6⟩ := r1 i x hx
          obtain ⟨l1, l2, l3, l4, l5, l6⟩ := r2 k y hy
          obtain ⟨sd1, sd2⟩ := side_step HD2.out.nodup hs hx2 hy
          rw [e1] at sd1 sd2
          have SD1 := Lib.hid sd1
          rcases eq_cases x.id y.id with hxy | ⟨hxy, c3⟩ | ⟨hxy, c3, c4⟩
          case inl =>
            obtain ⟨rfl, hs3⟩ := sd2 hxy
            rw [e1] at l1 l2
            rw [e2] at l3 l4
            rw [e3] at l5
            have HS3 := Lib.hid hs3
            have HY := Lib.hid hy
            by_cases hst : x2.st = 3
            · obtain ⟨m, hm, hmr⟩ := HBEH.out k x2 hy hst
              have hk1 := (List.getElem?_eq_some_iff.1 hm).1
              obtain ⟨n9, hn9⟩ : ∃ n9, k + 1 = n9 := ⟨_, rfl⟩
              have ewk : IntKind.i64.wrap ((k : Int) + 1) = (n9 : Int) := by rw [IntWalk.i64_in _ (by omega)]; omega
              have hk90 : (0 : Int) ≤ n9 := by omega
              have hk2I : (n9 : Int) < L3.length := by omega
              have hk2N : ((n9 : Int) == L3.length) = false := by simp; omega
              rw [hn9] at hm HS3
              obtain ⟨m1, m2, m3, m4, m5, m6⟩ := r2 n9 m hm
              rw [hmr, e1] at m3 m4
              rw [hst] at l6
              have HN9 : Hid (n9 ≤ L3.length) := Lib.hid (by omega)
              clear hs HS9 sd1 sd2 hs3 hx hy hx2 r1 r2 e1 e2 e3 hm hmr hst hxy hk1 hn9
              go_wp2_with fail
              go_quiet (fail)
              go_wp2_with fail
              go_quiet (fail)
              go_wp2_with fail
              go_quiet (fail)
              go_wp2_with fail
              go_roundw
              case rel => exact ⟨n9, i + 1, _, by first | rfl | go_num, by go_num, by omega, HN9.out, HS3.out, rfl⟩
              case measure => simp [intOf]; omega
            · have hstb : (x2.st == 3) = false := by simp [hst]
              clear hs HS9 sd1 sd2 hs3 hx hy hx2 r1 r2 e1 e2 e3 hst hxy
              go_wp2_with fail
              go_quiet (fail)
              go_wp2_with fail
              go_quiet (fail)
              go_wp2_with fail
              go_quiet (fail)
              go_wp2_with fail
              go_roundw
              case rel => exact ⟨k + 1, i + 1, _, by go_num, by go_num, by omega, by omega, HS3.out, rfl⟩
              case measure => simp [intOf]; omega
          all_goals
            have HS3 := Lib.hid (sd1 hxy)
            clear hs HS9 sd1 sd2 hx hy hx2 r1 r2 e1 e2 e3 hxy
            go_wp2_with fail
            go_quiet (fail)
            go_wp2_with fail
            go_roundw
            case rel => exact ⟨k, i + 1, _, by go_num, by go_num, by omega, by omega, HS3.out, rfl⟩
            case measure => simp [intOf]; omega
        case neg =>
          have hkl : k = L3.length := by
            by_cases h1 : i < L0.length
            · omega
            · have h9 := hs.length_le
              rw [List.length_drop, List.length_drop] at h9
              have h8 : L2.length ≤ L0.length := HL2.out
              omega
          subst hkl
          clear hs HS9
          have LD : Hid (∀ W, Kept (fun _ => False) W17 W → Calls Try.prog 30 #[.slice na L3.length nc] W fun e w' => ∃ g', e = .returned (.tuple #[.pointer (some ⟨g', 0, none⟩), .int .i64 0]) ∧ TBox w' g' L3 (fun b => W.heap.size ≤ b) ∧ Kept (fun _ => False) W w') := Lib.hid fun W hW => by
            refine (load_any (NW.out.kept hW) (by omega)).mono ?_
            rintro e w' ⟨hk9, ⟨h9, _⟩ | ⟨_, g', A, S', mp, he, hT, hD, hf⟩⟩
            · exact absurd (load_doc HD3.out HI2.out).1 h9
            · exact ⟨g', he, ⟨⟨A, S', mp, hT, hf⟩, hD, fun n hn => (HI2.out n hn).1⟩, hk9⟩
          by_cases h1 : i < L0.length
          case' pos =>
            have h1I : (i : Int) < L0.length := by omega
            have h2I : ¬ (L3.length : Int) < L3.length := by omega
          case' neg =>
            have h1I : ¬ (i : Int) < L0.length := by omega
          all_goals
            clear hc
            go_upto_region 34 with (go_at_call 30; refine (LD.out _ ((Kept.refl _ _).drewN q)).mono ?_; rintro e W18 ⟨g', rfl, hbx, hk⟩; have U18 := Lib.hid hbx; have K18 := Lib.hid (((Kept.refl _ _).drewN q).trans hk fun _ _ h => h); clear hbx hk)
            have NX : Hid (∀ W (a : Option Addr) (c : Nat), Kept (fun _ => False) W17 W → SlAt nodeE W (.slice a L3.length c) L3 → Calls Try.prog 24 #[.slice a L3.length c, .slice na L3.length nc] W fun e w' => e = .returned (.bool true) ∧ Kept (fun _ => False) W w') := Lib.hid fun W a c hk hs => by
              refine (lnodes_eq hs (NW.out.kept hk) (by omega)).mono ?_
              rintro e w' ⟨rfl, q', rfl⟩
              exact ⟨by rw [decide_eq_true rfl], (Kept.refl _ _).drewN q'⟩
            obtain ⟨Fu, hFu⟩ : ∃ Fu : Nat → Prop, (fun b => (W17.drewN q).heap.size ≤ b) = Fu := ⟨_, rfl⟩
            rw [hFu] at U18
            have HFU : Hid (∀ b, Fu b → w.heap.size ≤ b) := Lib.hid fun b hb => by
              rw [← hFu] at hb
              have := (K1.out.trans (KK.out.trans ((Kept.refl _ _).drewN q) fun _ _ h => h) fun _ _ h => h).size
              exact Nat.le_trans this hb
            clear hFu
            have NU : Hid (∀ W, TBox W g' L3 Fu → Calls Try.prog 20 #[.pointer (some ⟨g', 0, none⟩)] W fun e w' => ∃ a c, e = .returned (.slice a L3.length c) ∧ SlAt nodeE w' (.slice a L3.length c) L3 ∧ TBox w' g' L3 Fu ∧ Kept (fun _ => False) W w') := Lib.hid fun W hW =>
              (hW.nodes (by omega)).mono fun e w' ⟨⟨a, c, he, h8, _⟩, hk⟩ => ⟨a, c, he, h8, hW.still hk, hk⟩
            have TU : Hid (∀ W, TBox W g' L3 Fu → Calls Try.prog 17 #[.pointer (some ⟨g', 0, none⟩)] W fun e w' => e = .returned (.string tx) ∧ TBox w' g' L3 Fu ∧ Kept (fun _ => False) W w') := Lib.hid fun W hW =>
              (hW.text (by omega)).mono fun e w' ⟨he, hk⟩ => ⟨by rw [he, ← HTX.out]; unfold textB runeText; rw [List.flatMap_map], hW.still hk, hk⟩
            have CU : Hid (∀ W, TBox W g' L3 Fu → Calls Try.prog 16 #[.pointer (some ⟨g', 0, none⟩)] W fun e w' => e = .returned (.int .i64 0) ∧ Kept Fu W w') := Lib.hid fun W hW => by
              have h9 := hW.collect (by omega)
              rw [HCZ.out.1] at h9
              exact h9.mono fun e w' ⟨he, _, hk⟩ => ⟨he, hk⟩
            clear LD
            go_wp2_with (first
              | (go_at_call 20; refine (NU.out _ U18.out).mono ?_; rintro e W19 ⟨ra, rc, rfl, hsl, hbx, hk⟩; have R19 := Lib.hid hsl; have U19 := Lib.hid hbx; have K19 := Lib.hid (K18.out.trans hk fun _ _ h => h); clear hsl hbx hk)
              | (go_at_call 24; refine (NX.out _ _ _ K19.out R19.out).mono ?_; rintro e W20 ⟨rfl, hk⟩; have U20 := Lib.hid (U19.out.still hk); have K20 := Lib.hid (K19.out.trans hk fun _ _ h => h); clear hk)
              | (go_at_call 17; refine (TU.out _ U20.out).mono ?_; rintro e W21 ⟨rfl, hbx, hk⟩; have U21 := Lib.hid hbx; have K21 := Lib.hid (K20.out.trans hk fun _ _ h => h); clear hbx hk)
              | (go_at_call 16; refine (CU.out _ U21.out).mono ?_; rintro e W22 ⟨rfl, hk⟩; have K22 := Lib.hid ((K1.out.trans (KK.out.trans K21.out fun _ _ h => h) fun _ _ h => h).trans hk fun b hb h9 => by have := HFU.out b h9; omega); clear hk)
              | (go_at_call 9; refine (KN.out _).mono ?_; rintro e W23 ⟨rfl, hk⟩; have K23 := Lib.hid hk; clear hk))
            go_ret
            exact ⟨rfl, K22.out.trans K23.out fun _ _ h => h⟩
end Go.Proofs.Ytlafodnaifghcaa.Tr
