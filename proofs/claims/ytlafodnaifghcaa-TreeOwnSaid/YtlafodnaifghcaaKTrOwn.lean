/- hearsaylaw11.TreeOwn, walked. -/
import Derived.Test.YtlafodnaifghcaaKTrOwn1
import Derived.Test.YtlafodnaifghcaaK37
import Derived.Deep.RegionHeld3
import Derived.Deep.CutBlock
import Derived.Deep.DeepCutAuto
namespace Go.Proofs.Ytlafodnaifghcaa.Tr
open Go.RowKit Go.Sort Go.Proofs.Ytlafodnaifghcaa.St Go.Proofs.Ytlafodnaifghcaa.Gl Go.Proofs.Ytlafodnaifghcaa
attribute [local go_sem] Oper.semAt_some
theorem set_len9 : ∀ {S M : List ID}, S.Nodup → (∀ x ∈ S, x ∈ M) → S.length ≤ M.length
  | [], _, _, _ => Nat.zero_le _
  | x :: S, M, hn, hs => by
    obtain ⟨h1, h2⟩ := List.nodup_cons.1 hn
    have hm := hs x (List.mem_cons_self ..)
    have := set_len9 (M := M.erase x) h2 (fun y hy => (List.mem_erase_of_ne (fun e => h1 (by rw [← e]; exact hy))).2 (hs y (List.mem_cons_of_mem _ hy)))
    rw [List.length_erase_of_mem hm] at this
    have := List.length_pos_of_mem hm
    simp only [List.length_cons]
    omega
theorem setOf_len9 {M S : List ID} (h : SetOf M S) : S.length ≤ M.length := by
  refine set_len9 ?_ (fun x hx => ((h.2 x).1 hx).1)
  refine List.Pairwise.imp (fun hab e => ?_) h.1
  subst e
  exact ID.lt_irrefl _ hab
/-- where the rows begin: no row, empty arrays -/
theorem OS.start (wz : World) (ND : List Nd) (RL : List Run) : OS wz (fun b => b < wz.heap.size + 1 + 1) wz.heap.size ND RL (fun _ => 0) (fun _ => 0) (fun _ => .slice none 0 0) (fun _ => .slice none 0 0)
    ((wz.alloc (.cells #[.slice none 0 0, .slice none 0 0, .slice none 0 0] 55)).alloc (.cells #[.slice none 0 0, .slice none 0 0, .slice none 0 0] 56)) := by
  obtain ⟨w1, hw1⟩ : ∃ w1, wz.alloc (.cells #[.slice none 0 0, .slice none 0 0, .slice none 0 0] 55) = w1 := ⟨_, rfl⟩
  have q1 := Blk.new wz 55 #[.slice none 0 0, .slice none 0 0, .slice none 0 0]
  have s1 : w1.heap.size = wz.heap.size + 1 := by rw [← hw1]; exact World.size_alloc wz _
  have k1 : Kept (fun _ => False) wz w1 := by rw [← hw1]; exact (Kept.refl _ _).alloc _
  rw [hw1] at q1 ⊢
  have s2 : (w1.alloc (.cells #[.slice none 0 0, .slice none 0 0, .slice none 0 0] 56)).heap.size = w1.heap.size + 1 := World.size_alloc w1 _
  have q2 := Blk.new w1 56 #[.slice none 0 0, .slice none 0 0, .slice none 0 0]
  rw [s1] at q2
  refine ⟨⟨⟨fun _ _ => False, fun s hs => ?_, fun s _ b hb => hb.elim, fun s t _ _ _ b hb => hb.elim⟩, fun b hb => by show b < _; omega⟩, ⟨q1.alloc _, q2⟩, k1.alloc _, ⟨by show _ < _; omega, by show _ < _; omega, Nat.le_refl _⟩, fun b hb => by show b < _; omega⟩
  unfold HH
  split
  · exact .inl ⟨rfl, fun b h => h⟩
  · exact .inl ⟨rfl, fun b h => h⟩
theorem OX.start {wz w : World} {N : Nat → Prop} {R : Nat} {ND : List Nd} {RL : List Run} {st m : Nat → Nat} {v : Nat → Value} (h : OS wz N R ND RL st m v (fun _ => .slice none 0 0) w) :
    OX wz (fun b => N b ∨ b = w.heap.size ∨ b = w.heap.size + 1) R w.heap.size ND RL st m v (fun _ => .slice none 0 0)
      ((w.alloc (.cells #[.slice none 0 0, .slice none 0 0, .slice none 0 0] 55)).alloc (.cells #[.slice none 0 0, .slice none 0 0, .slice none 0 0] 56)) := by
  obtain ⟨w1, hw1⟩ : ∃ w1, w.alloc (.cells #[.slice none 0 0, .slice none 0 0, .slice none 0 0] 55) = w1 := ⟨_, rfl⟩
  have q1 := Blk.new w 55 #[.slice none 0 0, .slice none 0 0, .slice none 0 0]
  have s1 : w1.heap.size = w.heap.size + 1 := by rw [← hw1]; exact World.size_alloc w _
  have k1 : Kept (fun _ => False) w w1 := by rw [← hw1]; exact (Kept.refl _ _).alloc _
  rw [hw1] at q1 ⊢
  have s2 : (w1.alloc (.cells #[.slice none 0 0, .slice none 0 0, .slice none 0 0] 56)).heap.size = w1.heap.size + 1 := World.size_alloc w1 _
  have q2 := Blk.new w1 56 #[.slice none 0 0, .slice none 0 0, .slice none 0 0]
  rw [s1] at q2
  have k2 : Kept (fun _ => False) w (w1.alloc (.cells #[.slice none 0 0, .slice none 0 0, .slice none 0 0] 56)) := k1.alloc _
  have hl := h.arr.2.lt
  have hz := h.kept.size
  refine ⟨⟨h.fam.more (fun _ _ => HH.firm _) k2 fun b hb => ?_, h.arr.keep k2 (fun h => h) (fun h => h), h.kept.trans k2 fun _ _ h => h, ⟨.inl h.nR.1, .inl h.nR.2.1, h.nR.2.2⟩, fun b hb => .inl (h.nz b hb)⟩, ⟨q1.alloc _, q2⟩, ⟨.inr (.inl rfl), .inr (.inr rfl), hz, by omega⟩⟩
  rcases hb with hb | hb | hb
  · exact ⟨by have := h.fam.low b hb; omega, fun _ => hb⟩
  · exact ⟨by omega, fun h => by omega⟩
  · exact ⟨by omega, fun h => by omega⟩
theorem rep_at {α : Type} {a b : α} {d e k : Nat} (h : k < d) : (List.replicate d a ++ List.replicate e b)[k]? = some a := by
  rw [List.getElem?_append_left (by simpa using h), List.getElem?_replicate, if_pos h]
theorem rep_at2 {α : Type} {a b : α} {d e k : Nat} (h : d ≤ k) (h2 : k < d + e) : (List.replicate d a ++ List.replicate e b)[k]? = some b := by
  rw [List.getElem?_append_right (by simpa using h), List.getElem?_replicate, if_pos (by simp; omega)]
/-- what the last loops read of round n's rows -/
theorem OX.six {wz w : World} {N : Nat → Prop} {R Q n : Nat} {ND : List Nd} {RL : List Run} {st m : Nat → Nat} {v x : Nat → Value} (h : OX wz N R Q ND RL st m v x w) (hn : n < 3) (s0 : st (2 * n) = 2) (s1 : st (2 * n + 1) = 2) (m0 : m (2 * n) = 20) (m1 : m (2 * n + 1) = 20) :
    ∃ (d e : Nat) (va wa : Option Addr) (vc wc gx ox cx gy oy cy : Nat), d = ND.length + 20 ∧ e = RL.length + 20 ∧ w.cell? ⟨R, n, none⟩ = some (.slice va ND.length vc) ∧ w.cell? ⟨Q, n, none⟩ = some (.slice (some ⟨gx, ox, none⟩) d cx) ∧
      w.cell? ⟨R + 1, n, none⟩ = some (.slice wa RL.length wc) ∧ w.cell? ⟨Q + 1, n, none⟩ = some (.slice (some ⟨gy, oy, none⟩) e cy) ∧
      (∀ k, k < ND.length → ∃ g o, va = some ⟨g, o, none⟩ ∧ w.cell? ⟨g, o + k * 6 + 5, none⟩ = some (.int .i64 (10 + n)) ∧ w.cell? ⟨gx, ox + k * 6 + 5, none⟩ = some (.int .i64 (10 + n))) ∧
      (∀ k, ND.length ≤ k → k < d → w.cell? ⟨gx, ox + k * 6 + 5, none⟩ = some (.int .i64 (20 + n))) ∧
      (∀ k, k < RL.length → ∃ g o, wa = some ⟨g, o, none⟩ ∧ w.cell? ⟨g, o + k * 3 + 2, none⟩ = some (.int .i64 (10 + n)) ∧ w.cell? ⟨gy, oy + k * 3 + 2, none⟩ = some (.int .i64 (10 + n))) ∧
      (∀ k, RL.length ≤ k → k < e → w.cell? ⟨gy, oy + k * 3 + 2, none⟩ = some (.int .i64 (20 + n))) := by
  obtain ⟨p0, o0, _⟩ := h.long0 hn s0
  obtain ⟨p1, o1, _⟩ := h.long1 hn s1
  rw [m0] at p0
  rw [m1] at p1
  obtain ⟨va, vc, hv, _, _⟩ := o0.sl
  obtain ⟨wa, wc, hw, _, _⟩ := o1.sl
  obtain ⟨gx, ox, cx, hx, _, qx⟩ := SlAt.node p0.slAt (by simp)
  obtain ⟨gy, oy, cy, hy, _, qy⟩ := SlAt.run p1.slAt (by simp)
  have c0 : _ = some (v (2 * n)) := h.os.arr.1.cell' (tri v hn)
  have c1 : _ = some (x (2 * n)) := h.arx.1.cell' (tri x hn)
  have c2 : _ = some (v (2 * n + 1)) := h.os.arr.2.cell' (tri1 v hn)
  have c3 : _ = some (x (2 * n + 1)) := h.arx.2.cell' (tri1 x hn)
  rw [hv, List.length_replicate] at c0
  rw [hx, List.length_append, List.length_replicate, List.length_replicate] at c1
  rw [hw, List.length_replicate] at c2
  rw [hy, List.length_append, List.length_replicate, List.length_replicate] at c3
  refine ⟨ND.length + 20, RL.length + 20, va, wa, vc, wc, gx, ox, cx, gy, oy, cy, rfl, rfl, c0, c1, c2, c3, fun k hk => ?_, fun k hk hk2 => ?_, fun k hk => ?_, fun k hk hk2 => ?_⟩
  · obtain ⟨g, o, c, hv', _, q⟩ := SlAt.node o0 (by simp; omega)
    rw [hv] at hv'
    injection hv' with e1 _ _
    exact ⟨g, o, e1, (q k (n1 n) (by rw [List.getElem?_replicate, if_pos hk])).2.2.2.2.2, (qx k (n1 n) (rep_at hk)).2.2.2.2.2⟩
  · exact (qx k (n2 n) (rep_at2 hk hk2)).2.2.2.2.2
  · obtain ⟨g, o, c, hv', _, q⟩ := SlAt.run o1 (by simp; omega)
    rw [hw] at hv'
    injection hv' with e1 _ _
    exact ⟨g, o, e1, (q k (r1 n) (by rw [List.getElem?_replicate, if_pos hk])).2.2, (qy k (r1 n) (rep_at hk)).2.2⟩
  · exact (qy k (r2 n) (rep_at2 hk hk2)).2.2
def KFin4 (w : World) (e : Ending) (w' : World) : Prop := e = .returned (.bool true) ∧ Kept (fun _ => False) w w'
set_option maxRecDepth 100000 in
set_option maxHeartbeats 8000000 in
theorem own_any {w : World} {v gv : Value} {P : List Pc} {G : List Run} (h : SlAt pcE w v P) (hin : ∀ p ∈ P, p.In) (hg : SlAt runE w gv G) (hgin : ∀ r ∈ G, r.In) (hgb : ∀ b, gv.ownBlock = some b → b < w.heap.size) :
    Calls Try.prog 5 #[v, gv] w (KFin4 w) := by
  have LD := Lib.hid (laid_any h hin)
  have hgl := hg.le
  unfold maxLen at hgl
  obtain ⟨ga, gc, rfl, _, _⟩ := hg.sl
  obtain ⟨va, vc, rfl, _, _⟩ := h.sl
  have HG := Lib.hid hg
  have GI := Lib.hid hgin
  have HGB0 := Lib.hid hgb
  have KN := Lib.hid known_any
  clear h hin hg hgin hgb
  go_enter Try.func5, Try.ntmps5
  go_upto_region 2 with (go_at_call 22; refine LD.out.mono ?_; rintro e W1 hL; obtain ⟨hk1, u, n, c, b, rfl, hL2⟩ := hL.form; clear hL; have K1 := Lib.hid hk1; clear hk1)
  cases b
  case false =>
    go_wp2_with (go_at_call 9; refine (KN.out _).mono ?_; rintro e W2 ⟨rfl, hk2⟩; have K2 := Lib.hid hk2; clear hk2)
    go_ret
    exact ⟨rfl, K1.out.trans K2.out fun _ _ h => h⟩
  case true =>
  obtain ⟨M, t, rfl, hok, hM, hu⟩ := hL2 rfl
  clear hL2
  by_cases h400 : 400 < G.length
  · have h400' : (400 : Int) < G.length := by omega
    go_wp2_with (go_at_call 9; refine (KN.out _).mono ?_; rintro e W2 ⟨rfl, hk2⟩; have K2 := Lib.hid hk2; clear hk2)
    go_ret
    exact ⟨rfl, K1.out.trans K2.out fun _ _ h => h⟩
  have h400' : ¬ (400 : Int) < G.length := by omega
  have OK := Lib.hid (And.intro hok hM)
  have HU2 := Lib.hid (owns_slAt (E := ladE) hu)
  clear hok hM hu LD
  go_upto_region 5 with (go_at_call 23; refine (new_any _).mono ?_; rintro e W3 ⟨rfl, rfl⟩)
  have KT0 := Lib.hid (KT.made W1)
  obtain ⟨g, hg⟩ : ∃ g, W1.heap.size = g := ⟨_, rfl⟩
  rw [hg] at KT0 ⊢
  obtain ⟨W3, hW3⟩ : ∃ W3, W1.alloc (.cells #[.slice none 0 0, .map none] 88) = W3 := ⟨_, rfl⟩
  rw [hW3] at KT0 ⊢
  have HG2 := Lib.hid (HG.out.kept K1.out)
  have HGB := Lib.hid (fun b hb => Nat.lt_of_lt_of_le (HGB0.out b hb) K1.out.size)
  clear hW3 hg HG HGB0
  have hm60 := OK.out.2
  go_wp2_with fail
  go_loopw [8] (fun iv wr => ∃ (i t' : Nat), iv = .int .i64 i ∧ i ≤ M.length ∧ LaidOk (M.take i) t' ∧ KT W1 g (insM (M.take i)) wr) (fun iv _ => M.length - (intOf iv).toNat)
  case atStart => exact ⟨0, 0, rfl, Nat.zero_le _, .nil, KT0.out⟩
  case round =>
    obtain ⟨i, t', rfl, hi, hok', hkt⟩ := hrel
    have KTI := Lib.hid hkt
    have hi0 : (0 : Int) ≤ i := by omega
    by_cases hlt : i < M.length
    case pos =>
      --[
      have hltI : (i : Int) < M.length := by omega
      obtain ⟨x, hx⟩ := get_of_lt hlt
      have INS := Lib.hid (KT.lad OK.out.1 OK.out.2 hx (hkt.still ((Kept.refl (fun _ => False) wr).drew)))
      have h0 := HU2.out.kept hkt.1
      obtain ⟨gu, o, c', e1, _, _, _, h1⟩ := h0.one (by omega)
      cases e1
      have r0 : wr.cell? ⟨gu, o + i * 5, none⟩ = some (.int .i64 x.id.t) := h1 i x hx 0 _ rfl
      have r1 : wr.cell? ⟨gu, o + i * 5 + 1, none⟩ = some (.int .i64 x.id.s) := h1 i x hx 1 _ rfl
      have r2 : wr.cell? ⟨gu, o + i * 5 + 2, none⟩ = some (.int .i64 x.ref.t) := h1 i x hx 2 _ rfl
      have r3 : wr.cell? ⟨gu, o + i * 5 + 3, none⟩ = some (.int .i64 x.ref.s) := h1 i x hx 3 _ rfl
      have r4 : wr.cell? ⟨gu, o + i * 5 + 4, none⟩ = some (.string x.text) := h1 i x hx 4 _ rfl
      have CELLS : Hid (∀ w', Kept (fun _ => False) W1 w' → w'.cell? ⟨gu, o + i * 5, none⟩ = some (.int .i64 x.id.t) ∧ w'.cell? ⟨gu, o + i * 5 + 1, none⟩ = some (.int .i64 x.id.s) ∧ w'.cell? ⟨gu, o + i * 5 + 2, none⟩ = some (.int .i64 x.ref.t) ∧ w'.cell? ⟨gu, o + i * 5 + 3, none⟩ = some (.int .i64 x.ref.s) ∧ w'.cell? ⟨gu, o + i * 5 + 4, none⟩ = some (.string x.text)) := Lib.hid fun w' hk' => by
        obtain ⟨gu', o', c'', e2, _, _, _, h2⟩ := (HU2.out.kept hk').one (by omega)
        cases e2
        exact ⟨h2 i x hx 0 _ rfl, h2 i x hx 1 _ rfl, h2 i x hx 2 _ rfl, h2 i x hx 3 _ rfl, h2 i x hx 4 _ rfl⟩
      have OK2 := Lib.hid (OK.out.1.step (by omega) hx hok').1
      clear h1 h0 hx hok' hkt
      go_upto_region 10 with fail
      go_region_held3 (fun w' : World => w'.cell? ⟨gu, o + i * 5, none⟩ = some (.int .i64 x.id.t) ∧ w'.cell? ⟨gu, o + i * 5 + 1, none⟩ = some (.int .i64 x.id.s) ∧ w'.cell? ⟨gu, o + i * 5 + 2, none⟩ = some (.int .i64 x.ref.t) ∧ w'.cell? ⟨gu, o + i * 5 + 3, none⟩ = some (.int .i64 x.ref.s) ∧ w'.cell? ⟨gu, o + i * 5 + 4, none⟩ = some (.string x.text)) (first | exact CELLS.out _ KT4.out.1 | go_keep) (first | (go_at_call 13; refine INS.out.mono ?_; rintro e W4 ⟨rfl, hk4⟩; have KT4 := Lib.hid hk4; clear hk4))
      go_wp2_with fail
      go_roundw
      case rel => exact ⟨i + 1, _, by go_num, by omega, OK2.out, KT4.out⟩
      case measure => simp [intOf]; omega
      --]
    case neg =>
      have hltI : ¬ (i : Int) < M.length := by omega
      obtain rfl : i = M.length := by omega
      rw [List.take_length] at KTI
      rw [List.take_length] at hok'
      have hI := hok'.ins (by omega)
      have ht' := hok'.len.2
      clear hkt hok'
      obtain ⟨L0, hL0⟩ : ∃ L0, insM M = L0 := ⟨_, rfl⟩
      rw [hL0] at hI KTI
      have hl0 : L0.length ≤ 12000 := by rw [hI.len]; omega
      obtain ⟨ND, hND⟩ : ∃ ND, L0.map (turnF G 1 2) = ND := ⟨_, rfl⟩
      have hnd : ND.length ≤ 12000 := by rw [← hND, List.length_map]; exact hl0
      obtain ⟨tx, htx⟩ : ∃ tx, runeText ((shL ND).map Nd.rune) = tx := ⟨_, rfl⟩
      obtain ⟨ls, hls⟩ : ∃ ls, (shL ND).length = ls := ⟨_, rfl⟩
      have hlsb : ls ≤ ND.length := by rw [← hls]; exact shL_le ND
      have DEL := Lib.hid (KTI.out.del (by omega) HG2.out GI.out (by omega) HGB.out)
      rw [hND] at DEL
      have TXT : Hid (∀ W, KT W1 g ND W → Calls Try.prog 17 #[.pointer (some ⟨g, 0, none⟩)] W fun e w' => e = .returned (.string tx) ∧ KT W1 g ND w') := Lib.hid fun W hW => by have h9 := hW.text (by omega); rw [htx] at h9; exact h9
      have LEN : Hid (∀ W, KT W1 g ND W → Calls Try.prog 18 #[.pointer (some ⟨g, 0, none⟩)] W fun e w' => e = .returned (.int .i64 ls) ∧ Kept (fun _ => False) W w') := Lib.hid fun W hW => by have h9 := hW.2.len (by omega); rw [hls] at h9; exact h9
      have NOD : Hid (∀ W, KT W1 g ND W → Calls Try.prog 20 #[.pointer (some ⟨g, 0, none⟩)] W fun e w' => ∃ a c, e = .returned (.slice a ND.length c) ∧ App nodeE 59 w' (.slice a ND.length c) ND ∧ (∀ b, (Value.slice a ND.length c).ownBlock = some b → W.heap.size ≤ b) ∧ Kept (fun _ => False) W w') := Lib.hid fun W hW => by
        obtain ⟨A, S, mp, h1, _⟩ := hW.2.at_
        refine (nodes_any h1 hW.2.doc (by omega)).mono ?_
        rintro e w' ⟨⟨v, rfl, hc⟩, hk⟩
        obtain ⟨a, c, rfl⟩ := (app_clip hc).sl
        refine ⟨a, c, rfl, app_clip hc, fun b hb => ?_, hk⟩
        rcases hc with ⟨e1, _⟩ | ⟨b', cap, e1, hb', _⟩
        · rw [e1] at hb; cases hb
        · rw [e1] at hb; cases hb; exact hb'
      have SPN : Hid (∀ W, KT W1 g ND W → Calls Try.prog 11 #[.pointer (some ⟨g, 0, none⟩), .int .i64 0, .int .i64 ls] W fun e w' => (∃ v T, e = .returned (.tuple #[v, .int .i64 0]) ∧ SetOf (spanL ND 0 ls ls) T ∧ w'.ownsRow W.heap.size 61 3 v (packL T).length (runE.flat (packL T))) ∧ Kept (fun _ => False) W w') := Lib.hid fun W hW => by
        have h9 := hW.2.span (ix := 0) (n := ls) (by omega) ⟨by omega, by omega, by omega, by omega⟩
        rw [hls] at h9
        exact h9
      have hb0 : (ND.length : Int) ≤ 12000 := by omega
      have hls0 : (0 : Int) ≤ ls := by omega
      have HTX := Lib.hid htx
      clear hI ht' hL0 hND htx hls KT0
      go_upto_region 14 with (first
        | (go_at_call 14; refine DEL.out.mono ?_; rintro e W4 ⟨rfl, hk⟩; have F4 := Lib.hid hk; clear hk)
        | (go_at_call 17; refine (TXT.out _ F4.out).mono ?_; rintro e W5 ⟨rfl, hk⟩; have F5 := Lib.hid hk; clear hk)
        | (go_at_call 20; refine (NOD.out _ F5.out).mono ?_; rintro e W6 ⟨wa, wc, rfl, happ, _, hk⟩; have F6 := Lib.hid (F5.out.still hk); have WAS6 := Lib.hid happ.slAt; clear hk happ))
      go_upto_region 15 with (first
        | (go_at_call 18; refine (LEN.out _ F6.out).mono ?_; rintro e W7 ⟨rfl, hk⟩; have F7 := Lib.hid (F6.out.still hk); have WAS7 := Lib.hid (WAS6.out.kept hk); clear hk)
        | (go_at_call 11; refine (SPN.out _ F7.out).mono ?_; rintro e W8 ⟨⟨sv, T, rfl, hT, hrow⟩, hk⟩; have HT := Lib.hid hT; have F8 := Lib.hid (F7.out.still hk); have WAS8 := Lib.hid (WAS7.out.kept hk); have SP8 := Lib.hid (owns_slAt (E := runE) hrow); clear hk hT hrow))
      obtain ⟨RL, hRL⟩ : ∃ RL, packL T = RL := ⟨_, rfl⟩
      have hrl : RL.length ≤ 12000 := by
        have h1 := packL_len T
        have h2 := setOf_len9 HT.out
        have h3 : (spanL ND 0 ls ls).length ≤ ls := by
          unfold spanL
          rw [List.length_take]
          omega
        rw [hRL] at h1
        omega
      have SPC : Hid (∀ W, KT W1 g ND W → Calls Try.prog 11 #[.pointer (some ⟨g, 0, none⟩), .int .i64 0, .int .i64 ls] W fun e w' => ∃ a c, e = .returned (.tuple #[.slice a RL.length c, .int .i64 0]) ∧ App runE 61 w' (.slice a RL.length c) RL ∧ (∀ b, (Value.slice a RL.length c).ownBlock = some b → W.heap.size ≤ b) ∧ Kept (fun _ => False) W w') := Lib.hid fun W hW => by
        refine (SPN.out W hW).mono ?_
        rintro e w' ⟨⟨v, T', rfl, hT', hrow⟩, hk⟩
        rw [hT'.unique HT.out, hRL] at hrow
        obtain ⟨a, c, rfl⟩ := owns_sl hrow
        exact ⟨a, c, rfl, app_owns hrow, fun b hb => (owns_lt hrow b hb).1, hk⟩
      rw [hRL] at SP8
      obtain ⟨sa, sc, rfl, _, _⟩ := SP8.out.sl
      have hb1 : (RL.length : Int) ≤ 12000 := by omega
      have HND : Hid (ND.length ≤ 12000 ∧ RL.length ≤ 12000) := Lib.hid ⟨hnd, hrl⟩
      have OS0 := Lib.hid (OS.start W8 ND RL)
      obtain ⟨R, hR⟩ : ∃ R, W8.heap.size = R := ⟨_, rfl⟩
      have EQN : Hid (∀ W (a : Option Addr) (c : Nat), Kept (fun _ => False) W8 W → SlAt nodeE W (.slice a ND.length c) ND → Calls Try.prog 24 #[.slice a ND.length c, .slice wa ND.length wc] W fun e w' => e = .returned (.bool true) ∧ Kept (fun _ => False) W w') := Lib.hid fun W a c hk hs => by
        refine (lnodes_eq hs (WAS8.out.kept hk) (by omega)).mono ?_
        rintro e w' ⟨rfl, q', rfl⟩
        exact ⟨by rw [decide_eq_true rfl], (Kept.refl _ _).drewN q'⟩
      have EQR : Hid (∀ W (a : Option Addr) (c : Nat), Kept (fun _ => False) W8 W → SlAt runE W (.slice a RL.length c) RL → Calls Try.prog 25 #[.slice a RL.length c, .slice sa RL.length sc] W fun e w' => e = .returned (.bool true) ∧ Kept (fun _ => False) W w') := Lib.hid fun W a c hk hs => by
        refine (lruns_eq hs (SP8.out.kept hk) (by omega)).mono ?_
        rintro e w' ⟨rfl, q', rfl⟩
        exact ⟨by rw [decide_eq_true rfl], (Kept.refl _ _).drewN q'⟩
      have KZ : Hid (∀ W, Kept (fun _ => False) W8 W → KT W1 g ND W) := Lib.hid fun W hk => F8.out.still hk
      clear hRL F4 F5 F6 F7 WAS6 WAS7 KTI DEL SPN hnd hrl hlsb hl0
      go_upto_region 19 with fail
      rw [hR] at OS0
      obtain ⟨wb, hwb⟩ : ∃ wb, (W8.alloc (.cells #[.slice none 0 0, .slice none 0 0, .slice none 0 0] 55)).alloc (.cells #[.slice none 0 0, .slice none 0 0, .slice none 0 0] 56) = wb := ⟨_, rfl⟩
      rw [hwb] at OS0 ⊢
      have hRn : ¬ R = R + 1 := by omega
      go_wp2_with fail
      go_loopw [15] (fun iv wr => ∃ (n : Nat) (st : Nat → Nat) (v : Nat → Value), iv = .int .i64 n ∧ n ≤ 3 ∧ (∀ s, s < 6 → st s = if s / 2 < n then 1 else 0) ∧ OS W8 (fun b => b < R + 1 + 1) R ND RL st (fun _ => 0) v (fun _ => .slice none 0 0) wr) (fun iv _ => 3 - (intOf iv).toNat)
      case atStart => exact ⟨0, _, _, rfl, by omega, fun s hs => by rw [if_neg (by omega)], OS0.out⟩
      case round =>
        clear OS0
        obtain ⟨n, st, v, rfl, hn, hst, hos⟩ := hrel
        have HST := Lib.hid hst
        have HOS := Lib.hid hos
        have hn0 : (0 : Int) ≤ n := by omega
        clear hst hos
        by_cases h1 : n < 3
        case pos =>
          have hn3 : (n : Int) < 3 := by omega
          go_upto_region 23 with (go_at_call 20; refine (NOD.out _ (KZ.out _ HOS.out.kept)).mono ?_; rintro e w3 ⟨a3, c3, rfl, happ, hnew, hk⟩; have x0 : w3.cell? ⟨R, n, none⟩ = some (v (2 * n)) := (HOS.out.arr.keep hk (fun h => h) (fun h => h)).1.cell' (tri v h1); have f0 := (HOS.out.arr.keep hk (fun h => h) (fun h => h)).1.frozen n; have OS3 := Lib.hid (HOS.out.put0 h1 rfl hk happ hnew); clear happ hnew hk)
          obtain ⟨w4, hw4⟩ : ∃ w4, w3.setCell ⟨R, n, none⟩ (.slice a3 ND.length c3) = w4 := ⟨_, rfl⟩
          rw [hw4] at OS3 ⊢
          clear hw4 x0 f0
          go_upto_region 24 with (first
            | (go_at_call 18; refine (LEN.out _ (KZ.out _ OS3.out.kept)).mono ?_; rintro e w5 ⟨rfl, hk⟩; have OS5 := Lib.hid (OS3.out.still hk); clear hk)
            | (go_at_call 11; refine (SPC.out _ (KZ.out _ OS5.out.kept)).mono ?_; rintro e w6 ⟨a6, c6, rfl, happ, hnew, hk⟩; have x0 : w6.cell? ⟨R + 1, n, none⟩ = some (up v (2 * n) (.slice a3 ND.length c3) (2 * n + 1)) := (OS5.out.arr.keep hk (fun h => h) (fun h => h)).2.cell' (tri1 _ h1); have f0 := (OS5.out.arr.keep hk (fun h => h) (fun h => h)).2.frozen n; have OS6 := Lib.hid (OS5.out.put1 h1 rfl hk happ hnew); clear happ hnew hk))
          obtain ⟨w7, hw7⟩ : ∃ w7, w6.setCell ⟨R + 1, n, none⟩ (.slice a6 RL.length c6) = w7 := ⟨_, rfl⟩
          rw [hw7] at OS6 ⊢
          clear hw7 x0 f0
          have e0 : up (up v (2 * n) (.slice a3 ND.length c3)) (2 * n + 1) (.slice a6 RL.length c6) (2 * n) = .slice a3 ND.length c3 := by rw [up_ne _ _ (by omega), up_at]
          have e1 : up (up v (2 * n) (.slice a3 ND.length c3)) (2 * n + 1) (.slice a6 RL.length c6) (2 * n + 1) = .slice a6 RL.length c6 := up_at _ _ _
          have y0 : w7.cell? ⟨R, n, none⟩ = some (.slice a3 ND.length c3) := by rw [← e0]; exact OS6.out.arr.1.cell' (tri _ h1)
          have z0 : Hid (∀ W, Kept (fun _ => False) w7 W → W.cell? ⟨R + 1, n, none⟩ = some (.slice a6 RL.length c6)) := Lib.hid fun W hk => by rw [← e1]; exact (OS6.out.still hk).arr.2.cell' (tri1 _ h1)
          have s0 : SlAt nodeE w7 (.slice a3 ND.length c3) ND := by
            have h9 := (OS6.out.row0 h1 (by rw [up_ne _ _ (by omega), up_at])).1.slAt
            rw [e0] at h9
            simpa using h9
          have s1 : SlAt runE w7 (.slice a6 RL.length c6) RL := by
            have h9 := (OS6.out.row1 h1 (by rw [up_at])).1.slAt
            rw [e1] at h9
            simpa using h9
          have S0 := Lib.hid s0
          have S1 := Lib.hid s1
          clear s0 s1 e0 e1 OS3 OS5 HOS
          go_wp2_with (first
            | (go_at_call 24; refine (EQN.out _ _ _ OS6.out.kept S0.out).mono ?_; rintro e w8 ⟨rfl, hk⟩; have OS8 := Lib.hid (OS6.out.still hk); have S8 := Lib.hid (S1.out.kept hk); have z8 := z0.out _ hk; clear hk)
            | (go_at_call 25; refine (EQR.out _ _ _ OS8.out.kept S8.out).mono ?_; rintro e w9 ⟨rfl, hk⟩; have OS9 := Lib.hid (OS8.out.still hk); clear hk))
          go_roundw
          case rel =>
            refine ⟨n + 1, _, _, by go_num, by omega, fun s hs => ?_, OS9.out⟩
            have := HST.out s hs
            simp only [up]
            split
            · rw [if_pos (by omega)]
            · split
              · rw [if_pos (by omega)]
              · rw [this]
                by_cases h9 : s / 2 < n
                · rw [if_pos h9, if_pos (by omega)]
                · rw [if_neg h9, if_neg (by omega)]
          case measure => simp [intOf] <;> omega
        case neg =>
          have hnl : ¬ (n : Int) < 3 := by omega
          obtain rfl : n = 3 := by omega
          have ST1 : Hid (∀ s, s < 6 → st s = 1) := Lib.hid fun s hs => by rw [HST.out s hs, if_pos (by omega)]
          clear HST
          go_wp2_with fail
          go_loopw [16] (fun iv wr => ∃ (n : Nat) (m : Nat → Nat), iv = .int .i64 n ∧ n ≤ 3 ∧ (∀ s, s < 6 → m s = if s / 2 < n then (if s % 2 = 0 then ND.length else RL.length) else 0) ∧ OS W8 (fun b => b < R + 1 + 1) R ND RL st m v (fun _ => .slice none 0 0) wr) (fun iv _ => 3 - (intOf iv).toNat)
          case atStart => exact ⟨0, _, rfl, by omega, fun s hs => by rw [if_neg (by omega)], HOS.out⟩
          case round =>
            clear HOS
            obtain ⟨n, m, rfl, hn, hm, hos⟩ := hrel
            have HM := Lib.hid hm
            have HOS := Lib.hid hos
            have hn0 : (0 : Int) ≤ n := by omega
            clear hm hos
            by_cases h1 : n < 3
            case pos =>
              have hn3 : (n : Int) < 3 := by omega
              have s0 := ST1.out (2 * n) (by omega)
              have s1 := ST1.out (2 * n + 1) (by omega)
              have m0 : m (2 * n) = 0 := by rw [HM.out _ (by omega), if_neg (by omega)]
              have m1 : m (2 * n + 1) = 0 := by rw [HM.out _ (by omega), if_neg (by omega)]
              obtain ⟨a3, c3, e3⟩ := (HOS.out.row0 h1 s0).1.sl
              obtain ⟨a6, c6, e6⟩ := (HOS.out.row1 h1 s1).1.sl
              rw [m0, List.replicate_zero, List.drop_zero, List.nil_append] at e3
              rw [m1, List.replicate_zero, List.drop_zero, List.nil_append] at e6
              have S0 := Lib.hid s0
              have S1 := Lib.hid s1
              have M1 := Lib.hid m1
              have E3 := Lib.hid e3
              have E6 := Lib.hid e6
              clear s0 s1 m1 e3 e6
              go_wp2_with fail
              go_loopw [17] (fun kv wr => ∃ (k : Nat) (m' : Nat → Nat), kv = .int .i64 k ∧ k ≤ ND.length ∧ m' (2 * n) = k ∧ (∀ s, s ≠ 2 * n → m' s = m s) ∧ OS W8 (fun b => b < R + 1 + 1) R ND RL st m' v (fun _ => .slice none 0 0) wr) (fun kv _ => ND.length - (intOf kv).toNat)
              case atStart => exact ⟨0, m, rfl, Nat.zero_le _, m0, fun _ _ => rfl, HOS.out⟩
              case round =>
                clear HOS m0
                obtain ⟨k, m', rfl, hk, hmk, hms, hos⟩ := hrel
                have HOS := Lib.hid hos
                have HMK := Lib.hid hmk
                have HMS := Lib.hid hms
                have hk0 : (0 : Int) ≤ k := by omega
                have z0 : wr.cell? ⟨R, n, none⟩ = some (.slice a3 ND.length c3) := by rw [← E3.out]; exact hos.arr.1.cell' (tri v h1)
                clear hos hmk hms
                by_cases hlt : k < ND.length
                case pos =>
                  have hltI : (k : Int) < ND.length := by omega
                  have hrow := (HOS.out.row0 h1 S0.out).1
                  rw [HMK.out] at hrow
                  obtain ⟨gx, cap, cx, ev, hO⟩ := hrow.one (by rw [repl_len hk]; omega)
                  rw [E3.out] at ev
                  injection ev with q1 q2 q3
                  subst q1
                  subst q3
                  obtain ⟨y, hy⟩ := get_of_lt (show k < (List.replicate k (n1 n) ++ ND.drop k).length by rw [repl_len hk]; exact hlt)
                  have c0 : wr.cell? ⟨gx, k * 6, none⟩ = some (.int .i64 y.id.t) := hO.cell (j := 0) hy rfl
                  have c1 : wr.cell? ⟨gx, k * 6 + 1, none⟩ = some (.int .i64 y.id.s) := hO.cell (j := 1) hy rfl
                  have c2 : wr.cell? ⟨gx, k * 6 + 2, none⟩ = some (.int .i64 y.ref.t) := hO.cell (j := 2) hy rfl
                  have c3' : wr.cell? ⟨gx, k * 6 + 3, none⟩ = some (.int .i64 y.ref.s) := hO.cell (j := 3) hy rfl
                  have c4 : wr.cell? ⟨gx, k * 6 + 4, none⟩ = some (.int .i32 y.rune) := hO.cell (j := 4) hy rfl
                  have c5 : wr.cell? ⟨gx, k * 6 + 5, none⟩ = some (.int .i64 y.st) := hO.cell (j := 5) hy rfl
                  have f0 := hO.frozen (k * 6)
                  have f1 := hO.frozen (k * 6 + 1)
                  have f2 := hO.frozen (k * 6 + 2)
                  have f3 := hO.frozen (k * 6 + 3)
                  have f4 := hO.frozen (k * 6 + 4)
                  have f5 := hO.frozen (k * 6 + 5)
                  clear hO hy hrow q2
                  go_wp2_with fail
                  go_roundw
                  case rel => exact ⟨k + 1, _, by go_num, by omega, up_at _ _ _, fun s hs => by rw [up_ne _ _ hs]; exact HMS.out s hs, HOS.out.write0 h1 S0.out HMK.out hlt E3.out⟩
                  case measure => simp [intOf] <;> omega
                case neg =>
                  have hnl : ¬ (k : Int) < ND.length := by omega
                  obtain rfl : k = ND.length := by omega
                  go_wp2_with fail
                  clear z0
                  go_loopw [18] (fun kv wr => ∃ (k : Nat) (m2 : Nat → Nat), kv = .int .i64 k ∧ k ≤ RL.length ∧ m2 (2 * n + 1) = k ∧ (∀ s, s ≠ 2 * n + 1 → m2 s = m' s) ∧ OS W8 (fun b => b < R + 1 + 1) R ND RL st m2 v (fun _ => .slice none 0 0) wr) (fun kv _ => RL.length - (intOf kv).toNat)
                  case atStart => exact ⟨0, m', rfl, Nat.zero_le _, by rw [HMS.out _ (by omega)]; exact M1.out, fun _ _ => rfl, HOS.out⟩
                  case round =>
                    clear HOS
                    obtain ⟨k, m2, rfl, hk, hmk, hms, hos⟩ := hrel
                    have HOS := Lib.hid hos
                    have HMK2 := Lib.hid hmk
                    have HMS2 := Lib.hid hms
                    have hk0 : (0 : Int) ≤ k := by omega
                    have z0 : wr.cell? ⟨R + 1, n, none⟩ = some (.slice a6 RL.length c6) := by rw [← E6.out]; exact hos.arr.2.cell' (tri1 v h1)
                    clear hos hmk hms
                    by_cases hlt : k < RL.length
                    case pos =>
                      have hltI : (k : Int) < RL.length := by omega
                      have hrow := (HOS.out.row1 h1 S1.out).1
                      rw [HMK2.out] at hrow
                      obtain ⟨gx, cap, cx, ev, hO⟩ := hrow.one (by rw [repl_len hk]; omega)
                      rw [E6.out] at ev
                      injection ev with q1 q2 q3
                      subst q1
                      subst q3
                      obtain ⟨y, hy⟩ := get_of_lt (show k < (List.replicate k (r1 n) ++ RL.drop k).length by rw [repl_len hk]; exact hlt)
                      have c0 : wr.cell? ⟨gx, k * 3, none⟩ = some (.int .i64 y.id.t) := hO.cell (j := 0) hy rfl
                      have c1 : wr.cell? ⟨gx, k * 3 + 1, none⟩ = some (.int .i64 y.id.s) := hO.cell (j := 1) hy rfl
                      have c2 : wr.cell? ⟨gx, k * 3 + 2, none⟩ = some (.int .i64 y.c) := hO.cell (j := 2) hy rfl
                      have f0 := hO.frozen (k * 3)
                      have f1 := hO.frozen (k * 3 + 1)
                      have f2 := hO.frozen (k * 3 + 2)
                      clear hO hy hrow q2
                      go_wp2_with fail
                      go_roundw
                      case rel => exact ⟨k + 1, _, by go_num, by omega, up_at _ _ _, fun s hs => by rw [up_ne _ _ hs]; exact HMS2.out s hs, HOS.out.write1 h1 S1.out HMK2.out hlt E6.out⟩
                      case measure => simp [intOf] <;> omega
                    case neg =>
                      have hnl2 : ¬ (k : Int) < RL.length := by omega
                      obtain rfl : k = RL.length := by omega
                      go_wp2_with fail
                      go_roundw
                      case rel =>
                        refine ⟨n + 1, m2, by go_num, by omega, fun s hs => ?_, HOS.out⟩
                        by_cases e1 : s = 2 * n + 1
                        · subst e1
                          rw [if_pos (by omega), if_neg (by omega)]
                          exact HMK2.out
                        · rw [HMS2.out s e1]
                          by_cases e0 : s = 2 * n
                          · subst e0
                            rw [if_pos (by omega), if_pos (by omega)]
                            exact HMK.out
                          · rw [HMS.out s e0, HM.out s hs]
                            by_cases h9 : s / 2 < n
                            · rw [if_pos h9, if_pos (show s / 2 < n + 1 by omega)]
                            · rw [if_neg h9, if_neg (show ¬ s / 2 < n + 1 by omega)]
                      case measure => simp [intOf] <;> omega
            case neg =>
              have hnl : ¬ (n : Int) < 3 := by omega
              obtain rfl : n = 3 := by omega
              have MF : Hid (∀ s, s < 6 → m s = if s % 2 = 0 then ND.length else RL.length) := Lib.hid fun s hs => by rw [HM.out s hs, if_pos (by omega)]
              clear HM
              have hOX := OX.start HOS.out
              obtain ⟨Q, hQ⟩ : ∃ Q, wr.heap.size = Q := ⟨_, rfl⟩
              rw [hQ] at hOX
              go_upto_region 39 with fail
              obtain ⟨wc, hwc⟩ : ∃ wc, (wr.alloc (.cells #[.slice none 0 0, .slice none 0 0, .slice none 0 0] 55)).alloc (.cells #[.slice none 0 0, .slice none 0 0, .slice none 0 0] 56) = wc := ⟨_, rfl⟩
              rw [hwc] at hOX ⊢
              obtain ⟨N2, OX0⟩ : ∃ N2, Hid (OX W8 N2 R Q ND RL st m v (fun _ => .slice none 0 0) wc) := ⟨_, Lib.hid hOX⟩
              clear hOX hwc hQ HOS
              have hQn : ¬ Q = Q + 1 := by omega
              go_wp2_with fail
              go_loopw [21] (fun iv wr => ∃ (n : Nat) (st' m' : Nat → Nat) (x : Nat → Value), iv = .int .i64 n ∧ n ≤ 3 ∧ (∀ s, s < 6 → st' s = if s / 2 < n then 2 else 1) ∧ (∀ s, s < 6 → m' s = if s / 2 < n then 20 else (if s % 2 = 0 then ND.length else RL.length)) ∧ OX W8 N2 R Q ND RL st' m' v x wr) (fun iv _ => 3 - (intOf iv).toNat)
              case atStart => exact ⟨0, st, m, _, rfl, by omega, fun s hs => by rw [if_neg (by omega)]; exact ST1.out s hs, fun s hs => by rw [if_neg (by omega)]; exact MF.out s hs, OX0.out⟩
              case round =>
                clear OX0
                obtain ⟨n, st', m', x, rfl, hn, hst, hm, hox⟩ := hrel
                have HST := Lib.hid hst
                have HM := Lib.hid hm
                have HOX := Lib.hid hox
                have hn0 : (0 : Int) ≤ n := by omega
                clear hst hm hox
                by_cases h1 : n < 3
                case pos =>
                  have hn3 : (n : Int) < 3 := by omega
                  have s0 : st' (2 * n) = 1 := by rw [HST.out _ (by omega), if_neg (by omega)]
                  have s1 : st' (2 * n + 1) = 1 := by rw [HST.out _ (by omega), if_neg (by omega)]
                  have m0 : m' (2 * n) = ND.length := by rw [HM.out _ (by omega), if_neg (by omega), if_pos (by omega)]
                  have m1 : m' (2 * n + 1) = RL.length := by rw [HM.out _ (by omega), if_neg (by omega), if_neg (by omega)]
                  obtain ⟨a3, c3, e3⟩ := (HOX.out.os.row0 h1 s0).1.sl
                  obtain ⟨a6, c6, e6⟩ := (HOX.out.os.row1 h1 s1).1.sl
                  rw [m0, List.drop_length, List.append_nil, List.length_replicate] at e3
                  rw [m1, List.drop_length, List.append_nil, List.length_replicate] at e6
                  have z0 : wr.cell? ⟨R, n, none⟩ = some (.slice a3 ND.length c3) := by rw [← e3]; exact HOX.out.os.arr.1.cell' (tri v h1)
                  have y0 : wr.cell? ⟨Q, n, none⟩ = some (x (2 * n)) := HOX.out.arx.1.cell' (tri x h1)
                  have f0 := HOX.out.arx.1.frozen n
                  have hox1 := HOX.out.go0 h1 s0 m0
                  rw [e3] at hox1
                  have OX1 := Lib.hid hox1
                  have E6 := Lib.hid e6
                  have S1 := Lib.hid s1
                  have M1 := Lib.hid m1
                  clear hox1 s0 m0 s1 m1 e3 e6 HOX
                  go_upto_region 43 with fail
                  obtain ⟨w1, hw1⟩ : ∃ w1, wr.setCell ⟨Q, n, none⟩ (.slice a3 ND.length c3) = w1 := ⟨_, rfl⟩
                  rw [hw1] at OX1 ⊢
                  clear z0 y0 f0 hw1
                  have z1 : w1.cell? ⟨R + 1, n, none⟩ = some (.slice a6 RL.length c6) := by rw [← E6.out]; exact OX1.out.os.arr.2.cell' (tri1 v h1)
                  have y1 : w1.cell? ⟨Q + 1, n, none⟩ = some (up x (2 * n) (.slice a3 ND.length c3) (2 * n + 1)) := OX1.out.arx.2.cell' (tri1 _ h1)
                  have f1 := OX1.out.arx.2.frozen n
                  have hox2 := OX1.out.go1 h1 (by rw [up_ne _ _ (by omega)]; exact S1.out) (by rw [up_ne _ _ (by omega)]; exact M1.out)
                  rw [E6.out] at hox2
                  have OX2 := Lib.hid hox2
                  clear hox2 OX1 S1 M1
                  go_upto_region 44 with fail
                  obtain ⟨w2, hw2⟩ : ∃ w2, w1.setCell ⟨Q + 1, n, none⟩ (.slice a6 RL.length c6) = w2 := ⟨_, rfl⟩
                  rw [hw2] at OX2 ⊢
                  clear z1 y1 f1 hw2
                  obtain ⟨st2, hst2⟩ : ∃ st2, up (up st' (2 * n) 2) (2 * n + 1) 2 = st2 := ⟨_, rfl⟩
                  obtain ⟨m2, hm2⟩ : ∃ m2, up (up m' (2 * n) 0) (2 * n + 1) 0 = m2 := ⟨_, rfl⟩
                  rw [hst2, hm2] at OX2
                  have T0 : Hid (st2 (2 * n) = 2) := Lib.hid (by rw [← hst2, up_ne _ _ (by omega), up_at])
                  have T1 : Hid (st2 (2 * n + 1) = 2) := Lib.hid (by rw [← hst2, up_at])
                  have T2 : Hid (∀ s, s ≠ 2 * n → s ≠ 2 * n + 1 → st2 s = st' s) := Lib.hid fun s h5 h6 => by rw [← hst2, up_ne _ _ h6, up_ne _ _ h5]
                  have U0 : Hid (m2 (2 * n) = 0) := Lib.hid (by rw [← hm2, up_ne _ _ (by omega), up_at])
                  have U1 : Hid (m2 (2 * n + 1) = 0) := Lib.hid (by rw [← hm2, up_at])
                  have U2 : Hid (∀ s, s ≠ 2 * n → s ≠ 2 * n + 1 → m2 s = m' s) := Lib.hid fun s h5 h6 => by rw [← hm2, up_ne _ _ h6, up_ne _ _ h5]
                  clear hst2 hm2
                  go_wp2_with fail
                  go_loopw [22] (fun jv wr => ∃ (j : Nat) (m3 : Nat → Nat) (x3 : Nat → Value), jv = .int .i64 j ∧ j ≤ 20 ∧ m3 (2 * n) = j ∧ m3 (2 * n + 1) = j ∧ (∀ s, s ≠ 2 * n → s ≠ 2 * n + 1 → m3 s = m' s) ∧ OX W8 N2 R Q ND RL st2 m3 v x3 wr) (fun jv _ => 20 - (intOf jv).toNat)
                  case atStart => exact ⟨0, m2, _, rfl, by omega, U0.out, U1.out, U2.out, OX2.out⟩
                  case round =>
                    clear OX2 U0 U1 U2
                    obtain ⟨j, m3, x3, rfl, hj, hj0, hj1, hjs, hox⟩ := hrel
                    have J0 := Lib.hid hj0
                    have J1 := Lib.hid hj1
                    have JS := Lib.hid hjs
                    have HOX := Lib.hid hox
                    have hj00 : (0 : Int) ≤ j := by omega
                    clear hj0 hj1 hjs hox
                    by_cases hlt : j < 20
                    case pos =>
                      have hltI : (j : Int) < 20 := by omega
                      obtain ⟨l0, l0s, l0n⟩ := HOX.out.long0 h1 T0.out
                      rw [J0.out] at l0
                      obtain ⟨xa, xc, ex⟩ := l0.sl
                      obtain ⟨k1, hk1⟩ : ∃ k1, (List.replicate ND.length (n1 n) ++ List.replicate j (n2 n)).length = k1 := ⟨_, rfl⟩
                      have hk1b : k1 ≤ 100000 := by rw [← hk1, List.length_append, List.length_replicate, List.length_replicate]; have := HND.out; omega
                      rw [hk1] at ex
                      have z0 : wr.cell? ⟨Q, n, none⟩ = some (.slice xa k1 xc) := by rw [← ex]; exact HOX.out.arx.1.cell' (tri x3 h1)
                      have kal : Kept (fun _ => False) wr (wr.alloc (.cells #[.int .i64 0, .int .i64 0, .int .i64 0, .int .i64 0, .int .i32 0, .int .i64 (20 + n)] 59)) := (Kept.refl _ _).alloc _
                      have OXa := Lib.hid (HOX.out.still kal)
                      have LIT : Hid (SlAt nodeE (wr.alloc (.cells #[.int .i64 0, .int .i64 0, .int .i64 0, .int .i64 0, .int .i32 0, .int .i64 (20 + n)] 59)) (.slice (some ⟨wr.heap.size, 0, none⟩) 1 1) [n2 n]) := Lib.hid (SlAt.lit [n2 n] _ rfl (by unfold maxLen; simp))
                      have l1 := l0.keep kal (fun _ _ h => h)
                      rw [ex] at l1 l0n
                      have AP := Lib.hid l1
                      have XN := Lib.hid l0n
                      have EX := Lib.hid ex
                      have K1B : Hid ((List.replicate ND.length (n1 n) ++ List.replicate j (n2 n)).length ≤ 100000) := Lib.hid (by omega)
                      clear l0 l0s l0n l1 ex kal hk1
                      go_upto_region 48 with (at_builtin; refine wpList_app nodeE rfl (.tmp 171) (.tmp 175) 42 rfl 59 _ 48 Try.underlying42 info_node rfl (by decide) rfl rfl AP.out LIT.out (by have := K1B.out; omega) ?_; intro X1 w1 ha hg; have y0 : w1.cell? ⟨Q, n, none⟩ = some (x3 (2 * n)) := (OXa.out.turned XN.out hg.kept).1.cell' (tri x3 h1); have f0 := (OXa.out.turned XN.out hg.kept).1.frozen n; have OX1 := Lib.hid (OXa.out.app0 h1 T0.out J0.out ha (by rw [EX.out]; exact hg)); obtain ⟨xa1, xc1, e1⟩ := ha.sl; obtain ⟨k2, hk2⟩ : ∃ k2, ((List.replicate ND.length (n1 n) ++ List.replicate j (n2 n)) ++ [n2 n]).length = k2 := ⟨_, rfl⟩; rw [hk2] at e1; subst e1; clear ha hg hk2)
                      obtain ⟨w3, hw3⟩ : ∃ w3, w1.setCell ⟨Q, n, none⟩ (.slice xa1 k2 xc1) = w3 := ⟨_, rfl⟩
                      rw [hw3] at OX1 ⊢
                      clear z0 y0 f0 hw3 OXa LIT AP XN EX HOX
                      obtain ⟨l0, l0s, l0n⟩ := OX1.out.long1 h1 T1.out
                      rw [up_ne m3 (j + 1) (show 2 * n + 1 ≠ 2 * n by omega), J1.out] at l0
                      obtain ⟨ya, yc, ey⟩ := l0.sl
                      obtain ⟨k3, hk3⟩ : ∃ k3, (List.replicate RL.length (r1 n) ++ List.replicate j (r2 n)).length = k3 := ⟨_, rfl⟩
                      have hk3b : k3 ≤ 100000 := by rw [← hk3, List.length_append, List.length_replicate, List.length_replicate]; have := HND.out; omega
                      rw [hk3] at ey
                      have z0 : w3.cell? ⟨Q + 1, n, none⟩ = some (.slice ya k3 yc) := by rw [← ey]; exact OX1.out.arx.2.cell' (tri1 _ h1)
                      have kal : Kept (fun _ => False) w3 (w3.alloc (.cells #[.int .i64 0, .int .i64 0, .int .i64 (20 + n)] 61)) := (Kept.refl _ _).alloc _
                      have OXa := Lib.hid (OX1.out.still kal)
                      have LIT : Hid (SlAt runE (w3.alloc (.cells #[.int .i64 0, .int .i64 0, .int .i64 (20 + n)] 61)) (.slice (some ⟨w3.heap.size, 0, none⟩) 1 1) [r2 n]) := Lib.hid (SlAt.lit [r2 n] _ rfl (by unfold maxLen; simp))
                      have l1 := l0.keep kal (fun _ _ h => h)
                      rw [ey] at l1 l0n
                      have AP := Lib.hid l1
                      have XN := Lib.hid l0n
                      have EX := Lib.hid ey
                      have K1B : Hid ((List.replicate RL.length (r1 n) ++ List.replicate j (r2 n)).length ≤ 100000) := Lib.hid (by omega)
                      have J1' : Hid (up m3 (2 * n) (j + 1) (2 * n + 1) = j) := Lib.hid (by rw [up_ne _ _ (by omega)]; exact J1.out)
                      clear l0 l0s l0n l1 ey kal hk3
                      go_wp2_with (at_builtin; refine wpList_app runE rfl (.tmp 181) (.tmp 185) 28 rfl 61 _ 24 Try.underlying28 info_run rfl (by decide) rfl rfl AP.out LIT.out (by have := K1B.out; omega) ?_; intro X2 w4 ha hg; have y0 : w4.cell? ⟨Q + 1, n, none⟩ = some (up x3 (2 * n) (.slice xa1 k2 xc1) (2 * n + 1)) := (OXa.out.turned XN.out hg.kept).2.cell' (tri1 _ h1); have f0 := (OXa.out.turned XN.out hg.kept).2.frozen n; have OX2 := Lib.hid (OXa.out.app1 h1 T1.out J1'.out ha (by rw [EX.out]; exact hg)); obtain ⟨ya1, yc1, e1⟩ := ha.sl; obtain ⟨k4, hk4⟩ : ∃ k4, ((List.replicate RL.length (r1 n) ++ List.replicate j (r2 n)) ++ [r2 n]).length = k4 := ⟨_, rfl⟩; rw [hk4] at e1; subst e1; clear ha hg hk4)
                      go_roundw
                      case rel => exact ⟨j + 1, _, _, by go_num, by omega, by rw [up_ne _ _ (by omega), up_at], up_at _ _ _, fun s h5 h6 => by rw [up_ne _ _ h6, up_ne _ _ h5]; exact JS.out s h5 h6, OX2.out⟩
                      case measure => simp [intOf] <;> omega
                    case neg =>
                      have hnl : ¬ (j : Int) < 20 := by omega
                      obtain rfl : j = 20 := by omega
                      go_wp2_with fail
                      go_roundw
                      case rel =>
                        refine ⟨n + 1, st2, m3, x3, by go_num, by omega, fun s hs => ?_, fun s hs => ?_, HOX.out⟩
                        · by_cases e0 : s = 2 * n
                          · subst e0; rw [if_pos (by omega)]; exact T0.out
                          · by_cases e1 : s = 2 * n + 1
                            · subst e1; rw [if_pos (by omega)]; exact T1.out
                            · rw [T2.out s e0 e1, HST.out s hs]
                              by_cases h9 : s / 2 < n
                              · rw [if_pos h9, if_pos (by omega)]
                              · rw [if_neg h9, if_neg (by omega)]
                        · by_cases e0 : s = 2 * n
                          · subst e0; rw [if_pos (by omega)]; exact J0.out
                          · by_cases e1 : s = 2 * n + 1
                            · subst e1; rw [if_pos (by omega)]; exact J1.out
                            · rw [JS.out s e0 e1, HM.out s hs]
                              by_cases h9 : s / 2 < n
                              · rw [if_pos h9, if_pos (show s / 2 < n + 1 by omega)]
                              · rw [if_neg h9, if_neg (show ¬ s / 2 < n + 1 by omega)]
                      case measure => simp [intOf] <;> omega
                case neg =>
                  have hnl : ¬ (n : Int) < 3 := by omega
                  obtain rfl : n = 3 := by omega
                  have ST2 : Hid (∀ s, s < 6 → st' s = 2) := Lib.hid fun s hs => by rw [HST.out s hs, if_pos (by omega)]
                  have M20 : Hid (∀ s, s < 6 → m' s = 20) := Lib.hid fun s hs => by rw [HM.out s hs, if_pos (by omega)]
                  clear HST HM
                  go_wp2_with fail
                  obtain ⟨wo, hwo⟩ : ∃ wo : World, wo = wr := ⟨_, rfl⟩
                  rw [← hwo] at HOX ⊢
                  clear hwo
                  go_loopw [23] (fun iv wr => ∃ n : Nat, iv = .int .i64 n ∧ n ≤ 3 ∧ wr = wo) (fun iv _ => 3 - (intOf iv).toNat)
                  case atStart => exact ⟨0, rfl, by omega, rfl⟩
                  case round =>
                    obtain ⟨n, rfl, hn, hw⟩ := hrel
                    subst hw
                    obtain ⟨wo, rfl⟩ : ∃ wo : World, wo = wr := ⟨_, rfl⟩
                    have hn0 : (0 : Int) ≤ n := by omega
                    by_cases h1 : n < 3
                    case pos =>
                      have hn3 : (n : Int) < 3 := by omega
                      obtain ⟨d, e, va, wa, vc, wc, gx, ox, cx, gy, oy, cy, hd, he, x0, x1, x2, x3, p1, p2, p3, p4⟩ := HOX.out.six h1 (ST2.out _ (by omega)) (ST2.out _ (by omega)) (M20.out _ (by omega)) (M20.out _ (by omega))
                      have hdb : (d : Int) ≤ 100000 := by have := HND.out; omega
                      have heb : (e : Int) ≤ 100000 := by have := HND.out; omega
                      have P1 := Lib.hid p1
                      have P2 := Lib.hid p2
                      have P3 := Lib.hid p3
                      have P4 := Lib.hid p4
                      clear p1 p2 p3 p4 hd he
                      go_wp2_with fail
                      go_loopw [24] (fun iv wr => ∃ k : Nat, iv = .int .i64 k ∧ k ≤ d ∧ wr = wo) (fun iv _ => d - (intOf iv).toNat)
                      case atStart => exact ⟨0, rfl, Nat.zero_le _, rfl⟩
                      case round =>
                        obtain ⟨k, rfl, hk, hw⟩ := hrel
                        subst hw
                        obtain ⟨wo, rfl⟩ : ∃ wo : World, wo = wr := ⟨_, rfl⟩
                        have hk0 : (0 : Int) ≤ k := by omega
                        by_cases hlt : k < d
                        case pos =>
                          have hltI : (k : Int) < d := by omega
                          by_cases hkd : k < ND.length
                          · have hkI : (k : Int) < ND.length := by omega
                            have hkJ : ¬ (ND.length : Int) ≤ k := by omega
                            obtain ⟨g', o, rfl, c0, c1⟩ := P1.out k hkd
                            go_wp2_with fail
                            go_roundw
                            case rel => exact ⟨k + 1, by go_num, by omega, trivial⟩
                            case measure => simp [intOf] <;> omega
                          · have hkI : ¬ (k : Int) < ND.length := by omega
                            have hkJ : (ND.length : Int) ≤ k := by omega
                            have c1 := P2.out k (by omega) hlt
                            go_wp2_with fail
                            go_roundw
                            case rel => exact ⟨k + 1, by go_num, by omega, trivial⟩
                            case measure => simp [intOf] <;> omega
                        case neg =>
                          have hnl : ¬ (k : Int) < d := by omega
                          go_wp2_with fail
                          go_loopw [25] (fun iv wr => ∃ k : Nat, iv = .int .i64 k ∧ k ≤ e ∧ wr = wo) (fun iv _ => e - (intOf iv).toNat)
                          case atStart => exact ⟨0, rfl, Nat.zero_le _, rfl⟩
                          case round =>
                            obtain ⟨k, rfl, hk, hw⟩ := hrel
                            subst hw
                            obtain ⟨wo, rfl⟩ : ∃ wo : World, wo = wr := ⟨_, rfl⟩
                            have hk0 : (0 : Int) ≤ k := by omega
                            by_cases hlt : k < e
                            case pos =>
                              have hltI : (k : Int) < e := by omega
                              by_cases hkd : k < RL.length
                              · have hkI : (k : Int) < RL.length := by omega
                                have hkJ : ¬ (RL.length : Int) ≤ k := by omega
                                obtain ⟨g', o, rfl, c0, c1⟩ := P3.out k hkd
                                go_wp2_with fail
                                go_roundw
                                case rel => exact ⟨k + 1, by go_num, by omega, trivial⟩
                                case measure => simp [intOf] <;> omega
                              · have hkI : ¬ (k : Int) < RL.length := by omega
                                have hkJ : (RL.length : Int) ≤ k := by omega
                                have c1 := P4.out k (by omega) hlt
                                go_wp2_with fail
                                go_roundw
                                case rel => exact ⟨k + 1, by go_num, by omega, trivial⟩
                                case measure => simp [intOf] <;> omega
                            case neg =>
                              have hnl : ¬ (k : Int) < e := by omega
                              go_wp2_with fail
                              go_roundw
                              case rel => exact ⟨n + 1, by go_num, by omega, trivial⟩
                              case measure => simp [intOf] <;> omega
                    case neg =>
                      have hnl : ¬ (n : Int) < 3 := by omega
                      have KW := Lib.hid HOX.out.os.kept
                      clear HOX
                      go_upto_region 63 with (first
                        | (go_at_call 18; refine (LEN.out _ (KZ.out _ KW.out)).mono ?_; rintro e w5 ⟨rfl, hk⟩; have K5 := Lib.hid (KW.out.trans hk fun _ _ h => h); clear hk)
                        | (go_at_call 11; refine (SPC.out _ (KZ.out _ K5.out)).mono ?_; rintro e w6 ⟨a6, c6, rfl, happ, _, hk⟩; have K6 := Lib.hid (K5.out.trans hk fun _ _ h => h); have S6 := Lib.hid happ.slAt; clear happ hk))
                      have TX2 : Hid (∀ W, Kept (fun _ => False) W8 W → Calls Try.prog 17 #[.pointer (some ⟨g, 0, none⟩)] W fun e w' => e = .returned (.string tx) ∧ Kept (fun _ => False) W w') := Lib.hid fun W hW => by
                        have h9 := (KZ.out W hW).2.text (by have := HND.out; omega)
                        refine h9.mono fun e w' ⟨he, hk⟩ => ⟨?_, hk⟩
                        rw [he, ← HTX.out]
                        unfold textB runeText
                        rw [List.flatMap_map]
                      go_wp2_with (first
                        | (go_at_call 17; refine (TX2.out _ K6.out).mono ?_; rintro e w7 ⟨rfl, hk⟩; have K7 := Lib.hid (K6.out.trans hk fun _ _ h => h); have S7 := Lib.hid (S6.out.kept hk); clear hk)
                        | (go_at_call 20; refine (NOD.out _ (KZ.out _ K7.out)).mono ?_; rintro e w8 ⟨a8, c8, rfl, happ, _, hk⟩; have K8 := Lib.hid (K7.out.trans hk fun _ _ h => h); have S8 := Lib.hid (S7.out.kept hk); have N8 := Lib.hid happ.slAt; clear happ hk)
                        | (go_at_call 24; refine (EQN.out _ _ _ K8.out N8.out).mono ?_; rintro e w9 ⟨rfl, hk⟩; have K9 := Lib.hid (K8.out.trans hk fun _ _ h => h); have S9 := Lib.hid (S8.out.kept hk); clear hk)
                        | (go_at_call 25; refine (EQR.out _ _ _ K9.out S9.out).mono ?_; rintro e w10 ⟨rfl, hk⟩; have K10 := Lib.hid (K9.out.trans hk fun _ _ h => h); clear hk)
                        | (go_at_call 9; refine (KN.out _).mono ?_; rintro e w11 ⟨rfl, hk⟩; have K11 := Lib.hid hk; clear hk))
                      go_ret
                      exact ⟨rfl, (K1.out.trans (F8.out.1.trans K10.out fun _ _ h => h) fun _ _ h => h).trans K11.out fun _ _ h => h⟩
end Go.Proofs.Ytlafodnaifghcaa.Tr
