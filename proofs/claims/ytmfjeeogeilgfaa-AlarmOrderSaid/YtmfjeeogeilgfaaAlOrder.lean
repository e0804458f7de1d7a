/- hearsaylaw15.AlarmOrder returns true at every two ints, every script and every tick, and what there was reads as before. No condition. -/
import Derived.Test.YtmfjeeogeilgfaaAlTake
import Derived.Test.YtmfjeeogeilgfaaRows
import Derived.WalkKit
import Derived.ProofKit
import Derived.OpenShut
import Derived.ShutString
import Derived.ChangeOld
import Derived.Below
namespace Go.Proofs.Ytmfjeeogeilgfaa
open Go.RowKit Go.Proofs.Ytmfjeeogeilgfaa.Al
namespace alarmOrder
set_option maxRecDepth 100000 in
set_option maxHeartbeats 6000000 in
theorem walk_long {w : World} (l m : Int) (v : Value) (now : Int) (L : List S3) (hL : StepsAt w v L) (h : 400 < L.length) : Calls Try.prog 8 #[.int .i64 l, .int .i64 m, v, .int .i64 now] w fun e w' => e = .returned (.bool true) ∧ Below w.heap.size w w' := by
  obtain ⟨a, c, rfl⟩ := hL.sl
  go_enter Try.func8, Try.ntmps8
  go_wp2_with fail
  refine (known_any _).mono ?_
  rintro e w9 ⟨rfl, hk9⟩
  go_wp2_with fail
  go_ret
  exact ⟨rfl, hk9.below (Nat.le_refl _) (fun _ _ h => h)⟩
set_option maxRecDepth 100000 in
set_option maxHeartbeats 6000000 in
theorem walk_bad {w : World} (l m : Int) (v : Value) (now : Int) (L : List S3) (hL : StepsAt w v L) (h4 : L.length ≤ 400) (h : l < 1 ∨ m < l ∨ 4096 < m) : Calls Try.prog 8 #[.int .i64 l, .int .i64 m, v, .int .i64 now] w fun e w' => e = .returned (.bool true) ∧ Below w.heap.size w w' := by
  obtain ⟨a, c, rfl⟩ := hL.sl
  go_enter Try.func8, Try.ntmps8
  go_wp2_with fail
  refine (new_bad h _).mono ?_
  rintro e w1 ⟨rfl, rfl⟩
  go_wp2_with fail
  refine (new_bad h _).mono ?_
  rintro e w1 ⟨rfl, rfl⟩
  go_wp2_with fail
  refine (known_any _).mono ?_
  rintro e w9 ⟨rfl, hk9⟩
  go_wp2_with fail
  go_ret
  exact ⟨rfl, hk9.below (Nat.le_refl _) (fun _ _ h => h)⟩
set_option maxRecDepth 100000 in
set_option maxHeartbeats 6000000 in
theorem walk_ok {w : World} (l m : Int) (v : Value) (now : Int) (L : List S3) (hL : StepsAt w v L) (h4 : L.length ≤ 400) (h1 : 1 ≤ l) (h2 : l ≤ m) (h3 : m ≤ 4096) : Calls Try.prog 8 #[.int .i64 l, .int .i64 m, v, .int .i64 now] w fun e w' => e = .returned (.bool true) ∧ Below w.heap.size w w' := by
  obtain ⟨a, c, rfl⟩ := hL.sl
  go_enter Try.func8, Try.ntmps8
  go_wp2_with fail
  refine (new_ok h1 h2 h3 _).mono ?_
  rintro e w1 ⟨rfl, hA, hk1⟩
  go_wp2_with fail
  refine (new_ok h1 h2 h3 _).mono ?_
  rintro e w2 ⟨rfl, hB, hk2⟩
  have hT := Lib.hid (TwinIn.new hA hk1 hB hk2)
  clear hA hB
  go_wp2_with fail
  go_loopw [13] (fun i wr => ∃ n : Nat, i = .int .i64 n ∧ n ≤ L.length ∧ TwinIn w w.heap.size w1.heap.size l m n wr) (fun i _ => L.length - (intOf i).toNat)
  case atStart => exact ⟨0, rfl, Nat.zero_le _, hT.out⟩
  case round =>
    obtain ⟨n, rfl, hn, ts, F, G, hA, hB, hd, hlen, hold, hk⟩ := hrel
    have D := Lib.hid hd
    have O := Lib.hid hold
    clear hd hold
    have hn0 : (0 : Int) ≤ n := by omega
    by_cases hlt : n < L.length
    case pos =>
      obtain ⟨⟨kind, key, nw⟩, hs⟩ := get_of_lt hlt
      rcases hL.keep hk (fun _ _ h => h) with ⟨_, rfl⟩ | ⟨x, c', hv, hm, hc⟩
      · simp at hlt
      cases hv
      obtain ⟨c0, c1, c2⟩ := hc n _ hs
      have hnl : (n : Int) < L.length := by omega
      have hk1 : Kept (fun _ => False) wr (wr.alloc (.cells #[.int .i64 kind, .int .i64 key, .int .i64 nw] 35)) := (Kept.refl _ _).alloc _
      have nF : ¬ F wr.heap.size := fun e => Nat.lt_irrefl _ (hA.lt _ e)
      have nG : ¬ G wr.heap.size := fun e => Nat.lt_irrefl _ (hB.lt _ e)
      have hA0 := hA.keep hk1 (fun _ _ h => h)
      have hB0 := hB.keep hk1 (fun _ _ h => h)
      have hb := Blk.new wr 35 #[.int .i64 kind, .int .i64 key, .int .i64 nw]
      clear hc hs
      by_cases e1 : kind = 1
      · subst e1
        go_wp2_with fail
        refine (aset hA0 key nw (by omega)).mono ?_
        rintro e w3 ⟨rfl, F1, hA1, hF1, hk3⟩
        have hb3 := hk3.blk nF hb
        have p1 : w3.cell? ⟨wr.heap.size, 1, none⟩ = some (.int .i64 key) := hb3.cell' rfl
        have p2 : w3.cell? ⟨wr.heap.size, 2, none⟩ = some (.int .i64 nw) := hb3.cell' rfl
        go_wp2_with fail
        refine (aset (hB0.keep hk3 (fun b hb hf => D.out b hf hb)) key nw (by omega)).mono ?_
        rintro e w4 ⟨rfl, G1, hB1, hG1, hk4⟩
        go_wp2_with fail
        go_roundw
        case rel => exact ⟨n + 1, by go_num, by omega, TwinIn.mk (hk.trans hk1 (fun _ _ h => h)) O.out D.out hB0 hA1 hF1 hk3 (List.Perm.refl _) hB1 hG1 hk4 (by have := setT_len l ts key nw; omega)⟩
        case measure => simp [intOf]; omega
      by_cases e2 : kind = 2
      · subst e2
        go_wp2_with fail
        refine (areset hA0 key nw (by omega)).mono ?_
        rintro e w3 ⟨rfl, F1, hA1, hF1, hk3⟩
        have hb3 := hk3.blk nF hb
        have p1 : w3.cell? ⟨wr.heap.size, 1, none⟩ = some (.int .i64 key) := hb3.cell' rfl
        have p2 : w3.cell? ⟨wr.heap.size, 2, none⟩ = some (.int .i64 nw) := hb3.cell' rfl
        go_wp2_with fail
        refine (areset (hB0.keep hk3 (fun b hb hf => D.out b hf hb)) key nw (by omega)).mono ?_
        rintro e w4 ⟨rfl, G1, hB1, hG1, hk4⟩
        go_wp2_with fail
        go_roundw
        case rel => exact ⟨n + 1, by go_num, by omega, TwinIn.mk (hk.trans hk1 (fun _ _ h => h)) O.out D.out hB0 hA1 hF1 hk3 (List.Perm.refl _) hB1 hG1 hk4 (by have := resT_len l ts key nw; omega)⟩
        case measure => simp [intOf]; omega
      by_cases e3 : kind = 3
      · subst e3
        go_wp2_with fail
        refine (aoff hA0 key (by omega)).mono ?_
        rintro e w3 ⟨rfl, F1, hA1, hF1, hk3⟩
        have hb3 := hk3.blk nF hb
        have p1 : w3.cell? ⟨wr.heap.size, 1, none⟩ = some (.int .i64 key) := hb3.cell' rfl
        go_wp2_with fail
        refine (aoff (hB0.keep hk3 (fun b hb hf => D.out b hf hb)) key (by omega)).mono ?_
        rintro e w4 ⟨rfl, G1, hB1, hG1, hk4⟩
        go_wp2_with fail
        go_roundw
        case rel => exact ⟨n + 1, by go_num, by omega, TwinIn.mk (hk.trans hk1 (fun _ _ h => h)) O.out D.out hB0 hA1 hF1 hk3 (List.Perm.refl _) hB1 hG1 hk4 (by have := List.length_filter_le (fun t : T => t.key != key) ts; omega)⟩
        case measure => simp [intOf]; omega
      by_cases e4 : kind = 4
      · subst e4
        have hk1d := hk1.drew
        have hA0d := hA.keep hk1d (fun _ _ h => h)
        have hB0d := hB.keep hk1d (fun _ _ h => h)
        have hbd := hb.drewN 1
        have N := Lib.hid hA.good.keys
        have p1 : (wr.alloc (.cells #[.int .i64 4, .int .i64 key, .int .i64 nw] 35)).drew.cell? ⟨wr.heap.size, 2, none⟩ = some (.int .i64 nw) := hbd.cell' rfl
        go_wp2_with fail
        go_region_held3 (fun w' => w'.cell? ⟨wr.heap.size, 2, none⟩ = some (.int .i64 nw)) (first | exact s1 | exact r1 | exact p1)
          (first
            | (go_simp; go_at_call 19; refine (adue hB1 nw (by omega)).mono ?_; rintro e w4 ⟨v2, ks2, us2, rfl, hd2, ha2, G1, hB2, hG1, hk4⟩; obtain ⟨rfl, hp2⟩ := D1.out.unique N.out hd2; have P2 := Lib.hid hp2; have A2 := Lib.hid ha2; clear hd2 ha2 hp2; have hb4 := hk4.blk nG hb3; have s1 : w4.cell? ⟨wr.heap.size, 2, none⟩ = some (.int .i64 nw) := hb4.cell' rfl)
            | (go_simp; go_at_call 19; refine (adue hA0d nw (by omega)).mono ?_; rintro e w3 ⟨v1, ks1, us1, rfl, hd1, ha1, F1, hA1, hF1, hk3⟩; have D1 := Lib.hid hd1; have A1 := Lib.hid ha1; clear hd1 ha1; have hB1 := hB0d.keep hk3 (fun b hb hf => D.out b hf hb); have hb3 := hk3.blk nF hbd; have r1 : w3.cell? ⟨wr.heap.size, 2, none⟩ = some (.int .i64 nw) := hb3.cell' rfl)
            | (go_simp; go_at_call 21; refine (ints_same (A1.out.ints.keep hk4 (A1.out.apart hB0d.lt)) A2.out.ints A2.out.ints.len).mono ?_; rintro e w5 ⟨rfl, q3, rfl⟩))
        go_wp2_with fail
        go_roundw
        case rel => exact ⟨n + 1, by go_num, by omega, (TwinIn.mk (hk.trans hk1d (fun _ _ h => h)) O.out D.out hB0d hA1 hF1 hk3 P2.out.symm hB2 hG1 hk4 (by have := D1.out.len; omega)).drewN q3⟩
        case measure => simp [intOf]; omega
      have b1 : (kind == 1) = false := by simp [e1]
      have b2 : (kind == 2) = false := by simp [e2]
      have b3 : (kind == 3) = false := by simp [e3]
      have b4 : (kind == 4) = false := by simp [e4]
      go_wp2_with fail
      go_roundw
      case rel => exact ⟨n + 1, by go_num, by omega, ts, F, G, hA0, hB0, D.out, by omega, O.out, hk.trans hk1 (fun _ _ h => h)⟩
      case measure => simp [intOf]; omega
    case neg =>
      have hge : L.length ≤ n := by omega
      have HL := Lib.hid hL
      clear hL
      by_cases ht : 0 ≤ now ∧ now ≤ 2147483647
      case neg =>
        have T := Lib.hid (show tickB now = false by simp [tickB]; omega)
        rcases (show now < 0 ∨ (0 ≤ now ∧ 2147483647 < now) by omega) with hneg | ⟨hneg, hbigt⟩
        all_goals
          go_wp2_with fail
          refine (adue hA now (by omega)).mono ?_
          rintro e w3 ⟨v1, ks1, us1, rfl, hd1, ha1, F1, hA1, hF1, hk3⟩
          unfold DueIs at hd1
          rw [if_neg (by rw [T.out]; decide)] at hd1
          obtain ⟨rfl, _⟩ := hd1
          obtain ⟨a1, c1, hv1⟩ := ha1.1
          have hv1 : v1 = .slice a1 0 c1 := hv1
          subst hv1
          clear ha1
          go_wp2_with fail
          refine (known_any _).mono ?_
          rintro e w9 ⟨rfl, hk9⟩
          go_wp2_with fail
          go_ret
          exact ⟨rfl, ((hk.trans hk3 (fun b hb h => O.out b hb (.inl h))).trans hk9 (fun _ _ h => h)).below (Nat.le_refl _) (fun _ _ h => h)⟩
      case pos =>
        obtain ⟨ht0, ht1⟩ := ht
        have T := Lib.hid (show tickB now = true by simp [tickB]; omega)
        obtain ⟨i0, hi, hz0, hz1, hz2⟩ := info_parts info_int
        have I0 := Lib.hid hi
        have I1 := Lib.hid hz0
        have I2 := Lib.hid hz1
        have I3 := Lib.hid hz2
        clear hi hz0 hz1 hz2
        go_wp2_with fail
        refine (alen hA).mono ?_
        rintro e w3 ⟨rfl, rfl⟩
        go_wp2_with fail
        go_loopw [16, 17] (fun wv kv wq => WantRel w w.heap.size w1.heap.size l m now ts F wv kv wq) (fun _ kv _ => ts.length + 1 - (intOf kv).toNat)
        case atStart => exact ⟨ts, G, [], none, 0, 0, rfl, rfl, World.ownsRow_nil _ _ _ _, hA, hB, D.out, by simp [Value.ownBlock], by omega, rfl, fun ks h => by simpa using h, O.out, hk⟩
        case round =>
          obtain ⟨r, G2, ws, a2, c2, k, rfl, rfl, hown, hA2, hB2, hd2, hs2, hlen2, rfl, hD2, hold2, hk2'⟩ := hrel
          have hb2 : ∀ b, (Value.slice a2 ws.length c2).ownBlock = some b → w.heap.size ≤ b := fun b e => (hown.lt b e).1
          have D2 := Lib.hid hd2
          have S2 := Lib.hid hs2
          have DD := Lib.hid hD2
          have OL := Lib.hid hold2
          have B2 := Lib.hid hb2
          clear hd2 hs2 hD2 hold2 hb2
          have hkn : (ws.length : Int) ≤ ts.length := by omega
          have hts : ts.length ≤ 400 := by omega
          have hrs : r.length ≤ 400 := by omega
          go_wp2_with fail
          refine (anext hB2).mono ?_
          rintro e w4 ⟨key, d, ok, q4, hnx, rfl, rfl⟩
          by_cases hgo : ok = true ∧ d ≤ now
          case pos =>
            obtain ⟨rfl, hdn⟩ := hgo
            rcases hnx with ⟨_, _, _, e⟩ | ⟨t, htm, hmin, rfl, rfl, _⟩
            · cases e
            have hrl : 0 < r.length := List.length_pos_of_mem htm
            have HT := Lib.hid htm
            have HM := Lib.hid hmin
            have hone0 : ∀ u ∈ [Value.int .i64 t.key], u.oneCell' = true := by simp [Value.oneCell']
            have hone := Lib.hid hone0
            clear htm hmin hone0
            have h63 : ws.length + 1 ≤ maxLen := by simp only [maxLen]; omega
            have hby : (ws.length + 1) * 8 ≤ 140737488355328 := by omega
            have hbase : w.heap.size ≤ (wr.drewN q4).heap.size + 1 := by have := (hk2'.drewN q4).size; omega
            have hown4 : (wr.drewN q4).ownsRow w.heap.size 3 1 (.slice a2 ws.length c2) ws.length (ws.map (Value.int .i64)) := hown
            go_wp2_with (at_builtin; (refine wpList_append_own_at _ rfl (.tmp 142) (.tmp 144) 52 rfl w.heap.size 3 i0 (.int .i64 0) 1 8 Try.underlying52 I0.out I1.out I2.out I3.out rfl (by decide) _ _ _ rfl (hown4.alloc _) ⟨wr.heap.size, 0, none⟩ 1 1 [.int .i64 t.key] rfl rfl (cell_one_new _ _ _) hone.out h63 hby (by simpa using hbase) ?_); (intro v' w5 hown5 hgrow hnil hat); (obtain ⟨g, c', hv, hg0, hg⟩ := hown5.form (by omega)); (subst hv); have hkw : Kept (fun b => (Value.slice a2 ws.length c2).ownBlock = some b) (wr.drewN q4) w5 := ((Kept.refl _ _).alloc _).grown hgrow (fun k e _ => e))
            have hB5 := (hB2.drewN q4).keep hkw (fun b hb e => S2.out b e (.inr hb))
            refine (aoff hB5 t.key (by omega)).mono ?_
            rintro e w6 ⟨rfl, G6, hB6, hG6, hk6⟩
            have hat' : (Value.slice (some ⟨g, 0, none⟩) (ws.length + 1) c').ownBlock = (Value.slice a2 ws.length c2).ownBlock ∨ (wr.drewN q4).heap.size ≤ g := by
              rcases hat with e | e
              · exact .inl e
              · right
                simp [Value.ownBlock] at e
                simp
                omega
            have AT := Lib.hid hat'
            clear hat hat'
            go_wp2_with fail
            go_roundw
            case rel =>
              have h := want_next (hk2'.drewN q4) (hA2.drewN q4) (hB2.drewN q4) D2.out S2.out B2.out hlen2 rfl DD.out OL.out HT.out HM.out hdn hown5 hkw AT.out hB6 hG6 hk6
              rwa [show (((ws.length + 1 : Nat) : Int)) = (ws.length : Int) + 1 from by simp] at h
            case measure => simp [intOf]; omega
          case neg =>
            have hor : ok = false ∨ now < d := by
              cases ok
              · exact .inl rfl
              · right
                simp at hgo
                exact hgo
            have TK := Lib.hid (DD.out [] (next_stop hnx hor))
            have hor2 : ok = false ∨ (ok = true ∧ now < d) := by
              cases ok
              · exact .inl rfl
              · simpa using hor
            have W2 := Lib.hid (show IntsAt wr (.slice a2 ws.length c2) ws from ⟨⟨_, _, rfl⟩, hown.1, hown.2.imp id fun ⟨g, cap, cur, h1, _, h3⟩ => ⟨g, cap, cur, h1, Nat.zero_le _, h3⟩⟩)
            clear hor hgo hnx hown
            rcases hor2 with rfl | ⟨rfl, hld⟩
            all_goals
              go_wp2_with fail
              refine (adue (hA2.drewN q4) now (by omega)).mono ?_
              rintro e w5 ⟨v1, ks1, us1, rfl, hd1, ha1, F1, hA1, hF1, hk5⟩
              have hgd := hA2.good
              obtain ⟨i1, i2, i3, i4⟩ := hd1.what hgd T.out
              have hTK := TK.out
              rw [List.append_nil] at hTK
              obtain rfl : ks1 = ws := i3.unique hgd.keys (List.Perm.refl _) hTK
              have hl1 := hd1.len
              have hW5 := (W2.out.keep ((Kept.refl (fun _ => False) _).drewN q4) (fun _ _ h => h)).keep hk5 (fun b e h => S2.out b e (.inl h))
              have F1O := Lib.hid (show ∀ b, b < w.heap.size → F1 b → False from fun b hb h => OL.out b hb (.inl (hF1 b (by have := (hk2'.drewN q4).size; omega) h)))
              have I4 := Lib.hid i4
              clear i1 i2 i3 hTK i4 hd1 hF1
              go_wp2_with fail
              refine (ints_same ha1.ints hW5 hW5.len).mono ?_
              rintro e w6 ⟨rfl, q6, rfl⟩
              go_wp2_with fail
              refine (alen (hA1.drewN q6)).mono ?_
              rintro e w7 ⟨he, rfl⟩
              rw [hl1] at he
              subst he
              go_wp2_with fail
              refine (adue (hA1.drewN q6) now (by omega)).mono ?_
              rintro e w7 ⟨v2, ks2, us2, rfl, hd2, ha2, F2, hA3, hF2, hk7⟩
              obtain ⟨rfl, hp2⟩ := hd2.none hA1.good T.out I4.out
              obtain ⟨a3, c3, hv3⟩ := ha2.1
              have hv3 : v2 = .slice a3 0 c3 := hv3
              subst hv3
              have hA3 := hA3.perm hp2
              clear ha2 hd2 hF2
              go_wp2_with fail
              refine (anext hA3).mono ?_
              rintro e w8 ⟨key3, d3, ok3, q8, hnx3, rfl, rfl⟩
              rcases hnx3 with ⟨e, rfl, rfl, rfl⟩ | ⟨t, htm, _, rfl, rfl, rfl⟩
              · have hz : ts.length = 0 := by rw [← hl1, e]; rfl
                have hz0 : ¬ (0 : Int) < ts.length := by omega
                go_wp2_with fail
                refine (known_any _).mono ?_
                rintro e w9 ⟨rfl, hk9⟩
                go_wp2_with fail
                go_ret
                exact ⟨rfl, (((((((hk2'.drewN q4).trans hk5 (fun b hb h => OL.out b hb (.inl h))).drewN q6).trans hk7 F1O.out).drewN q8)).trans hk9 (fun _ _ h => h)).below (Nat.le_refl _) (fun _ _ h => h)⟩
              · have hz : 0 < ts.length := by rw [← hl1]; exact List.length_pos_of_mem htm
                have hz0 : (0 : Int) < ts.length := by omega
                have hlate := I4.out t htm
                clear htm
                go_wp2_with fail
                refine (known_any _).mono ?_
                rintro e w9 ⟨rfl, hk9⟩
                go_wp2_with fail
                go_ret
                exact ⟨rfl, (((((((hk2'.drewN q4).trans hk5 (fun b hb h => OL.out b hb (.inl h))).drewN q6).trans hk7 F1O.out).drewN q8)).trans hk9 (fun _ _ h => h)).below (Nat.le_refl _) (fun _ _ h => h)⟩
theorem walk (l m : Int) (v : Value) (L : List S3) (now : Int) (_ : (Lit.int .i64 l).wf = true) (_ : (Lit.int .i64 m).wf = true) {w0 : World} (hL : StepsAt w0 v L) (_ : (Lit.int .i64 now).wf = true) (w : World) (e : w = w0) : Calls Try.prog 8 #[.int .i64 l, .int .i64 m, v, .int .i64 now] w fun e w' => e = .returned (.bool true) ∧ Below w.heap.size w w' := by
  subst e
  by_cases h4 : L.length ≤ 400
  · by_cases h : 1 ≤ l ∧ l ≤ m ∧ m ≤ 4096
    · exact walk_ok l m v now L hL h4 h.1 h.2.1 h.2.2
    · exact walk_bad l m v now L hL h4 (by omega)
  · exact walk_long l m v now L hL (by omega)
end alarmOrder

namespace alarmOrder
open Go.ChangeShapes Go.WideShapes Go.ChangeAt Go.RowKit
open Go.ChangeMaps (open_string shut_string)
theorem own : ownKnob Try.prog.godebug = none := by kernel_rfl
theorem laidOut : laidOutB Try.prog = true := by kernel_rfl
set_option maxRecDepth 100000 in
theorem lifted (os : Os) (started : os.Started) (H : Type) (enc : TypeId × Value → H) :
    ReturnsInHanded {} Try.checked os 8 .any (Rows.alarmOrderSpec.pre6 enc Try.prog Try.f8 Rows.alarmOrderRow.domain false) (Rows.alarmOrderSpec.post enc Try.prog Try.f8 false true false false) := by
  refine returnsInHanded_of_change (C := Try.checked) own started (by kernel_rfl) Try.func8
    (ChangeSpec.witness6 (enc := enc) (C := Try.checked) false ⟨#[], #[.int .i64 0, .int .i64 0, .slice none 0 0, .int .i64 0], []⟩ 8 (by kernel_rfl) (by kernel_rfl) (by kernel_rfl) (by kernel_rfl)) ?_
  intro W base args ds gs before hval0 hW hcnd _
  have hval : ∀ (j : Nat) t v, Try.f8.params[j]? = some t → args[j]? = some v → Value.okWide Try.prog W .any base t v := hval0
  have hW' := hW
  obtain ⟨p, q, hA0, hV, rfl, hfz, hnd⟩ := hW
  have hA : DataW.TrodAll enc Try.prog W 0 (fun _ => true) true Try.f8.params.toList args.toList ds p := hA0
  rw [Try.params8] at hA hval
  obtain ⟨v0, vs0, d0, ds0, p0, q0, hargs, rfl, rfl, h0, r0⟩ := trodAll_cons hA
  obtain ⟨v1, vs1, d1, ds1, p1, q1, rfl, rfl, rfl, h1, r1⟩ := trodAll_cons r0
  obtain ⟨v2, vs2, d2, ds2, p2, q2, rfl, rfl, rfl, h2, r2⟩ := trodAll_cons r1
  obtain ⟨v3, vs3, d3, ds3, p3, q3, rfl, rfl, rfl, h3, r3⟩ := trodAll_cons r2
  obtain ⟨rfl, rfl, rfl⟩ := trodAll_nil r3
  obtain rfl : args = #[v0, v1, v2, v3] := by cases args; simp_all
  obtain ⟨rfl, rfl⟩ := trodVars_none hV
  obtain ⟨a0, rfl, rfl, rfl, w0⟩ := open_int Try.underlying3 (hval 0 3 v0 rfl rfl) h0
  obtain ⟨a1, rfl, rfl, rfl, w1⟩ := open_int Try.underlying3 (hval 1 3 v1 rfl rfl) h1
  have k2 := h2
  have lt2 : ∀ x ∈ p2, x.block < W.heap.size := by obtain ⟨m, hm⟩ := k2; exact DataW.trod_lt m _ _ _ hm
  obtain ⟨z2, w2⟩ := open_steps (hval 2 32 v2 rfl rfl) h2
  obtain ⟨a3, rfl, rfl, rfl, w3⟩ := open_int Try.underlying3 (hval 3 3 v3 rfl rfl) h3
  clear hA0 hval0
  refine (walk a0 a1 v2 z2 a3 w0 w1 w2 w3 W rfl).mono fun e W' ⟨he, bel⟩ => ?_
  subst he
  exact ⟨_, rfl, _, _, _, [], _, [], hW', trodAll_mk1 (shut_bool Try.underlying4 _), (trodAll_cons_mk (shut_int Try.underlying3 w0) (trodAll_cons_mk (shut_int Try.underlying3 w1) (trodAll_cons_mk (Below.trod laidOut (by kernel_rfl) (of_decide_eq_true (by kernel_rfl)) k2 bel lt2) (trodAll_cons_mk (shut_int Try.underlying3 w3) trodAll_mk0)))), rfl, bel.frame _, fun h => by cases h⟩

theorem over : Rows.alarmOrderRow.holds Try.pinned (OpenSpec.ofChange Rows.alarmOrderSpec) :=
  OpenClaim.holds_of_wide 8 Try.f8 rfl rfl rfl rfl rfl rfl rfl ⟨rfl, rfl, rfl, rfl, rfl⟩ rfl rfl rfl rfl rfl (by kernel_rfl) Try.func8 (by kernel_rfl)
    (of_decide_eq_true (by kernel_rfl)) (by unfold Func.isWrapper; first | (rw [if_pos (by decide +kernel)]; kernel_rfl) | (rw [if_neg (by decide +kernel)]; exact ⟨rfl, rfl⟩))
    (fun os started H enc _ => lifted os started H enc)
theorem proved : Rows.AlarmOrderSaid := over
end alarmOrder

end Go.Proofs.Ytmfjeeogeilgfaa
