/- past.Nodes. What the law knows: known() is true. PastOrder, walked: the same operations in another order are told the same. The arguments of the laws of chapter 24 opened, and the library's table that their rows list. -/
import Derived.Test.YtjohljmpcblpjaaGreatDoorL38
import Derived.Test.YtjohljmpcblpjaaGreatDoorL39
import Derived.Test.YtjohljmpcblpjaaGreatDoorL22
import Derived.Test.YtjohljmpcblpjaaGreatDoorL13
import Derived.Test.YtjohljmpcblpjaaGreatDoorL6
import Derived.Test.YtjohljmpcblpjaaGreatDoorRows
import Derived.OpenShut
import Derived.Lib.LaidTab
namespace Go.Proofs.YtjohljmpcblpjaaGreatDoor.Pa
open Go.RowKit Go.Proofs.YtjohljmpcblpjaaGreatDoor.St Go.Proofs.YtjohljmpcblpjaaGreatDoor Go.Proofs.YtjohljmpcblpjaaGreatDoor.Tr
theorem doc_ok {w w' : World} {l : List Ent} {e : Ending} (h : DocPost w l e w') (hc : closedE l = 0) : ∃ g F, e = .returned (.tuple #[.pointer (some ⟨g, 0, none⟩), .int .i64 0]) ∧ TBox w' g (docP l) F ∧ (∀ b, F b → w.heap.size ≤ b) ∧ Kept (fun _ => False) w w' := by
  obtain ⟨h1, h2⟩ := h
  rcases h1 with ⟨h3, _⟩ | ⟨_, g, F, h4, h5, h6⟩
  · exact absurd hc h3
  · exact ⟨g, F, h4, h5, h6, h2⟩
def NodesPost (w : World) (l : List Ent) (B : List Dot) (e : Ending) (w' : World) : Prop := (∃ v, e = .returned (.tuple #[v, .int .i64 (nodesC l B)]) ∧ SlAt nodeE w' v (nodesS l B)) ∧ Kept (fun _ => False) w w'
theorem nodesPost_no {w w' : World} {l : List Ent} {B : List Dot} {c : Int} (hc : nodesC l B = c) (h0 : c ≠ 0) (hk : Kept (fun _ => False) w w') : NodesPost w l B (.returned (.tuple #[.slice none 0 0, .int .i64 c])) w' := by
  refine ⟨⟨_, by rw [hc], ?_⟩, hk⟩
  unfold nodesS
  rw [if_neg (by rw [hc]; exact h0)]
  exact .inl ⟨rfl, rfl⟩
set_option maxRecDepth 100000 in
set_option maxHeartbeats 1000000 in
theorem nodes_past {w : World} {lv bv : Value} {l : List Ent} {B : List Dot} (hl : SlAt entE w lv l) (hin : ∀ e ∈ l, OpIn w e) (hlen : l.length ≤ 1000000) (hdl : ∀ e ∈ l, e.D.length ≤ 1000000 ∧ e.G.length ≤ 1000000) (htx : textN l ≤ 900000)
    (hB : SlAt dotE w bv B) (hBI : ∀ d ∈ B, I64 d.seq) (hBl : B.length ≤ 1000000000) : Calls Tryz.prog 25 #[lv, bv] w (NodesPost w l B) := by
  have SET := Lib.hid (set_any hl hin hlen hdl)
  have HL := Lib.hid hl
  have HIN := Lib.hid hin
  have HDL := Lib.hid hdl
  have HB := Lib.hid hB
  have HBI := Lib.hid hBI
  clear hl hin hdl hB hBI
  by_cases hc : closedE l = 0
  case neg =>
    have SET2 : Hid (Calls Tryz.prog 42 #[lv] w fun e w' => e = .returned (.tuple #[.map none, .int .i64 (closedE l)]) ∧ Kept (fun _ => False) w w') := Lib.hid (SET.out.mono fun e w' ⟨h1, h2⟩ => ⟨h1.elim (fun h => h.2) (fun h => absurd h.1 hc), h2⟩)
    have hn : nodesC l B = closedE l := by unfold nodesC; rw [if_pos hc]
    have HN := Lib.hid (And.intro hn hc)
    obtain ⟨c, hcc⟩ : ∃ c, closedE l = c := ⟨_, rfl⟩
    rw [hcc] at SET2 hc HN
    clear SET hn hcc
    go_enter Tryz.func25, Tryz.ntmps25
    go_wp2_with (go_at_call 42; refine SET2.out.mono ?_; rintro e w1 ⟨rfl, hk1⟩)
    go_ret2
    exact nodesPost_no HN.out.1 HN.out.2 hk1
  case pos =>
    have SET2 : Hid (Calls Tryz.prog 42 #[lv] w fun e w' => (∃ b, e = .returned (.tuple #[.map (some b), .int .i64 0]) ∧ OpsM w' b (kvsOf l)) ∧ Kept (fun _ => False) w w') := Lib.hid (SET.out.mono fun e w' ⟨h1, h2⟩ => ⟨h1.elim (fun h => absurd hc h.1) (fun h => by obtain ⟨_, b, h3, _, h5⟩ := h; exact ⟨b, h3, h5⟩), h2⟩)
    have HC := Lib.hid hc
    clear SET hc
    go_enter Tryz.func25, Tryz.ntmps25
    go_upto_region 4 with (go_at_call 42; refine SET2.out.mono ?_; rintro e w1 ⟨⟨mb, rfl, hom⟩, hk1⟩)
    have CK := Lib.hid (vcheck_any (HB.out.kept hk1) hBl)
    have HOM := Lib.hid hom
    have K1 := Lib.hid hk1
    clear hom hk1 SET2
    by_cases hv : chkV 0 B = 0
    case neg =>
      have HN := Lib.hid (And.intro (show nodesC l B = chkV 0 B by unfold nodesC; rw [if_neg (fun h => h HC.out), if_pos hv]) hv)
      obtain ⟨c, hcc⟩ : ∃ c, chkV 0 B = c := ⟨_, rfl⟩
      rw [hcc] at CK HN hv
      clear hcc
      go_wp2_with (go_at_call 47; refine CK.out.mono ?_; rintro e w2 ⟨rfl, hk2⟩)
      go_ret2
      exact nodesPost_no HN.out.1 HN.out.2 (K1.out.trans hk2 fun _ _ h => h)
    case pos =>
      have HV := Lib.hid hv
      rw [hv] at CK
      have hup : uptoS B l = uptoL B l := by unfold uptoS; rw [if_pos hv]
      have UP := Lib.hid (fun (W : World) (hk : Kept (fun _ => False) w W) => upto_past (HL.out.kept hk) (fun e he => Ent.At.kept (HIN.out e he).at_ hk) hlen HDL.out (HB.out.kept hk) hBl)
      rw [hup] at UP
      clear hv hup
      go_upto_region 8 with (first
        | (go_at_call 47; refine CK.out.mono ?_; rintro e w2 ⟨rfl, hk2⟩)
        | (go_at_call 15; refine (UP.out _ (K1.out.trans hk2 fun _ _ h => h)).mono ?_; rintro e w3 ⟨⟨u, low, rfl, hlow, hkey, hat⟩, hk3⟩))
      have K3 := Lib.hid ((K1.out.trans hk2 fun _ _ h => h).trans hk3 fun _ _ h => h)
      have K13 := Lib.hid (hk2.trans hk3 fun _ _ h => h)
      have hul : low.length ≤ 1000000 := by
        have h1 := len_same hkey
        have h2 : (uptoL B l).length ≤ l.length := List.length_filter_le _ _
        omega
      have hlin : ∀ e ∈ low, OpIn w3 e := fun e he => by
        obtain ⟨x, hx, hxk⟩ := mem_same hkey he
        exact opIn_same hxk.symm (HIN.out x (upto_mem hx)) (hat e he)
      have hldl : ∀ e ∈ low, e.D.length ≤ 1000000 ∧ e.G.length ≤ 1000000 := fun e he => by
        obtain ⟨x, hx, hxk⟩ := mem_same hkey he
        have h1 := HDL.out x (upto_mem hx)
        have e1 : x.D = e.D := congrArg Op0.D hxk
        have e2 : x.G = e.G := congrArg Op0.G hxk
        rw [← e1, ← e2]
        exact h1
      have hcs : closedE low = closedE (uptoL B l) := closed_same hkey (fun e he => gone_n (hat e he)) (fun e he => gone_n (HIN.out e (upto_mem he)).at_)
      have CL := Lib.hid (fun (W : World) (hk : Kept (fun _ => False) w3 W) => closed_any (hlow.kept hk) (fun e he => OpIn.kept (hlin e he) hk) hul hldl)
      rw [hcs] at CL
      have HLOW := Lib.hid hlow
      have HKEY := Lib.hid hkey
      have HLIN := Lib.hid hlin
      have HUL := Lib.hid hul
      have HLDL := Lib.hid hldl
      have HAS := Lib.hid (has_any (HOM.out.keep K13.out (fun h => h)) (HB.out.kept K3.out) HBI.out hBl)
      rw [kvs_keys] at HAS
      clear hk2 hk3 hlow hkey hat hul hlin hldl hcs UP
      by_cases hw : wholeP (l.map dotOf) B
      case neg =>
        have HAS2 : Hid (Calls Tryz.prog 63 #[.map (some mb), bv] w3 fun e w' => e = .returned (.bool false) ∧ Kept (fun _ => False) w3 w') := Lib.hid (HAS.out.mono fun e w' ⟨⟨r, h1, h2⟩, h3⟩ => by
          cases r with
          | true => exact absurd (h2.1 rfl) hw
          | false => exact ⟨h1, h3⟩)
        have HN := Lib.hid (show nodesC l B = 20 by unfold nodesC; rw [if_neg (fun h => h HC.out), if_neg (fun h => h HV.out), if_pos (.inl hw)])
        clear hw HAS
        go_wp2_with (go_at_call 63; refine HAS2.out.mono ?_; rintro e w4 ⟨rfl, hk4⟩)
        go_ret2
        exact nodesPost_no HN.out (by decide) (K3.out.trans hk4 fun _ _ h => h)
      case pos =>
        have HAS2 : Hid (Calls Tryz.prog 63 #[.map (some mb), bv] w3 fun e w' => e = .returned (.bool true) ∧ Kept (fun _ => False) w3 w') := Lib.hid (HAS.out.mono fun e w' ⟨⟨r, h1, h2⟩, h3⟩ => by
          cases r with
          | true => exact ⟨h1, h3⟩
          | false => exact absurd (h2.2 hw) (by simp))
        by_cases hcu : closedE (uptoL B l) = 0
        case neg =>
          have HN := Lib.hid (show nodesC l B = 20 by unfold nodesC; rw [if_neg (fun h => h HC.out), if_neg (fun h => h HV.out), if_pos (.inr hcu)])
          obtain ⟨c, hcc⟩ : ∃ c, closedE (uptoL B l) = c := ⟨_, rfl⟩
          rw [hcc] at CL hcu
          clear hw HAS hcc
          go_wp2_with (first
            | (go_at_call 63; refine HAS2.out.mono ?_; rintro e w4 ⟨rfl, hk4⟩)
            | (go_at_call 12; refine (CL.out _ hk4).mono ?_; rintro e w5 ⟨rfl, hk5⟩))
          go_ret2
          exact nodesPost_no HN.out (by decide) ((K3.out.trans hk4 fun _ _ h => h).trans hk5 fun _ _ h => h)
        case pos =>
          have HN := Lib.hid (show nodesC l B = 0 by unfold nodesC; rw [if_neg (fun h => h HC.out), if_neg (fun h => h HV.out), if_neg (fun h => h.elim (fun h => h hw) (fun h => h hcu))])
          rw [hcu] at CL
          have DOC := Lib.hid (fun (W : World) (hk : Kept (fun _ => False) w W) => document_any (HL.out.kept hk) (fun e he => OpIn.kept (HIN.out e he) hk) hlen HDL.out htx)
          clear hw HAS hcu
          go_upto_region 10 with (first
            | (go_at_call 63; refine HAS2.out.mono ?_; rintro e w4 ⟨rfl, hk4⟩)
            | (go_at_call 12; refine (CL.out _ hk4).mono ?_; rintro e w5 ⟨rfl, hk5⟩))
          have K5 := Lib.hid ((K3.out.trans hk4 fun _ _ h => h).trans hk5 fun _ _ h => h)
          have K35 := Lib.hid (hk4.trans hk5 fun _ _ h => h)
          obtain ⟨ua, uc, hu, _, _⟩ := HLOW.out.sl
          subst hu
          clear hk4 hk5 CL HAS2
          go_wp2_with (go_at_call 53; refine (DOC.out _ K5.out).mono ?_; rintro e w6 hd; obtain ⟨g, F, rfl, hT, hF, hk6⟩ := doc_ok hd HC.out; clear hd)
          have HT := Lib.hid hT
          have HF := Lib.hid hF
          have K56 := Lib.hid hk6
          have HDP : Hid ((docP l).length ≤ 900000) := Lib.hid (by have := docP_len (closed_is HC.out).1; omega)
          clear hT hF hk6 DOC
          go_loopw [46] (fun iv wr => ∃ (n : Nat) (F' : Nat → Prop), iv = .int .i64 n ∧ n ≤ low.length ∧ Kept (fun _ => False) w5 wr ∧ TBox wr g ((low.take n).foldl setD (docP l)) F' ∧ ∀ b, F' b → w5.heap.size ≤ b) (fun iv _ => low.length - (intOf iv).toNat)
          case atStart => exact ⟨0, F, rfl, Nat.zero_le _, K56.out, HT.out, HF.out⟩
          case round =>
            obtain ⟨n, F', rfl, hn, hk, hT, hF⟩ := hrel
            have hn0 : (0 : Int) ≤ n := by omega
            have KR := Lib.hid hk
            have HTR := Lib.hid hT
            have HFR := Lib.hid hF
            have hll : ((low.take n).foldl setD (docP l)).length ≤ 900000 := by rw [foldS_len]; exact HDP.out
            have HLL := Lib.hid hll
            clear hk hT hF hll
            by_cases hlt : n < low.length
            case neg =>
              have hnl : ¬ (n : Int) < low.length := by omega
              have hs : (low.take n).foldl setD (docP l) = (uptoL B l).foldl setD (docP l) := by rw [List.take_of_length_le (by omega)]; exact foldS_same _ HKEY.out
              have COLL := Lib.hid (HTR.out.collect HLL.out)
              have ANS : Hid (nodesS l B = collR ((low.take n).foldl setD (docP l))) := Lib.hid (by unfold nodesS; rw [if_pos HN.out, hs])
              have hcl2 : (collR ((low.take n).foldl setD (docP l))).length ≤ 900000 := Nat.le_trans (collR_len _) HLL.out
              have HC2 := Lib.hid hcl2
              obtain ⟨R, hR⟩ : ∃ R, collR ((low.take n).foldl setD (docP l)) = R := ⟨_, rfl⟩
              rw [hR] at COLL ANS HC2
              clear hs hcl2 hR
              go_wp2_with (first
                | (go_at_call 65; refine COLL.out.mono ?_; rintro e w7 ⟨rfl, hT7, hk7⟩; have NO := Lib.hid (nodes_post (w := w7) (D := R) (g := some g) (.inr ⟨g, _, rfl, hT7, HC2.out⟩)))
                | (go_at_call 57; refine NO.out.mono ?_; rintro e w8 ⟨⟨v8, rfl, hs8, _⟩, hk8⟩))
              go_ret2
              refine ⟨⟨v8, by rw [HN.out]; rfl, by rw [ANS.out]; exact hs8⟩, ?_⟩
              exact ((K5.out.trans KR.out fun _ _ h => h).trans hk7 fun b hb h => by have := HFR.out b h; have := K5.out.size; omega).trans hk8 fun _ _ h => h
            case pos =>
              have hnl : (n : Int) < low.length := by omega
              obtain ⟨x, hx⟩ := get_of_lt hlt
              have htk : low.take (n + 1) = low.take n ++ [x] := by rw [List.take_add_one, hx]; rfl
              have hfold : (low.take (n + 1)).foldl setD (docP l) = setD ((low.take n).foldl setD (docP l)) x := by rw [htk, List.foldl_append]; rfl
              have K3R := Lib.hid (K35.out.trans KR.out fun _ _ h => h)
              have OI := Lib.hid (HLIN.out x (List.mem_of_getElem? hx))
              have OD := Lib.hid (HLDL.out x (List.mem_of_getElem? hx))
              have HFO := Lib.hid hfold
              obtain ⟨lg, lo, lc', e2, hcs⟩ := SlAt.opc (HLOW.out.kept K3R.out) (by omega)
              cases e2
              have hc := hcs n x hx
              obtain ⟨⟨⟨ds, dq⟩, ⟨da, dn, dc⟩, kd, ⟨it, is⟩, ⟨rt, rs⟩, tx, ⟨ga, gn, gc⟩, st⟩, D, G⟩ := x
              obtain ⟨c0, c1, c2, c3, c4, c5, c6, c7, c8, c9, c10⟩ := hc
              have e1 : IntKind.i64.wrap ((n : Int) + 1) = (n : Int) + 1 := IntWalk.i64_in _ (by have := HUL.out; omega)
              have k1 : Kept (fun _ => False) wr (wr.alloc (.cells #[.int .i64 ds, .int .i64 dq, .slice da dn dc, .int .i64 kd, .int .i64 it, .int .i64 is, .int .i64 rt, .int .i64 rs, .string tx, .slice ga gn gc, .int .i64 st] 62)) := (Kept.refl _ _).alloc _
              have b1 := Blk.new wr 62 #[.int .i64 ds, .int .i64 dq, .slice da dn dc, .int .i64 kd, .int .i64 it, .int .i64 is, .int .i64 rt, .int .i64 rs, .string tx, .slice ga gn gc, .int .i64 st]
              clear hcs hx htk hfold
              go_upto_region 14 with fail
              obtain ⟨z, hz⟩ : ∃ z, wr.heap.size = z := ⟨_, rfl⟩
              obtain ⟨W1, hW1⟩ : ∃ W1, wr.alloc (.cells #[.int .i64 ds, .int .i64 dq, .slice da dn dc, .int .i64 kd, .int .i64 it, .int .i64 is, .int .i64 rt, .int .i64 rs, .string tx, .slice ga gn gc, .int .i64 st] 62) = W1 := ⟨_, rfl⟩
              rw [hW1] at k1 b1 ⊢
              rw [hz] at b1 ⊢
              have z3 : W1.cell? ⟨z, 3, none⟩ = some (.int .i64 kd) := b1.cell' rfl
              have z9 : W1.cell? ⟨z, 9, none⟩ = some (.slice ga gn gc) := b1.cell' rfl
              have KZ := Lib.hid k1
              clear hW1 hz k1 b1 c0 c1 c2 c3 c4 c5 c6 c7 c8 c9 c10
              by_cases h2 : kd = 2
              case neg =>
                have ST : Hid ((low.take (n + 1)).foldl setD (docP l) = (low.take n).foldl setD (docP l)) := Lib.hid (by rw [HFO.out]; unfold setD; exact if_neg h2)
                go_wp2_with fail
                go_roundw
                case rel => exact ⟨n + 1, F', by go_num, by omega, KR.out.trans KZ.out fun _ _ h => h, by rw [ST.out]; exact HTR.out.still KZ.out, HFR.out⟩
                case measure => simp [intOf]; omega
              case pos =>
                subst h2
                have ST : Hid ((low.take (n + 1)).foldl setD (docP l) = ((low.take n).foldl setD (docP l)).map (turnF G 2 3)) := Lib.hid (by rw [HFO.out]; unfold setD; exact if_pos rfl)
                have SE := Lib.hid ((HTR.out.still KZ.out).settle0 HLL.out (v := .slice ga gn gc) ((OI.out.at_.gone.kept K3R.out).kept KZ.out) OI.out.runs (by have h9 : G.length ≤ 1000000 := OD.out.2; show G.length ≤ 1000000000; omega) (fun b hb _ hne hFb => by
                  obtain ⟨g9, o9, c9, h8, _, _, hg9, _⟩ := OI.out.at_.gone.one (List.length_pos_iff.2 hne)
                  have h7 := HFR.out b hFb
                  have h6 : (Value.slice (some ⟨g9, o9, none⟩) G.length c9).ownBlock = some b := h8 ▸ hb
                  have h5 : g9 = b := Option.some.inj h6
                  have := K35.out.size
                  omega))
                go_wp2_with (go_at_call 64; refine SE.out.mono ?_; rintro e w7 ⟨rfl, hT7, hk7⟩)
                go_roundw
                case rel => exact ⟨n + 1, F', by go_num, by omega, (KR.out.trans KZ.out fun _ _ h => h).trans hk7 fun b hb h => by have := HFR.out b h; omega, by rw [ST.out]; exact hT7, HFR.out⟩
                case measure => simp [intOf]; omega
end Go.Proofs.YtjohljmpcblpjaaGreatDoor.Pa
namespace Go.Proofs.YtjohljmpcblpjaaGreatDoor.Pa
open Go.RowKit Go.Proofs.YtjohljmpcblpjaaGreatDoor.St Go.Proofs.YtjohljmpcblpjaaGreatDoor Go.Proofs.YtjohljmpcblpjaaGreatDoor.Tr
attribute [local go_sem] Oper.semAt_some
section
variable {w W : World} {lv : Value} {a g b : Option Addr} {z : Nat}
structure KnAt (w : World) (lv : Value) (a g b : Option Addr) : Prop where
  tab : TabAt w
  row : SlAt entE w lv (kL a g b)
  ops : ∀ e ∈ kL a g b, OpIn w e
theorem KnAt.kept (h : KnAt w lv a g b) (hk : Kept (fun _ => False) w W) : KnAt W lv a g b := ⟨h.tab.kept hk, h.row.kept hk, fun e he => OpIn.kept (h.ops e he) hk⟩
theorem kdl : ∀ e ∈ kL a g b, e.D.length ≤ 1000000 ∧ e.G.length ≤ 1000000 := fun e he => by
  simp only [kL, List.mem_cons, List.not_mem_nil, or_false] at he
  rcases he with rfl | rfl | rfl
  · exact ⟨by show 1 ≤ 1000000; decide, by show 1 ≤ 1000000; decide⟩
  · exact ⟨by show 1 ≤ 1000000; decide, by show 0 ≤ 1000000; decide⟩
  · exact ⟨by show 0 ≤ 1000000; decide, by show 0 ≤ 1000000; decide⟩
theorem ktn : textN (kL a g b) ≤ 900000 := by show 2 ≤ 900000; decide
theorem KnAt.closed (h : KnAt w lv a g b) : Calls Tryz.prog 12 #[lv] w fun e w' => e = .returned (.int .i64 0) ∧ Kept (fun _ => False) w w' := by
  have h1 := closed_any h.row h.ops (by show 3 ≤ 1000000; decide) kdl
  rw [kclosed] at h1
  exact h1
theorem KnAt.text (h : KnAt w lv a g b) : Calls Tryz.prog 17 #[lv] w fun e w' => e = .returned (.tuple #[.string ⟨#[98]⟩, .int .i64 0]) ∧ Kept (fun _ => False) w w' := by
  have h1 := text_past h.row h.ops (by show 3 ≤ 1000000; decide) kdl ktn
  rw [kclosed, kdocS, ktext] at h1
  exact h1
theorem KnAt.order (h : KnAt w lv a g b) : Calls Tryz.prog 19 #[lv] w fun e w' => (∃ v, e = .returned (.tuple #[v, .int .i64 0]) ∧ ∃ x c, v = .slice x 2 c) ∧ Kept (fun _ => False) w w' := by
  have h1 := order_past h.row h.ops (by show 3 ≤ 1000000; decide) kdl ktn
  rw [kclosed, kdocS] at h1
  exact h1.mono fun e w' ⟨⟨v, h2, h3⟩, h4⟩ => ⟨⟨v, h2, by obtain ⟨x, c, h5, _⟩ := h3.sl; exact ⟨x, c, h5⟩⟩, h4⟩
theorem KnAt.members (h : KnAt w lv a g b) : Calls Tryz.prog 22 #[lv] w fun e w' => (∃ v, e = .returned (.tuple #[v, .int .i64 0]) ∧ SlAt intE w' v [1]) ∧ Kept (fun _ => False) w w' := by
  have h1 := members_past h.tab h.row h.ops (by show 3 ≤ 1000000; decide) kdl
  unfold MemPost at h1
  rw [kclosed, kmemS] at h1
  exact h1
theorem KnAt.nodes (h : KnAt w lv a g b) {bv : Value} (hB : SlAt dotE w bv [⟨1, 3⟩]) : Calls Tryz.prog 25 #[lv, bv] w fun e w' => (∃ v, e = .returned (.tuple #[v, .int .i64 0]) ∧ SlAt nodeE w' v kD3) ∧ Kept (fun _ => False) w w' := by
  have h1 := nodes_past h.row h.ops (by show 3 ≤ 1000000; decide) kdl ktn hB (fun d hd => by obtain rfl := List.mem_singleton.1 hd; constructor <;> decide) (by show 1 ≤ 1000000000; decide)
  unfold NodesPost at h1
  rw [knodesC, knodes] at h1
  exact h1
theorem KnAt.upto (h : KnAt w lv a g b) {bv : Value} (hB : SlAt dotE w bv [⟨1, 2⟩]) : Calls Tryz.prog 15 #[lv, bv] w fun e w' => (∃ v, e = .returned v ∧ ∃ x c, v = .slice x 2 c) ∧ Kept (fun _ => False) w w' := by
  have h1 := upto_past h.row (fun e he => (h.ops e he).at_) (by show 3 ≤ 1000000; decide) kdl hB (by show 1 ≤ 1000000000; decide)
  rw [kuptoS] at h1
  refine h1.mono fun e w' ⟨⟨v, l', h2, h3, h4, _⟩, h5⟩ => ⟨⟨v, h2, ?_⟩, h5⟩
  have h6 : l'.length = 2 := by have := congrArg List.length h4; simpa using this
  obtain ⟨x, c, h7, _⟩ := h3.sl
  rw [h6] at h7
  exact ⟨x, c, h7⟩
theorem KnAt.open_ (h : KnAt w (.slice (some ⟨z, 0, none⟩) 3 3) a g b) : Calls Tryz.prog 12 #[.slice (some ⟨z, 0, none⟩) 1 3] w fun e w' => e = .returned (.int .i64 20) ∧ Kept (fun _ => False) w w' := by
  have hs : SlAt entE w (.slice (some ⟨z, 0, none⟩) 1 3) [kE1 a g] := by
    obtain ⟨g0, o0, c0, hav, hl, hc, _, h4⟩ := h.row.one (by show 0 < 3; decide)
    injection hav with h1 _ h2
    injection h1 with h1
    injection h1 with h5 h6 _
    subst h5 h6 h2
    refine .inr ⟨_, 3, rfl, by show 1 ≤ 3; decide, by decide, fun _ => rfl, fun i y hy j u hu => ?_⟩
    cases i with
    | zero =>
      simp only [List.getElem?_cons_zero, Option.some.injEq] at hy
      subst hy
      exact h4 0 _ rfl j u hu
    | succ i => simp at hy
  have h1 := closed_any hs (fun e he => h.ops e (by obtain rfl := List.mem_singleton.1 he; simp [kL])) (by show 1 ≤ 1000000; decide) (fun e he => kdl (a := a) (g := g) (b := b) e (by obtain rfl := List.mem_singleton.1 he; simp [kL]))
  rw [kopen] at h1
  exact h1
end
set_option maxRecDepth 100000 in
set_option maxHeartbeats 4000000 in
theorem known_any {w : World} (hT : TabAt w) : Calls Tryz.prog 10 #[] w fun e w' => e = .returned (.bool true) ∧ Kept (fun _ => False) w w' := by
  have HT := Lib.hid hT
  clear hT
  go_enter Tryz.func10, Tryz.ntmps10
  go_upto_region 2 with (go_at_call 41; refine (lrow_any _).mono ?_; rintro e w1 ⟨⟨lv, rfl, hlv, a, g, b, hrow, hops⟩, hk1⟩)
  subst hlv
  obtain ⟨z, hz⟩ : ∃ z, w.heap.size + 3 = z := ⟨_, rfl⟩
  rw [hz] at hrow ⊢
  have KN := Lib.hid (KnAt.mk (HT.out.kept hk1) hrow hops)
  have K1 := Lib.hid hk1
  clear hrow hops hk1 hz
  go_upto_region 3 with (go_at_call 17; refine KN.out.text.mono ?_; rintro e w2 ⟨rfl, hk2⟩)
  have KN2 := Lib.hid (KN.out.kept hk2)
  have K2 := Lib.hid (K1.out.trans hk2 fun _ _ h => h)
  clear hk2 KN K1
  go_upto_region 4 with (go_at_call 22; refine KN2.out.members.mono ?_; rintro e w3 ⟨⟨mv, rfl, hmv⟩, hk3⟩)
  have KN3 := Lib.hid (KN2.out.kept hk3)
  have K3 := Lib.hid (K2.out.trans hk3 fun _ _ h => h)
  have MV := Lib.hid (fun W (hk : Kept (fun _ => False) w3 W) => hmv.kept hk)
  clear hk3 KN2 K2 hmv
  go_upto_region 5 with (go_at_call 19; refine KN3.out.order.mono ?_; rintro e w4 ⟨⟨ov, rfl, ox, oc, rfl⟩, hk4⟩)
  have KN4 := Lib.hid (KN3.out.kept hk4)
  have K4 := Lib.hid (K3.out.trans hk4 fun _ _ h => h)
  have KM4 := Lib.hid hk4
  clear hk4 KN3 K3
  have LIT := Lib.hid (SlAt.lit (E := dotE) (w := w4) (t := 29) [⟨1, 3⟩] #[.int .i64 1, .int .i64 3] rfl (by show 1 ≤ maxLen; decide))
  have KA := Lib.hid ((Kept.refl (fun _ => False) w4).alloc (.cells #[.int .i64 1, .int .i64 3] 29))
  go_upto_region 6 with (go_at_call 25; refine ((KN4.out.kept KA.out).nodes LIT.out).mono ?_; rintro e w5 ⟨⟨nv, rfl, hnv⟩, hk5⟩)
  have k5 := KA.out.trans hk5 fun _ _ h => h
  have KN5 := Lib.hid (KN4.out.kept k5)
  have K5 := Lib.hid (K4.out.trans k5 fun _ _ h => h)
  have KM5 := Lib.hid (KM4.out.trans k5 fun _ _ h => h)
  obtain ⟨ng, no, nc, rfl, _, _, _, hnc⟩ := hnv.one (by show 0 < 2; decide)
  have hst := hnc 0 _ rfl 5 _ rfl
  have HST : Hid (∀ W, Kept (fun _ => False) w5 W → W.cell? ⟨ng, no + 5, none⟩ = some (.int .i64 3)) := Lib.hid fun W hk => hk.cell hst
  clear hk5 KN4 K4 hnv hnc hst k5 KA LIT KM4
  have MV5 : Hid (∀ W, Kept (fun _ => False) w5 W → SlAt intE W mv [1]) := Lib.hid fun W hk => MV.out W (KM5.out.trans hk fun _ _ h => h)
  have MI : Hid (∀ W, Kept (fun _ => False) w5 W → ∀ n, n = W.heap.size → Calls Tryz.prog 24 #[mv, .slice (some ⟨n, 0, none⟩) 1 1] (W.alloc (.cells #[.int .i64 1] 3)) fun e w' => e = .returned (.bool true) ∧ Kept (fun _ => False) w5 w') := Lib.hid fun W hk n hn => by
    subst hn
    have ka : Kept (fun _ => False) W (W.alloc (.cells #[.int .i64 1] 3)) := (Kept.refl _ _).alloc _
    have h1 := pints_eq (MV5.out _ (hk.trans ka fun _ _ h => h)) (SlAt.lit (E := intE) (w := W) (t := 3) [1] #[.int .i64 1] rfl (by show 1 ≤ maxLen; decide)) (by show 1 ≤ 1000000000; decide)
    exact h1.mono fun e w' ⟨h2, q, h3⟩ => ⟨h2, by subst h3; exact (hk.trans ka fun _ _ h => h).drewN q⟩
  have CC : Hid (∀ W, Kept (fun _ => False) w5 W → Calls Tryz.prog 12 #[.slice (some ⟨z, 0, none⟩) 3 3] W fun e w' => e = .returned (.int .i64 0) ∧ Kept (fun _ => False) w5 w') := Lib.hid fun W hk => (KN5.out.kept hk).closed.mono fun e w' ⟨h1, h2⟩ => ⟨h1, hk.trans h2 fun _ _ h => h⟩
  have CO : Hid (∀ W, Kept (fun _ => False) w5 W → Calls Tryz.prog 12 #[.slice (some ⟨z, 0, none⟩) 1 3] W fun e w' => e = .returned (.int .i64 20) ∧ Kept (fun _ => False) w5 w') := Lib.hid fun W hk => (KN5.out.kept hk).open_.mono fun e w' ⟨h1, h2⟩ => ⟨h1, hk.trans h2 fun _ _ h => h⟩
  have CU : Hid (∀ W, Kept (fun _ => False) w5 W → ∀ n, n = W.heap.size → Calls Tryz.prog 15 #[.slice (some ⟨z, 0, none⟩) 3 3, .slice (some ⟨n, 0, none⟩) 1 1] (W.alloc (.cells #[.int .i64 1, .int .i64 2] 29)) fun e w' => (∃ x c, e = .returned (.slice x 2 c)) ∧ Kept (fun _ => False) w5 w') := Lib.hid fun W hk n hn => by
    subst hn
    have ka : Kept (fun _ => False) W (W.alloc (.cells #[.int .i64 1, .int .i64 2] 29)) := (Kept.refl _ _).alloc _
    have kb := hk.trans ka fun _ _ h => h
    have h1 := (KN5.out.kept kb).upto (SlAt.lit (E := dotE) (w := W) (t := 29) [⟨1, 2⟩] #[.int .i64 1, .int .i64 2] rfl (by show 1 ≤ maxLen; decide))
    exact h1.mono fun e w' ⟨⟨v, h2, x, c, h3⟩, h4⟩ => ⟨⟨x, c, by rw [h2, h3]⟩, kb.trans h4 fun _ _ h => h⟩
  have S5 := Lib.hid (Kept.refl (fun _ => False) w5)
  go_wp2_with (first
    | (go_at_call 12; refine (CO.out _ S6.out).mono ?_; rintro e w7 ⟨rfl, hk⟩; have S7 := Lib.hid hk; clear hk; have HS := HST.out _ S7.out)
    | (go_at_call 12; refine (CC.out _ S5.out).mono ?_; rintro e w6 ⟨rfl, hk⟩; have S6 := Lib.hid hk; clear hk)
    | (go_at_call 24; refine (MI.out _ S7.out _ rfl).mono ?_; rintro e w8 ⟨rfl, hk⟩; have S8 := Lib.hid hk; clear hk; have HS8 := HST.out _ S8.out)
    | (go_at_call 15; refine (CU.out _ S8.out _ rfl).mono ?_; rintro e w9 ⟨⟨ux, uc, rfl⟩, hk⟩; have S9 := Lib.hid hk; clear hk))
  go_ret
  exact ⟨rfl, K5.out.trans S9.out fun _ _ h => h⟩
end Go.Proofs.YtjohljmpcblpjaaGreatDoor.Pa
namespace Go.Proofs.YtjohljmpcblpjaaGreatDoor.Pa
open Go.RowKit Go.Proofs.YtjohljmpcblpjaaGreatDoor.St Go.Proofs.YtjohljmpcblpjaaGreatDoor Go.Proofs.YtjohljmpcblpjaaGreatDoor.Tr
attribute [local go_sem] Oper.semAt_some
/-- a row of few operations, and a vector -/
structure OpsAt (w : World) (lv bv : Value) (l : List Ent) (B : List Dot) : Prop where
  tab : TabAt w
  row : SlAt entE w lv l
  ops : ∀ e ∈ l, OpIn w e
  len : l.length ≤ 60
  each : ∀ e ∈ l, e.D.length ≤ 20000 ∧ e.G.length ≤ 20000
  text : textN l ≤ 20000
  vec : SlAt dotE w bv B
  vecl : B.length ≤ 20000
  vecn : ∀ d ∈ B, I64 d.seq
section
variable {w W : World} {lv bv mv : Value} {l m : List Ent} {B : List Dot}
theorem OpsAt.kept (h : OpsAt w lv bv l B) (hk : Kept (fun _ => False) w W) : OpsAt W lv bv l B := ⟨h.tab.kept hk, h.row.kept hk, fun e he => OpIn.kept (h.ops e he) hk, h.len, h.each, h.text, h.vec.kept hk, h.vecl, h.vecn⟩
theorem OpsAt.hdl (h : OpsAt w lv bv l B) : ∀ e ∈ l, e.D.length ≤ 1000000 ∧ e.G.length ≤ 1000000 := fun e he => by have := h.each e he; omega
theorem OpsAt.perm (h : OpsAt w lv bv l B) (hm : SlAt entE w mv m) (hp : m.Perm l) : OpsAt w mv bv m B :=
  ⟨h.tab, hm, fun e he => h.ops e (hp.mem_iff.1 he), by rw [hp.length_eq]; exact h.len, fun e he => h.each e (hp.mem_iff.1 he), by rw [textN_perm hp]; exact h.text, h.vec, h.vecl, h.vecn⟩
theorem OpsAt.closed (h : OpsAt w lv bv l B) : Calls Tryz.prog 12 #[lv] w fun e w' => e = .returned (.int .i64 (closedE l)) ∧ Kept (fun _ => False) w w' :=
  closed_any h.row h.ops (by have := h.len; omega) h.hdl
theorem OpsAt.told (h : OpsAt w lv bv l B) : Calls Tryz.prog 17 #[lv] w fun e w' => e = .returned (.tuple #[.string ⟨(textB (shL (docS l))).toArray⟩, .int .i64 (closedE l)]) ∧ Kept (fun _ => False) w w' :=
  text_past h.row h.ops (by have := h.len; omega) h.hdl (by have := h.text; omega)
theorem OpsAt.order (h : OpsAt w lv bv l B) : Calls Tryz.prog 19 #[lv] w fun e w' => (∃ v, e = .returned (.tuple #[v, .int .i64 (closedE l)]) ∧ ∀ W, Kept (fun _ => False) w' W → SlAt idE W v ((docS l).map (·.id))) ∧ Kept (fun _ => False) w w' :=
  (order_past h.row h.ops (by have := h.len; omega) h.hdl (by have := h.text; omega)).mono fun _ _ ⟨⟨v, h1, h2⟩, h3⟩ => ⟨⟨v, h1, fun _ hk => h2.kept hk⟩, h3⟩
theorem OpsAt.members (h : OpsAt w lv bv l B) : Calls Tryz.prog 22 #[lv] w fun e w' => (∃ v, e = .returned (.tuple #[v, .int .i64 (closedE l)]) ∧ ∀ W, Kept (fun _ => False) w' W → SlAt intE W v (memS l)) ∧ Kept (fun _ => False) w w' :=
  (members_past h.tab h.row h.ops (by have := h.len; omega) h.hdl).mono fun _ _ ⟨⟨v, h1, h2⟩, h3⟩ => ⟨⟨v, h1, fun _ hk => h2.kept hk⟩, h3⟩
theorem OpsAt.nodes (h : OpsAt w lv bv l B) : Calls Tryz.prog 25 #[lv, bv] w fun e w' => (∃ v, e = .returned (.tuple #[v, .int .i64 (nodesC l B)]) ∧ ∀ W, Kept (fun _ => False) w' W → SlAt nodeE W v (nodesS l B)) ∧ Kept (fun _ => False) w w' :=
  (nodes_past h.row h.ops (by have := h.len; omega) h.hdl (by have := h.text; omega) h.vec h.vecn (by have := h.vecl; omega)).mono fun _ _ ⟨⟨v, h1, h2⟩, h3⟩ => ⟨⟨v, h1, fun _ hk => h2.kept hk⟩, h3⟩
theorem OpsAt.upto (h : OpsAt w lv bv l B) : Calls Tryz.prog 15 #[lv, bv] w fun e w' => (∃ x c, e = .returned (.slice x (uptoS B l).length c)) ∧ Kept (fun _ => False) w w' :=
  (upto_past h.row (fun e he => (h.ops e he).at_) (by have := h.len; omega) h.hdl h.vec (by have := h.vecl; omega)).mono fun e w' ⟨⟨v, l', h1, h2, h3, _⟩, h4⟩ => by
    obtain ⟨x, c, h5, _⟩ := h2.sl
    have h6 := congrArg List.length h3
    rw [List.length_map, List.length_map] at h6
    rw [h6] at h5
    exact ⟨⟨x, c, by rw [h1, h5]⟩, h4⟩
theorem nodesS_len (h : OpsAt w lv bv l B) : (nodesS l B).length ≤ 1000000 := by
  unfold nodesS
  split
  · next h1 =>
    have h2 := (collR_sub ((uptoL B l).foldl setD (docP l))).length_le
    rw [foldS_len] at h2
    have h3 := docP_len (closed_is (nodesC_closed h1)).1
    have := h.text
    omega
  · exact Nat.zero_le _
theorem docS_len (h : OpsAt w lv bv l B) : (docS l).length ≤ 1000000 := by
  unfold docS
  split
  · next h1 =>
    have h3 := docP_len (closed_is h1).1
    have := h.text
    omega
  · exact Nat.zero_le _
theorem bitsL_len (x : BitVec 32) : (bitsL x).length ≤ 17 := by
  unfold bitsL
  exact Nat.le_trans (List.length_filter_le ..) (by simp)
theorem memS_len (l : List Ent) : (memS l).length ≤ 1000000 := by
  unfold memS
  split
  · unfold intsL
    rw [List.length_map]
    have := bitsL_len ((memP l).1 &&& ~~~(memP l).2)
    omega
  · exact Nat.zero_le _
end
set_option maxRecDepth 100000 in
set_option maxHeartbeats 8000000 in
theorem pastOrder_core {w : World} {lv tv bv : Value} {l : List Ent} {T : List Int} {B : List Dot} (h : OpsAt w lv bv l B) (hT : SlAt intE w tv T) (hI : ∀ t ∈ T, I64 t) (hTl : T.length ≤ 200)
    (hmu : ∀ W, Kept (fun _ => False) w W → Calls Tryz.prog 9 #[lv, bv] W fun r w' => r = .returned (.bool false) ∧ Kept (fun _ => False) W w') :
    Calls Tryz.prog 5 #[lv, tv, bv] w fun e w' => e = .returned (.bool true) ∧ Kept (fun _ => False) w w' := by
  obtain ⟨ta, tc, rfl, _, _⟩ := hT.sl
  have HO := Lib.hid h
  have TU := Lib.hid (fun W (hk : Kept (fun _ => False) w W) => turned_any (h.row.kept hk) (hT.kept hk) hI h.len hTl)
  have MU := Lib.hid (hmu w (Kept.refl _ _))
  have hTI : ¬ (200 : Int) < T.length := by omega
  clear h hT hI hmu
  go_enter Tryz.func5, Tryz.ntmps5
  go_upto_region 3 with (first
    | (go_at_call 9; refine MU.out.mono ?_; rintro e w1 ⟨rfl, hk1⟩)
    | (go_at_call 30; refine (TU.out _ hk1).mono ?_; rintro e w2 ⟨⟨mv, m, rfl, hm, hp⟩, hk2⟩))
  go_upto_region 4 with (first
    | (go_at_call 30; refine (TU.out _ hk1).mono ?_; rintro e w2 ⟨⟨mv, m, rfl, hm, hp⟩, hk2⟩))
  have K2 := Lib.hid (hk1.trans hk2 fun _ _ h => h)
  have OL := Lib.hid (HO.out.kept K2.out)
  have OM := Lib.hid (OL.out.perm hm hp)
  have K := Lib.hid (Kept.refl (fun _ => False) w2)
  have CL : Hid (∀ W, Kept (fun _ => False) w2 W → Calls Tryz.prog 12 #[lv] W fun e w' => e = .returned (.int .i64 (closedE l)) ∧ Kept (fun _ => False) W w') := Lib.hid fun W hk => (OL.out.kept hk).closed
  have CM : Hid (∀ W, Kept (fun _ => False) w2 W → Calls Tryz.prog 12 #[mv] W fun e w' => e = .returned (.int .i64 (closedE l)) ∧ Kept (fun _ => False) W w') := Lib.hid fun W hk => by rw [← closedE_perm hp]; exact (OM.out.kept hk).closed
  have UL : Hid (∀ W, Kept (fun _ => False) w2 W → Calls Tryz.prog 15 #[lv, bv] W fun e w' => (∃ x c, e = .returned (.slice x (uptoS B l).length c)) ∧ Kept (fun _ => False) W w') := Lib.hid fun W hk => (OL.out.kept hk).upto
  have UM : Hid (∀ W, Kept (fun _ => False) w2 W → Calls Tryz.prog 15 #[mv, bv] W fun e w' => (∃ x c, e = .returned (.slice x (uptoS B l).length c)) ∧ Kept (fun _ => False) W w') := Lib.hid fun W hk => by rw [← uptoS_len hp]; exact (OM.out.kept hk).upto
  have XL : Hid (∀ W, Kept (fun _ => False) w2 W → Calls Tryz.prog 17 #[lv] W fun e w' => e = .returned (.tuple #[.string ⟨(textB (shL (docS l))).toArray⟩, .int .i64 (closedE l)]) ∧ Kept (fun _ => False) W w') := Lib.hid fun W hk => (OL.out.kept hk).told
  have XM : Hid (∀ W, Kept (fun _ => False) w2 W → Calls Tryz.prog 17 #[mv] W fun e w' => e = .returned (.tuple #[.string ⟨(textB (shL (docS l))).toArray⟩, .int .i64 (closedE l)]) ∧ Kept (fun _ => False) W w') := Lib.hid fun W hk => by rw [← closedE_perm hp, ← docS_perm hp]; exact (OM.out.kept hk).told
  have DL := Lib.hid fun W (hk : Kept (fun _ => False) w2 W) => (OL.out.kept hk).order
  have DM : Hid (∀ W, Kept (fun _ => False) w2 W → Calls Tryz.prog 19 #[mv] W fun e w' => (∃ v, e = .returned (.tuple #[v, .int .i64 (closedE l)]) ∧ ∀ W, Kept (fun _ => False) w' W → SlAt idE W v ((docS l).map (·.id))) ∧ Kept (fun _ => False) W w') := Lib.hid fun W hk => by rw [← closedE_perm hp, ← docS_perm hp]; exact (OM.out.kept hk).order
  have ML := Lib.hid fun W (hk : Kept (fun _ => False) w2 W) => (OL.out.kept hk).members
  have MM : Hid (∀ W, Kept (fun _ => False) w2 W → Calls Tryz.prog 22 #[mv] W fun e w' => (∃ v, e = .returned (.tuple #[v, .int .i64 (closedE l)]) ∧ ∀ W, Kept (fun _ => False) w' W → SlAt intE W v (memS l)) ∧ Kept (fun _ => False) W w') := Lib.hid fun W hk => by rw [← closedE_perm hp, ← memS_perm hp]; exact (OM.out.kept hk).members
  have NL := Lib.hid fun W (hk : Kept (fun _ => False) w2 W) => (OL.out.kept hk).nodes
  have NM : Hid (∀ W, Kept (fun _ => False) w2 W → Calls Tryz.prog 25 #[mv, bv] W fun e w' => (∃ v, e = .returned (.tuple #[v, .int .i64 (nodesC l B)]) ∧ ∀ W, Kept (fun _ => False) w' W → SlAt nodeE W v (nodesS l B)) ∧ Kept (fun _ => False) W w') := Lib.hid fun W hk => by rw [← nodesC_perm hp, ← nodesS_perm hp]; exact (OM.out.kept hk).nodes
  have LD := Lib.hid (docS_len OL.out)
  have LN := Lib.hid (nodesS_len OL.out)
  have LM := Lib.hid (memS_len l)
  have KN := Lib.hid (fun W (hk : Kept (fun _ => False) w2 W) => known_any (OL.out.tab.kept hk))
  obtain ⟨c, hc⟩ : ∃ c, closedE l = c := ⟨_, rfl⟩
  obtain ⟨nc, hnc⟩ : ∃ nc, nodesC l B = nc := ⟨_, rfl⟩
  obtain ⟨ul, hul⟩ : ∃ ul, (uptoS B l).length = ul := ⟨_, rfl⟩
  obtain ⟨tx, htx⟩ : ∃ tx : ByteArray, ⟨(textB (shL (docS l))).toArray⟩ = tx := ⟨_, rfl⟩
  obtain ⟨dl, hdl⟩ : ∃ dl, (docS l).map (·.id) = dl := ⟨_, rfl⟩
  have LD2 : Hid (dl.length ≤ 1000000) := Lib.hid (by rw [← hdl, List.length_map]; exact LD.out)
  obtain ⟨ml, hml⟩ : ∃ ml, memS l = ml := ⟨_, rfl⟩
  obtain ⟨nl, hnl⟩ : ∃ nl, nodesS l B = nl := ⟨_, rfl⟩
  rw [hc] at CL CM XL XM DL DM ML MM
  rw [hnc] at NL NM
  rw [hul] at UL UM
  rw [htx] at XL XM
  rw [hdl] at DL DM
  rw [hml] at ML MM LM
  rw [hnl] at NL NM LN
  clear hm hp hk1 hk2 hc hnc hul htx hdl hml hnl OM LD HO TU MU
  go_upto_region 6 with (first
    | (go_at_call 12; (first | with_reducible refine (CL.out _ K.out).mono ?_ | with_reducible refine (CM.out _ K.out).mono ?_); rintro e w3 ⟨rfl, hk⟩; replace K := Lib.hid (K.out.trans hk fun _ _ h => h); clear hk)
    | (go_at_call 15; (first | with_reducible refine (UL.out _ K.out).mono ?_ | with_reducible refine (UM.out _ K.out).mono ?_); rintro e w3 ⟨⟨ux, uc, rfl⟩, hk⟩; replace K := Lib.hid (K.out.trans hk fun _ _ h => h); clear hk))
  go_upto_region 7 with (go_at_call 17; refine (XL.out _ K.out).mono ?_; rintro e w3 ⟨rfl, hk⟩)
  replace K := Lib.hid (K.out.trans hk fun _ _ h => h)
  clear hk
  go_upto_region 8 with (go_at_call 17; refine (XM.out _ K.out).mono ?_; rintro e w3 ⟨rfl, hk⟩)
  replace K := Lib.hid (K.out.trans hk fun _ _ h => h)
  clear hk
  go_upto_region 9 with (go_at_call 19; refine (DL.out _ K.out).mono ?_; rintro e w3 ⟨⟨ov1, rfl, hv⟩, hk⟩)
  replace K := Lib.hid (K.out.trans hk fun _ _ h => h)
  have V1 := Lib.hid (hv _ (Kept.refl _ _))
  clear hk hv
  go_upto_region 10 with (go_at_call 19; refine (DM.out _ K.out).mono ?_; rintro e w3 ⟨⟨ov2, rfl, hv⟩, hk⟩)
  replace K := Lib.hid (K.out.trans hk fun _ _ h => h)
  replace V1 := Lib.hid (V1.out.kept hk)
  have V2 := Lib.hid (hv _ (Kept.refl _ _))
  clear hk hv
  have IE : Hid (Calls Tryz.prog 21 #[ov1, ov2] w3 fun e w' => e = .returned (.bool true) ∧ Kept (fun _ => False) w3 w') := Lib.hid ((pids_eq V1.out V2.out (by have := LD2.out; omega)).mono fun e w' ⟨h1, q, h2⟩ => ⟨by rw [h1, decide_eq_true rfl], by subst h2; exact (Kept.refl _ _).drewN q⟩)
  clear V1 V2
  go_upto_region 12 with (go_at_call 21; refine IE.out.mono ?_; rintro e w4 ⟨rfl, hk⟩)
  replace K := Lib.hid (K.out.trans hk fun _ _ h => h)
  clear hk IE
  go_upto_region 13 with (go_at_call 22; refine (ML.out _ K.out).mono ?_; rintro e w3 ⟨⟨iv1, rfl, hv⟩, hk⟩)
  replace K := Lib.hid (K.out.trans hk fun _ _ h => h)
  have V1 := Lib.hid (hv _ (Kept.refl _ _))
  clear hk hv
  go_upto_region 14 with (go_at_call 22; refine (MM.out _ K.out).mono ?_; rintro e w3 ⟨⟨iv2, rfl, hv⟩, hk⟩)
  replace K := Lib.hid (K.out.trans hk fun _ _ h => h)
  replace V1 := Lib.hid (V1.out.kept hk)
  have V2 := Lib.hid (hv _ (Kept.refl _ _))
  clear hk hv
  go_upto_region 15 with (go_at_call 25; refine (NL.out _ K.out).mono ?_; rintro e w3 ⟨⟨nv1, rfl, hv⟩, hk⟩)
  replace K := Lib.hid (K.out.trans hk fun _ _ h => h)
  replace V1 := Lib.hid (V1.out.kept hk)
  replace V2 := Lib.hid (V2.out.kept hk)
  have V3 := Lib.hid (hv _ (Kept.refl _ _))
  clear hk hv
  go_upto_region 16 with (go_at_call 25; refine (NM.out _ K.out).mono ?_; rintro e w3 ⟨⟨nv2, rfl, hv⟩, hk⟩)
  replace K := Lib.hid (K.out.trans hk fun _ _ h => h)
  replace V1 := Lib.hid (V1.out.kept hk)
  replace V2 := Lib.hid (V2.out.kept hk)
  replace V3 := Lib.hid (V3.out.kept hk)
  have V4 := Lib.hid (hv _ (Kept.refl _ _))
  clear hk hv
  have IM : Hid (Calls Tryz.prog 24 #[iv1, iv2] w3 fun e w' => e = .returned (.bool true) ∧ Kept (fun _ => False) w3 w') := Lib.hid ((pints_eq V1.out V2.out (by have := LM.out; omega)).mono fun e w' ⟨h1, q, h2⟩ => ⟨by rw [h1, decide_eq_true rfl], by subst h2; exact (Kept.refl _ _).drewN q⟩)
  have NE : Hid (∀ W, Kept (fun _ => False) w3 W → Calls Tryz.prog 27 #[nv1, nv2] W fun e w' => e = .returned (.bool true) ∧ Kept (fun _ => False) W w') := Lib.hid fun W hk => (pnodes_eq (V3.out.kept hk) (V4.out.kept hk) (by have := LN.out; omega)).mono fun e w' ⟨h1, q, h2⟩ => ⟨by rw [h1, decide_eq_true rfl], by subst h2; exact (Kept.refl _ _).drewN q⟩
  clear V1 V2 V3 V4
  go_wp2_with (first
    | (go_at_call 24; refine IM.out.mono ?_; rintro e w5 ⟨rfl, hk5⟩)
    | (go_at_call 27; refine (NE.out _ hk5).mono ?_; rintro e w6 ⟨rfl, hk6⟩; have K6 := Lib.hid ((K.out.trans hk5 fun _ _ h => h).trans hk6 fun _ _ h => h))
    | (go_at_call 10; refine (KN.out _ K6.out).mono ?_; rintro e w7 ⟨rfl, hk7⟩))
  go_ret
  exact ⟨rfl, (K2.out.trans K6.out fun _ _ h => h).trans hk7 fun _ _ h => h⟩
theorem OpsAt.of {w : World} {lv bv : Value} {l : List Ent} {B : List Dot} (hT : TabAt w) (hl : SlAt entE w lv l) (hin : ∀ e ∈ l, OpIn w e) (hB : SlAt dotE w bv B) (hBI : ∀ d ∈ B, I64 d.site ∧ I64 d.seq) (hf : FewE l B.length) : OpsAt w lv bv l B :=
  ⟨hT, hl, hin, hf.len, fun e he => by
    have h1 := hf.each e he
    have h2 := gone_n (hin e he).at_
    obtain ⟨_, _, h3, _⟩ := (hin e he).at_.deps.sl
    unfold Sl.v at h3
    injection h3 with _ h4 _
    omega, Nat.le_trans (textN_much l) hf.all, hB, hf.vec, fun d hd => (hBI d hd).2⟩
set_option maxRecDepth 100000 in
set_option maxHeartbeats 4000000 in
theorem pastOrder_any {w : World} (hTab : TabAt w) {lv tv bv : Value} {l : List Ent} {T : List Int} {B : List Dot} (hl : SlAt entE w lv l) (hin : ∀ e ∈ l, OpIn w e) (hT : SlAt intE w tv T) (hI : ∀ t ∈ T, I64 t) (hB : SlAt dotE w bv B) (hBI : ∀ d ∈ B, I64 d.site ∧ I64 d.seq) :
    Calls Tryz.prog 5 #[lv, tv, bv] w fun e w' => e = .returned (.bool true) ∧ Kept (fun _ => False) w w' := by
  have htx : ∀ s ∈ l, s.v.text.size ≤ maxLen := fun s hs => (hin s hs).text
  obtain ⟨ba, bc, rfl, _, _⟩ := hB.sl
  by_cases hf : FewE l B.length
  · by_cases hTl : T.length ≤ 200
    · exact pastOrder_core (OpsAt.of hTab hl hin hB hBI hf) hT hI hTl fun W hk => much_no (hl.kept hk) htx hf
    · obtain ⟨ta, tc, rfl, _, _⟩ := hT.sl
      have MU := Lib.hid (much_no (vs := ba) (vc := bc) hl htx hf)
      have KN := Lib.hid (fun W (hk : Kept (fun _ => False) w W) => known_any (hTab.kept hk))
      have hTI : (200 : Int) < T.length := by omega
      clear hTab hl hin hT hI hB hBI htx hf hTl
      go_enter Tryz.func5, Tryz.ntmps5
      go_wp2_with (first
        | (go_at_call 9; refine MU.out.mono ?_; rintro e w1 ⟨rfl, hk1⟩)
        | (go_at_call 10; refine (KN.out _ hk1).mono ?_; rintro e w2 ⟨rfl, hk2⟩))
      go_ret
      exact ⟨rfl, hk1.trans hk2 fun _ _ h => h⟩
  · have MU := Lib.hid (much_yes (vs := ba) (vc := bc) hl htx hf)
    have KN := Lib.hid (fun W (hk : Kept (fun _ => False) w W) => known_any (hTab.kept hk))
    clear hTab hl hin hT hI hB hBI htx hf
    go_enter Tryz.func5, Tryz.ntmps5
    go_wp2_with (first
      | (go_at_call 9; refine MU.out.mono ?_; rintro e w1 ⟨rfl, hk1⟩)
      | (go_at_call 10; refine (KN.out _ hk1).mono ?_; rintro e w2 ⟨rfl, hk2⟩))
    go_ret
    exact ⟨rfl, hk1.trans hk2 fun _ _ h => h⟩
end Go.Proofs.YtjohljmpcblpjaaGreatDoor.Pa
namespace Go.Proofs.YtjohljmpcblpjaaGreatDoor.Pa
open Go.RowKit Go.Proofs.YtjohljmpcblpjaaGreatDoor.St Go.Proofs.YtjohljmpcblpjaaGreatDoor
section
open Go.ChangeShapes Go.WideShapes Go.Deep
variable {H : Type} {enc : TypeId × Value → H} {w : World} {base b0 : Nat} {spare : Nat → Bool} {held : Bool}
theorem elem_pint (n : Nat) (cs : List Value) (d : DataW H × List MemPlace) (h : DataW.trod enc Tryz.prog w base spare held n 3 cs = some d) : ∃ x : Int, cs = intE.enc x ∧ I64 x := by
  obtain ⟨k, z, _, hw⟩ := DataW.trod_int Tryz.underlying3 h
  exact ⟨k, z, bounds_i64 hw⟩
set_option maxRecDepth 100000 in
theorem open_pints {r : Reach} {v : Value} {d : DataW H} {ps : List MemPlace} (hv : Value.okWide Tryz.prog w r b0 45 v)
    (h : DataW.Trod enc Tryz.prog w base spare held 45 v d ps) : ∃ L, SlAt intE w v L ∧ ∀ x ∈ L, I64 x :=
  open_rows intE Tryz.underlying45 (by kernel_rfl) elem_pint hv h
set_option maxRecDepth 100000 in
theorem open_pops {r : Reach} {v : Value} {d : DataW H} {ps : List MemPlace} (hv : Value.okWide Tryz.prog w r b0 22 v)
    (h : DataW.Trod enc Tryz.prog w base spare held 22 v d ps) : ∃ L, SlAt entE w v L ∧ ∀ x ∈ L, OpIn w x :=
  open_rows entE Tryz.underlying22 cells_op elem_op2 hv h
set_option maxRecDepth 100000 in
theorem open_pvec {r : Reach} {v : Value} {d : DataW H} {ps : List MemPlace} (hv : Value.okWide Tryz.prog w r b0 24 v)
    (h : DataW.Trod enc Tryz.prog w base spare held 24 v d ps) : ∃ L, SlAt dotE w v L ∧ ∀ x ∈ L, I64 x.site ∧ I64 x.seq :=
  open_rows dotE Tryz.underlying24 cells_dot (fun n cs d h => elem_dot2 n cs d h) hv h
end
theorem gTab : Tryz.prog.globalNamed "math/bits.deBruijn32tab" = some 0 := by kernel_rfl
theorem gTabType : (Tryz.prog.globals[0]?).map (·.type) = some 269 := by kernel_rfl
theorem tabCells : Tryz.prog.cellsOf 269 = 32 := by kernel_rfl
theorem byteCells : Tryz.prog.cellsOf 5 = 1 := by kernel_rfl
/-- what the row's list gives: the table holds its numbers -/
theorem tab_of_laid {W : World} (h : laidMetH Tryz.prog [("math/bits.deBruijn32tab", Rows.laid_math_bits_deBruijn32tab)] W) : TabAt W := fun i k hi => by
  have h1 : Lib.TabIs Tryz.prog W "math/bits.deBruijn32tab" .u8 [0, 1, 28, 2, 29, 14, 24, 3, 30, 22, 20, 15, 25, 17, 4, 8, 31, 27, 13, 23, 21, 19, 16, 7, 26, 12, 18, 6, 11, 5, 10, 9] :=
    Lib.tabIs_of_head (rest := []) gTab gTabType Tryz.underlying269 Tryz.underlying5 byteCells tabCells h
  have hl := (List.getElem?_eq_some_iff.1 hi).1
  have h2 := h1.cell gTab i (by simpa [tabL] using hl)
  rw [h2]
  have e : ∀ j : Nat, j < 32 → ([0, 1, 28, 2, 29, 14, 24, 3, 30, 22, 20, 15, 25, 17, 4, 8, 31, 27, 13, 23, 21, 19, 16, 7, 26, 12, 18, 6, 11, 5, 10, 9] : List Int).getD j 0 = ((tabL[j]?.getD 0 : Nat) : Int) := by decide
  rw [e i (by simpa [tabL] using hl), hi]
  rfl
end Go.Proofs.YtjohljmpcblpjaaGreatDoor.Pa
