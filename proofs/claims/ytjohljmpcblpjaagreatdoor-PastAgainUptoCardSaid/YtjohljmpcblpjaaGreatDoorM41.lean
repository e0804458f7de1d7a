/- hearsayref8.Check. -/
import Derived.Test.YtjohljmpcblpjaaGreatDoorM40
set_option maxRecDepth 100000
set_option maxHeartbeats 8000000
namespace Go.Proofs.YtjohljmpcblpjaaGreatDoor
open Go.RowKit Go.Proofs.YtjohljmpcblpjaaGreatDoor.St Go.Proofs.YtjohljmpcblpjaaGreatDoor.Gl
open Go.Sort (grow)
theorem rsite8_grew {n:Int}{t:Bool}(h:decide (isSite n)=t) (w:World):Calls Tryz.prog 80 #[.int .i64 n] w fun e w'=>e=.returned (.bool t)∧Grew w w':=by
 subst h
 refine (rsite8_pure n w).mono ?_
 rintro e w' ⟨h,rfl⟩
 exact⟨h,Grew.refl _⟩
theorem rcheck8_core {w:World}(ds dq kd it is_ rt rs st:Int) (da ga:Option Addr) (dn dc gn gc:Nat) (tx:ByteArray){D:List Dot}{G:List Run}(hD:SlAt dotE w (.slice da dn dc) D) (hG:SlAt runE w (.slice ga gn gc) G) (hin:∀r∈G,r.In) (hDl:D.length≤1000000) (hGl:G.length≤1000000) (htx:tx.size≤1000000) :
  Calls Tryz.prog 43 #[.agg (opA ⟨⟨ds,dq⟩,⟨da,dn,dc⟩,kd,⟨it,is_⟩,⟨rt,rs⟩,tx,⟨ga,gn,gc⟩,st⟩)] w fun e w'=>e=.returned (.int .i64 (opC ⟨⟨ds,dq⟩,⟨da,dn,dc⟩,kd,⟨it,is_⟩,⟨rt,rs⟩,tx,⟨ga,gn,gc⟩,st⟩ D G))∧Kept (fun _=>False) w w':=by
 have hB:=Blk.new w 62 (opA ⟨⟨ds,dq⟩,⟨da,dn,dc⟩,kd,⟨it,is_⟩,⟨rt,rs⟩,tx,⟨ga,gn,gc⟩,st⟩)
 have k0:Grew w (w.alloc (.cells (opA ⟨⟨ds,dq⟩,⟨da,dn,dc⟩,kd,⟨it,is_⟩,⟨rt,rs⟩,tx,⟨ga,gn,gc⟩,st⟩) 62)):=(Grew.refl _).alloc _
 obtain⟨W,hW,hz⟩:∃W,(w.alloc (.cells (opA ⟨⟨ds,dq⟩,⟨da,dn,dc⟩,kd,⟨it,is_⟩,⟨rt,rs⟩,tx,⟨ga,gn,gc⟩,st⟩) 62))=W∧W.heap.size=w.heap.size+1:=⟨_,rfl,by simp⟩
 rw [hW] at hB k0
 have HW:=Lib.hid hW
 have HBK:=Lib.hid hB
 have b0:=cell_grown (w:=W) (by show w.heap.size<_;omega) (show W.cell? ⟨w.heap.size,0,none⟩=some (.int .i64 ds) from hB.cell' (i:=0) rfl)
 have b1:=cell_grown (w:=W) (by show w.heap.size<_;omega) (show W.cell? ⟨w.heap.size,1,none⟩=some (.int .i64 dq) from hB.cell' (i:=1) rfl)
 have b2:=cell_grown (w:=W) (by show w.heap.size<_;omega) (show W.cell? ⟨w.heap.size,2,none⟩=some (.slice da dn dc) from hB.cell' (i:=2) rfl)
 have b3:=cell_grown (w:=W) (by show w.heap.size<_;omega) (show W.cell? ⟨w.heap.size,3,none⟩=some (.int .i64 kd) from hB.cell' (i:=3) rfl)
 have b4:=cell_grown (w:=W) (by show w.heap.size<_;omega) (show W.cell? ⟨w.heap.size,4,none⟩=some (.int .i64 it) from hB.cell' (i:=4) rfl)
 have b5:=cell_grown (w:=W) (by show w.heap.size<_;omega) (show W.cell? ⟨w.heap.size,5,none⟩=some (.int .i64 is_) from hB.cell' (i:=5) rfl)
 have b6:=cell_grown (w:=W) (by show w.heap.size<_;omega) (show W.cell? ⟨w.heap.size,6,none⟩=some (.int .i64 rt) from hB.cell' (i:=6) rfl)
 have b7:=cell_grown (w:=W) (by show w.heap.size<_;omega) (show W.cell? ⟨w.heap.size,7,none⟩=some (.int .i64 rs) from hB.cell' (i:=7) rfl)
 have b8:=cell_grown (w:=W) (by show w.heap.size<_;omega) (show W.cell? ⟨w.heap.size,8,none⟩=some (.string tx) from hB.cell' (i:=8) rfl)
 have b9:=cell_grown (w:=W) (by show w.heap.size<_;omega) (show W.cell? ⟨w.heap.size,9,none⟩=some (.slice ga gn gc) from hB.cell' (i:=9) rfl)
 have b10:=cell_grown (w:=W) (by show w.heap.size<_;omega) (show W.cell? ⟨w.heap.size,10,none⟩=some (.int .i64 st) from hB.cell' (i:=10) rfl)
 have HD:=Lib.hid hD
 have HGG:=Lib.hid hG
 have K0:=Lib.hid k0
 have hmix:Tryz.prog.follows .mixedOrders=true:=by kernel_rfl
 obtain⟨c,hc⟩:∃c,opC ⟨⟨ds,dq⟩,⟨da,dn,dc⟩,kd,⟨it,is_⟩,⟨rt,rs⟩,tx,⟨ga,gn,gc⟩,st⟩ D G=c:=⟨_,rfl⟩
 rw [hc]
 have HCC:=Lib.hid hc
 obtain⟨tS,htS⟩:∃t,decide (isSite ds)=t:=⟨_,rfl⟩
 have HS:=Lib.hid (fun (w':World) (_:Grew W w')=>rsite8_grew htS w')
 have HV:=Lib.hid (fun (w':World) (hk:Grew W w')=>rvcheck_grew (hD.kept (k0.trans hk).kept) (by omega))
 have HGT:=Lib.hid (fun (w':World) (hk:Grew W w')=>rget_grew (hD.kept (k0.trans hk).kept) (by omega) ds)
 obtain⟨cv,hcv⟩:∃t,chkV 0 D=t:=⟨_,rfl⟩
 obtain⟨gv,hgv⟩:∃t,getV D ds=t:=⟨_,rfl⟩
 rw [hcv] at HV
 rw [hgv] at HGT
 have OK:Hid (opOk ⟨⟨ds,dq⟩,⟨da,dn,dc⟩,kd,⟨it,is_⟩,⟨rt,rs⟩,tx,⟨ga,gn,gc⟩,st⟩ D G↔((⟨ds,dq⟩:Dot).Ok∧cv=0∧gv=dq-1∧rightOk ⟨⟨ds,dq⟩,⟨da,dn,dc⟩,kd,⟨it,is_⟩,⟨rt,rs⟩,tx,⟨ga,gn,gc⟩,st⟩ G)):=Lib.hid (by rw [←hcv,←hgv];exact Iff.rfl)
 have BAD:Hid (¬opOk ⟨⟨ds,dq⟩,⟨da,dn,dc⟩,kd,⟨it,is_⟩,⟨rt,rs⟩,tx,⟨ga,gn,gc⟩,st⟩ D G→c=10):=Lib.hid (fun h=>by rw [←hc];unfold opC;rw [if_neg h])
 have GOOD:Hid (opOk ⟨⟨ds,dq⟩,⟨da,dn,dc⟩,kd,⟨it,is_⟩,⟨rt,rs⟩,tx,⟨ga,gn,gc⟩,st⟩ D G→c=0):=Lib.hid (fun h=>by rw [←hc];unfold opC;rw [if_pos h])
 clear hD hG hB k0 hW hz hc hcv hgv
 by_cases c0:tS=true
 case neg =>
  obtain rfl:c=10:=BAD.out (fun h=>c0 (htS ▸ decide_eq_true ⟨(OK.out.1 h).1.1,(OK.out.1 h).1.2.1⟩))
  clear HCC OK BAD GOOD
  obtain rfl:tS=false:=by simpa using c0
  clear c0 htS
  go_enter Tryz.func43,Tryz.ntmps43
  go_upto_region 1 with fail
  rw [HW.out]
  clear HW
  refine wp_region_quiet_grown (by assumption) (by kernel_rfl) ?_
  repeat (go_big_quiet_step (first
   | (go_at_call 80;exact grown_call HS.out _ _)
   | (go_at_call 51;exact grown_call HV.out _ _)
   | (go_at_call 81;exact grown_call HGT.out _ _)))
  refine wpQuiet_nil ?_
  intro _ hw2
  obtain⟨⟨nq,osq⟩,hw3⟩:=hw2
  subst hw3
  go_wp2_with fail
  go_ret
  exact⟨rfl,(K0.out.trans (Grew.grown _ _)).kept⟩
 subst c0
 by_cases c1:¬dq<1
 case neg =>
  obtain rfl:c=10:=BAD.out (fun h=>c1 (by have:=(OK.out.1 h).1.2.2.1;simp only at this;omega))
  clear HCC OK BAD GOOD
  have ec1:decide (dq<1)=true:=decide_eq_true (by omega)
  clear c1
  go_enter Tryz.func43,Tryz.ntmps43
  go_upto_region 1 with fail
  rw [HW.out]
  clear HW
  refine wp_region_quiet_grown (by assumption) (by kernel_rfl) ?_
  repeat (go_big_quiet_step (first
   | (go_at_call 80;exact grown_call HS.out _ _)
   | (go_at_call 51;exact grown_call HV.out _ _)
   | (go_at_call 81;exact grown_call HGT.out _ _)))
  refine wpQuiet_nil ?_
  intro _ hw2
  obtain⟨⟨nq,osq⟩,hw3⟩:=hw2
  subst hw3
  go_wp2_with fail
  go_ret
  exact⟨rfl,(K0.out.trans (Grew.grown _ _)).kept⟩
 have ec1:decide (dq<1)=false:=decide_eq_false c1
 by_cases c2:¬2147483647<dq
 case neg =>
  obtain rfl:c=10:=BAD.out (fun h=>c2 (by have:=(OK.out.1 h).1.2.2.2;simp only at this;omega))
  clear HCC OK BAD GOOD
  have ec2:decide (2147483647<dq)=true:=decide_eq_true (by omega)
  go_enter Tryz.func43,Tryz.ntmps43
  go_upto_region 1 with fail
  rw [HW.out]
  clear HW
  refine wp_region_quiet_grown (by assumption) (by kernel_rfl) ?_
  repeat (go_big_quiet_step (first
   | (go_at_call 80;exact grown_call HS.out _ _)
   | (go_at_call 51;exact grown_call HV.out _ _)
   | (go_at_call 81;exact grown_call HGT.out _ _)))
  refine wpQuiet_nil ?_
  intro _ hw2
  obtain⟨⟨nq,osq⟩,hw3⟩:=hw2
  subst hw3
  go_wp2_with fail
  go_ret
  exact⟨rfl,(K0.out.trans (Grew.grown _ _)).kept⟩
 have ec2:decide (2147483647<dq)=false:=decide_eq_false c2
 by_cases c3:cv=0
 case neg =>
  obtain rfl:c=10:=BAD.out (fun h=>c3 ((OK.out.1 h).2.1))
  clear HCC OK BAD GOOD
  have ec3:(cv == 0)=false:=beq_eq_false_iff_ne.2 c3
  have fc3:(cv != 0)=true:=by simpa using c3
  go_enter Tryz.func43,Tryz.ntmps43
  go_upto_region 1 with fail
  rw [HW.out]
  clear HW
  refine wp_region_quiet_grown (by assumption) (by kernel_rfl) ?_
  repeat (go_big_quiet_step (first
   | (go_at_call 80;exact grown_call HS.out _ _)
   | (go_at_call 51;exact grown_call HV.out _ _)
   | (go_at_call 81;exact grown_call HGT.out _ _)))
  refine wpQuiet_nil ?_
  intro _ hw2
  obtain⟨⟨nq,osq⟩,hw3⟩:=hw2
  subst hw3
  go_wp2_with fail
  go_ret
  exact⟨rfl,(K0.out.trans (Grew.grown _ _)).kept⟩
 subst c3
 obtain⟨d1,hd1⟩:∃d:Int,dq-1=d:=⟨_,rfl⟩
 have hw:IntKind.i64.wrap (dq-1)=d1:=by rw [IntKind.wrap_i64];omega
 by_cases c4:gv=d1
 case neg =>
  obtain rfl:c=10:=BAD.out (fun h=>c4 (hd1 ▸ (OK.out.1 h).2.2.1))
  clear HCC OK BAD GOOD
  have ec4:(gv == d1)=false:=beq_eq_false_iff_ne.2 c4
  have fc4:(gv != d1)=true:=by simpa using c4
  go_enter Tryz.func43,Tryz.ntmps43
  go_upto_region 1 with fail
  rw [HW.out]
  clear HW
  refine wp_region_quiet_grown (by assumption) (by kernel_rfl) ?_
  repeat (go_big_quiet_step (first
   | (go_at_call 80;exact grown_call HS.out _ _)
   | (go_at_call 51;exact grown_call HV.out _ _)
   | (go_at_call 81;exact grown_call HGT.out _ _)))
  refine wpQuiet_nil ?_
  intro _ hw2
  obtain⟨⟨nq,osq⟩,hw3⟩:=hw2
  subst hw3
  go_wp2_with fail
  go_ret
  exact⟨rfl,(K0.out.trans (Grew.grown _ _)).kept⟩
 subst c4
 have hdok:(⟨ds,dq⟩:Dot).Ok:=by
  have h:=of_decide_eq_true htS
  exact⟨h.1,h.2,by show 1≤dq;omega,by show dq≤2147483647;omega⟩
 have YES:Hid (rightOk ⟨⟨ds,dq⟩,⟨da,dn,dc⟩,kd,⟨it,is_⟩,⟨rt,rs⟩,tx,⟨ga,gn,gc⟩,st⟩ G→c=0):=Lib.hid (fun h=>GOOD.out (OK.out.2 ⟨hdok,rfl,hd1.symm,h⟩))
 have NO:Hid (¬rightOk ⟨⟨ds,dq⟩,⟨da,dn,dc⟩,kd,⟨it,is_⟩,⟨rt,rs⟩,tx,⟨ga,gn,gc⟩,st⟩ G→c=10):=Lib.hid (fun h=>BAD.out (fun e=>h (OK.out.1 e).2.2.2))
 have HI:Hid (∀w',Calls Tryz.prog 82 #[.agg #[.int .i64 ds,.int .i64 dq,.slice da dn dc,.int .i64 kd,.int .i64 it,.int .i64 is_,.int .i64 rt,.int .i64 rs,.string tx,.slice ga gn gc,.int .i64 st]] w' fun e w''=>e=.returned (.bool (decide (insOk ⟨⟨ds,dq⟩,⟨da,dn,dc⟩,kd,⟨it,is_⟩,⟨rt,rs⟩,tx,⟨ga,gn,gc⟩,st⟩)))∧Kept (fun _=>False) w' w''):=Lib.hid (fun w'=>rins_core ds dq kd it is_ rt rs st da ga dn dc gn gc tx htx)
 clear HCC OK BAD GOOD hdok hd1 htS htx
 go_enter Tryz.func43,Tryz.ntmps43
 go_upto_region 1 with fail
 rw [HW.out]
 clear HW
 refine wp_region_quiet_grown (by assumption) (by kernel_rfl) ?_
 repeat (go_big_quiet_step (first
  | (go_at_call 80;exact grown_call HS.out _ _)
  | (go_at_call 51;exact grown_call HV.out _ _)
  | (go_at_call 81;exact grown_call HGT.out _ _)))
 refine wpQuiet_nil ?_
 intro _ hw2
 obtain⟨⟨nq,osq⟩,hw3⟩:=hw2
 subst hw3
 have K2:=Lib.hid (K0.out.trans (Grew.grown nq osq)).kept
 have a0:=b0 nq osq
 have a1:=b1 nq osq
 have a2:=b2 nq osq
 have a3:=b3 nq osq
 have a4:=b4 nq osq
 have a5:=b5 nq osq
 have a6:=b6 nq osq
 have a7:=b7 nq osq
 have a8:=b8 nq osq
 have a9:=b9 nq osq
 have a10:=b10 nq osq
 clear HS HV HGT hw ec1 ec2 b0 b1 b2 b3 b4 b5 b6 b7 b8 b9 b10
 generalize grow (W.drewN nq) osq=W2 at *
 obtain⟨bb,hbb⟩:∃t,decide (it=0∧is_=0∧rt=0∧rs=0∧tx=⟨#[]⟩)=t:=⟨_,rfl⟩
 have HBR:=Lib.hid hbb
 clear hbb hmix
 go_upto_region 3 with fail
 go_cut [3] (fun v wx=>v=.bool bb∧wx=W2)
 case first =>
  clear YES NO HI a0 a1 a2 a3 a9 a10
  by_cases z1:it=0
  ·subst z1
   by_cases z2:is_=0
   ·subst z2
    by_cases z3:rt=0
    ·subst z3
     by_cases z4:rs=0
     ·subst z4
      by_cases z5:tx=⟨#[]⟩
      ·subst z5
       obtain rfl:bb=true:=HBR.out.symm.trans (by decide)
       clear HBR
       go_upto_region 4 with fail
       go_meet
       case rel=>exact⟨rfl,rfl⟩
      ·obtain rfl:bb=false:=HBR.out.symm.trans (decide_eq_false (fun h=>z5 h.2.2.2.2))
       have y1:¬tx.toList=[]:=fun h=>z5 (text_nil h)
       have y2:tx.toList.isEmpty=false:=by simpa using y1
       clear HBR z5
       go_upto_region 4 with fail
       go_meet
       case rel=>exact⟨rfl,rfl⟩
     ·obtain rfl:bb=false:=HBR.out.symm.trans (decide_eq_false (fun h=>z4 h.2.2.2.1))
      have y1:(rs == 0)=false:=beq_eq_false_iff_ne.2 z4
      have y2:((0:Int) == rs)=false:=beq_eq_false_iff_ne.2 (fun h=>z4 h.symm)
      clear HBR z4
      go_upto_region 4 with fail
      go_meet
      case rel=>exact⟨rfl,rfl⟩
    ·obtain rfl:bb=false:=HBR.out.symm.trans (decide_eq_false (fun h=>z3 h.2.2.1))
     have y1:(rt == 0)=false:=beq_eq_false_iff_ne.2 z3
     have y2:((0:Int) == rt)=false:=beq_eq_false_iff_ne.2 (fun h=>z3 h.symm)
     clear HBR z3
     go_upto_region 4 with fail
     go_meet
     case rel=>exact⟨rfl,rfl⟩
   ·obtain rfl:bb=false:=HBR.out.symm.trans (decide_eq_false (fun h=>z2 h.2.1))
    have y1:(is_ == 0)=false:=beq_eq_false_iff_ne.2 z2
    have y2:((0:Int) == is_)=false:=beq_eq_false_iff_ne.2 (fun h=>z2 h.symm)
    clear HBR z2
    go_upto_region 4 with fail
    go_meet
    case rel=>exact⟨rfl,rfl⟩
  ·obtain rfl:bb=false:=HBR.out.symm.trans (decide_eq_false (fun h=>z1 h.1))
   have y1:(it == 0)=false:=beq_eq_false_iff_ne.2 z1
   have y2:((0:Int) == it)=false:=beq_eq_false_iff_ne.2 (fun h=>z1 h.symm)
   clear HBR z1
   go_upto_region 4 with fail
   go_meet
   case rel=>exact⟨rfl,rfl⟩
 case rest =>
  obtain⟨rfl,hwx⟩:=hcut
  replace hwx:=hwx.symm
  subst hwx
  have BR:Hid (bb=true↔(it=0∧is_=0∧rt=0∧rs=0∧tx=⟨#[]⟩)):=Lib.hid (by rw [←HBR.out];exact decide_eq_true_iff)
  have HRC:=Lib.hid (rcheck_any (HGG.out.kept K2.out) hin (by omega))
  clear HBR HGG HD hin hDl hGl
  by_cases k1:kd=1
  case pos =>
   subst k1
   by_cases h:insOk ⟨⟨ds,dq⟩,⟨da,dn,dc⟩,1,⟨it,is_⟩,⟨rt,rs⟩,tx,⟨ga,gn,gc⟩,st⟩
   ·obtain rfl:c=0:=YES.out (.inl ⟨rfl,h⟩)
    rw [decide_eq_true h] at HI
    clear YES NO BR HRC h
    go_wp2_with (first | (go_at_call 82;refine (HI.out _).mono ?_;rintro r w9 ⟨rfl,hk9⟩))
    go_ret
    exact⟨rfl,K2.out.trans hk9 (fun _ _ h=>h)⟩
   ·obtain rfl:c=10:=NO.out (fun e=>by
     rcases e with ⟨e,e2⟩|⟨e,e2⟩|⟨e,e2⟩|⟨e,e2⟩
     ·exact h e2
     ·have e3:(1:Int)=2:=e;omega
     ·have e3:(1:Int)=3:=e;omega
     ·have e3:(1:Int)=4:=e;omega)
    rw [decide_eq_false h] at HI
    clear YES NO BR HRC h
    go_wp2_with (first | (go_at_call 82;refine (HI.out _).mono ?_;rintro r w9 ⟨rfl,hk9⟩))
    go_ret
    exact⟨rfl,K2.out.trans hk9 (fun _ _ h=>h)⟩
  have n1:(kd == 1)=false:=beq_eq_false_iff_ne.2 k1
  by_cases k2:kd=2
  case pos =>
   subst k2
   clear n1 k1 HI
   by_cases q0:bb=true
   case neg =>
    obtain rfl:c=10:=NO.out (fun e=>by
     rcases e with ⟨e,e2⟩|⟨e,e2⟩|⟨e,e2⟩|⟨e,e2⟩
     ·have e3:(2:Int)=1:=e;omega
     ·exact q0 (BR.out.2 ⟨e2.1.1,e2.1.2.1,e2.1.2.2.1,e2.1.2.2.2.1,e2.1.2.2.2.2.1⟩)
     ·have e3:(2:Int)=3:=e;omega
     ·have e3:(2:Int)=4:=e;omega)
    clear YES NO BR
    obtain rfl:bb=false:=by simpa using q0
    clear q0
    clear HRC
    go_wp2_with fail
    go_ret
    exact⟨rfl,K2.out⟩
   subst q0
   by_cases q1:st=0
   case neg =>
    obtain rfl:c=10:=NO.out (fun e=>by
     rcases e with ⟨e,e2⟩|⟨e,e2⟩|⟨e,e2⟩|⟨e,e2⟩
     ·have e3:(2:Int)=1:=e;omega
     ·exact q1 (e2.1.2.2.2.2.2)
     ·have e3:(2:Int)=3:=e;omega
     ·have e3:(2:Int)=4:=e;omega)
    clear YES NO BR
    have gq1:(st == 0)=false:=beq_eq_false_iff_ne.2 q1
    clear HRC
    go_wp2_with fail
    go_ret
    exact⟨rfl,K2.out⟩
   subst q1
   by_cases q2:0<gn
   case neg =>
    obtain rfl:c=10:=NO.out (fun e=>by
     rcases e with ⟨e,e2⟩|⟨e,e2⟩|⟨e,e2⟩|⟨e,e2⟩
     ·have e3:(2:Int)=1:=e;omega
     ·exact q2 (e2.2.1)
     ·have e3:(2:Int)=3:=e;omega
     ·have e3:(2:Int)=4:=e;omega)
    clear YES NO BR
    have gq2:¬(1:Int)≤gn:=by omega
    have hq2:decide ((1:Int)≤gn)=false:=decide_eq_false (by omega)
    clear HRC q2
    go_wp2_with fail
    go_ret
    exact⟨rfl,K2.out⟩
   have gq2:(1:Int)≤gn:=by omega
   have hq2:decide ((1:Int)≤gn)=true:=decide_eq_true (by omega)
   by_cases q3:gn≤1024
   case neg =>
    obtain rfl:c=10:=NO.out (fun e=>by
     rcases e with ⟨e,e2⟩|⟨e,e2⟩|⟨e,e2⟩|⟨e,e2⟩
     ·have e3:(2:Int)=1:=e;omega
     ·exact q3 (e2.2.2.1)
     ·have e3:(2:Int)=3:=e;omega
     ·have e3:(2:Int)=4:=e;omega)
    clear YES NO BR
    have gq3:¬(gn:Int)≤1024:=by omega
    have hq3:decide ((gn:Int)≤1024)=false:=decide_eq_false (by omega)
    clear HRC q3
    go_wp2_with fail
    go_ret
    exact⟨rfl,K2.out⟩
   have gq3:(gn:Int)≤1024:=by omega
   have hq3:decide ((gn:Int)≤1024)=true:=decide_eq_true (by omega)
   by_cases q4:St.Good G
   case neg =>
    obtain rfl:c=10:=NO.out (fun e=>by
     rcases e with ⟨e,e2⟩|⟨e,e2⟩|⟨e,e2⟩|⟨e,e2⟩
     ·have e3:(2:Int)=1:=e;omega
     ·exact q4 (e2.2.2.2)
     ·have e3:(2:Int)=3:=e;omega
     ·have e3:(2:Int)=4:=e;omega)
    clear YES NO BR
    have HRG:Hid (Calls Tryz.prog 83 #[.slice ga gn gc] W2 fun e w'=>∃cc:Int,cc≠0∧e=.returned (.int .i64 cc)∧Kept (fun _=>False) W2 w'):=Lib.hid (HRC.out.mono (fun e w' h=>by obtain⟨cc,h1,h2,h3⟩:=h;exact⟨cc,fun h0=>q4 (h2.good.2 h0),h1,h3⟩))
    clear HRC q4 q2 q3
    go_wp2_with (first | (go_at_call 83;refine HRG.out.mono ?_;rintro r w9 ⟨cc,hcc,rfl,hk9⟩;have ecc:(cc == 0)=false:=beq_eq_false_iff_ne.2 hcc;have dcc:¬cc=0:=hcc;clear hcc))
    go_ret
    exact⟨rfl,K2.out.trans hk9 (fun _ _ h=>h)⟩
   have HRG:Hid (Calls Tryz.prog 83 #[.slice ga gn gc] W2 fun e w'=>e=.returned (.int .i64 0)∧Kept (fun _=>False) W2 w'):=Lib.hid (HRC.out.mono (fun e w' h=>by obtain⟨cc,h1,h2,h3⟩:=h;rw [h2.good.1 q4] at h1;exact⟨h1,h3⟩))
   clear HRC
   obtain⟨rfl,rfl,rfl,rfl,rfl⟩:=BR.out.1 rfl
   obtain rfl:c=0:=YES.out (.inr (.inl ⟨rfl,⟨rfl,rfl,rfl,rfl,rfl,rfl⟩,q2,q3,q4⟩))
   clear YES NO BR q2 q3 q4
   go_wp2_with (first | (go_at_call 83;refine HRG.out.mono ?_;rintro r w9 ⟨rfl,hk9⟩))
   go_ret
   exact⟨rfl,K2.out.trans hk9 (fun _ _ h=>h)⟩
  have n2:(kd == 2)=false:=beq_eq_false_iff_ne.2 k2
  clear HRC
  by_cases k3:kd=3
  case pos =>
   subst k3
   clear n1 n2 k1 k2 HI
   obtain⟨tt,htt⟩:∃t,decide (isSite st)=t:=⟨_,rfl⟩
   have HST:=Lib.hid (fun (w':World)=>(rsite8_pure st w').mono (R':=fun e w''=>e=.returned (.bool tt)∧w''=w') (fun _ _ h=>⟨htt ▸ h.1,h.2⟩))
   by_cases q0:bb=true
   case neg =>
    obtain rfl:c=10:=NO.out (fun e=>by
     rcases e with ⟨e,e2⟩|⟨e,e2⟩|⟨e,e2⟩|⟨e,e2⟩
     ·have e3:(3:Int)=1:=e;omega
     ·have e3:(3:Int)=2:=e;omega
     ·exact q0 (BR.out.2 ⟨e2.2.1,e2.2.2.1,e2.2.2.2.1,e2.2.2.2.2.1,e2.2.2.2.2.2.1⟩)
     ·have e3:(3:Int)=4:=e;omega)
    clear YES NO BR
    obtain rfl:bb=false:=by simpa using q0
    clear q0
    go_wp2_with fail
    go_ret
    exact⟨rfl,K2.out⟩
   subst q0
   by_cases q1:gn=0
   case neg =>
    obtain rfl:c=10:=NO.out (fun e=>by
     rcases e with ⟨e,e2⟩|⟨e,e2⟩|⟨e,e2⟩|⟨e,e2⟩
     ·have e3:(3:Int)=1:=e;omega
     ·have e3:(3:Int)=2:=e;omega
     ·exact q1 (e2.1)
     ·have e3:(3:Int)=4:=e;omega)
    clear YES NO BR
    have gq1:((gn:Int) == 0)=false:=beq_eq_false_iff_ne.2 (by omega)
    have hq1:¬(gn:Int)=0:=by omega
    clear q1
    go_wp2_with fail
    go_ret
    exact⟨rfl,K2.out⟩
   subst q1
   by_cases q2:tt=true
   case neg =>
    obtain rfl:c=10:=NO.out (fun e=>by
     rcases e with ⟨e,e2⟩|⟨e,e2⟩|⟨e,e2⟩|⟨e,e2⟩
     ·have e3:(3:Int)=1:=e;omega
     ·have e3:(3:Int)=2:=e;omega
     ·exact q2 (htt ▸ decide_eq_true ⟨e2.2.2.2.2.2.2.1,e2.2.2.2.2.2.2.2⟩)
     ·have e3:(3:Int)=4:=e;omega)
    clear YES NO BR
    obtain rfl:tt=false:=by simpa using q2
    clear q2
    go_wp2_with (first | (go_at_call 80;refine (HST.out _).mono ?_;rintro r w9 ⟨rfl,rfl⟩))
    go_ret
    exact⟨rfl,K2.out⟩
   subst q2
   have hst:=of_decide_eq_true htt
   obtain⟨rfl,rfl,rfl,rfl,rfl⟩:=BR.out.1 rfl
   obtain rfl:c=0:=YES.out (.inr (.inr (.inl ⟨rfl,rfl,rfl,rfl,rfl,rfl,rfl,hst.1,hst.2⟩)))
   clear YES NO BR hst htt
   go_wp2_with (first | (go_at_call 80;refine (HST.out _).mono ?_;rintro r w9 ⟨rfl,rfl⟩))
   go_ret
   exact⟨rfl,K2.out⟩
  have n3:(kd == 3)=false:=beq_eq_false_iff_ne.2 k3
  by_cases k4:kd=4
  case pos =>
   subst k4
   clear n1 n2 n3 k1 k2 k3 HI
   by_cases q0:bb=true
   case neg =>
    obtain rfl:c=10:=NO.out (fun e=>by
     rcases e with ⟨e,e2⟩|⟨e,e2⟩|⟨e,e2⟩|⟨e,e2⟩
     ·have e3:(4:Int)=1:=e;omega
     ·have e3:(4:Int)=2:=e;omega
     ·have e3:(4:Int)=3:=e;omega
     ·exact q0 (BR.out.2 ⟨e2.2.1,e2.2.2.1,e2.2.2.2.1,e2.2.2.2.2.1,e2.2.2.2.2.2.1⟩))
    clear YES NO BR
    obtain rfl:bb=false:=by simpa using q0
    clear q0
    go_wp2_with fail
    go_ret
    exact⟨rfl,K2.out⟩
   subst q0
   by_cases q1:gn=0
   case neg =>
    obtain rfl:c=10:=NO.out (fun e=>by
     rcases e with ⟨e,e2⟩|⟨e,e2⟩|⟨e,e2⟩|⟨e,e2⟩
     ·have e3:(4:Int)=1:=e;omega
     ·have e3:(4:Int)=2:=e;omega
     ·have e3:(4:Int)=3:=e;omega
     ·exact q1 (e2.1))
    clear YES NO BR
    have gq1:((gn:Int) == 0)=false:=beq_eq_false_iff_ne.2 (by omega)
    have hq1:¬(gn:Int)=0:=by omega
    clear q1
    go_wp2_with fail
    go_ret
    exact⟨rfl,K2.out⟩
   subst q1
   by_cases q2:st=0
   case neg =>
    obtain rfl:c=10:=NO.out (fun e=>by
     rcases e with ⟨e,e2⟩|⟨e,e2⟩|⟨e,e2⟩|⟨e,e2⟩
     ·have e3:(4:Int)=1:=e;omega
     ·have e3:(4:Int)=2:=e;omega
     ·have e3:(4:Int)=3:=e;omega
     ·exact q2 (e2.2.2.2.2.2.2))
    clear YES NO BR
    have gq2:(st == 0)=false:=beq_eq_false_iff_ne.2 q2
    go_wp2_with fail
    go_ret
    exact⟨rfl,K2.out⟩
   subst q2
   obtain⟨rfl,rfl,rfl,rfl,rfl⟩:=BR.out.1 rfl
   obtain rfl:c=0:=YES.out (.inr (.inr (.inr ⟨rfl,rfl,rfl,rfl,rfl,rfl,rfl,rfl⟩)))
   clear YES NO BR
   go_wp2_with fail
   go_ret
   exact⟨rfl,K2.out⟩
  have n4:(kd == 4)=false:=beq_eq_false_iff_ne.2 k4
  obtain rfl:c=10:=NO.out (fun e=>by
   rcases e with ⟨e,e2⟩|⟨e,e2⟩|⟨e,e2⟩|⟨e,e2⟩
   ·exact k1 e
   ·exact k2 e
   ·exact k3 e
   ·exact k4 e)
  clear YES NO BR HI
  go_wp2_with fail
  go_ret
  exact⟨rfl,K2.out⟩
theorem rcheck8_any {w:World}(x:OpV){D:List Dot}{G:List Run}(hD:SlAt dotE w x.deps.v D) (hG:SlAt runE w x.gone.v G) (hin:∀r∈G,r.In) (hDl:D.length≤1000000) (hGl:G.length≤1000000) (htx:x.text.size≤1000000) :
  Calls Tryz.prog 43 #[.agg (opA x)] w fun e w'=>e=.returned (.int .i64 (opC x D G))∧Kept (fun _=>False) w w':=by
 obtain⟨⟨ds,dq⟩,⟨da,dn,dc⟩,kd,⟨it,is_⟩,⟨rt,rs⟩,tx,⟨ga,gn,gc⟩,st⟩:=x
 exact rcheck8_core ds dq kd it is_ rt rs st da ga dn dc gn gc tx hD hG hin hDl hGl htx
end Go.Proofs.YtjohljmpcblpjaaGreatDoor
