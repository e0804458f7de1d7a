/- op.insert, remove, leave: is an operation right? -/
import Derived.Test.YtjohljmpcblpjaaGreatDoorM7
set_option maxRecDepth 100000
set_option maxHeartbeats 2000000
namespace Go.Proofs.YtjohljmpcblpjaaGreatDoor
open Go.RowKit Go.Proofs.YtjohljmpcblpjaaGreatDoor.St Go.Proofs.YtjohljmpcblpjaaGreatDoor.Gl
def insOk (x:OpV):Prop:=x.gone.n=0∧x.site=0∧0<countR x.text∧countR x.text≤1024∧badFrom x.text 0<0∧x.id.s=x.dot.site∧x.id.after ((countR x.text:Int) - 1)≠⟨0,0⟩∧(x.ref=⟨0,0⟩∨x.ref.after 0=x.ref)∧x.ref.t<x.id.t
instance (x:OpV):Decidable (insOk x):=by unfold insOk;infer_instance
def bareOk (x:OpV):Prop:=x.id.t=0∧x.id.s=0∧x.ref.t=0∧x.ref.s=0∧x.text=⟨#[]⟩∧x.site=0
instance (x:OpV):Decidable (bareOk x):=by unfold bareOk;infer_instance
theorem text_nil {s:ByteArray}(h:s.toList=[]):s=⟨#[]⟩:=by
 rw [ByteArray.toList_eq] at h
 obtain⟨⟨l⟩⟩:=s
 have h:l=[]:=h
 rw [h]
theorem right_leave {w:World}(ds dq kd it is_ rt rs st:Int) (da ga:Option Addr) (dn dc gn gc:Nat) (tx:ByteArray) :
  Calls Tryz.prog 233 #[.agg #[],.agg (opA ⟨⟨ds,dq⟩,⟨da,dn,dc⟩,kd,⟨it,is_⟩,⟨rt,rs⟩,tx,⟨ga,gn,gc⟩,st⟩)] w fun e w'=>e=.returned (.bool (decide (gn=0∧bareOk ⟨⟨ds,dq⟩,⟨da,dn,dc⟩,kd,⟨it,is_⟩,⟨rt,rs⟩,tx,⟨ga,gn,gc⟩,st⟩)))∧Kept (fun _=>False) w w':=by
 have hB:=Blk.new (w.alloc (.cells #[] 235)) 62 (opA ⟨⟨ds,dq⟩,⟨da,dn,dc⟩,kd,⟨it,is_⟩,⟨rt,rs⟩,tx,⟨ga,gn,gc⟩,st⟩)
 have hS:=(Blk.new w 235 #[]).alloc (.cells (opA ⟨⟨ds,dq⟩,⟨da,dn,dc⟩,kd,⟨it,is_⟩,⟨rt,rs⟩,tx,⟨ga,gn,gc⟩,st⟩) 62)
 have k0:Kept (fun _=>False) w ((w.alloc (.cells #[] 235)).alloc (.cells (opA ⟨⟨ds,dq⟩,⟨da,dn,dc⟩,kd,⟨it,is_⟩,⟨rt,rs⟩,tx,⟨ga,gn,gc⟩,st⟩) 62)):=((Kept.refl _ _).alloc _).alloc _
 rw [World.size_alloc] at hB
 obtain⟨W,hW⟩:∃W,((w.alloc (.cells #[] 235)).alloc (.cells (opA ⟨⟨ds,dq⟩,⟨da,dn,dc⟩,kd,⟨it,is_⟩,⟨rt,rs⟩,tx,⟨ga,gn,gc⟩,st⟩) 62))=W:=⟨_,rfl⟩
 rw [hW] at hS hB k0
 have HW:=Lib.hid hW
 obtain⟨b,hb⟩:∃b,(decide (gn=0∧bareOk ⟨⟨ds,dq⟩,⟨da,dn,dc⟩,kd,⟨it,is_⟩,⟨rt,rs⟩,tx,⟨ga,gn,gc⟩,st⟩))=b:=⟨_,rfl⟩
 rw [hb]
 have HBB:=Lib.hid hb
 have HOP:Hid (#[.int .i64 ds,.int .i64 dq,.slice da dn dc,.int .i64 kd,.int .i64 it,.int .i64 is_,.int .i64 rt,.int .i64 rs,.string tx,.slice ga gn gc,.int .i64 st]=opA ⟨⟨ds,dq⟩,⟨da,dn,dc⟩,kd,⟨it,is_⟩,⟨rt,rs⟩,tx,⟨ga,gn,gc⟩,st⟩):=Lib.hid rfl
 clear hb
 have b0:W.cell? ⟨w.heap.size+1,0,none⟩=some (.int .i64 ds):=hB.cell' (i:=0) rfl
 have b1:W.cell? ⟨w.heap.size+1,1,none⟩=some (.int .i64 dq):=hB.cell' (i:=1) rfl
 have b2:W.cell? ⟨w.heap.size+1,2,none⟩=some (.slice da dn dc):=hB.cell' (i:=2) rfl
 have b3:W.cell? ⟨w.heap.size+1,3,none⟩=some (.int .i64 kd):=hB.cell' (i:=3) rfl
 have b4:W.cell? ⟨w.heap.size+1,4,none⟩=some (.int .i64 it):=hB.cell' (i:=4) rfl
 have b5:W.cell? ⟨w.heap.size+1,5,none⟩=some (.int .i64 is_):=hB.cell' (i:=5) rfl
 have b6:W.cell? ⟨w.heap.size+1,6,none⟩=some (.int .i64 rt):=hB.cell' (i:=6) rfl
 have b7:W.cell? ⟨w.heap.size+1,7,none⟩=some (.int .i64 rs):=hB.cell' (i:=7) rfl
 have b8:W.cell? ⟨w.heap.size+1,8,none⟩=some (.string tx):=hB.cell' (i:=8) rfl
 have b9:W.cell? ⟨w.heap.size+1,9,none⟩=some (.slice ga gn gc):=hB.cell' (i:=9) rfl
 have b10:W.cell? ⟨w.heap.size+1,10,none⟩=some (.int .i64 st):=hB.cell' (i:=10) rfl
 have K0:=Lib.hid k0
 clear hB hS k0 hW
 by_cases c0:gn=0
 case neg =>
  obtain rfl:b=false:=HBB.out.symm.trans (decide_eq_false (fun h=>c0 (h.1)))
  have ec0:((gn:Int) == 0)=false:=beq_eq_false_iff_ne.2 (by omega)
  clear c0 HBB
  go_enter Tryz.func233,Tryz.ntmps233
  go_upto_region 1 with fail
  rw [HW.out]
  have KK:=Lib.hid (Kept.refl (fun _=>False) W)
  clear HW
  go_wp2_with (first
   | (go_at_call 219;rw [HOP.out];refine (rest_any _).mono ?_;rintro r w2 ⟨rfl,hg⟩;have hk:=hg.kept;have KK:=Lib.hid (KK.out.trans hk (fun _ _ h=>h));have b0:=hk.cell b0;have b1:=hk.cell b1;have b2:=hk.cell b2;have b3:=hk.cell b3;have b4:=hk.cell b4;have b5:=hk.cell b5;have b6:=hk.cell b6;have b7:=hk.cell b7;have b8:=hk.cell b8;have b9:=hk.cell b9;have b10:=hk.cell b10))
  go_ret
  exact⟨rfl,K0.out.trans KK.out (fun _ _ h=>h)⟩
 subst c0
 by_cases c1:it=0
 case neg =>
  obtain rfl:b=false:=HBB.out.symm.trans (decide_eq_false (fun h=>c1 (h.2.1)))
  have ec1:(it == 0)=false:=beq_eq_false_iff_ne.2 c1
  clear c1 HBB
  go_enter Tryz.func233,Tryz.ntmps233
  go_upto_region 1 with fail
  rw [HW.out]
  have KK:=Lib.hid (Kept.refl (fun _=>False) W)
  clear HW
  go_wp2_with (first
   | (go_at_call 219;rw [HOP.out];refine (rest_any _).mono ?_;rintro r w2 ⟨rfl,hg⟩;have hk:=hg.kept;have KK:=Lib.hid (KK.out.trans hk (fun _ _ h=>h));have b0:=hk.cell b0;have b1:=hk.cell b1;have b2:=hk.cell b2;have b3:=hk.cell b3;have b4:=hk.cell b4;have b5:=hk.cell b5;have b6:=hk.cell b6;have b7:=hk.cell b7;have b8:=hk.cell b8;have b9:=hk.cell b9;have b10:=hk.cell b10))
  go_ret
  exact⟨rfl,K0.out.trans KK.out (fun _ _ h=>h)⟩
 subst c1
 by_cases c2:is_=0
 case neg =>
  obtain rfl:b=false:=HBB.out.symm.trans (decide_eq_false (fun h=>c2 (h.2.2.1)))
  have ec2:(is_ == 0)=false:=beq_eq_false_iff_ne.2 c2
  clear c2 HBB
  go_enter Tryz.func233,Tryz.ntmps233
  go_upto_region 1 with fail
  rw [HW.out]
  have KK:=Lib.hid (Kept.refl (fun _=>False) W)
  clear HW
  go_wp2_with (first
   | (go_at_call 219;rw [HOP.out];refine (rest_any _).mono ?_;rintro r w2 ⟨rfl,hg⟩;have hk:=hg.kept;have KK:=Lib.hid (KK.out.trans hk (fun _ _ h=>h));have b0:=hk.cell b0;have b1:=hk.cell b1;have b2:=hk.cell b2;have b3:=hk.cell b3;have b4:=hk.cell b4;have b5:=hk.cell b5;have b6:=hk.cell b6;have b7:=hk.cell b7;have b8:=hk.cell b8;have b9:=hk.cell b9;have b10:=hk.cell b10))
  go_ret
  exact⟨rfl,K0.out.trans KK.out (fun _ _ h=>h)⟩
 subst c2
 by_cases c3:rt=0
 case neg =>
  obtain rfl:b=false:=HBB.out.symm.trans (decide_eq_false (fun h=>c3 (h.2.2.2.1)))
  have ec3:(rt == 0)=false:=beq_eq_false_iff_ne.2 c3
  clear c3 HBB
  go_enter Tryz.func233,Tryz.ntmps233
  go_upto_region 1 with fail
  rw [HW.out]
  have KK:=Lib.hid (Kept.refl (fun _=>False) W)
  clear HW
  go_wp2_with (first
   | (go_at_call 219;rw [HOP.out];refine (rest_any _).mono ?_;rintro r w2 ⟨rfl,hg⟩;have hk:=hg.kept;have KK:=Lib.hid (KK.out.trans hk (fun _ _ h=>h));have b0:=hk.cell b0;have b1:=hk.cell b1;have b2:=hk.cell b2;have b3:=hk.cell b3;have b4:=hk.cell b4;have b5:=hk.cell b5;have b6:=hk.cell b6;have b7:=hk.cell b7;have b8:=hk.cell b8;have b9:=hk.cell b9;have b10:=hk.cell b10))
  go_ret
  exact⟨rfl,K0.out.trans KK.out (fun _ _ h=>h)⟩
 subst c3
 by_cases c4:rs=0
 case neg =>
  obtain rfl:b=false:=HBB.out.symm.trans (decide_eq_false (fun h=>c4 (h.2.2.2.2.1)))
  have ec4:(rs == 0)=false:=beq_eq_false_iff_ne.2 c4
  clear c4 HBB
  go_enter Tryz.func233,Tryz.ntmps233
  go_upto_region 1 with fail
  rw [HW.out]
  have KK:=Lib.hid (Kept.refl (fun _=>False) W)
  clear HW
  go_wp2_with (first
   | (go_at_call 219;rw [HOP.out];refine (rest_any _).mono ?_;rintro r w2 ⟨rfl,hg⟩;have hk:=hg.kept;have KK:=Lib.hid (KK.out.trans hk (fun _ _ h=>h));have b0:=hk.cell b0;have b1:=hk.cell b1;have b2:=hk.cell b2;have b3:=hk.cell b3;have b4:=hk.cell b4;have b5:=hk.cell b5;have b6:=hk.cell b6;have b7:=hk.cell b7;have b8:=hk.cell b8;have b9:=hk.cell b9;have b10:=hk.cell b10))
  go_ret
  exact⟨rfl,K0.out.trans KK.out (fun _ _ h=>h)⟩
 subst c4
 by_cases c5:tx=⟨#[]⟩
 case neg =>
  obtain rfl:b=false:=HBB.out.symm.trans (decide_eq_false (fun h=>c5 (h.2.2.2.2.2.1)))
  have ec5:¬tx.toList=[]:=fun h=>c5 (text_nil h)
  have gc5:tx.toList.isEmpty=false:=by simpa using ec5
  clear c5 HBB
  go_enter Tryz.func233,Tryz.ntmps233
  go_upto_region 1 with fail
  rw [HW.out]
  have KK:=Lib.hid (Kept.refl (fun _=>False) W)
  clear HW
  go_wp2_with (first
   | (go_at_call 219;rw [HOP.out];refine (rest_any _).mono ?_;rintro r w2 ⟨rfl,hg⟩;have hk:=hg.kept;have KK:=Lib.hid (KK.out.trans hk (fun _ _ h=>h));have b0:=hk.cell b0;have b1:=hk.cell b1;have b2:=hk.cell b2;have b3:=hk.cell b3;have b4:=hk.cell b4;have b5:=hk.cell b5;have b6:=hk.cell b6;have b7:=hk.cell b7;have b8:=hk.cell b8;have b9:=hk.cell b9;have b10:=hk.cell b10))
  go_ret
  exact⟨rfl,K0.out.trans KK.out (fun _ _ h=>h)⟩
 subst c5
 by_cases c6:st=0
 case neg =>
  obtain rfl:b=false:=HBB.out.symm.trans (decide_eq_false (fun h=>c6 (h.2.2.2.2.2.2)))
  have ec6:(st == 0)=false:=beq_eq_false_iff_ne.2 c6
  clear c6 HBB
  go_enter Tryz.func233,Tryz.ntmps233
  go_upto_region 1 with fail
  rw [HW.out]
  have KK:=Lib.hid (Kept.refl (fun _=>False) W)
  clear HW
  go_wp2_with (first
   | (go_at_call 219;rw [HOP.out];refine (rest_any _).mono ?_;rintro r w2 ⟨rfl,hg⟩;have hk:=hg.kept;have KK:=Lib.hid (KK.out.trans hk (fun _ _ h=>h));have b0:=hk.cell b0;have b1:=hk.cell b1;have b2:=hk.cell b2;have b3:=hk.cell b3;have b4:=hk.cell b4;have b5:=hk.cell b5;have b6:=hk.cell b6;have b7:=hk.cell b7;have b8:=hk.cell b8;have b9:=hk.cell b9;have b10:=hk.cell b10))
  go_ret
  exact⟨rfl,K0.out.trans KK.out (fun _ _ h=>h)⟩
 subst c6
 obtain rfl:b=true:=HBB.out.symm.trans (decide_eq_true ⟨rfl,rfl,rfl,rfl,rfl,rfl,rfl⟩)
 go_enter Tryz.func233,Tryz.ntmps233
 go_upto_region 1 with fail
 rw [HW.out]
 have KK:=Lib.hid (Kept.refl (fun _=>False) W)
 clear HW
 go_wp2_with (first
  | (go_at_call 219;rw [HOP.out];refine (rest_any _).mono ?_;rintro r w2 ⟨rfl,hg⟩;have hk:=hg.kept;have KK:=Lib.hid (KK.out.trans hk (fun _ _ h=>h));have b0:=hk.cell b0;have b1:=hk.cell b1;have b2:=hk.cell b2;have b3:=hk.cell b3;have b4:=hk.cell b4;have b5:=hk.cell b5;have b6:=hk.cell b6;have b7:=hk.cell b7;have b8:=hk.cell b8;have b9:=hk.cell b9;have b10:=hk.cell b10))
 go_ret
 exact⟨rfl,K0.out.trans KK.out (fun _ _ h=>h)⟩
def removeOk (x:OpV) (G:List Run):Prop:=bareOk x∧0<x.gone.n∧x.gone.n≤1024∧St.Good G
noncomputable instance (x:OpV) (G:List Run):Decidable (removeOk x G):=Classical.propDecidable _
theorem right_remove {w:World}(ds dq kd it is_ rt rs st:Int) (da ga:Option Addr) (dn dc gn gc:Nat) (tx:ByteArray){G:List Run}(hG:SlAt runE w (.slice ga gn gc) G) (hin:∀r∈G,r.In) (hGl:gn≤1000000) :
  Calls Tryz.prog 223 #[.agg #[.slice ga gn gc],.agg (opA ⟨⟨ds,dq⟩,⟨da,dn,dc⟩,kd,⟨it,is_⟩,⟨rt,rs⟩,tx,⟨ga,gn,gc⟩,st⟩)] w fun e w'=>e=.returned (.bool (decide (removeOk ⟨⟨ds,dq⟩,⟨da,dn,dc⟩,kd,⟨it,is_⟩,⟨rt,rs⟩,tx,⟨ga,gn,gc⟩,st⟩ G)))∧Kept (fun _=>False) w w':=by
 have hB:=Blk.new (w.alloc (.cells #[.slice ga gn gc] 231)) 62 (opA ⟨⟨ds,dq⟩,⟨da,dn,dc⟩,kd,⟨it,is_⟩,⟨rt,rs⟩,tx,⟨ga,gn,gc⟩,st⟩)
 have hS:=(Blk.new w 231 #[.slice ga gn gc]).alloc (.cells (opA ⟨⟨ds,dq⟩,⟨da,dn,dc⟩,kd,⟨it,is_⟩,⟨rt,rs⟩,tx,⟨ga,gn,gc⟩,st⟩) 62)
 have k0:Kept (fun _=>False) w ((w.alloc (.cells #[.slice ga gn gc] 231)).alloc (.cells (opA ⟨⟨ds,dq⟩,⟨da,dn,dc⟩,kd,⟨it,is_⟩,⟨rt,rs⟩,tx,⟨ga,gn,gc⟩,st⟩) 62)):=((Kept.refl _ _).alloc _).alloc _
 rw [World.size_alloc] at hB
 obtain⟨W,hW⟩:∃W,((w.alloc (.cells #[.slice ga gn gc] 231)).alloc (.cells (opA ⟨⟨ds,dq⟩,⟨da,dn,dc⟩,kd,⟨it,is_⟩,⟨rt,rs⟩,tx,⟨ga,gn,gc⟩,st⟩) 62))=W:=⟨_,rfl⟩
 rw [hW] at hS hB k0
 have HW:=Lib.hid hW
 obtain⟨b,hb⟩:∃b,(decide (removeOk ⟨⟨ds,dq⟩,⟨da,dn,dc⟩,kd,⟨it,is_⟩,⟨rt,rs⟩,tx,⟨ga,gn,gc⟩,st⟩ G))=b:=⟨_,rfl⟩
 rw [hb]
 have HBB:=Lib.hid hb
 have HOP:Hid (#[.int .i64 ds,.int .i64 dq,.slice da dn dc,.int .i64 kd,.int .i64 it,.int .i64 is_,.int .i64 rt,.int .i64 rs,.string tx,.slice ga gn gc,.int .i64 st]=opA ⟨⟨ds,dq⟩,⟨da,dn,dc⟩,kd,⟨it,is_⟩,⟨rt,rs⟩,tx,⟨ga,gn,gc⟩,st⟩):=Lib.hid rfl
 clear hb
 have b0:W.cell? ⟨w.heap.size+1,0,none⟩=some (.int .i64 ds):=hB.cell' (i:=0) rfl
 have b1:W.cell? ⟨w.heap.size+1,1,none⟩=some (.int .i64 dq):=hB.cell' (i:=1) rfl
 have b2:W.cell? ⟨w.heap.size+1,2,none⟩=some (.slice da dn dc):=hB.cell' (i:=2) rfl
 have b3:W.cell? ⟨w.heap.size+1,3,none⟩=some (.int .i64 kd):=hB.cell' (i:=3) rfl
 have b4:W.cell? ⟨w.heap.size+1,4,none⟩=some (.int .i64 it):=hB.cell' (i:=4) rfl
 have b5:W.cell? ⟨w.heap.size+1,5,none⟩=some (.int .i64 is_):=hB.cell' (i:=5) rfl
 have b6:W.cell? ⟨w.heap.size+1,6,none⟩=some (.int .i64 rt):=hB.cell' (i:=6) rfl
 have b7:W.cell? ⟨w.heap.size+1,7,none⟩=some (.int .i64 rs):=hB.cell' (i:=7) rfl
 have b8:W.cell? ⟨w.heap.size+1,8,none⟩=some (.string tx):=hB.cell' (i:=8) rfl
 have b9:W.cell? ⟨w.heap.size+1,9,none⟩=some (.slice ga gn gc):=hB.cell' (i:=9) rfl
 have b10:W.cell? ⟨w.heap.size+1,10,none⟩=some (.int .i64 st):=hB.cell' (i:=10) rfl
 have x0:W.cell? ⟨w.heap.size,0,none⟩=some (.slice ga gn gc):=hS.cell' (i:=0) rfl
 have K0:=Lib.hid k0
 obtain rfl:gn=G.length:=by obtain⟨_,_,he,_⟩:=hG.sl;injection he
 have HCK:=Lib.hid (fun (w':World) (hk':Kept (fun _=>False) W w')=>check_any ((hG.kept k0).kept hk') hin (by omega))
 clear hB hS k0 hW hG hin
 by_cases c0:it=0
 case neg =>
  obtain rfl:b=false:=HBB.out.symm.trans (decide_eq_false (fun h=>c0 (h.1.1)))
  have ec0:(it == 0)=false:=beq_eq_false_iff_ne.2 c0
  clear c0 HBB
  go_enter Tryz.func223,Tryz.ntmps223
  go_upto_region 1 with fail
  rw [HW.out]
  have KK:=Lib.hid (Kept.refl (fun _=>False) W)
  clear HW
  go_wp2_with (first
   | (go_at_call 219;rw [HOP.out];refine (rest_any _).mono ?_;rintro r w2 ⟨rfl,hg⟩;have hk:=hg.kept;have KK:=Lib.hid (KK.out.trans hk (fun _ _ h=>h));have b0:=hk.cell b0;have b1:=hk.cell b1;have b2:=hk.cell b2;have b3:=hk.cell b3;have b4:=hk.cell b4;have b5:=hk.cell b5;have b6:=hk.cell b6;have b7:=hk.cell b7;have b8:=hk.cell b8;have b9:=hk.cell b9;have b10:=hk.cell b10;have x0:=hk.cell x0)
   | (go_at_call 224;refine (HCK.out _ KK.out).mono ?_;rintro r w2 ⟨c,rfl,hci,hk⟩;have hcb:(c == 0)=false:=beq_eq_false_iff_ne.2 (fun h=>NG.out (hci.good.2 h));have KK:=Lib.hid (KK.out.trans hk (fun _ _ h=>h));have b0:=hk.cell b0;have b1:=hk.cell b1;have b2:=hk.cell b2;have b3:=hk.cell b3;have b4:=hk.cell b4;have b5:=hk.cell b5;have b6:=hk.cell b6;have b7:=hk.cell b7;have b8:=hk.cell b8;have b9:=hk.cell b9;have b10:=hk.cell b10;have x0:=hk.cell x0))
  go_ret
  exact⟨rfl,K0.out.trans KK.out (fun _ _ h=>h)⟩
 subst c0
 by_cases c1:is_=0
 case neg =>
  obtain rfl:b=false:=HBB.out.symm.trans (decide_eq_false (fun h=>c1 (h.1.2.1)))
  have ec1:(is_ == 0)=false:=beq_eq_false_iff_ne.2 c1
  clear c1 HBB
  go_enter Tryz.func223,Tryz.ntmps223
  go_upto_region 1 with fail
  rw [HW.out]
  have KK:=Lib.hid (Kept.refl (fun _=>False) W)
  clear HW
  go_wp2_with (first
   | (go_at_call 219;rw [HOP.out];refine (rest_any _).mono ?_;rintro r w2 ⟨rfl,hg⟩;have hk:=hg.kept;have KK:=Lib.hid (KK.out.trans hk (fun _ _ h=>h));have b0:=hk.cell b0;have b1:=hk.cell b1;have b2:=hk.cell b2;have b3:=hk.cell b3;have b4:=hk.cell b4;have b5:=hk.cell b5;have b6:=hk.cell b6;have b7:=hk.cell b7;have b8:=hk.cell b8;have b9:=hk.cell b9;have b10:=hk.cell b10;have x0:=hk.cell x0)
   | (go_at_call 224;refine (HCK.out _ KK.out).mono ?_;rintro r w2 ⟨c,rfl,hci,hk⟩;have hcb:(c == 0)=false:=beq_eq_false_iff_ne.2 (fun h=>NG.out (hci.good.2 h));have KK:=Lib.hid (KK.out.trans hk (fun _ _ h=>h));have b0:=hk.cell b0;have b1:=hk.cell b1;have b2:=hk.cell b2;have b3:=hk.cell b3;have b4:=hk.cell b4;have b5:=hk.cell b5;have b6:=hk.cell b6;have b7:=hk.cell b7;have b8:=hk.cell b8;have b9:=hk.cell b9;have b10:=hk.cell b10;have x0:=hk.cell x0))
  go_ret
  exact⟨rfl,K0.out.trans KK.out (fun _ _ h=>h)⟩
 subst c1
 by_cases c2:rt=0
 case neg =>
  obtain rfl:b=false:=HBB.out.symm.trans (decide_eq_false (fun h=>c2 (h.1.2.2.1)))
  have ec2:(rt == 0)=false:=beq_eq_false_iff_ne.2 c2
  clear c2 HBB
  go_enter Tryz.func223,Tryz.ntmps223
  go_upto_region 1 with fail
  rw [HW.out]
  have KK:=Lib.hid (Kept.refl (fun _=>False) W)
  clear HW
  go_wp2_with (first
   | (go_at_call 219;rw [HOP.out];refine (rest_any _).mono ?_;rintro r w2 ⟨rfl,hg⟩;have hk:=hg.kept;have KK:=Lib.hid (KK.out.trans hk (fun _ _ h=>h));have b0:=hk.cell b0;have b1:=hk.cell b1;have b2:=hk.cell b2;have b3:=hk.cell b3;have b4:=hk.cell b4;have b5:=hk.cell b5;have b6:=hk.cell b6;have b7:=hk.cell b7;have b8:=hk.cell b8;have b9:=hk.cell b9;have b10:=hk.cell b10;have x0:=hk.cell x0)
   | (go_at_call 224;refine (HCK.out _ KK.out).mono ?_;rintro r w2 ⟨c,rfl,hci,hk⟩;have hcb:(c == 0)=false:=beq_eq_false_iff_ne.2 (fun h=>NG.out (hci.good.2 h));have KK:=Lib.hid (KK.out.trans hk (fun _ _ h=>h));have b0:=hk.cell b0;have b1:=hk.cell b1;have b2:=hk.cell b2;have b3:=hk.cell b3;have b4:=hk.cell b4;have b5:=hk.cell b5;have b6:=hk.cell b6;have b7:=hk.cell b7;have b8:=hk.cell b8;have b9:=hk.cell b9;have b10:=hk.cell b10;have x0:=hk.cell x0))
  go_ret
  exact⟨rfl,K0.out.trans KK.out (fun _ _ h=>h)⟩
 subst c2
 by_cases c3:rs=0
 case neg =>
  obtain rfl:b=false:=HBB.out.symm.trans (decide_eq_false (fun h=>c3 (h.1.2.2.2.1)))
  have ec3:(rs == 0)=false:=beq_eq_false_iff_ne.2 c3
  clear c3 HBB
  go_enter Tryz.func223,Tryz.ntmps223
  go_upto_region 1 with fail
  rw [HW.out]
  have KK:=Lib.hid (Kept.refl (fun _=>False) W)
  clear HW
  go_wp2_with (first
   | (go_at_call 219;rw [HOP.out];refine (rest_any _).mono ?_;rintro r w2 ⟨rfl,hg⟩;have hk:=hg.kept;have KK:=Lib.hid (KK.out.trans hk (fun _ _ h=>h));have b0:=hk.cell b0;have b1:=hk.cell b1;have b2:=hk.cell b2;have b3:=hk.cell b3;have b4:=hk.cell b4;have b5:=hk.cell b5;have b6:=hk.cell b6;have b7:=hk.cell b7;have b8:=hk.cell b8;have b9:=hk.cell b9;have b10:=hk.cell b10;have x0:=hk.cell x0)
   | (go_at_call 224;refine (HCK.out _ KK.out).mono ?_;rintro r w2 ⟨c,rfl,hci,hk⟩;have hcb:(c == 0)=false:=beq_eq_false_iff_ne.2 (fun h=>NG.out (hci.good.2 h));have KK:=Lib.hid (KK.out.trans hk (fun _ _ h=>h));have b0:=hk.cell b0;have b1:=hk.cell b1;have b2:=hk.cell b2;have b3:=hk.cell b3;have b4:=hk.cell b4;have b5:=hk.cell b5;have b6:=hk.cell b6;have b7:=hk.cell b7;have b8:=hk.cell b8;have b9:=hk.cell b9;have b10:=hk.cell b10;have x0:=hk.cell x0))
  go_ret
  exact⟨rfl,K0.out.trans KK.out (fun _ _ h=>h)⟩
 subst c3
 by_cases c4:tx=⟨#[]⟩
 case neg =>
  obtain rfl:b=false:=HBB.out.symm.trans (decide_eq_false (fun h=>c4 (h.1.2.2.2.2.1)))
  have ec4:¬tx.toList=[]:=fun h=>c4 (text_nil h)
  have gc4:tx.toList.isEmpty=false:=by simpa using ec4
  clear c4 HBB
  go_enter Tryz.func223,Tryz.ntmps223
  go_upto_region 1 with fail
  rw [HW.out]
  have KK:=Lib.hid (Kept.refl (fun _=>False) W)
  clear HW
  go_wp2_with (first
   | (go_at_call 219;rw [HOP.out];refine (rest_any _).mono ?_;rintro r w2 ⟨rfl,hg⟩;have hk:=hg.kept;have KK:=Lib.hid (KK.out.trans hk (fun _ _ h=>h));have b0:=hk.cell b0;have b1:=hk.cell b1;have b2:=hk.cell b2;have b3:=hk.cell b3;have b4:=hk.cell b4;have b5:=hk.cell b5;have b6:=hk.cell b6;have b7:=hk.cell b7;have b8:=hk.cell b8;have b9:=hk.cell b9;have b10:=hk.cell b10;have x0:=hk.cell x0)
   | (go_at_call 224;refine (HCK.out _ KK.out).mono ?_;rintro r w2 ⟨c,rfl,hci,hk⟩;have hcb:(c == 0)=false:=beq_eq_false_iff_ne.2 (fun h=>NG.out (hci.good.2 h));have KK:=Lib.hid (KK.out.trans hk (fun _ _ h=>h));have b0:=hk.cell b0;have b1:=hk.cell b1;have b2:=hk.cell b2;have b3:=hk.cell b3;have b4:=hk.cell b4;have b5:=hk.cell b5;have b6:=hk.cell b6;have b7:=hk.cell b7;have b8:=hk.cell b8;have b9:=hk.cell b9;have b10:=hk.cell b10;have x0:=hk.cell x0))
  go_ret
  exact⟨rfl,K0.out.trans KK.out (fun _ _ h=>h)⟩
 subst c4
 by_cases c5:st=0
 case neg =>
  obtain rfl:b=false:=HBB.out.symm.trans (decide_eq_false (fun h=>c5 (h.1.2.2.2.2.2)))
  have ec5:(st == 0)=false:=beq_eq_false_iff_ne.2 c5
  clear c5 HBB
  go_enter Tryz.func223,Tryz.ntmps223
  go_upto_region 1 with fail
  rw [HW.out]
  have KK:=Lib.hid (Kept.refl (fun _=>False) W)
  clear HW
  go_wp2_with (first
   | (go_at_call 219;rw [HOP.out];refine (rest_any _).mono ?_;rintro r w2 ⟨rfl,hg⟩;have hk:=hg.kept;have KK:=Lib.hid (KK.out.trans hk (fun _ _ h=>h));have b0:=hk.cell b0;have b1:=hk.cell b1;have b2:=hk.cell b2;have b3:=hk.cell b3;have b4:=hk.cell b4;have b5:=hk.cell b5;have b6:=hk.cell b6;have b7:=hk.cell b7;have b8:=hk.cell b8;have b9:=hk.cell b9;have b10:=hk.cell b10;have x0:=hk.cell x0)
   | (go_at_call 224;refine (HCK.out _ KK.out).mono ?_;rintro r w2 ⟨c,rfl,hci,hk⟩;have hcb:(c == 0)=false:=beq_eq_false_iff_ne.2 (fun h=>NG.out (hci.good.2 h));have KK:=Lib.hid (KK.out.trans hk (fun _ _ h=>h));have b0:=hk.cell b0;have b1:=hk.cell b1;have b2:=hk.cell b2;have b3:=hk.cell b3;have b4:=hk.cell b4;have b5:=hk.cell b5;have b6:=hk.cell b6;have b7:=hk.cell b7;have b8:=hk.cell b8;have b9:=hk.cell b9;have b10:=hk.cell b10;have x0:=hk.cell x0))
  go_ret
  exact⟨rfl,K0.out.trans KK.out (fun _ _ h=>h)⟩
 subst c5
 by_cases c6:0<G.length
 case neg =>
  obtain rfl:b=false:=HBB.out.symm.trans (decide_eq_false (fun h=>c6 (h.2.1)))
  have ec6:¬(0:Int)<(G.length:Int):=by omega
  clear c6 HBB
  go_enter Tryz.func223,Tryz.ntmps223
  go_upto_region 1 with fail
  rw [HW.out]
  have KK:=Lib.hid (Kept.refl (fun _=>False) W)
  clear HW
  go_wp2_with (first
   | (go_at_call 219;rw [HOP.out];refine (rest_any _).mono ?_;rintro r w2 ⟨rfl,hg⟩;have hk:=hg.kept;have KK:=Lib.hid (KK.out.trans hk (fun _ _ h=>h));have b0:=hk.cell b0;have b1:=hk.cell b1;have b2:=hk.cell b2;have b3:=hk.cell b3;have b4:=hk.cell b4;have b5:=hk.cell b5;have b6:=hk.cell b6;have b7:=hk.cell b7;have b8:=hk.cell b8;have b9:=hk.cell b9;have b10:=hk.cell b10;have x0:=hk.cell x0)
   | (go_at_call 224;refine (HCK.out _ KK.out).mono ?_;rintro r w2 ⟨c,rfl,hci,hk⟩;have hcb:(c == 0)=false:=beq_eq_false_iff_ne.2 (fun h=>NG.out (hci.good.2 h));have KK:=Lib.hid (KK.out.trans hk (fun _ _ h=>h));have b0:=hk.cell b0;have b1:=hk.cell b1;have b2:=hk.cell b2;have b3:=hk.cell b3;have b4:=hk.cell b4;have b5:=hk.cell b5;have b6:=hk.cell b6;have b7:=hk.cell b7;have b8:=hk.cell b8;have b9:=hk.cell b9;have b10:=hk.cell b10;have x0:=hk.cell x0))
  go_ret
  exact⟨rfl,K0.out.trans KK.out (fun _ _ h=>h)⟩
 have ec6:(0:Int)<(G.length:Int):=by omega
 by_cases c7:G.length≤1024
 case neg =>
  obtain rfl:b=false:=HBB.out.symm.trans (decide_eq_false (fun h=>c7 (h.2.2.1)))
  have ec7:¬(G.length:Int)≤1024:=by omega
  clear c7 HBB
  go_enter Tryz.func223,Tryz.ntmps223
  go_upto_region 1 with fail
  rw [HW.out]
  have KK:=Lib.hid (Kept.refl (fun _=>False) W)
  clear HW
  go_wp2_with (first
   | (go_at_call 219;rw [HOP.out];refine (rest_any _).mono ?_;rintro r w2 ⟨rfl,hg⟩;have hk:=hg.kept;have KK:=Lib.hid (KK.out.trans hk (fun _ _ h=>h));have b0:=hk.cell b0;have b1:=hk.cell b1;have b2:=hk.cell b2;have b3:=hk.cell b3;have b4:=hk.cell b4;have b5:=hk.cell b5;have b6:=hk.cell b6;have b7:=hk.cell b7;have b8:=hk.cell b8;have b9:=hk.cell b9;have b10:=hk.cell b10;have x0:=hk.cell x0)
   | (go_at_call 224;refine (HCK.out _ KK.out).mono ?_;rintro r w2 ⟨c,rfl,hci,hk⟩;have hcb:(c == 0)=false:=beq_eq_false_iff_ne.2 (fun h=>NG.out (hci.good.2 h));have KK:=Lib.hid (KK.out.trans hk (fun _ _ h=>h));have b0:=hk.cell b0;have b1:=hk.cell b1;have b2:=hk.cell b2;have b3:=hk.cell b3;have b4:=hk.cell b4;have b5:=hk.cell b5;have b6:=hk.cell b6;have b7:=hk.cell b7;have b8:=hk.cell b8;have b9:=hk.cell b9;have b10:=hk.cell b10;have x0:=hk.cell x0))
  go_ret
  exact⟨rfl,K0.out.trans KK.out (fun _ _ h=>h)⟩
 have ec7:(G.length:Int)≤1024:=by omega
 by_cases c8:St.Good G
 case neg =>
  obtain rfl:b=false:=HBB.out.symm.trans (decide_eq_false (fun h=>c8 (h.2.2.2)))
  have NG:=Lib.hid c8
  clear c8 HBB
  go_enter Tryz.func223,Tryz.ntmps223
  go_upto_region 1 with fail
  rw [HW.out]
  have KK:=Lib.hid (Kept.refl (fun _=>False) W)
  clear HW
  go_wp2_with (first
   | (go_at_call 219;rw [HOP.out];refine (rest_any _).mono ?_;rintro r w2 ⟨rfl,hg⟩;have hk:=hg.kept;have KK:=Lib.hid (KK.out.trans hk (fun _ _ h=>h));have b0:=hk.cell b0;have b1:=hk.cell b1;have b2:=hk.cell b2;have b3:=hk.cell b3;have b4:=hk.cell b4;have b5:=hk.cell b5;have b6:=hk.cell b6;have b7:=hk.cell b7;have b8:=hk.cell b8;have b9:=hk.cell b9;have b10:=hk.cell b10;have x0:=hk.cell x0)
   | (go_at_call 224;refine (HCK.out _ KK.out).mono ?_;rintro r w2 ⟨c,rfl,hci,hk⟩;have hcb:(c == 0)=false:=beq_eq_false_iff_ne.2 (fun h=>NG.out (hci.good.2 h));have KK:=Lib.hid (KK.out.trans hk (fun _ _ h=>h));have b0:=hk.cell b0;have b1:=hk.cell b1;have b2:=hk.cell b2;have b3:=hk.cell b3;have b4:=hk.cell b4;have b5:=hk.cell b5;have b6:=hk.cell b6;have b7:=hk.cell b7;have b8:=hk.cell b8;have b9:=hk.cell b9;have b10:=hk.cell b10;have x0:=hk.cell x0))
  go_ret
  exact⟨rfl,K0.out.trans KK.out (fun _ _ h=>h)⟩
 have GOOD:=Lib.hid c8
 obtain rfl:b=true:=HBB.out.symm.trans (decide_eq_true ⟨⟨rfl,rfl,rfl,rfl,rfl,rfl⟩,c6,c7,c8⟩)
 go_enter Tryz.func223,Tryz.ntmps223
 go_upto_region 1 with fail
 rw [HW.out]
 have KK:=Lib.hid (Kept.refl (fun _=>False) W)
 clear HW
 go_wp2_with (first
  | (go_at_call 219;rw [HOP.out];refine (rest_any _).mono ?_;rintro r w2 ⟨rfl,hg⟩;have hk:=hg.kept;have KK:=Lib.hid (KK.out.trans hk (fun _ _ h=>h));have b0:=hk.cell b0;have b1:=hk.cell b1;have b2:=hk.cell b2;have b3:=hk.cell b3;have b4:=hk.cell b4;have b5:=hk.cell b5;have b6:=hk.cell b6;have b7:=hk.cell b7;have b8:=hk.cell b8;have b9:=hk.cell b9;have b10:=hk.cell b10;have x0:=hk.cell x0)
  | (go_at_call 224;refine (HCK.out _ KK.out).mono ?_;rintro r w2 ⟨c,rfl,hci,hk⟩;obtain rfl:c=0:=hci.good.1 GOOD.out;have KK:=Lib.hid (KK.out.trans hk (fun _ _ h=>h));have b0:=hk.cell b0;have b1:=hk.cell b1;have b2:=hk.cell b2;have b3:=hk.cell b3;have b4:=hk.cell b4;have b5:=hk.cell b5;have b6:=hk.cell b6;have b7:=hk.cell b7;have b8:=hk.cell b8;have b9:=hk.cell b9;have b10:=hk.cell b10;have x0:=hk.cell x0))
 go_ret
 exact⟨rfl,K0.out.trans KK.out (fun _ _ h=>h)⟩
end Go.Proofs.YtjohljmpcblpjaaGreatDoor
