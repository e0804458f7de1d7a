/- hearsayref8.site and insert. -/
import Derived.Test.YtjohljmpcblpjaaGreatDoorM39
set_option maxRecDepth 100000
set_option maxHeartbeats 8000000
namespace Go.Proofs.YtjohljmpcblpjaaGreatDoor
open Go.RowKit Go.Proofs.YtjohljmpcblpjaaGreatDoor.St Go.Proofs.YtjohljmpcblpjaaGreatDoor.Gl
theorem rsite8_pure (n:Int) (w:World):Calls Tryz.prog 80 #[.int .i64 n] w fun e w'=>e=.returned (.bool (decide (isSite n)))∧w'=w:=by
 obtain⟨t,ht⟩:∃t,decide (isSite n)=t:=⟨_,rfl⟩
 rw [ht]
 by_cases h1:n<1
 ·obtain rfl:t=false:=by rw [←ht];exact decide_eq_false (fun h=>by unfold isSite at h;omega)
  clear ht
  go_enter Tryz.func80,Tryz.ntmps80
  go_wp2_with fail
  go_ret
  exact⟨rfl,rfl⟩
 by_cases h2:¬n≤16
 ·obtain rfl:t=false:=by rw [←ht];exact decide_eq_false (fun h=>by unfold isSite at h;omega)
  clear ht
  go_enter Tryz.func80,Tryz.ntmps80
  go_wp2_with fail
  go_ret
  exact⟨rfl,rfl⟩
 ·obtain rfl:t=true:=by rw [←ht];exact decide_eq_true ⟨by omega,by omega⟩
  clear ht
  have h3:1≤n:=by omega
  have h4:n≤16:=by omega
  go_enter Tryz.func80,Tryz.ntmps80
  go_wp2_with fail
  go_ret
  exact⟨rfl,rfl⟩
theorem isB_after0 (x:ID):isB x=true∨x=⟨0,0⟩↔x=⟨0,0⟩∨x.after 0=x:=by
 unfold isB ID.after ID.zero
 by_cases h:x.Is
 ·have h2:=h
  unfold ID.Is at h2
  rw [decide_eq_true h,if_pos ⟨h,Int.le_refl 0,by omega⟩,Int.add_zero]
  exact⟨fun _=>.inr rfl,fun _=>.inl rfl⟩
 ·rw [decide_eq_false h,if_neg (fun e=>h e.1)]
  constructor
  ·rintro (h | h)
   ·cases h
   ·exact .inl h
  ·rintro (h | h)
   ·exact .inr h
   ·exact .inr h.symm
theorem after_is (x:ID) (n:Int):x.after n=⟨0,0⟩∨isB (x.after n)=true:=by
 unfold ID.after
 by_cases h:x.Is∧0≤n∧n≤2147483647-x.t
 ·rw [if_pos h]
  right
  have:=h.1
  unfold ID.Is at this
  exact decide_eq_true (by unfold ID.Is;simp only;omega)
 ·rw [if_neg h]
  exact .inl rfl
theorem isB_zero:isB ⟨0,0⟩=false:=by decide
theorem count_zero (s:ByteArray):0<countR s↔s≠⟨#[]⟩:=by
 constructor
 ·rintro h rfl
  exact absurd h (by decide)
 ·intro h
  have : 0<s.size:=by
   rcases Nat.eq_zero_or_pos s.size with h0|h0
   ·exfalso
    apply h
    obtain⟨⟨l⟩⟩:=s
    have h0:l.length=0:=h0
    rw [List.length_eq_zero_iff.1 h0]
   ·exact h0
  unfold countR
  rw [pieces_next this]
  simp
theorem rins_core {w:World}(ds dq kd it is_ rt rs st:Int) (da ga:Option Addr) (dn dc gn gc:Nat) (tx:ByteArray) (htx:tx.size≤1000000):Calls Tryz.prog 82 #[.agg (opA ⟨⟨ds,dq⟩,⟨da,dn,dc⟩,kd,⟨it,is_⟩,⟨rt,rs⟩,tx,⟨ga,gn,gc⟩,st⟩)] w fun e w'=>e=.returned (.bool (decide (insOk ⟨⟨ds,dq⟩,⟨da,dn,dc⟩,kd,⟨it,is_⟩,⟨rt,rs⟩,tx,⟨ga,gn,gc⟩,st⟩)))∧Kept (fun _=>False) w w':=by
 have hB:=Blk.new w 62 (opA ⟨⟨ds,dq⟩,⟨da,dn,dc⟩,kd,⟨it,is_⟩,⟨rt,rs⟩,tx,⟨ga,gn,gc⟩,st⟩)
 have k0:Kept (fun _=>False) w (w.alloc (.cells (opA ⟨⟨ds,dq⟩,⟨da,dn,dc⟩,kd,⟨it,is_⟩,⟨rt,rs⟩,tx,⟨ga,gn,gc⟩,st⟩) 62)):=(Kept.refl _ _).alloc _
 obtain⟨W,hW⟩:∃W,(w.alloc (.cells (opA ⟨⟨ds,dq⟩,⟨da,dn,dc⟩,kd,⟨it,is_⟩,⟨rt,rs⟩,tx,⟨ga,gn,gc⟩,st⟩) 62))=W:=⟨_,rfl⟩
 rw [hW] at hB k0
 have HW:=Lib.hid hW
 have HBK:=Lib.hid hB
 have b0:W.cell? ⟨w.heap.size,0,none⟩=some (.int .i64 ds):=hB.cell' (i:=0) rfl
 have b1:W.cell? ⟨w.heap.size,1,none⟩=some (.int .i64 dq):=hB.cell' (i:=1) rfl
 have b2:W.cell? ⟨w.heap.size,2,none⟩=some (.slice da dn dc):=hB.cell' (i:=2) rfl
 have b3:W.cell? ⟨w.heap.size,3,none⟩=some (.int .i64 kd):=hB.cell' (i:=3) rfl
 have b4:W.cell? ⟨w.heap.size,4,none⟩=some (.int .i64 it):=hB.cell' (i:=4) rfl
 have b5:W.cell? ⟨w.heap.size,5,none⟩=some (.int .i64 is_):=hB.cell' (i:=5) rfl
 have b6:W.cell? ⟨w.heap.size,6,none⟩=some (.int .i64 rt):=hB.cell' (i:=6) rfl
 have b7:W.cell? ⟨w.heap.size,7,none⟩=some (.int .i64 rs):=hB.cell' (i:=7) rfl
 have b8:W.cell? ⟨w.heap.size,8,none⟩=some (.string tx):=hB.cell' (i:=8) rfl
 have b9:W.cell? ⟨w.heap.size,9,none⟩=some (.slice ga gn gc):=hB.cell' (i:=9) rfl
 have b10:W.cell? ⟨w.heap.size,10,none⟩=some (.int .i64 st):=hB.cell' (i:=10) rfl
 have K0:=Lib.hid k0
 clear hB k0 hW
 obtain⟨b,hb⟩:∃b,decide (insOk ⟨⟨ds,dq⟩,⟨da,dn,dc⟩,kd,⟨it,is_⟩,⟨rt,rs⟩,tx,⟨ga,gn,gc⟩,st⟩)=b:=⟨_,rfl⟩
 rw [hb]
 have HBB:=Lib.hid hb
 clear hb
 have HG:=Lib.hid (fun w'=>rgood_any htx w')
 have HC:=Lib.hid (fun w'=>rcount_any htx w')
 have CN:=count_zero tx
 have CL:=countR_le tx
 generalize hn:countR tx=n at *
 generalize hbd:badFrom tx 0=bd at *
 obtain⟨A,hA⟩:∃A,ID.after ⟨it,is_⟩ ((n:Int) - 1)=A:=⟨_,rfl⟩
 obtain⟨A1,A2⟩:=A
 obtain⟨n1,hn1⟩:∃m:Int,(n:Int) - 1=m:=⟨_,rfl⟩
 have HAF:Hid (∀w',Calls Tryz.prog 121 #[.agg #[.int .i64 it,.int .i64 is_],.int .i64 n1] w' fun e w''=>e=.returned (.agg #[.int .i64 A1,.int .i64 A2])∧Kept (fun _=>False) w' w''):=Lib.hid (fun w'=>(rafter_core it is_ n1 (by omega) (by omega) w').mono (fun e w'' h=>⟨by rw [h.1,←hn1,hA];rfl,h.2.kept⟩))
 have hw:IntKind.i64.wrap ((n:Int) - 1)=n1:=by rw [IntKind.wrap_i64];omega
 obtain⟨tA,htA⟩:∃t,isB ⟨A1,A2⟩=t:=⟨_,rfl⟩
 obtain⟨tR,htR⟩:∃t,isB ⟨rt,rs⟩=t:=⟨_,rfl⟩
 have HIA:Hid (∀w',Calls Tryz.prog 122 #[.agg #[.int .i64 A1,.int .i64 A2]] w' fun e w''=>e=.returned (.bool tA)∧Kept (fun _=>False) w' w''):=Lib.hid (fun w'=>(isid_core A1 A2 w').mono (fun e w'' h=>⟨by rw [h.1,htA],h.2.kept⟩))
 have HIR:Hid (∀w',Calls Tryz.prog 122 #[.agg #[.int .i64 rt,.int .i64 rs]] w' fun e w''=>e=.returned (.bool tR)∧Kept (fun _=>False) w' w''):=Lib.hid (fun w'=>(isid_core rt rs w').mono (fun e w'' h=>⟨by rw [h.1,htR],h.2.kept⟩))
 have EA:Hid (tA=true↔(⟨A1,A2⟩:ID)≠⟨0,0⟩):=Lib.hid (by
  rw [←htA,←hA]
  rcases after_is ⟨it,is_⟩ ((n:Int) - 1) with h|h
  ·rw [h,isB_zero]
   exact⟨fun e=>(by cases e),fun e=>absurd rfl e⟩
  ·refine⟨fun _ e=>?_,fun _=>h⟩
   rw [e,isB_zero] at h
   cases h)
 have ER:Hid ((tR=true∨(⟨rt,rs⟩:ID)=⟨0,0⟩)↔((⟨rt,rs⟩:ID)=⟨0,0⟩∨ID.after ⟨rt,rs⟩ 0=⟨rt,rs⟩)):=Lib.hid (htR ▸ isB_after0 ⟨rt,rs⟩)
 have OK:Hid (insOk ⟨⟨ds,dq⟩,⟨da,dn,dc⟩,kd,⟨it,is_⟩,⟨rt,rs⟩,tx,⟨ga,gn,gc⟩,st⟩↔gn=0∧st=0∧tx≠⟨#[]⟩∧n≤1024∧bd<0∧is_=ds∧tA=true∧(tR=true∨(⟨rt,rs⟩:ID)=⟨0,0⟩)∧rt<it):=Lib.hid (by
  rw [ER.out,EA.out,←CN,←hA,←hbd,←hn]
  exact Iff.rfl)
 have HN:Hid (n≤1000000):=Lib.hid (by omega)
 clear ER EA htA htR hA hn hn1 hbd htx CN CL
 by_cases c0:gn=0
 case neg =>
  obtain rfl:b=false:=HBB.out.symm.trans (decide_eq_false (fun h=>c0 ((OK.out.1 h).1)))
  clear HBB OK
  have ec0:(0:Int)<gn:=by omega
  clear c0
  go_enter Tryz.func82,Tryz.ntmps82
  go_upto_region 1 with fail
  rw [HW.out]
  have KK:=Lib.hid (Kept.refl (fun _=>False) W)
  clear HW
  go_wp2_with (go_at_call 71;with_reducible refine (HG.out _).mono ?_;rintro r w2 ⟨rfl,hk⟩;have KK:=Lib.hid (KK.out.trans hk (fun _ _ h=>h));have b0:=hk.cell b0;have b1:=hk.cell b1;have b2:=hk.cell b2;have b3:=hk.cell b3;have b4:=hk.cell b4;have b5:=hk.cell b5;have b6:=hk.cell b6;have b7:=hk.cell b7;have b8:=hk.cell b8;have b9:=hk.cell b9;have b10:=hk.cell b10)
  go_ret
  exact⟨rfl,K0.out.trans KK.out (fun _ _ h=>h)⟩
 subst c0
 by_cases c1:st=0
 case neg =>
  obtain rfl:b=false:=HBB.out.symm.trans (decide_eq_false (fun h=>c1 ((OK.out.1 h).2.1)))
  clear HBB OK
  have ec1:(st == 0)=false:=beq_eq_false_iff_ne.2 c1
  go_enter Tryz.func82,Tryz.ntmps82
  go_upto_region 1 with fail
  rw [HW.out]
  have KK:=Lib.hid (Kept.refl (fun _=>False) W)
  clear HW
  go_wp2_with (go_at_call 71;with_reducible refine (HG.out _).mono ?_;rintro r w2 ⟨rfl,hk⟩;have KK:=Lib.hid (KK.out.trans hk (fun _ _ h=>h));have b0:=hk.cell b0;have b1:=hk.cell b1;have b2:=hk.cell b2;have b3:=hk.cell b3;have b4:=hk.cell b4;have b5:=hk.cell b5;have b6:=hk.cell b6;have b7:=hk.cell b7;have b8:=hk.cell b8;have b9:=hk.cell b9;have b10:=hk.cell b10)
  go_ret
  exact⟨rfl,K0.out.trans KK.out (fun _ _ h=>h)⟩
 subst c1
 by_cases c2:tx≠⟨#[]⟩
 case neg =>
  obtain rfl:b=false:=HBB.out.symm.trans (decide_eq_false (fun h=>c2 ((OK.out.1 h).2.2.1)))
  clear HBB OK
  obtain rfl:tx=⟨#[]⟩:=Classical.byContradiction c2
  clear c2
  go_enter Tryz.func82,Tryz.ntmps82
  go_upto_region 1 with fail
  rw [HW.out]
  have KK:=Lib.hid (Kept.refl (fun _=>False) W)
  clear HW
  go_wp2_with (go_at_call 71;with_reducible refine (HG.out _).mono ?_;rintro r w2 ⟨rfl,hk⟩;have KK:=Lib.hid (KK.out.trans hk (fun _ _ h=>h));have b0:=hk.cell b0;have b1:=hk.cell b1;have b2:=hk.cell b2;have b3:=hk.cell b3;have b4:=hk.cell b4;have b5:=hk.cell b5;have b6:=hk.cell b6;have b7:=hk.cell b7;have b8:=hk.cell b8;have b9:=hk.cell b9;have b10:=hk.cell b10)
  go_ret
  exact⟨rfl,K0.out.trans KK.out (fun _ _ h=>h)⟩
 have ec2:¬tx.toList=[]:=fun h=>c2 (text_nil h)
 have gc2:tx.toList.isEmpty=false:=by simpa using ec2
 have t2:=Lib.hid c2
 clear c2
 by_cases c3:bd<0
 case neg =>
  obtain rfl:b=false:=HBB.out.symm.trans (decide_eq_false (fun h=>c3 ((OK.out.1 h).2.2.2.2.1)))
  clear HBB OK
  have ec3:decide (bd<0)=false:=decide_eq_false c3
  go_enter Tryz.func82,Tryz.ntmps82
  go_upto_region 1 with fail
  rw [HW.out]
  have KK:=Lib.hid (Kept.refl (fun _=>False) W)
  clear HW
  go_wp2_with (go_at_call 71;with_reducible refine (HG.out _).mono ?_;rintro r w2 ⟨rfl,hk⟩;have KK:=Lib.hid (KK.out.trans hk (fun _ _ h=>h));have b0:=hk.cell b0;have b1:=hk.cell b1;have b2:=hk.cell b2;have b3:=hk.cell b3;have b4:=hk.cell b4;have b5:=hk.cell b5;have b6:=hk.cell b6;have b7:=hk.cell b7;have b8:=hk.cell b8;have b9:=hk.cell b9;have b10:=hk.cell b10)
  go_ret
  exact⟨rfl,K0.out.trans KK.out (fun _ _ h=>h)⟩
 have ec3:decide (bd<0)=true:=decide_eq_true c3
 by_cases c4:n≤1024
 case neg =>
  obtain rfl:b=false:=HBB.out.symm.trans (decide_eq_false (fun h=>c4 ((OK.out.1 h).2.2.2.1)))
  clear HBB OK
  have ec4:decide ((n:Int)≤1024)=false:=decide_eq_false (by omega)
  have gc4:decide (n≤1024)=false:=decide_eq_false c4
  have fc4:¬(n:Int)≤1024:=by omega
  go_enter Tryz.func82,Tryz.ntmps82
  go_upto_region 1 with fail
  rw [HW.out]
  have KK:=Lib.hid (Kept.refl (fun _=>False) W)
  clear HW
  go_upto_region 4 with (first | (go_at_call 71;with_reducible refine (HG.out _).mono ?_;rintro r w2 ⟨rfl,hk⟩;have KK:=Lib.hid (KK.out.trans hk (fun _ _ h=>h));have b0:=hk.cell b0;have b1:=hk.cell b1;have b2:=hk.cell b2;have b3:=hk.cell b3;have b4:=hk.cell b4;have b5:=hk.cell b5;have b6:=hk.cell b6;have b7:=hk.cell b7;have b8:=hk.cell b8;have b9:=hk.cell b9;have b10:=hk.cell b10) | (go_at_call 120;with_reducible refine (HC.out _).mono ?_;rintro r w2 ⟨rfl,hk⟩;have KK:=Lib.hid (KK.out.trans hk (fun _ _ h=>h));have b0:=hk.cell b0;have b1:=hk.cell b1;have b2:=hk.cell b2;have b3:=hk.cell b3;have b4:=hk.cell b4;have b5:=hk.cell b5;have b6:=hk.cell b6;have b7:=hk.cell b7;have b8:=hk.cell b8;have b9:=hk.cell b9;have b10:=hk.cell b10))
  go_upto_region 5 with (go_at_call 121;with_reducible refine (HAF.out _).mono ?_;rintro r w2 ⟨rfl,hk⟩;have KK:=Lib.hid (KK.out.trans hk (fun _ _ h=>h));have b0:=hk.cell b0;have b1:=hk.cell b1;have b2:=hk.cell b2;have b3:=hk.cell b3;have b4:=hk.cell b4;have b5:=hk.cell b5;have b6:=hk.cell b6;have b7:=hk.cell b7;have b8:=hk.cell b8;have b9:=hk.cell b9;have b10:=hk.cell b10)
  have k9:Kept (fun _=>False) w2 (w2.alloc (.cells #[.int .i64 A1,.int .i64 A2] 59)):=(Kept.refl _ _).alloc _
  have a0:(w2.alloc (.cells #[.int .i64 A1,.int .i64 A2] 59)).cell? ⟨w2.heap.size,0,none⟩=some (.int .i64 A1):=(Blk.new w2 59 #[.int .i64 A1,.int .i64 A2]).cell' (i:=0) rfl
  have a1:(w2.alloc (.cells #[.int .i64 A1,.int .i64 A2] 59)).cell? ⟨w2.heap.size,1,none⟩=some (.int .i64 A2):=(Blk.new w2 59 #[.int .i64 A1,.int .i64 A2]).cell' (i:=1) rfl
  have KK:=Lib.hid (KK.out.trans k9 (fun _ _ h=>h))
  have b0:=k9.cell b0
  have b1:=k9.cell b1
  have b2:=k9.cell b2
  have b3:=k9.cell b3
  have b4:=k9.cell b4
  have b5:=k9.cell b5
  have b6:=k9.cell b6
  have b7:=k9.cell b7
  have b8:=k9.cell b8
  have b9:=k9.cell b9
  have b10:=k9.cell b10
  clear k9
  generalize w2.heap.size=bA at *
  generalize (w2.alloc (.cells #[.int .i64 A1,.int .i64 A2] 59))=w3 at *
  go_wp2_with (first | (go_at_call 122;with_reducible refine (HIA.out _).mono ?_;rintro r w2 ⟨rfl,hk⟩;have KK:=Lib.hid (KK.out.trans hk (fun _ _ h=>h));have b0:=hk.cell b0;have b1:=hk.cell b1;have b2:=hk.cell b2;have b3:=hk.cell b3;have b4:=hk.cell b4;have b5:=hk.cell b5;have b6:=hk.cell b6;have b7:=hk.cell b7;have b8:=hk.cell b8;have b9:=hk.cell b9;have b10:=hk.cell b10;have a0:=hk.cell a0;have a1:=hk.cell a1) | (go_at_call 122;with_reducible refine (HIR.out _).mono ?_;rintro r w2 ⟨rfl,hk⟩;have KK:=Lib.hid (KK.out.trans hk (fun _ _ h=>h));have b0:=hk.cell b0;have b1:=hk.cell b1;have b2:=hk.cell b2;have b3:=hk.cell b3;have b4:=hk.cell b4;have b5:=hk.cell b5;have b6:=hk.cell b6;have b7:=hk.cell b7;have b8:=hk.cell b8;have b9:=hk.cell b9;have b10:=hk.cell b10;have a0:=hk.cell a0;have a1:=hk.cell a1))
  go_ret
  exact⟨rfl,K0.out.trans KK.out (fun _ _ h=>h)⟩
 have ec4:decide ((n:Int)≤1024)=true:=decide_eq_true (by omega)
 have gc4:decide (n≤1024)=true:=decide_eq_true c4
 have fc4:(n:Int)≤1024:=by omega
 by_cases c5:is_=ds
 case neg =>
  obtain rfl:b=false:=HBB.out.symm.trans (decide_eq_false (fun h=>c5 ((OK.out.1 h).2.2.2.2.2.1)))
  clear HBB OK
  have ec5:(is_ == ds)=false:=beq_eq_false_iff_ne.2 c5
  clear c5
  go_enter Tryz.func82,Tryz.ntmps82
  go_upto_region 1 with fail
  rw [HW.out]
  have KK:=Lib.hid (Kept.refl (fun _=>False) W)
  clear HW
  go_upto_region 4 with (first | (go_at_call 71;with_reducible refine (HG.out _).mono ?_;rintro r w2 ⟨rfl,hk⟩;have KK:=Lib.hid (KK.out.trans hk (fun _ _ h=>h));have b0:=hk.cell b0;have b1:=hk.cell b1;have b2:=hk.cell b2;have b3:=hk.cell b3;have b4:=hk.cell b4;have b5:=hk.cell b5;have b6:=hk.cell b6;have b7:=hk.cell b7;have b8:=hk.cell b8;have b9:=hk.cell b9;have b10:=hk.cell b10) | (go_at_call 120;with_reducible refine (HC.out _).mono ?_;rintro r w2 ⟨rfl,hk⟩;have KK:=Lib.hid (KK.out.trans hk (fun _ _ h=>h));have b0:=hk.cell b0;have b1:=hk.cell b1;have b2:=hk.cell b2;have b3:=hk.cell b3;have b4:=hk.cell b4;have b5:=hk.cell b5;have b6:=hk.cell b6;have b7:=hk.cell b7;have b8:=hk.cell b8;have b9:=hk.cell b9;have b10:=hk.cell b10))
  go_upto_region 5 with (go_at_call 121;with_reducible refine (HAF.out _).mono ?_;rintro r w2 ⟨rfl,hk⟩;have KK:=Lib.hid (KK.out.trans hk (fun _ _ h=>h));have b0:=hk.cell b0;have b1:=hk.cell b1;have b2:=hk.cell b2;have b3:=hk.cell b3;have b4:=hk.cell b4;have b5:=hk.cell b5;have b6:=hk.cell b6;have b7:=hk.cell b7;have b8:=hk.cell b8;have b9:=hk.cell b9;have b10:=hk.cell b10)
  have k9:Kept (fun _=>False) w2 (w2.alloc (.cells #[.int .i64 A1,.int .i64 A2] 59)):=(Kept.refl _ _).alloc _
  have a0:(w2.alloc (.cells #[.int .i64 A1,.int .i64 A2] 59)).cell? ⟨w2.heap.size,0,none⟩=some (.int .i64 A1):=(Blk.new w2 59 #[.int .i64 A1,.int .i64 A2]).cell' (i:=0) rfl
  have a1:(w2.alloc (.cells #[.int .i64 A1,.int .i64 A2] 59)).cell? ⟨w2.heap.size,1,none⟩=some (.int .i64 A2):=(Blk.new w2 59 #[.int .i64 A1,.int .i64 A2]).cell' (i:=1) rfl
  have KK:=Lib.hid (KK.out.trans k9 (fun _ _ h=>h))
  have b0:=k9.cell b0
  have b1:=k9.cell b1
  have b2:=k9.cell b2
  have b3:=k9.cell b3
  have b4:=k9.cell b4
  have b5:=k9.cell b5
  have b6:=k9.cell b6
  have b7:=k9.cell b7
  have b8:=k9.cell b8
  have b9:=k9.cell b9
  have b10:=k9.cell b10
  clear k9
  generalize w2.heap.size=bA at *
  generalize (w2.alloc (.cells #[.int .i64 A1,.int .i64 A2] 59))=w3 at *
  go_wp2_with (first | (go_at_call 122;with_reducible refine (HIA.out _).mono ?_;rintro r w2 ⟨rfl,hk⟩;have KK:=Lib.hid (KK.out.trans hk (fun _ _ h=>h));have b0:=hk.cell b0;have b1:=hk.cell b1;have b2:=hk.cell b2;have b3:=hk.cell b3;have b4:=hk.cell b4;have b5:=hk.cell b5;have b6:=hk.cell b6;have b7:=hk.cell b7;have b8:=hk.cell b8;have b9:=hk.cell b9;have b10:=hk.cell b10;have a0:=hk.cell a0;have a1:=hk.cell a1) | (go_at_call 122;with_reducible refine (HIR.out _).mono ?_;rintro r w2 ⟨rfl,hk⟩;have KK:=Lib.hid (KK.out.trans hk (fun _ _ h=>h));have b0:=hk.cell b0;have b1:=hk.cell b1;have b2:=hk.cell b2;have b3:=hk.cell b3;have b4:=hk.cell b4;have b5:=hk.cell b5;have b6:=hk.cell b6;have b7:=hk.cell b7;have b8:=hk.cell b8;have b9:=hk.cell b9;have b10:=hk.cell b10;have a0:=hk.cell a0;have a1:=hk.cell a1))
  go_ret
  exact⟨rfl,K0.out.trans KK.out (fun _ _ h=>h)⟩
 have ec5:(is_ == ds)=true:=beq_iff_eq.2 c5
 have t5:=Lib.hid c5
 clear c5
 by_cases c6:tA=true
 case neg =>
  obtain rfl:b=false:=HBB.out.symm.trans (decide_eq_false (fun h=>c6 ((OK.out.1 h).2.2.2.2.2.2.1)))
  clear HBB OK
  obtain rfl:tA=false:=by simpa using c6
  clear c6
  go_enter Tryz.func82,Tryz.ntmps82
  go_upto_region 1 with fail
  rw [HW.out]
  have KK:=Lib.hid (Kept.refl (fun _=>False) W)
  clear HW
  go_upto_region 4 with (first | (go_at_call 71;with_reducible refine (HG.out _).mono ?_;rintro r w2 ⟨rfl,hk⟩;have KK:=Lib.hid (KK.out.trans hk (fun _ _ h=>h));have b0:=hk.cell b0;have b1:=hk.cell b1;have b2:=hk.cell b2;have b3:=hk.cell b3;have b4:=hk.cell b4;have b5:=hk.cell b5;have b6:=hk.cell b6;have b7:=hk.cell b7;have b8:=hk.cell b8;have b9:=hk.cell b9;have b10:=hk.cell b10) | (go_at_call 120;with_reducible refine (HC.out _).mono ?_;rintro r w2 ⟨rfl,hk⟩;have KK:=Lib.hid (KK.out.trans hk (fun _ _ h=>h));have b0:=hk.cell b0;have b1:=hk.cell b1;have b2:=hk.cell b2;have b3:=hk.cell b3;have b4:=hk.cell b4;have b5:=hk.cell b5;have b6:=hk.cell b6;have b7:=hk.cell b7;have b8:=hk.cell b8;have b9:=hk.cell b9;have b10:=hk.cell b10))
  go_upto_region 5 with (go_at_call 121;with_reducible refine (HAF.out _).mono ?_;rintro r w2 ⟨rfl,hk⟩;have KK:=Lib.hid (KK.out.trans hk (fun _ _ h=>h));have b0:=hk.cell b0;have b1:=hk.cell b1;have b2:=hk.cell b2;have b3:=hk.cell b3;have b4:=hk.cell b4;have b5:=hk.cell b5;have b6:=hk.cell b6;have b7:=hk.cell b7;have b8:=hk.cell b8;have b9:=hk.cell b9;have b10:=hk.cell b10)
  have k9:Kept (fun _=>False) w2 (w2.alloc (.cells #[.int .i64 A1,.int .i64 A2] 59)):=(Kept.refl _ _).alloc _
  have a0:(w2.alloc (.cells #[.int .i64 A1,.int .i64 A2] 59)).cell? ⟨w2.heap.size,0,none⟩=some (.int .i64 A1):=(Blk.new w2 59 #[.int .i64 A1,.int .i64 A2]).cell' (i:=0) rfl
  have a1:(w2.alloc (.cells #[.int .i64 A1,.int .i64 A2] 59)).cell? ⟨w2.heap.size,1,none⟩=some (.int .i64 A2):=(Blk.new w2 59 #[.int .i64 A1,.int .i64 A2]).cell' (i:=1) rfl
  have KK:=Lib.hid (KK.out.trans k9 (fun _ _ h=>h))
  have b0:=k9.cell b0
  have b1:=k9.cell b1
  have b2:=k9.cell b2
  have b3:=k9.cell b3
  have b4:=k9.cell b4
  have b5:=k9.cell b5
  have b6:=k9.cell b6
  have b7:=k9.cell b7
  have b8:=k9.cell b8
  have b9:=k9.cell b9
  have b10:=k9.cell b10
  clear k9
  generalize w2.heap.size=bA at *
  generalize (w2.alloc (.cells #[.int .i64 A1,.int .i64 A2] 59))=w3 at *
  go_wp2_with (first | (go_at_call 122;with_reducible refine (HIA.out _).mono ?_;rintro r w2 ⟨rfl,hk⟩;have KK:=Lib.hid (KK.out.trans hk (fun _ _ h=>h));have b0:=hk.cell b0;have b1:=hk.cell b1;have b2:=hk.cell b2;have b3:=hk.cell b3;have b4:=hk.cell b4;have b5:=hk.cell b5;have b6:=hk.cell b6;have b7:=hk.cell b7;have b8:=hk.cell b8;have b9:=hk.cell b9;have b10:=hk.cell b10;have a0:=hk.cell a0;have a1:=hk.cell a1) | (go_at_call 122;with_reducible refine (HIR.out _).mono ?_;rintro r w2 ⟨rfl,hk⟩;have KK:=Lib.hid (KK.out.trans hk (fun _ _ h=>h));have b0:=hk.cell b0;have b1:=hk.cell b1;have b2:=hk.cell b2;have b3:=hk.cell b3;have b4:=hk.cell b4;have b5:=hk.cell b5;have b6:=hk.cell b6;have b7:=hk.cell b7;have b8:=hk.cell b8;have b9:=hk.cell b9;have b10:=hk.cell b10;have a0:=hk.cell a0;have a1:=hk.cell a1))
  go_ret
  exact⟨rfl,K0.out.trans KK.out (fun _ _ h=>h)⟩
 subst c6
 by_cases r1:rt=0∧rs=0
 case pos =>
  obtain⟨rfl,rfl⟩:=r1
  obtain rfl:b=decide ((0:Int)<it):=HBB.out.symm.trans (decide_eq_decide.2 ⟨fun h=>(OK.out.1 h).2.2.2.2.2.2.2.2,fun h=>OK.out.2 ⟨rfl,rfl,t2.out,c4,c3,t5.out,rfl,.inr rfl,h⟩⟩)
  clear HBB OK c3 c4
  go_enter Tryz.func82,Tryz.ntmps82
  go_upto_region 1 with fail
  rw [HW.out]
  have KK:=Lib.hid (Kept.refl (fun _=>False) W)
  clear HW
  go_upto_region 4 with (first | (go_at_call 71;with_reducible refine (HG.out _).mono ?_;rintro r w2 ⟨rfl,hk⟩;have KK:=Lib.hid (KK.out.trans hk (fun _ _ h=>h));have b0:=hk.cell b0;have b1:=hk.cell b1;have b2:=hk.cell b2;have b3:=hk.cell b3;have b4:=hk.cell b4;have b5:=hk.cell b5;have b6:=hk.cell b6;have b7:=hk.cell b7;have b8:=hk.cell b8;have b9:=hk.cell b9;have b10:=hk.cell b10) | (go_at_call 120;with_reducible refine (HC.out _).mono ?_;rintro r w2 ⟨rfl,hk⟩;have KK:=Lib.hid (KK.out.trans hk (fun _ _ h=>h));have b0:=hk.cell b0;have b1:=hk.cell b1;have b2:=hk.cell b2;have b3:=hk.cell b3;have b4:=hk.cell b4;have b5:=hk.cell b5;have b6:=hk.cell b6;have b7:=hk.cell b7;have b8:=hk.cell b8;have b9:=hk.cell b9;have b10:=hk.cell b10))
  go_upto_region 5 with (go_at_call 121;with_reducible refine (HAF.out _).mono ?_;rintro r w2 ⟨rfl,hk⟩;have KK:=Lib.hid (KK.out.trans hk (fun _ _ h=>h));have b0:=hk.cell b0;have b1:=hk.cell b1;have b2:=hk.cell b2;have b3:=hk.cell b3;have b4:=hk.cell b4;have b5:=hk.cell b5;have b6:=hk.cell b6;have b7:=hk.cell b7;have b8:=hk.cell b8;have b9:=hk.cell b9;have b10:=hk.cell b10)
  have k9:Kept (fun _=>False) w2 (w2.alloc (.cells #[.int .i64 A1,.int .i64 A2] 59)):=(Kept.refl _ _).alloc _
  have a0:(w2.alloc (.cells #[.int .i64 A1,.int .i64 A2] 59)).cell? ⟨w2.heap.size,0,none⟩=some (.int .i64 A1):=(Blk.new w2 59 #[.int .i64 A1,.int .i64 A2]).cell' (i:=0) rfl
  have a1:(w2.alloc (.cells #[.int .i64 A1,.int .i64 A2] 59)).cell? ⟨w2.heap.size,1,none⟩=some (.int .i64 A2):=(Blk.new w2 59 #[.int .i64 A1,.int .i64 A2]).cell' (i:=1) rfl
  have KK:=Lib.hid (KK.out.trans k9 (fun _ _ h=>h))
  have b0:=k9.cell b0
  have b1:=k9.cell b1
  have b2:=k9.cell b2
  have b3:=k9.cell b3
  have b4:=k9.cell b4
  have b5:=k9.cell b5
  have b6:=k9.cell b6
  have b7:=k9.cell b7
  have b8:=k9.cell b8
  have b9:=k9.cell b9
  have b10:=k9.cell b10
  clear k9
  generalize w2.heap.size=bA at *
  generalize (w2.alloc (.cells #[.int .i64 A1,.int .i64 A2] 59))=w3 at *
  go_wp2_with (first | (go_at_call 122;with_reducible refine (HIA.out _).mono ?_;rintro r w2 ⟨rfl,hk⟩;have KK:=Lib.hid (KK.out.trans hk (fun _ _ h=>h));have b0:=hk.cell b0;have b1:=hk.cell b1;have b2:=hk.cell b2;have b3:=hk.cell b3;have b4:=hk.cell b4;have b5:=hk.cell b5;have b6:=hk.cell b6;have b7:=hk.cell b7;have b8:=hk.cell b8;have b9:=hk.cell b9;have b10:=hk.cell b10;have a0:=hk.cell a0;have a1:=hk.cell a1) | (go_at_call 122;with_reducible refine (HIR.out _).mono ?_;rintro r w2 ⟨rfl,hk⟩;have KK:=Lib.hid (KK.out.trans hk (fun _ _ h=>h));have b0:=hk.cell b0;have b1:=hk.cell b1;have b2:=hk.cell b2;have b3:=hk.cell b3;have b4:=hk.cell b4;have b5:=hk.cell b5;have b6:=hk.cell b6;have b7:=hk.cell b7;have b8:=hk.cell b8;have b9:=hk.cell b9;have b10:=hk.cell b10;have a0:=hk.cell a0;have a1:=hk.cell a1))
  go_ret
  exact⟨rfl,K0.out.trans KK.out (fun _ _ h=>h)⟩
 by_cases r3:rt=0
 ·have e9:(rs == 0)=false:=beq_eq_false_iff_ne.2 (fun h=>r1 ⟨r3,h⟩)
  have e10:((0:Int) == rs)=false:=beq_eq_false_iff_ne.2 (fun h=>r1 ⟨r3,h.symm⟩)
  have nz:¬(⟨rt,rs⟩:ID)=⟨0,0⟩:=fun h=>r1 ⟨congrArg ID.t h,congrArg ID.s h⟩
  clear r1
  subst r3
  cases tR
  ·obtain rfl:b=false:=HBB.out.symm.trans (decide_eq_false (fun h=>by rcases (OK.out.1 h).2.2.2.2.2.2.2.1 with h | h;cases h;exact nz h))
   clear HBB OK nz c3 c4
   go_enter Tryz.func82,Tryz.ntmps82
   go_upto_region 1 with fail
   rw [HW.out]
   have KK:=Lib.hid (Kept.refl (fun _=>False) W)
   clear HW
   go_upto_region 4 with (first | (go_at_call 71;with_reducible refine (HG.out _).mono ?_;rintro r w2 ⟨rfl,hk⟩;have KK:=Lib.hid (KK.out.trans hk (fun _ _ h=>h));have b0:=hk.cell b0;have b1:=hk.cell b1;have b2:=hk.cell b2;have b3:=hk.cell b3;have b4:=hk.cell b4;have b5:=hk.cell b5;have b6:=hk.cell b6;have b7:=hk.cell b7;have b8:=hk.cell b8;have b9:=hk.cell b9;have b10:=hk.cell b10) | (go_at_call 120;with_reducible refine (HC.out _).mono ?_;rintro r w2 ⟨rfl,hk⟩;have KK:=Lib.hid (KK.out.trans hk (fun _ _ h=>h));have b0:=hk.cell b0;have b1:=hk.cell b1;have b2:=hk.cell b2;have b3:=hk.cell b3;have b4:=hk.cell b4;have b5:=hk.cell b5;have b6:=hk.cell b6;have b7:=hk.cell b7;have b8:=hk.cell b8;have b9:=hk.cell b9;have b10:=hk.cell b10))
   go_upto_region 5 with (go_at_call 121;with_reducible refine (HAF.out _).mono ?_;rintro r w2 ⟨rfl,hk⟩;have KK:=Lib.hid (KK.out.trans hk (fun _ _ h=>h));have b0:=hk.cell b0;have b1:=hk.cell b1;have b2:=hk.cell b2;have b3:=hk.cell b3;have b4:=hk.cell b4;have b5:=hk.cell b5;have b6:=hk.cell b6;have b7:=hk.cell b7;have b8:=hk.cell b8;have b9:=hk.cell b9;have b10:=hk.cell b10)
   have k9:Kept (fun _=>False) w2 (w2.alloc (.cells #[.int .i64 A1,.int .i64 A2] 59)):=(Kept.refl _ _).alloc _
   have a0:(w2.alloc (.cells #[.int .i64 A1,.int .i64 A2] 59)).cell? ⟨w2.heap.size,0,none⟩=some (.int .i64 A1):=(Blk.new w2 59 #[.int .i64 A1,.int .i64 A2]).cell' (i:=0) rfl
   have a1:(w2.alloc (.cells #[.int .i64 A1,.int .i64 A2] 59)).cell? ⟨w2.heap.size,1,none⟩=some (.int .i64 A2):=(Blk.new w2 59 #[.int .i64 A1,.int .i64 A2]).cell' (i:=1) rfl
   have KK:=Lib.hid (KK.out.trans k9 (fun _ _ h=>h))
   have b0:=k9.cell b0
   have b1:=k9.cell b1
   have b2:=k9.cell b2
   have b3:=k9.cell b3
   have b4:=k9.cell b4
   have b5:=k9.cell b5
   have b6:=k9.cell b6
   have b7:=k9.cell b7
   have b8:=k9.cell b8
   have b9:=k9.cell b9
   have b10:=k9.cell b10
   clear k9
   generalize w2.heap.size=bA at *
   generalize (w2.alloc (.cells #[.int .i64 A1,.int .i64 A2] 59))=w3 at *
   go_wp2_with (first | (go_at_call 122;with_reducible refine (HIA.out _).mono ?_;rintro r w2 ⟨rfl,hk⟩;have KK:=Lib.hid (KK.out.trans hk (fun _ _ h=>h));have b0:=hk.cell b0;have b1:=hk.cell b1;have b2:=hk.cell b2;have b3:=hk.cell b3;have b4:=hk.cell b4;have b5:=hk.cell b5;have b6:=hk.cell b6;have b7:=hk.cell b7;have b8:=hk.cell b8;have b9:=hk.cell b9;have b10:=hk.cell b10;have a0:=hk.cell a0;have a1:=hk.cell a1) | (go_at_call 122;with_reducible refine (HIR.out _).mono ?_;rintro r w2 ⟨rfl,hk⟩;have KK:=Lib.hid (KK.out.trans hk (fun _ _ h=>h));have b0:=hk.cell b0;have b1:=hk.cell b1;have b2:=hk.cell b2;have b3:=hk.cell b3;have b4:=hk.cell b4;have b5:=hk.cell b5;have b6:=hk.cell b6;have b7:=hk.cell b7;have b8:=hk.cell b8;have b9:=hk.cell b9;have b10:=hk.cell b10;have a0:=hk.cell a0;have a1:=hk.cell a1))
   go_ret
   exact⟨rfl,K0.out.trans KK.out (fun _ _ h=>h)⟩
  ·obtain rfl:b=decide ((0:Int)<it):=HBB.out.symm.trans (decide_eq_decide.2 ⟨fun h=>(OK.out.1 h).2.2.2.2.2.2.2.2,fun h=>OK.out.2 ⟨rfl,rfl,t2.out,c4,c3,t5.out,rfl,.inl rfl,h⟩⟩)
   clear HBB OK nz c3 c4
   go_enter Tryz.func82,Tryz.ntmps82
   go_upto_region 1 with fail
   rw [HW.out]
   have KK:=Lib.hid (Kept.refl (fun _=>False) W)
   clear HW
   go_upto_region 4 with (first | (go_at_call 71;with_reducible refine (HG.out _).mono ?_;rintro r w2 ⟨rfl,hk⟩;have KK:=Lib.hid (KK.out.trans hk (fun _ _ h=>h));have b0:=hk.cell b0;have b1:=hk.cell b1;have b2:=hk.cell b2;have b3:=hk.cell b3;have b4:=hk.cell b4;have b5:=hk.cell b5;have b6:=hk.cell b6;have b7:=hk.cell b7;have b8:=hk.cell b8;have b9:=hk.cell b9;have b10:=hk.cell b10) | (go_at_call 120;with_reducible refine (HC.out _).mono ?_;rintro r w2 ⟨rfl,hk⟩;have KK:=Lib.hid (KK.out.trans hk (fun _ _ h=>h));have b0:=hk.cell b0;have b1:=hk.cell b1;have b2:=hk.cell b2;have b3:=hk.cell b3;have b4:=hk.cell b4;have b5:=hk.cell b5;have b6:=hk.cell b6;have b7:=hk.cell b7;have b8:=hk.cell b8;have b9:=hk.cell b9;have b10:=hk.cell b10))
   go_upto_region 5 with (go_at_call 121;with_reducible refine (HAF.out _).mono ?_;rintro r w2 ⟨rfl,hk⟩;have KK:=Lib.hid (KK.out.trans hk (fun _ _ h=>h));have b0:=hk.cell b0;have b1:=hk.cell b1;have b2:=hk.cell b2;have b3:=hk.cell b3;have b4:=hk.cell b4;have b5:=hk.cell b5;have b6:=hk.cell b6;have b7:=hk.cell b7;have b8:=hk.cell b8;have b9:=hk.cell b9;have b10:=hk.cell b10)
   have k9:Kept (fun _=>False) w2 (w2.alloc (.cells #[.int .i64 A1,.int .i64 A2] 59)):=(Kept.refl _ _).alloc _
   have a0:(w2.alloc (.cells #[.int .i64 A1,.int .i64 A2] 59)).cell? ⟨w2.heap.size,0,none⟩=some (.int .i64 A1):=(Blk.new w2 59 #[.int .i64 A1,.int .i64 A2]).cell' (i:=0) rfl
   have a1:(w2.alloc (.cells #[.int .i64 A1,.int .i64 A2] 59)).cell? ⟨w2.heap.size,1,none⟩=some (.int .i64 A2):=(Blk.new w2 59 #[.int .i64 A1,.int .i64 A2]).cell' (i:=1) rfl
   have KK:=Lib.hid (KK.out.trans k9 (fun _ _ h=>h))
   have b0:=k9.cell b0
   have b1:=k9.cell b1
   have b2:=k9.cell b2
   have b3:=k9.cell b3
   have b4:=k9.cell b4
   have b5:=k9.cell b5
   have b6:=k9.cell b6
   have b7:=k9.cell b7
   have b8:=k9.cell b8
   have b9:=k9.cell b9
   have b10:=k9.cell b10
   clear k9
   generalize w2.heap.size=bA at *
   generalize (w2.alloc (.cells #[.int .i64 A1,.int .i64 A2] 59))=w3 at *
   go_wp2_with (first | (go_at_call 122;with_reducible refine (HIA.out _).mono ?_;rintro r w2 ⟨rfl,hk⟩;have KK:=Lib.hid (KK.out.trans hk (fun _ _ h=>h));have b0:=hk.cell b0;have b1:=hk.cell b1;have b2:=hk.cell b2;have b3:=hk.cell b3;have b4:=hk.cell b4;have b5:=hk.cell b5;have b6:=hk.cell b6;have b7:=hk.cell b7;have b8:=hk.cell b8;have b9:=hk.cell b9;have b10:=hk.cell b10;have a0:=hk.cell a0;have a1:=hk.cell a1) | (go_at_call 122;with_reducible refine (HIR.out _).mono ?_;rintro r w2 ⟨rfl,hk⟩;have KK:=Lib.hid (KK.out.trans hk (fun _ _ h=>h));have b0:=hk.cell b0;have b1:=hk.cell b1;have b2:=hk.cell b2;have b3:=hk.cell b3;have b4:=hk.cell b4;have b5:=hk.cell b5;have b6:=hk.cell b6;have b7:=hk.cell b7;have b8:=hk.cell b8;have b9:=hk.cell b9;have b10:=hk.cell b10;have a0:=hk.cell a0;have a1:=hk.cell a1))
   go_ret
   exact⟨rfl,K0.out.trans KK.out (fun _ _ h=>h)⟩
 ·have e9:(rt == 0)=false:=beq_eq_false_iff_ne.2 r3
  have e10:((0:Int) == rt)=false:=beq_eq_false_iff_ne.2 (fun h=>r3 h.symm)
  have nz:¬(⟨rt,rs⟩:ID)=⟨0,0⟩:=fun h=>r1 ⟨congrArg ID.t h,congrArg ID.s h⟩
  clear r1 r3
  cases tR
  ·obtain rfl:b=false:=HBB.out.symm.trans (decide_eq_false (fun h=>by rcases (OK.out.1 h).2.2.2.2.2.2.2.1 with h | h;cases h;exact nz h))
   clear HBB OK nz c3 c4
   go_enter Tryz.func82,Tryz.ntmps82
   go_upto_region 1 with fail
   rw [HW.out]
   have KK:=Lib.hid (Kept.refl (fun _=>False) W)
   clear HW
   go_upto_region 4 with (first | (go_at_call 71;with_reducible refine (HG.out _).mono ?_;rintro r w2 ⟨rfl,hk⟩;have KK:=Lib.hid (KK.out.trans hk (fun _ _ h=>h));have b0:=hk.cell b0;have b1:=hk.cell b1;have b2:=hk.cell b2;have b3:=hk.cell b3;have b4:=hk.cell b4;have b5:=hk.cell b5;have b6:=hk.cell b6;have b7:=hk.cell b7;have b8:=hk.cell b8;have b9:=hk.cell b9;have b10:=hk.cell b10) | (go_at_call 120;with_reducible refine (HC.out _).mono ?_;rintro r w2 ⟨rfl,hk⟩;have KK:=Lib.hid (KK.out.trans hk (fun _ _ h=>h));have b0:=hk.cell b0;have b1:=hk.cell b1;have b2:=hk.cell b2;have b3:=hk.cell b3;have b4:=hk.cell b4;have b5:=hk.cell b5;have b6:=hk.cell b6;have b7:=hk.cell b7;have b8:=hk.cell b8;have b9:=hk.cell b9;have b10:=hk.cell b10))
   go_upto_region 5 with (go_at_call 121;with_reducible refine (HAF.out _).mono ?_;rintro r w2 ⟨rfl,hk⟩;have KK:=Lib.hid (KK.out.trans hk (fun _ _ h=>h));have b0:=hk.cell b0;have b1:=hk.cell b1;have b2:=hk.cell b2;have b3:=hk.cell b3;have b4:=hk.cell b4;have b5:=hk.cell b5;have b6:=hk.cell b6;have b7:=hk.cell b7;have b8:=hk.cell b8;have b9:=hk.cell b9;have b10:=hk.cell b10)
   have k9:Kept (fun _=>False) w2 (w2.alloc (.cells #[.int .i64 A1,.int .i64 A2] 59)):=(Kept.refl _ _).alloc _
   have a0:(w2.alloc (.cells #[.int .i64 A1,.int .i64 A2] 59)).cell? ⟨w2.heap.size,0,none⟩=some (.int .i64 A1):=(Blk.new w2 59 #[.int .i64 A1,.int .i64 A2]).cell' (i:=0) rfl
   have a1:(w2.alloc (.cells #[.int .i64 A1,.int .i64 A2] 59)).cell? ⟨w2.heap.size,1,none⟩=some (.int .i64 A2):=(Blk.new w2 59 #[.int .i64 A1,.int .i64 A2]).cell' (i:=1) rfl
   have KK:=Lib.hid (KK.out.trans k9 (fun _ _ h=>h))
   have b0:=k9.cell b0
   have b1:=k9.cell b1
   have b2:=k9.cell b2
   have b3:=k9.cell b3
   have b4:=k9.cell b4
   have b5:=k9.cell b5
   have b6:=k9.cell b6
   have b7:=k9.cell b7
   have b8:=k9.cell b8
   have b9:=k9.cell b9
   have b10:=k9.cell b10
   clear k9
   generalize w2.heap.size=bA at *
   generalize (w2.alloc (.cells #[.int .i64 A1,.int .i64 A2] 59))=w3 at *
   go_wp2_with (first | (go_at_call 122;with_reducible refine (HIA.out _).mono ?_;rintro r w2 ⟨rfl,hk⟩;have KK:=Lib.hid (KK.out.trans hk (fun _ _ h=>h));have b0:=hk.cell b0;have b1:=hk.cell b1;have b2:=hk.cell b2;have b3:=hk.cell b3;have b4:=hk.cell b4;have b5:=hk.cell b5;have b6:=hk.cell b6;have b7:=hk.cell b7;have b8:=hk.cell b8;have b9:=hk.cell b9;have b10:=hk.cell b10;have a0:=hk.cell a0;have a1:=hk.cell a1) | (go_at_call 122;with_reducible refine (HIR.out _).mono ?_;rintro r w2 ⟨rfl,hk⟩;have KK:=Lib.hid (KK.out.trans hk (fun _ _ h=>h));have b0:=hk.cell b0;have b1:=hk.cell b1;have b2:=hk.cell b2;have b3:=hk.cell b3;have b4:=hk.cell b4;have b5:=hk.cell b5;have b6:=hk.cell b6;have b7:=hk.cell b7;have b8:=hk.cell b8;have b9:=hk.cell b9;have b10:=hk.cell b10;have a0:=hk.cell a0;have a1:=hk.cell a1))
   go_ret
   exact⟨rfl,K0.out.trans KK.out (fun _ _ h=>h)⟩
  ·obtain rfl:b=decide ((rt:Int)<it):=HBB.out.symm.trans (decide_eq_decide.2 ⟨fun h=>(OK.out.1 h).2.2.2.2.2.2.2.2,fun h=>OK.out.2 ⟨rfl,rfl,t2.out,c4,c3,t5.out,rfl,.inl rfl,h⟩⟩)
   clear HBB OK nz c3 c4
   go_enter Tryz.func82,Tryz.ntmps82
   go_upto_region 1 with fail
   rw [HW.out]
   have KK:=Lib.hid (Kept.refl (fun _=>False) W)
   clear HW
   go_upto_region 4 with (first | (go_at_call 71;with_reducible refine (HG.out _).mono ?_;rintro r w2 ⟨rfl,hk⟩;have KK:=Lib.hid (KK.out.trans hk (fun _ _ h=>h));have b0:=hk.cell b0;have b1:=hk.cell b1;have b2:=hk.cell b2;have b3:=hk.cell b3;have b4:=hk.cell b4;have b5:=hk.cell b5;have b6:=hk.cell b6;have b7:=hk.cell b7;have b8:=hk.cell b8;have b9:=hk.cell b9;have b10:=hk.cell b10) | (go_at_call 120;with_reducible refine (HC.out _).mono ?_;rintro r w2 ⟨rfl,hk⟩;have KK:=Lib.hid (KK.out.trans hk (fun _ _ h=>h));have b0:=hk.cell b0;have b1:=hk.cell b1;have b2:=hk.cell b2;have b3:=hk.cell b3;have b4:=hk.cell b4;have b5:=hk.cell b5;have b6:=hk.cell b6;have b7:=hk.cell b7;have b8:=hk.cell b8;have b9:=hk.cell b9;have b10:=hk.cell b10))
   go_upto_region 5 with (go_at_call 121;with_reducible refine (HAF.out _).mono ?_;rintro r w2 ⟨rfl,hk⟩;have KK:=Lib.hid (KK.out.trans hk (fun _ _ h=>h));have b0:=hk.cell b0;have b1:=hk.cell b1;have b2:=hk.cell b2;have b3:=hk.cell b3;have b4:=hk.cell b4;have b5:=hk.cell b5;have b6:=hk.cell b6;have b7:=hk.cell b7;have b8:=hk.cell b8;have b9:=hk.cell b9;have b10:=hk.cell b10)
   have k9:Kept (fun _=>False) w2 (w2.alloc (.cells #[.int .i64 A1,.int .i64 A2] 59)):=(Kept.refl _ _).alloc _
   have a0:(w2.alloc (.cells #[.int .i64 A1,.int .i64 A2] 59)).cell? ⟨w2.heap.size,0,none⟩=some (.int .i64 A1):=(Blk.new w2 59 #[.int .i64 A1,.int .i64 A2]).cell' (i:=0) rfl
   have a1:(w2.alloc (.cells #[.int .i64 A1,.int .i64 A2] 59)).cell? ⟨w2.heap.size,1,none⟩=some (.int .i64 A2):=(Blk.new w2 59 #[.int .i64 A1,.int .i64 A2]).cell' (i:=1) rfl
   have KK:=Lib.hid (KK.out.trans k9 (fun _ _ h=>h))
   have b0:=k9.cell b0
   have b1:=k9.cell b1
   have b2:=k9.cell b2
   have b3:=k9.cell b3
   have b4:=k9.cell b4
   have b5:=k9.cell b5
   have b6:=k9.cell b6
   have b7:=k9.cell b7
   have b8:=k9.cell b8
   have b9:=k9.cell b9
   have b10:=k9.cell b10
   clear k9
   generalize w2.heap.size=bA at *
   generalize (w2.alloc (.cells #[.int .i64 A1,.int .i64 A2] 59))=w3 at *
   go_wp2_with (first | (go_at_call 122;with_reducible refine (HIA.out _).mono ?_;rintro r w2 ⟨rfl,hk⟩;have KK:=Lib.hid (KK.out.trans hk (fun _ _ h=>h));have b0:=hk.cell b0;have b1:=hk.cell b1;have b2:=hk.cell b2;have b3:=hk.cell b3;have b4:=hk.cell b4;have b5:=hk.cell b5;have b6:=hk.cell b6;have b7:=hk.cell b7;have b8:=hk.cell b8;have b9:=hk.cell b9;have b10:=hk.cell b10;have a0:=hk.cell a0;have a1:=hk.cell a1) | (go_at_call 122;with_reducible refine (HIR.out _).mono ?_;rintro r w2 ⟨rfl,hk⟩;have KK:=Lib.hid (KK.out.trans hk (fun _ _ h=>h));have b0:=hk.cell b0;have b1:=hk.cell b1;have b2:=hk.cell b2;have b3:=hk.cell b3;have b4:=hk.cell b4;have b5:=hk.cell b5;have b6:=hk.cell b6;have b7:=hk.cell b7;have b8:=hk.cell b8;have b9:=hk.cell b9;have b10:=hk.cell b10;have a0:=hk.cell a0;have a1:=hk.cell a1))
   go_ret
   exact⟨rfl,K0.out.trans KK.out (fun _ _ h=>h)⟩
end Go.Proofs.YtjohljmpcblpjaaGreatDoor
