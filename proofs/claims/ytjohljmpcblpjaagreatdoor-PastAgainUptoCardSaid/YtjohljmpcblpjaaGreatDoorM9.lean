/- An insert that is wrong ahead of its reference. An insert: its reference and its time; an insert as a whole. -/
import Derived.Test.YtjohljmpcblpjaaGreatDoorM8
set_option maxRecDepth 100000
set_option maxHeartbeats 20000000
namespace Go.Proofs.YtjohljmpcblpjaaGreatDoor
open Go.RowKit Go.Proofs.YtjohljmpcblpjaaGreatDoor.St Go.Proofs.YtjohljmpcblpjaaGreatDoor.Gl
theorem after_zero {a:ID}{n:Int}(h:(ID.after a n).t=0):ID.after a n=⟨0,0⟩:=by
 unfold ID.after at h ⊢
 split at h
 ·rename_i h1
  have h2:=h1.1
  unfold ID.Is at h2
  simp only at h
  omega
 ·rename_i h1
  rw [if_neg h1]
  rfl
theorem after_same (rt rs:Int):(ID.after ⟨rt,rs⟩ 0=⟨rt,rs⟩∧1≤rt)∨ID.after ⟨rt,rs⟩ 0=⟨0,0⟩:=by
 unfold ID.after
 split
 ·rename_i h
  left
  exact⟨by simp,h.1.1⟩
 ·exact .inr rfl
theorem ins_no {w:World}(ds dq kd it is_ rt rs st:Int) (da ga:Option Addr) (dn dc gn gc:Nat) (tx:ByteArray) (htx:tx.size≤maxLen) (hno:¬(gn=0∧st=0∧0<countR tx∧countR tx≤1024∧badFrom tx 0<0∧is_=ds∧ID.after ⟨it,is_⟩ ((countR tx:Int) - 1)≠⟨0,0⟩)) :
  Calls Tryz.prog 218 #[.agg #[.int .i64 it,.int .i64 is_,.int .i64 rt,.int .i64 rs,.string tx],.agg (opA ⟨⟨ds,dq⟩,⟨da,dn,dc⟩,kd,⟨it,is_⟩,⟨rt,rs⟩,tx,⟨ga,gn,gc⟩,st⟩)] w fun e w'=>e=.returned (.bool false)∧Kept (fun _=>False) w w':=by
 have hB:=Blk.new (w.alloc (.cells #[.int .i64 it,.int .i64 is_,.int .i64 rt,.int .i64 rs,.string tx] 229)) 62 (opA ⟨⟨ds,dq⟩,⟨da,dn,dc⟩,kd,⟨it,is_⟩,⟨rt,rs⟩,tx,⟨ga,gn,gc⟩,st⟩)
 have hS:=(Blk.new w 229 #[.int .i64 it,.int .i64 is_,.int .i64 rt,.int .i64 rs,.string tx]).alloc (.cells (opA ⟨⟨ds,dq⟩,⟨da,dn,dc⟩,kd,⟨it,is_⟩,⟨rt,rs⟩,tx,⟨ga,gn,gc⟩,st⟩) 62)
 have k0:Kept (fun _=>False) w ((w.alloc (.cells #[.int .i64 it,.int .i64 is_,.int .i64 rt,.int .i64 rs,.string tx] 229)).alloc (.cells (opA ⟨⟨ds,dq⟩,⟨da,dn,dc⟩,kd,⟨it,is_⟩,⟨rt,rs⟩,tx,⟨ga,gn,gc⟩,st⟩) 62)):=((Kept.refl _ _).alloc _).alloc _
 rw [World.size_alloc] at hB
 obtain⟨W,hW⟩:∃W,((w.alloc (.cells #[.int .i64 it,.int .i64 is_,.int .i64 rt,.int .i64 rs,.string tx] 229)).alloc (.cells (opA ⟨⟨ds,dq⟩,⟨da,dn,dc⟩,kd,⟨it,is_⟩,⟨rt,rs⟩,tx,⟨ga,gn,gc⟩,st⟩) 62))=W:=⟨_,rfl⟩
 rw [hW] at hS hB k0
 have HW:=Lib.hid hW
 have HOP:Hid (#[.int .i64 ds,.int .i64 dq,.slice da dn dc,.int .i64 kd,.int .i64 it,.int .i64 is_,.int .i64 rt,.int .i64 rs,.string tx,.slice ga gn gc,.int .i64 st]=opA ⟨⟨ds,dq⟩,⟨da,dn,dc⟩,kd,⟨it,is_⟩,⟨rt,rs⟩,tx,⟨ga,gn,gc⟩,st⟩):=Lib.hid rfl
 have b0:W.cell? ⟨w.heap.size+1,0,none⟩=some (.int .i64 ds):=hB.cell' (i:=0) rfl
 have b1:W.cell? ⟨w.heap.size+1,1,none⟩=some (.int .i64 dq):=hB.cell' (i:=1) rfl
 have b2:W.cell? ⟨w.heap.size+1,2,none⟩=some (.slice da dn dc):=hB.cell' (i:=2) rfl
 have b3:W.cell? ⟨w.heap.size+1,3,none⟩=some (.int .i64 kd):=hB.cell' (i:=3) rfl
 have b4:W.cell? ⟨w.heap.size+1,4,none⟩=some (.int .i64 it):=hB.cell' (i:=4) rfl
 have b5:W.cell? ⟨w.heap.size+1,5,none⟩=some (.int .i64 is_):=hB.cell' (i:=5) rfl
 have b6:W.cell? ⟨w.heap.size+1,6,none⟩=some (.int .i64 rt):=hB.cell' (i:=6) rfl
 have b7:W.cell? ⟨w.heap.size+1,7,none⟩=some (.int .i64 rs):=hB.cell' (i:=7) rfl
 have b8:W.cell? ⟨w.heap.size+1,8,none⟩=some (.string tx):=hB.cell' (i:=8) rfl
 have b9:W.cell? ⟨w.heap.size+1,9,none⟩=some (.slice ga gn gc):=hB.cell' (i:=9) rfl
 have b10:W.cell? ⟨w.heap.size+1,10,none⟩=some (.int .i64 st):=hB.cell' (i:=10) rfl
 have x0:W.cell? ⟨w.heap.size,0,none⟩=some (.int .i64 it):=hS.cell' (i:=0) rfl
 have x1:W.cell? ⟨w.heap.size,1,none⟩=some (.int .i64 is_):=hS.cell' (i:=1) rfl
 have x2:W.cell? ⟨w.heap.size,2,none⟩=some (.int .i64 rt):=hS.cell' (i:=2) rfl
 have x3:W.cell? ⟨w.heap.size,3,none⟩=some (.int .i64 rs):=hS.cell' (i:=3) rfl
 have x4:W.cell? ⟨w.heap.size,4,none⟩=some (.string tx):=hS.cell' (i:=4) rfl
 have K0:=Lib.hid k0
 have HCO:=Lib.hid (fun (w':World)=>(count_any tx htx w').mono (R':=fun r w''=>r=.returned (.int .i64 (countR tx))∧Kept (fun _=>False) w' w'') (fun r w'' h=>by obtain⟨h1,p,rfl⟩:=h;exact⟨h1,iter_kept _ _ _⟩))
 have HBA:=Lib.hid (fun (w':World)=>(badAt_any tx htx w').mono (R':=fun r w''=>r=.returned (.int .i64 (badFrom tx 0))∧Grew w' w'') (fun r w'' h=>by obtain⟨h1,p,rfl⟩:=h;exact⟨h1,(Grew.refl _).alloc _⟩))
 have hcl:=countR_le tx
 unfold maxLen at htx
 obtain⟨A,hA⟩:∃A,ID.after ⟨it,is_⟩ ((countR tx:Int) - 1)=A:=⟨_,rfl⟩
 obtain⟨R,hR⟩:∃R,ID.after ⟨rt,rs⟩ 0=R:=⟨_,rfl⟩
 have hAz:A.t=0→A=⟨0,0⟩:=fun h=>by rw [←hA] at h ⊢;exact after_zero h
 have hRz:(R=⟨rt,rs⟩∧1≤rt)∨R=⟨0,0⟩:=by rw [←hR];exact after_same rt rs
 have HA1:Hid (∀w':World,Calls Tryz.prog 129 #[.agg #[.int .i64 it,.int .i64 is_],.int .i64 ((countR tx:Int) - 1)] w' fun e w''=>e=.returned (.agg #[.int .i64 A.t,.int .i64 A.s])∧Grew w' w''):=Lib.hid (fun w'=>by have h:=after_any ⟨it,is_⟩ ((countR tx:Int) - 1) (by omega) (by omega) w';rw [hA] at h;exact h)
 have HA2:Hid (∀w':World,Calls Tryz.prog 129 #[.agg #[.int .i64 rt,.int .i64 rs],.int .i64 0] w' fun e w''=>e=.returned (.agg #[.int .i64 R.t,.int .i64 R.s])∧Grew w' w''):=Lib.hid (fun w'=>by have h:=after_any ⟨rt,rs⟩ 0 (by decide) (by decide) w';rw [hR] at h;exact h)
 have EA:=Lib.hid hA
 have ER:=Lib.hid hR
 obtain⟨A1,A2⟩:=A
 obtain⟨n,hn⟩:∃n,countR tx=n:=⟨_,rfl⟩
 obtain⟨bd,hbd⟩:∃n,badFrom tx 0=n:=⟨_,rfl⟩
 rw [hn] at HA1 HCO hcl
 rw [hbd] at HBA
 have EN:=Lib.hid hn
 have EB:=Lib.hid hbd
 have hwn:IntKind.i64.wrap ((n:Int) - 1)=(n:Int) - 1:=IntWalk.i64_in _ (by omega)
 have hmix:Tryz.prog.follows .mixedOrders=true:=by kernel_rfl
 have HSZ:=Lib.hid (show w.heap.size<W.heap.size∧w.heap.size+1<W.heap.size by have:=hB.lt;omega)
 have HR0:=Lib.hid (fun (w':World)=>rest_any (w:=w') ⟨⟨ds,dq⟩,⟨da,dn,dc⟩,kd,⟨it,is_⟩,⟨rt,rs⟩,tx,⟨ga,gn,gc⟩,st⟩)
 have HAZ:=Lib.hid hAz
 have HRZ:=Lib.hid hRz
 clear hB hS k0 hW hA hR hn hbd hAz hRz
 have NO:=Lib.hid hno
 clear hno
 by_cases c0:gn=0
 case neg =>
  have ec0:((gn:Int) == 0)=false:=beq_eq_false_iff_ne.2 (by omega)
  clear c0 NO
  go_enter Tryz.func218,Tryz.ntmps218
  go_upto_region 1 with fail
  rw [HW.out]
  clear HW
  go_upto_region 2 with (go_at_call 127;refine (HCO.out _).mono ?_;rintro r w2 ⟨rfl,hk⟩)
  dsimp only [List.append]
  have b0:=cell_grown (w:=w2) (Nat.lt_of_lt_of_le HSZ.out.2 hk.size) (hk.cell b0)
  have b1:=cell_grown (w:=w2) (Nat.lt_of_lt_of_le HSZ.out.2 hk.size) (hk.cell b1)
  have b2:=cell_grown (w:=w2) (Nat.lt_of_lt_of_le HSZ.out.2 hk.size) (hk.cell b2)
  have b3:=cell_grown (w:=w2) (Nat.lt_of_lt_of_le HSZ.out.2 hk.size) (hk.cell b3)
  have b4:=cell_grown (w:=w2) (Nat.lt_of_lt_of_le HSZ.out.2 hk.size) (hk.cell b4)
  have b5:=cell_grown (w:=w2) (Nat.lt_of_lt_of_le HSZ.out.2 hk.size) (hk.cell b5)
  have b6:=cell_grown (w:=w2) (Nat.lt_of_lt_of_le HSZ.out.2 hk.size) (hk.cell b6)
  have b7:=cell_grown (w:=w2) (Nat.lt_of_lt_of_le HSZ.out.2 hk.size) (hk.cell b7)
  have b8:=cell_grown (w:=w2) (Nat.lt_of_lt_of_le HSZ.out.2 hk.size) (hk.cell b8)
  have b9:=cell_grown (w:=w2) (Nat.lt_of_lt_of_le HSZ.out.2 hk.size) (hk.cell b9)
  have b10:=cell_grown (w:=w2) (Nat.lt_of_lt_of_le HSZ.out.2 hk.size) (hk.cell b10)
  have x0:=cell_grown (w:=w2) (Nat.lt_of_lt_of_le HSZ.out.1 hk.size) (hk.cell x0)
  have x1:=cell_grown (w:=w2) (Nat.lt_of_lt_of_le HSZ.out.1 hk.size) (hk.cell x1)
  have x2:=cell_grown (w:=w2) (Nat.lt_of_lt_of_le HSZ.out.1 hk.size) (hk.cell x2)
  have x3:=cell_grown (w:=w2) (Nat.lt_of_lt_of_le HSZ.out.1 hk.size) (hk.cell x3)
  have x4:=cell_grown (w:=w2) (Nat.lt_of_lt_of_le HSZ.out.1 hk.size) (hk.cell x4)
  have HR:=Lib.hid (fun (w':World) (_:Grew w2 w')=>HR0.out w')
  have HB:=Lib.hid (fun (w':World) (_:Grew w2 w')=>HBA.out w')
  have H1:=Lib.hid (fun (w':World) (_:Grew w2 w')=>HA1.out w')
  have H2:=Lib.hid (fun (w':World) (_:Grew w2 w')=>HA2.out w')
  have HKK:=Lib.hid hk
  clear hk
  refine wp_region_quiet_grown (by assumption) (by kernel_rfl) ?_
  repeat (go_big_quiet_step (first
   | (go_at_call 219;rw [HOP.out];exact grown_call HR.out _ _)
   | (go_at_call 126;exact grown_call HB.out _ _)
   | (go_at_call 129;with_reducible exact grown_call H2.out _ _)
   | (go_at_call 129;exact grown_call H1.out _ _)))
  refine wpQuiet_nil ?_
  intro _ hw2
  obtain⟨⟨nq,osq⟩,hw3⟩:=hw2
  subst hw3
  go_wp2_with fail
  go_ret
  exact⟨rfl,(K0.out.trans HKK.out (fun _ _ h=>h)).trans (Grew.grown _ _).kept (fun _ _ h=>h)⟩
 subst c0
 by_cases c1:st=0
 case neg =>
  have ec1:(st == 0)=false:=beq_eq_false_iff_ne.2 c1
  clear c1 NO
  go_enter Tryz.func218,Tryz.ntmps218
  go_upto_region 1 with fail
  rw [HW.out]
  clear HW
  go_upto_region 2 with (go_at_call 127;refine (HCO.out _).mono ?_;rintro r w2 ⟨rfl,hk⟩)
  dsimp only [List.append]
  have b0:=cell_grown (w:=w2) (Nat.lt_of_lt_of_le HSZ.out.2 hk.size) (hk.cell b0)
  have b1:=cell_grown (w:=w2) (Nat.lt_of_lt_of_le HSZ.out.2 hk.size) (hk.cell b1)
  have b2:=cell_grown (w:=w2) (Nat.lt_of_lt_of_le HSZ.out.2 hk.size) (hk.cell b2)
  have b3:=cell_grown (w:=w2) (Nat.lt_of_lt_of_le HSZ.out.2 hk.size) (hk.cell b3)
  have b4:=cell_grown (w:=w2) (Nat.lt_of_lt_of_le HSZ.out.2 hk.size) (hk.cell b4)
  have b5:=cell_grown (w:=w2) (Nat.lt_of_lt_of_le HSZ.out.2 hk.size) (hk.cell b5)
  have b6:=cell_grown (w:=w2) (Nat.lt_of_lt_of_le HSZ.out.2 hk.size) (hk.cell b6)
  have b7:=cell_grown (w:=w2) (Nat.lt_of_lt_of_le HSZ.out.2 hk.size) (hk.cell b7)
  have b8:=cell_grown (w:=w2) (Nat.lt_of_lt_of_le HSZ.out.2 hk.size) (hk.cell b8)
  have b9:=cell_grown (w:=w2) (Nat.lt_of_lt_of_le HSZ.out.2 hk.size) (hk.cell b9)
  have b10:=cell_grown (w:=w2) (Nat.lt_of_lt_of_le HSZ.out.2 hk.size) (hk.cell b10)
  have x0:=cell_grown (w:=w2) (Nat.lt_of_lt_of_le HSZ.out.1 hk.size) (hk.cell x0)
  have x1:=cell_grown (w:=w2) (Nat.lt_of_lt_of_le HSZ.out.1 hk.size) (hk.cell x1)
  have x2:=cell_grown (w:=w2) (Nat.lt_of_lt_of_le HSZ.out.1 hk.size) (hk.cell x2)
  have x3:=cell_grown (w:=w2) (Nat.lt_of_lt_of_le HSZ.out.1 hk.size) (hk.cell x3)
  have x4:=cell_grown (w:=w2) (Nat.lt_of_lt_of_le HSZ.out.1 hk.size) (hk.cell x4)
  have HR:=Lib.hid (fun (w':World) (_:Grew w2 w')=>HR0.out w')
  have HB:=Lib.hid (fun (w':World) (_:Grew w2 w')=>HBA.out w')
  have H1:=Lib.hid (fun (w':World) (_:Grew w2 w')=>HA1.out w')
  have H2:=Lib.hid (fun (w':World) (_:Grew w2 w')=>HA2.out w')
  have HKK:=Lib.hid hk
  clear hk
  refine wp_region_quiet_grown (by assumption) (by kernel_rfl) ?_
  repeat (go_big_quiet_step (first
   | (go_at_call 219;rw [HOP.out];exact grown_call HR.out _ _)
   | (go_at_call 126;exact grown_call HB.out _ _)
   | (go_at_call 129;with_reducible exact grown_call H2.out _ _)
   | (go_at_call 129;exact grown_call H1.out _ _)))
  refine wpQuiet_nil ?_
  intro _ hw2
  obtain⟨⟨nq,osq⟩,hw3⟩:=hw2
  subst hw3
  go_wp2_with fail
  go_ret
  exact⟨rfl,(K0.out.trans HKK.out (fun _ _ h=>h)).trans (Grew.grown _ _).kept (fun _ _ h=>h)⟩
 subst c1
 by_cases c2:0<n
 case neg =>
  have ec2:decide ((0:Int)<n)=false:=decide_eq_false (by omega)
  have gc2:decide (0<n)=false:=decide_eq_false c2
  clear c2 NO
  go_enter Tryz.func218,Tryz.ntmps218
  go_upto_region 1 with fail
  rw [HW.out]
  clear HW
  go_upto_region 2 with (go_at_call 127;refine (HCO.out _).mono ?_;rintro r w2 ⟨rfl,hk⟩)
  dsimp only [List.append]
  have b0:=cell_grown (w:=w2) (Nat.lt_of_lt_of_le HSZ.out.2 hk.size) (hk.cell b0)
  have b1:=cell_grown (w:=w2) (Nat.lt_of_lt_of_le HSZ.out.2 hk.size) (hk.cell b1)
  have b2:=cell_grown (w:=w2) (Nat.lt_of_lt_of_le HSZ.out.2 hk.size) (hk.cell b2)
  have b3:=cell_grown (w:=w2) (Nat.lt_of_lt_of_le HSZ.out.2 hk.size) (hk.cell b3)
  have b4:=cell_grown (w:=w2) (Nat.lt_of_lt_of_le HSZ.out.2 hk.size) (hk.cell b4)
  have b5:=cell_grown (w:=w2) (Nat.lt_of_lt_of_le HSZ.out.2 hk.size) (hk.cell b5)
  have b6:=cell_grown (w:=w2) (Nat.lt_of_lt_of_le HSZ.out.2 hk.size) (hk.cell b6)
  have b7:=cell_grown (w:=w2) (Nat.lt_of_lt_of_le HSZ.out.2 hk.size) (hk.cell b7)
  have b8:=cell_grown (w:=w2) (Nat.lt_of_lt_of_le HSZ.out.2 hk.size) (hk.cell b8)
  have b9:=cell_grown (w:=w2) (Nat.lt_of_lt_of_le HSZ.out.2 hk.size) (hk.cell b9)
  have b10:=cell_grown (w:=w2) (Nat.lt_of_lt_of_le HSZ.out.2 hk.size) (hk.cell b10)
  have x0:=cell_grown (w:=w2) (Nat.lt_of_lt_of_le HSZ.out.1 hk.size) (hk.cell x0)
  have x1:=cell_grown (w:=w2) (Nat.lt_of_lt_of_le HSZ.out.1 hk.size) (hk.cell x1)
  have x2:=cell_grown (w:=w2) (Nat.lt_of_lt_of_le HSZ.out.1 hk.size) (hk.cell x2)
  have x3:=cell_grown (w:=w2) (Nat.lt_of_lt_of_le HSZ.out.1 hk.size) (hk.cell x3)
  have x4:=cell_grown (w:=w2) (Nat.lt_of_lt_of_le HSZ.out.1 hk.size) (hk.cell x4)
  have HR:=Lib.hid (fun (w':World) (_:Grew w2 w')=>HR0.out w')
  have HB:=Lib.hid (fun (w':World) (_:Grew w2 w')=>HBA.out w')
  have H1:=Lib.hid (fun (w':World) (_:Grew w2 w')=>HA1.out w')
  have H2:=Lib.hid (fun (w':World) (_:Grew w2 w')=>HA2.out w')
  have HKK:=Lib.hid hk
  clear hk
  refine wp_region_quiet_grown (by assumption) (by kernel_rfl) ?_
  repeat (go_big_quiet_step (first
   | (go_at_call 219;rw [HOP.out];exact grown_call HR.out _ _)
   | (go_at_call 126;exact grown_call HB.out _ _)
   | (go_at_call 129;with_reducible exact grown_call H2.out _ _)
   | (go_at_call 129;exact grown_call H1.out _ _)))
  refine wpQuiet_nil ?_
  intro _ hw2
  obtain⟨⟨nq,osq⟩,hw3⟩:=hw2
  subst hw3
  go_wp2_with fail
  go_ret
  exact⟨rfl,(K0.out.trans HKK.out (fun _ _ h=>h)).trans (Grew.grown _ _).kept (fun _ _ h=>h)⟩
 have ec2:decide ((0:Int)<n)=true:=decide_eq_true (by omega)
 have gc2:decide (0<n)=true:=decide_eq_true c2
 by_cases c3:n≤1024
 case neg =>
  have ec3:decide ((n:Int)≤1024)=false:=decide_eq_false (by omega)
  have gc3:decide (n≤1024)=false:=decide_eq_false c3
  clear c3 NO
  go_enter Tryz.func218,Tryz.ntmps218
  go_upto_region 1 with fail
  rw [HW.out]
  clear HW
  go_upto_region 2 with (go_at_call 127;refine (HCO.out _).mono ?_;rintro r w2 ⟨rfl,hk⟩)
  dsimp only [List.append]
  have b0:=cell_grown (w:=w2) (Nat.lt_of_lt_of_le HSZ.out.2 hk.size) (hk.cell b0)
  have b1:=cell_grown (w:=w2) (Nat.lt_of_lt_of_le HSZ.out.2 hk.size) (hk.cell b1)
  have b2:=cell_grown (w:=w2) (Nat.lt_of_lt_of_le HSZ.out.2 hk.size) (hk.cell b2)
  have b3:=cell_grown (w:=w2) (Nat.lt_of_lt_of_le HSZ.out.2 hk.size) (hk.cell b3)
  have b4:=cell_grown (w:=w2) (Nat.lt_of_lt_of_le HSZ.out.2 hk.size) (hk.cell b4)
  have b5:=cell_grown (w:=w2) (Nat.lt_of_lt_of_le HSZ.out.2 hk.size) (hk.cell b5)
  have b6:=cell_grown (w:=w2) (Nat.lt_of_lt_of_le HSZ.out.2 hk.size) (hk.cell b6)
  have b7:=cell_grown (w:=w2) (Nat.lt_of_lt_of_le HSZ.out.2 hk.size) (hk.cell b7)
  have b8:=cell_grown (w:=w2) (Nat.lt_of_lt_of_le HSZ.out.2 hk.size) (hk.cell b8)
  have b9:=cell_grown (w:=w2) (Nat.lt_of_lt_of_le HSZ.out.2 hk.size) (hk.cell b9)
  have b10:=cell_grown (w:=w2) (Nat.lt_of_lt_of_le HSZ.out.2 hk.size) (hk.cell b10)
  have x0:=cell_grown (w:=w2) (Nat.lt_of_lt_of_le HSZ.out.1 hk.size) (hk.cell x0)
  have x1:=cell_grown (w:=w2) (Nat.lt_of_lt_of_le HSZ.out.1 hk.size) (hk.cell x1)
  have x2:=cell_grown (w:=w2) (Nat.lt_of_lt_of_le HSZ.out.1 hk.size) (hk.cell x2)
  have x3:=cell_grown (w:=w2) (Nat.lt_of_lt_of_le HSZ.out.1 hk.size) (hk.cell x3)
  have x4:=cell_grown (w:=w2) (Nat.lt_of_lt_of_le HSZ.out.1 hk.size) (hk.cell x4)
  have HR:=Lib.hid (fun (w':World) (_:Grew w2 w')=>HR0.out w')
  have HB:=Lib.hid (fun (w':World) (_:Grew w2 w')=>HBA.out w')
  have H1:=Lib.hid (fun (w':World) (_:Grew w2 w')=>HA1.out w')
  have H2:=Lib.hid (fun (w':World) (_:Grew w2 w')=>HA2.out w')
  have HKK:=Lib.hid hk
  clear hk
  refine wp_region_quiet_grown (by assumption) (by kernel_rfl) ?_
  repeat (go_big_quiet_step (first
   | (go_at_call 219;rw [HOP.out];exact grown_call HR.out _ _)
   | (go_at_call 126;exact grown_call HB.out _ _)
   | (go_at_call 129;with_reducible exact grown_call H2.out _ _)
   | (go_at_call 129;exact grown_call H1.out _ _)))
  refine wpQuiet_nil ?_
  intro _ hw2
  obtain⟨⟨nq,osq⟩,hw3⟩:=hw2
  subst hw3
  go_wp2_with fail
  go_ret
  exact⟨rfl,(K0.out.trans HKK.out (fun _ _ h=>h)).trans (Grew.grown _ _).kept (fun _ _ h=>h)⟩
 have ec3:decide ((n:Int)≤1024)=true:=decide_eq_true (by omega)
 have gc3:decide (n≤1024)=true:=decide_eq_true c3
 by_cases c4:bd<0
 case neg =>
  have ec4:decide (bd<0)=false:=decide_eq_false c4
  clear c4 NO
  go_enter Tryz.func218,Tryz.ntmps218
  go_upto_region 1 with fail
  rw [HW.out]
  clear HW
  go_upto_region 2 with (go_at_call 127;refine (HCO.out _).mono ?_;rintro r w2 ⟨rfl,hk⟩)
  dsimp only [List.append]
  have b0:=cell_grown (w:=w2) (Nat.lt_of_lt_of_le HSZ.out.2 hk.size) (hk.cell b0)
  have b1:=cell_grown (w:=w2) (Nat.lt_of_lt_of_le HSZ.out.2 hk.size) (hk.cell b1)
  have b2:=cell_grown (w:=w2) (Nat.lt_of_lt_of_le HSZ.out.2 hk.size) (hk.cell b2)
  have b3:=cell_grown (w:=w2) (Nat.lt_of_lt_of_le HSZ.out.2 hk.size) (hk.cell b3)
  have b4:=cell_grown (w:=w2) (Nat.lt_of_lt_of_le HSZ.out.2 hk.size) (hk.cell b4)
  have b5:=cell_grown (w:=w2) (Nat.lt_of_lt_of_le HSZ.out.2 hk.size) (hk.cell b5)
  have b6:=cell_grown (w:=w2) (Nat.lt_of_lt_of_le HSZ.out.2 hk.size) (hk.cell b6)
  have b7:=cell_grown (w:=w2) (Nat.lt_of_lt_of_le HSZ.out.2 hk.size) (hk.cell b7)
  have b8:=cell_grown (w:=w2) (Nat.lt_of_lt_of_le HSZ.out.2 hk.size) (hk.cell b8)
  have b9:=cell_grown (w:=w2) (Nat.lt_of_lt_of_le HSZ.out.2 hk.size) (hk.cell b9)
  have b10:=cell_grown (w:=w2) (Nat.lt_of_lt_of_le HSZ.out.2 hk.size) (hk.cell b10)
  have x0:=cell_grown (w:=w2) (Nat.lt_of_lt_of_le HSZ.out.1 hk.size) (hk.cell x0)
  have x1:=cell_grown (w:=w2) (Nat.lt_of_lt_of_le HSZ.out.1 hk.size) (hk.cell x1)
  have x2:=cell_grown (w:=w2) (Nat.lt_of_lt_of_le HSZ.out.1 hk.size) (hk.cell x2)
  have x3:=cell_grown (w:=w2) (Nat.lt_of_lt_of_le HSZ.out.1 hk.size) (hk.cell x3)
  have x4:=cell_grown (w:=w2) (Nat.lt_of_lt_of_le HSZ.out.1 hk.size) (hk.cell x4)
  have HR:=Lib.hid (fun (w':World) (_:Grew w2 w')=>HR0.out w')
  have HB:=Lib.hid (fun (w':World) (_:Grew w2 w')=>HBA.out w')
  have H1:=Lib.hid (fun (w':World) (_:Grew w2 w')=>HA1.out w')
  have H2:=Lib.hid (fun (w':World) (_:Grew w2 w')=>HA2.out w')
  have HKK:=Lib.hid hk
  clear hk
  refine wp_region_quiet_grown (by assumption) (by kernel_rfl) ?_
  repeat (go_big_quiet_step (first
   | (go_at_call 219;rw [HOP.out];exact grown_call HR.out _ _)
   | (go_at_call 126;exact grown_call HB.out _ _)
   | (go_at_call 129;with_reducible exact grown_call H2.out _ _)
   | (go_at_call 129;exact grown_call H1.out _ _)))
  refine wpQuiet_nil ?_
  intro _ hw2
  obtain⟨⟨nq,osq⟩,hw3⟩:=hw2
  subst hw3
  go_wp2_with fail
  go_ret
  exact⟨rfl,(K0.out.trans HKK.out (fun _ _ h=>h)).trans (Grew.grown _ _).kept (fun _ _ h=>h)⟩
 have ec4:decide (bd<0)=true:=decide_eq_true c4
 by_cases c5:is_=ds
 case neg =>
  have ec5:(is_ == ds)=false:=beq_eq_false_iff_ne.2 c5
  clear c5 NO
  go_enter Tryz.func218,Tryz.ntmps218
  go_upto_region 1 with fail
  rw [HW.out]
  clear HW
  go_upto_region 2 with (go_at_call 127;refine (HCO.out _).mono ?_;rintro r w2 ⟨rfl,hk⟩)
  dsimp only [List.append]
  have b0:=cell_grown (w:=w2) (Nat.lt_of_lt_of_le HSZ.out.2 hk.size) (hk.cell b0)
  have b1:=cell_grown (w:=w2) (Nat.lt_of_lt_of_le HSZ.out.2 hk.size) (hk.cell b1)
  have b2:=cell_grown (w:=w2) (Nat.lt_of_lt_of_le HSZ.out.2 hk.size) (hk.cell b2)
  have b3:=cell_grown (w:=w2) (Nat.lt_of_lt_of_le HSZ.out.2 hk.size) (hk.cell b3)
  have b4:=cell_grown (w:=w2) (Nat.lt_of_lt_of_le HSZ.out.2 hk.size) (hk.cell b4)
  have b5:=cell_grown (w:=w2) (Nat.lt_of_lt_of_le HSZ.out.2 hk.size) (hk.cell b5)
  have b6:=cell_grown (w:=w2) (Nat.lt_of_lt_of_le HSZ.out.2 hk.size) (hk.cell b6)
  have b7:=cell_grown (w:=w2) (Nat.lt_of_lt_of_le HSZ.out.2 hk.size) (hk.cell b7)
  have b8:=cell_grown (w:=w2) (Nat.lt_of_lt_of_le HSZ.out.2 hk.size) (hk.cell b8)
  have b9:=cell_grown (w:=w2) (Nat.lt_of_lt_of_le HSZ.out.2 hk.size) (hk.cell b9)
  have b10:=cell_grown (w:=w2) (Nat.lt_of_lt_of_le HSZ.out.2 hk.size) (hk.cell b10)
  have x0:=cell_grown (w:=w2) (Nat.lt_of_lt_of_le HSZ.out.1 hk.size) (hk.cell x0)
  have x1:=cell_grown (w:=w2) (Nat.lt_of_lt_of_le HSZ.out.1 hk.size) (hk.cell x1)
  have x2:=cell_grown (w:=w2) (Nat.lt_of_lt_of_le HSZ.out.1 hk.size) (hk.cell x2)
  have x3:=cell_grown (w:=w2) (Nat.lt_of_lt_of_le HSZ.out.1 hk.size) (hk.cell x3)
  have x4:=cell_grown (w:=w2) (Nat.lt_of_lt_of_le HSZ.out.1 hk.size) (hk.cell x4)
  have HR:=Lib.hid (fun (w':World) (_:Grew w2 w')=>HR0.out w')
  have HB:=Lib.hid (fun (w':World) (_:Grew w2 w')=>HBA.out w')
  have H1:=Lib.hid (fun (w':World) (_:Grew w2 w')=>HA1.out w')
  have H2:=Lib.hid (fun (w':World) (_:Grew w2 w')=>HA2.out w')
  have HKK:=Lib.hid hk
  clear hk
  refine wp_region_quiet_grown (by assumption) (by kernel_rfl) ?_
  repeat (go_big_quiet_step (first
   | (go_at_call 219;rw [HOP.out];exact grown_call HR.out _ _)
   | (go_at_call 126;exact grown_call HB.out _ _)
   | (go_at_call 129;with_reducible exact grown_call H2.out _ _)
   | (go_at_call 129;exact grown_call H1.out _ _)))
  refine wpQuiet_nil ?_
  intro _ hw2
  obtain⟨⟨nq,osq⟩,hw3⟩:=hw2
  subst hw3
  go_wp2_with fail
  go_ret
  exact⟨rfl,(K0.out.trans HKK.out (fun _ _ h=>h)).trans (Grew.grown _ _).kept (fun _ _ h=>h)⟩
 have ec5:(is_ == ds)=true:=beq_iff_eq.2 c5
 have CH5:=Lib.hid c5
 clear c5
 have h6:A1=0:=Classical.byContradiction fun h=>NO.out ⟨rfl,rfl,by rw [EN.out];exact c2,by rw [EN.out];exact c3,by rw [EB.out];exact c4,CH5.out,by rw [EA.out];exact fun e=>h (congrArg ID.t e)⟩
 obtain rfl:A2=0:=congrArg ID.s (HAZ.out h6)
 subst h6
 clear NO
 go_enter Tryz.func218,Tryz.ntmps218
 go_upto_region 1 with fail
 rw [HW.out]
 clear HW
 go_upto_region 2 with (go_at_call 127;refine (HCO.out _).mono ?_;rintro r w2 ⟨rfl,hk⟩)
 dsimp only [List.append]
 have b0:=cell_grown (w:=w2) (Nat.lt_of_lt_of_le HSZ.out.2 hk.size) (hk.cell b0)
 have b1:=cell_grown (w:=w2) (Nat.lt_of_lt_of_le HSZ.out.2 hk.size) (hk.cell b1)
 have b2:=cell_grown (w:=w2) (Nat.lt_of_lt_of_le HSZ.out.2 hk.size) (hk.cell b2)
 have b3:=cell_grown (w:=w2) (Nat.lt_of_lt_of_le HSZ.out.2 hk.size) (hk.cell b3)
 have b4:=cell_grown (w:=w2) (Nat.lt_of_lt_of_le HSZ.out.2 hk.size) (hk.cell b4)
 have b5:=cell_grown (w:=w2) (Nat.lt_of_lt_of_le HSZ.out.2 hk.size) (hk.cell b5)
 have b6:=cell_grown (w:=w2) (Nat.lt_of_lt_of_le HSZ.out.2 hk.size) (hk.cell b6)
 have b7:=cell_grown (w:=w2) (Nat.lt_of_lt_of_le HSZ.out.2 hk.size) (hk.cell b7)
 have b8:=cell_grown (w:=w2) (Nat.lt_of_lt_of_le HSZ.out.2 hk.size) (hk.cell b8)
 have b9:=cell_grown (w:=w2) (Nat.lt_of_lt_of_le HSZ.out.2 hk.size) (hk.cell b9)
 have b10:=cell_grown (w:=w2) (Nat.lt_of_lt_of_le HSZ.out.2 hk.size) (hk.cell b10)
 have x0:=cell_grown (w:=w2) (Nat.lt_of_lt_of_le HSZ.out.1 hk.size) (hk.cell x0)
 have x1:=cell_grown (w:=w2) (Nat.lt_of_lt_of_le HSZ.out.1 hk.size) (hk.cell x1)
 have x2:=cell_grown (w:=w2) (Nat.lt_of_lt_of_le HSZ.out.1 hk.size) (hk.cell x2)
 have x3:=cell_grown (w:=w2) (Nat.lt_of_lt_of_le HSZ.out.1 hk.size) (hk.cell x3)
 have x4:=cell_grown (w:=w2) (Nat.lt_of_lt_of_le HSZ.out.1 hk.size) (hk.cell x4)
 have HR:=Lib.hid (fun (w':World) (_:Grew w2 w')=>HR0.out w')
 have HB:=Lib.hid (fun (w':World) (_:Grew w2 w')=>HBA.out w')
 have H1:=Lib.hid (fun (w':World) (_:Grew w2 w')=>HA1.out w')
 have H2:=Lib.hid (fun (w':World) (_:Grew w2 w')=>HA2.out w')
 have HKK:=Lib.hid hk
 clear hk
 refine wp_region_quiet_grown (by assumption) (by kernel_rfl) ?_
 repeat (go_big_quiet_step (first
  | (go_at_call 219;rw [HOP.out];exact grown_call HR.out _ _)
  | (go_at_call 126;exact grown_call HB.out _ _)
  | (go_at_call 129;with_reducible exact grown_call H2.out _ _)
  | (go_at_call 129;exact grown_call H1.out _ _)))
 refine wpQuiet_nil ?_
 intro _ hw2
 obtain⟨⟨nq,osq⟩,hw3⟩:=hw2
 subst hw3
 go_wp2_with fail
 go_ret
 exact⟨rfl,(K0.out.trans HKK.out (fun _ _ h=>h)).trans (Grew.grown _ _).kept (fun _ _ h=>h)⟩
theorem ins_ref {w:World}(ds dq kd it is_ rt rs st:Int) (da ga:Option Addr) (dn dc gn gc:Nat) (tx:ByteArray) (htx:tx.size≤maxLen) (hall:gn=0∧st=0∧0<countR tx∧countR tx≤1024∧badFrom tx 0<0∧is_=ds∧ID.after ⟨it,is_⟩ ((countR tx:Int) - 1)≠⟨0,0⟩) (hno:¬((⟨rt,rs⟩:ID)=⟨0,0⟩∨ID.after ⟨rt,rs⟩ 0=⟨rt,rs⟩)) :
  Calls Tryz.prog 218 #[.agg #[.int .i64 it,.int .i64 is_,.int .i64 rt,.int .i64 rs,.string tx],.agg (opA ⟨⟨ds,dq⟩,⟨da,dn,dc⟩,kd,⟨it,is_⟩,⟨rt,rs⟩,tx,⟨ga,gn,gc⟩,st⟩)] w fun e w'=>e=.returned (.bool false)∧Kept (fun _=>False) w w':=by
 have hB:=Blk.new (w.alloc (.cells #[.int .i64 it,.int .i64 is_,.int .i64 rt,.int .i64 rs,.string tx] 229)) 62 (opA ⟨⟨ds,dq⟩,⟨da,dn,dc⟩,kd,⟨it,is_⟩,⟨rt,rs⟩,tx,⟨ga,gn,gc⟩,st⟩)
 have hS:=(Blk.new w 229 #[.int .i64 it,.int .i64 is_,.int .i64 rt,.int .i64 rs,.string tx]).alloc (.cells (opA ⟨⟨ds,dq⟩,⟨da,dn,dc⟩,kd,⟨it,is_⟩,⟨rt,rs⟩,tx,⟨ga,gn,gc⟩,st⟩) 62)
 have k0:Kept (fun _=>False) w ((w.alloc (.cells #[.int .i64 it,.int .i64 is_,.int .i64 rt,.int .i64 rs,.string tx] 229)).alloc (.cells (opA ⟨⟨ds,dq⟩,⟨da,dn,dc⟩,kd,⟨it,is_⟩,⟨rt,rs⟩,tx,⟨ga,gn,gc⟩,st⟩) 62)):=((Kept.refl _ _).alloc _).alloc _
 rw [World.size_alloc] at hB
 obtain⟨W,hW⟩:∃W,((w.alloc (.cells #[.int .i64 it,.int .i64 is_,.int .i64 rt,.int .i64 rs,.string tx] 229)).alloc (.cells (opA ⟨⟨ds,dq⟩,⟨da,dn,dc⟩,kd,⟨it,is_⟩,⟨rt,rs⟩,tx,⟨ga,gn,gc⟩,st⟩) 62))=W:=⟨_,rfl⟩
 rw [hW] at hS hB k0
 have HW:=Lib.hid hW
 have HOP:Hid (#[.int .i64 ds,.int .i64 dq,.slice da dn dc,.int .i64 kd,.int .i64 it,.int .i64 is_,.int .i64 rt,.int .i64 rs,.string tx,.slice ga gn gc,.int .i64 st]=opA ⟨⟨ds,dq⟩,⟨da,dn,dc⟩,kd,⟨it,is_⟩,⟨rt,rs⟩,tx,⟨ga,gn,gc⟩,st⟩):=Lib.hid rfl
 have b0:W.cell? ⟨w.heap.size+1,0,none⟩=some (.int .i64 ds):=hB.cell' (i:=0) rfl
 have b1:W.cell? ⟨w.heap.size+1,1,none⟩=some (.int .i64 dq):=hB.cell' (i:=1) rfl
 have b2:W.cell? ⟨w.heap.size+1,2,none⟩=some (.slice da dn dc):=hB.cell' (i:=2) rfl
 have b3:W.cell? ⟨w.heap.size+1,3,none⟩=some (.int .i64 kd):=hB.cell' (i:=3) rfl
 have b4:W.cell? ⟨w.heap.size+1,4,none⟩=some (.int .i64 it):=hB.cell' (i:=4) rfl
 have b5:W.cell? ⟨w.heap.size+1,5,none⟩=some (.int .i64 is_):=hB.cell' (i:=5) rfl
 have b6:W.cell? ⟨w.heap.size+1,6,none⟩=some (.int .i64 rt):=hB.cell' (i:=6) rfl
 have b7:W.cell? ⟨w.heap.size+1,7,none⟩=some (.int .i64 rs):=hB.cell' (i:=7) rfl
 have b8:W.cell? ⟨w.heap.size+1,8,none⟩=some (.string tx):=hB.cell' (i:=8) rfl
 have b9:W.cell? ⟨w.heap.size+1,9,none⟩=some (.slice ga gn gc):=hB.cell' (i:=9) rfl
 have b10:W.cell? ⟨w.heap.size+1,10,none⟩=some (.int .i64 st):=hB.cell' (i:=10) rfl
 have x0:W.cell? ⟨w.heap.size,0,none⟩=some (.int .i64 it):=hS.cell' (i:=0) rfl
 have x1:W.cell? ⟨w.heap.size,1,none⟩=some (.int .i64 is_):=hS.cell' (i:=1) rfl
 have x2:W.cell? ⟨w.heap.size,2,none⟩=some (.int .i64 rt):=hS.cell' (i:=2) rfl
 have x3:W.cell? ⟨w.heap.size,3,none⟩=some (.int .i64 rs):=hS.cell' (i:=3) rfl
 have x4:W.cell? ⟨w.heap.size,4,none⟩=some (.string tx):=hS.cell' (i:=4) rfl
 have K0:=Lib.hid k0
 have HCO:=Lib.hid (fun (w':World)=>(count_any tx htx w').mono (R':=fun r w''=>r=.returned (.int .i64 (countR tx))∧Kept (fun _=>False) w' w'') (fun r w'' h=>by obtain⟨h1,p,rfl⟩:=h;exact⟨h1,iter_kept _ _ _⟩))
 have HBA:=Lib.hid (fun (w':World)=>(badAt_any tx htx w').mono (R':=fun r w''=>r=.returned (.int .i64 (badFrom tx 0))∧Grew w' w'') (fun r w'' h=>by obtain⟨h1,p,rfl⟩:=h;exact⟨h1,(Grew.refl _).alloc _⟩))
 have hcl:=countR_le tx
 unfold maxLen at htx
 obtain⟨A,hA⟩:∃A,ID.after ⟨it,is_⟩ ((countR tx:Int) - 1)=A:=⟨_,rfl⟩
 obtain⟨R,hR⟩:∃R,ID.after ⟨rt,rs⟩ 0=R:=⟨_,rfl⟩
 have hAz:A.t=0→A=⟨0,0⟩:=fun h=>by rw [←hA] at h ⊢;exact after_zero h
 have hRz:(R=⟨rt,rs⟩∧1≤rt)∨R=⟨0,0⟩:=by rw [←hR];exact after_same rt rs
 have HA1:Hid (∀w':World,Calls Tryz.prog 129 #[.agg #[.int .i64 it,.int .i64 is_],.int .i64 ((countR tx:Int) - 1)] w' fun e w''=>e=.returned (.agg #[.int .i64 A.t,.int .i64 A.s])∧Grew w' w''):=Lib.hid (fun w'=>by have h:=after_any ⟨it,is_⟩ ((countR tx:Int) - 1) (by omega) (by omega) w';rw [hA] at h;exact h)
 have HA2:Hid (∀w':World,Calls Tryz.prog 129 #[.agg #[.int .i64 rt,.int .i64 rs],.int .i64 0] w' fun e w''=>e=.returned (.agg #[.int .i64 R.t,.int .i64 R.s])∧Grew w' w''):=Lib.hid (fun w'=>by have h:=after_any ⟨rt,rs⟩ 0 (by decide) (by decide) w';rw [hR] at h;exact h)
 have EA:=Lib.hid hA
 have ER:=Lib.hid hR
 obtain⟨A1,A2⟩:=A
 obtain⟨n,hn⟩:∃n,countR tx=n:=⟨_,rfl⟩
 obtain⟨bd,hbd⟩:∃n,badFrom tx 0=n:=⟨_,rfl⟩
 rw [hn] at HA1 HCO hcl
 rw [hbd] at HBA
 have EN:=Lib.hid hn
 have EB:=Lib.hid hbd
 have hwn:IntKind.i64.wrap ((n:Int) - 1)=(n:Int) - 1:=IntWalk.i64_in _ (by omega)
 have hmix:Tryz.prog.follows .mixedOrders=true:=by kernel_rfl
 have HSZ:=Lib.hid (show w.heap.size<W.heap.size∧w.heap.size+1<W.heap.size by have:=hB.lt;omega)
 have HR0:=Lib.hid (fun (w':World)=>rest_any (w:=w') ⟨⟨ds,dq⟩,⟨da,dn,dc⟩,kd,⟨it,is_⟩,⟨rt,rs⟩,tx,⟨ga,gn,gc⟩,st⟩)
 have HAZ:=Lib.hid hAz
 have HRZ:=Lib.hid hRz
 clear hB hS k0 hW hA hR hn hbd hAz hRz
 obtain⟨rfl,rfl,c2,c3,c4,c5,c6⟩:=hall
 rw [EN.out] at c2 c3
 rw [EB.out] at c4
 rw [EA.out] at c6
 have e2:decide ((0:Int)<n)=true:=decide_eq_true (by omega)
 have g2:decide (0<n)=true:=decide_eq_true c2
 have e3:decide ((n:Int)≤1024)=true:=decide_eq_true (by omega)
 have g3:decide (n≤1024)=true:=decide_eq_true c3
 have e4:decide (bd<0)=true:=decide_eq_true c4
 have e5:(is_ == ds)=true:=beq_iff_eq.2 c5
 have e6:(A1 == 0)=false:=beq_eq_false_iff_ne.2 (fun h=>c6 (HAZ.out h))
 clear c5 c6
 have r1:¬(rt=0∧rs=0):=fun h=>hno (.inl (by rw [h.1,h.2]))
 obtain rfl:R=⟨0,0⟩:=HRZ.out.resolve_left (fun h=>hno (.inr (ER.out.trans h.1)))
 clear hno
 by_cases r3:rt=0
 case pos =>
  have e9:(rs == 0)=false:=beq_eq_false_iff_ne.2 (fun h=>r1 ⟨r3,h⟩)
  have e10:((0:Int) == rs)=false:=beq_eq_false_iff_ne.2 (fun h=>r1 ⟨r3,h.symm⟩)
  clear r1
  subst r3
  go_enter Tryz.func218,Tryz.ntmps218
  go_upto_region 1 with fail
  rw [HW.out]
  clear HW
  go_upto_region 2 with (go_at_call 127;refine (HCO.out _).mono ?_;rintro r w2 ⟨rfl,hk⟩)
  dsimp only [List.append]
  have b0:=cell_grown (w:=w2) (Nat.lt_of_lt_of_le HSZ.out.2 hk.size) (hk.cell b0)
  have b1:=cell_grown (w:=w2) (Nat.lt_of_lt_of_le HSZ.out.2 hk.size) (hk.cell b1)
  have b2:=cell_grown (w:=w2) (Nat.lt_of_lt_of_le HSZ.out.2 hk.size) (hk.cell b2)
  have b3:=cell_grown (w:=w2) (Nat.lt_of_lt_of_le HSZ.out.2 hk.size) (hk.cell b3)
  have b4:=cell_grown (w:=w2) (Nat.lt_of_lt_of_le HSZ.out.2 hk.size) (hk.cell b4)
  have b5:=cell_grown (w:=w2) (Nat.lt_of_lt_of_le HSZ.out.2 hk.size) (hk.cell b5)
  have b6:=cell_grown (w:=w2) (Nat.lt_of_lt_of_le HSZ.out.2 hk.size) (hk.cell b6)
  have b7:=cell_grown (w:=w2) (Nat.lt_of_lt_of_le HSZ.out.2 hk.size) (hk.cell b7)
  have b8:=cell_grown (w:=w2) (Nat.lt_of_lt_of_le HSZ.out.2 hk.size) (hk.cell b8)
  have b9:=cell_grown (w:=w2) (Nat.lt_of_lt_of_le HSZ.out.2 hk.size) (hk.cell b9)
  have b10:=cell_grown (w:=w2) (Nat.lt_of_lt_of_le HSZ.out.2 hk.size) (hk.cell b10)
  have x0:=cell_grown (w:=w2) (Nat.lt_of_lt_of_le HSZ.out.1 hk.size) (hk.cell x0)
  have x1:=cell_grown (w:=w2) (Nat.lt_of_lt_of_le HSZ.out.1 hk.size) (hk.cell x1)
  have x2:=cell_grown (w:=w2) (Nat.lt_of_lt_of_le HSZ.out.1 hk.size) (hk.cell x2)
  have x3:=cell_grown (w:=w2) (Nat.lt_of_lt_of_le HSZ.out.1 hk.size) (hk.cell x3)
  have x4:=cell_grown (w:=w2) (Nat.lt_of_lt_of_le HSZ.out.1 hk.size) (hk.cell x4)
  have HR:=Lib.hid (fun (w':World) (_:Grew w2 w')=>HR0.out w')
  have HB:=Lib.hid (fun (w':World) (_:Grew w2 w')=>HBA.out w')
  have H1:=Lib.hid (fun (w':World) (_:Grew w2 w')=>HA1.out w')
  have H2:=Lib.hid (fun (w':World) (_:Grew w2 w')=>HA2.out w')
  have HKK:=Lib.hid hk
  clear hk
  refine wp_region_quiet_grown (by assumption) (by kernel_rfl) ?_
  repeat (go_big_quiet_step (first
   | (go_at_call 219;rw [HOP.out];exact grown_call HR.out _ _)
   | (go_at_call 126;exact grown_call HB.out _ _)
   | (go_at_call 129;with_reducible exact grown_call H2.out _ _)
   | (go_at_call 129;exact grown_call H1.out _ _)))
  refine wpQuiet_nil ?_
  intro _ hw2
  obtain⟨⟨nq,osq⟩,hw3⟩:=hw2
  subst hw3
  go_wp2_with fail
  go_ret
  exact⟨rfl,(K0.out.trans HKK.out (fun _ _ h=>h)).trans (Grew.grown _ _).kept (fun _ _ h=>h)⟩
 have e9:(rt == 0)=false:=beq_eq_false_iff_ne.2 r3
 have e10:((0:Int) == rt)=false:=beq_eq_false_iff_ne.2 (fun h=>r3 h.symm)
 clear r1 r3
 go_enter Tryz.func218,Tryz.ntmps218
 go_upto_region 1 with fail
 rw [HW.out]
 clear HW
 go_upto_region 2 with (go_at_call 127;refine (HCO.out _).mono ?_;rintro r w2 ⟨rfl,hk⟩)
 dsimp only [List.append]
 have b0:=cell_grown (w:=w2) (Nat.lt_of_lt_of_le HSZ.out.2 hk.size) (hk.cell b0)
 have b1:=cell_grown (w:=w2) (Nat.lt_of_lt_of_le HSZ.out.2 hk.size) (hk.cell b1)
 have b2:=cell_grown (w:=w2) (Nat.lt_of_lt_of_le HSZ.out.2 hk.size) (hk.cell b2)
 have b3:=cell_grown (w:=w2) (Nat.lt_of_lt_of_le HSZ.out.2 hk.size) (hk.cell b3)
 have b4:=cell_grown (w:=w2) (Nat.lt_of_lt_of_le HSZ.out.2 hk.size) (hk.cell b4)
 have b5:=cell_grown (w:=w2) (Nat.lt_of_lt_of_le HSZ.out.2 hk.size) (hk.cell b5)
 have b6:=cell_grown (w:=w2) (Nat.lt_of_lt_of_le HSZ.out.2 hk.size) (hk.cell b6)
 have b7:=cell_grown (w:=w2) (Nat.lt_of_lt_of_le HSZ.out.2 hk.size) (hk.cell b7)
 have b8:=cell_grown (w:=w2) (Nat.lt_of_lt_of_le HSZ.out.2 hk.size) (hk.cell b8)
 have b9:=cell_grown (w:=w2) (Nat.lt_of_lt_of_le HSZ.out.2 hk.size) (hk.cell b9)
 have b10:=cell_grown (w:=w2) (Nat.lt_of_lt_of_le HSZ.out.2 hk.size) (hk.cell b10)
 have x0:=cell_grown (w:=w2) (Nat.lt_of_lt_of_le HSZ.out.1 hk.size) (hk.cell x0)
 have x1:=cell_grown (w:=w2) (Nat.lt_of_lt_of_le HSZ.out.1 hk.size) (hk.cell x1)
 have x2:=cell_grown (w:=w2) (Nat.lt_of_lt_of_le HSZ.out.1 hk.size) (hk.cell x2)
 have x3:=cell_grown (w:=w2) (Nat.lt_of_lt_of_le HSZ.out.1 hk.size) (hk.cell x3)
 have x4:=cell_grown (w:=w2) (Nat.lt_of_lt_of_le HSZ.out.1 hk.size) (hk.cell x4)
 have HR:=Lib.hid (fun (w':World) (_:Grew w2 w')=>HR0.out w')
 have HB:=Lib.hid (fun (w':World) (_:Grew w2 w')=>HBA.out w')
 have H1:=Lib.hid (fun (w':World) (_:Grew w2 w')=>HA1.out w')
 have H2:=Lib.hid (fun (w':World) (_:Grew w2 w')=>HA2.out w')
 have HKK:=Lib.hid hk
 clear hk
 refine wp_region_quiet_grown (by assumption) (by kernel_rfl) ?_
 repeat (go_big_quiet_step (first
  | (go_at_call 219;rw [HOP.out];exact grown_call HR.out _ _)
  | (go_at_call 126;exact grown_call HB.out _ _)
  | (go_at_call 129;with_reducible exact grown_call H2.out _ _)
  | (go_at_call 129;exact grown_call H1.out _ _)))
 refine wpQuiet_nil ?_
 intro _ hw2
 obtain⟨⟨nq,osq⟩,hw3⟩:=hw2
 subst hw3
 go_wp2_with fail
 go_ret
 exact⟨rfl,(K0.out.trans HKK.out (fun _ _ h=>h)).trans (Grew.grown _ _).kept (fun _ _ h=>h)⟩
theorem ins_time {w:World}(ds dq kd it is_ rt rs st:Int) (da ga:Option Addr) (dn dc gn gc:Nat) (tx:ByteArray) (htx:tx.size≤maxLen) (hall:gn=0∧st=0∧0<countR tx∧countR tx≤1024∧badFrom tx 0<0∧is_=ds∧ID.after ⟨it,is_⟩ ((countR tx:Int) - 1)≠⟨0,0⟩) (hyes:(⟨rt,rs⟩:ID)=⟨0,0⟩∨ID.after ⟨rt,rs⟩ 0=⟨rt,rs⟩) :
  Calls Tryz.prog 218 #[.agg #[.int .i64 it,.int .i64 is_,.int .i64 rt,.int .i64 rs,.string tx],.agg (opA ⟨⟨ds,dq⟩,⟨da,dn,dc⟩,kd,⟨it,is_⟩,⟨rt,rs⟩,tx,⟨ga,gn,gc⟩,st⟩)] w fun e w'=>e=.returned (.bool (decide (rt<it)))∧Kept (fun _=>False) w w':=by
 have hB:=Blk.new (w.alloc (.cells #[.int .i64 it,.int .i64 is_,.int .i64 rt,.int .i64 rs,.string tx] 229)) 62 (opA ⟨⟨ds,dq⟩,⟨da,dn,dc⟩,kd,⟨it,is_⟩,⟨rt,rs⟩,tx,⟨ga,gn,gc⟩,st⟩)
 have hS:=(Blk.new w 229 #[.int .i64 it,.int .i64 is_,.int .i64 rt,.int .i64 rs,.string tx]).alloc (.cells (opA ⟨⟨ds,dq⟩,⟨da,dn,dc⟩,kd,⟨it,is_⟩,⟨rt,rs⟩,tx,⟨ga,gn,gc⟩,st⟩) 62)
 have k0:Kept (fun _=>False) w ((w.alloc (.cells #[.int .i64 it,.int .i64 is_,.int .i64 rt,.int .i64 rs,.string tx] 229)).alloc (.cells (opA ⟨⟨ds,dq⟩,⟨da,dn,dc⟩,kd,⟨it,is_⟩,⟨rt,rs⟩,tx,⟨ga,gn,gc⟩,st⟩) 62)):=((Kept.refl _ _).alloc _).alloc _
 rw [World.size_alloc] at hB
 obtain⟨W,hW⟩:∃W,((w.alloc (.cells #[.int .i64 it,.int .i64 is_,.int .i64 rt,.int .i64 rs,.string tx] 229)).alloc (.cells (opA ⟨⟨ds,dq⟩,⟨da,dn,dc⟩,kd,⟨it,is_⟩,⟨rt,rs⟩,tx,⟨ga,gn,gc⟩,st⟩) 62))=W:=⟨_,rfl⟩
 rw [hW] at hS hB k0
 have HW:=Lib.hid hW
 have HOP:Hid (#[.int .i64 ds,.int .i64 dq,.slice da dn dc,.int .i64 kd,.int .i64 it,.int .i64 is_,.int .i64 rt,.int .i64 rs,.string tx,.slice ga gn gc,.int .i64 st]=opA ⟨⟨ds,dq⟩,⟨da,dn,dc⟩,kd,⟨it,is_⟩,⟨rt,rs⟩,tx,⟨ga,gn,gc⟩,st⟩):=Lib.hid rfl
 have b0:W.cell? ⟨w.heap.size+1,0,none⟩=some (.int .i64 ds):=hB.cell' (i:=0) rfl
 have b1:W.cell? ⟨w.heap.size+1,1,none⟩=some (.int .i64 dq):=hB.cell' (i:=1) rfl
 have b2:W.cell? ⟨w.heap.size+1,2,none⟩=some (.slice da dn dc):=hB.cell' (i:=2) rfl
 have b3:W.cell? ⟨w.heap.size+1,3,none⟩=some (.int .i64 kd):=hB.cell' (i:=3) rfl
 have b4:W.cell? ⟨w.heap.size+1,4,none⟩=some (.int .i64 it):=hB.cell' (i:=4) rfl
 have b5:W.cell? ⟨w.heap.size+1,5,none⟩=some (.int .i64 is_):=hB.cell' (i:=5) rfl
 have b6:W.cell? ⟨w.heap.size+1,6,none⟩=some (.int .i64 rt):=hB.cell' (i:=6) rfl
 have b7:W.cell? ⟨w.heap.size+1,7,none⟩=some (.int .i64 rs):=hB.cell' (i:=7) rfl
 have b8:W.cell? ⟨w.heap.size+1,8,none⟩=some (.string tx):=hB.cell' (i:=8) rfl
 have b9:W.cell? ⟨w.heap.size+1,9,none⟩=some (.slice ga gn gc):=hB.cell' (i:=9) rfl
 have b10:W.cell? ⟨w.heap.size+1,10,none⟩=some (.int .i64 st):=hB.cell' (i:=10) rfl
 have x0:W.cell? ⟨w.heap.size,0,none⟩=some (.int .i64 it):=hS.cell' (i:=0) rfl
 have x1:W.cell? ⟨w.heap.size,1,none⟩=some (.int .i64 is_):=hS.cell' (i:=1) rfl
 have x2:W.cell? ⟨w.heap.size,2,none⟩=some (.int .i64 rt):=hS.cell' (i:=2) rfl
 have x3:W.cell? ⟨w.heap.size,3,none⟩=some (.int .i64 rs):=hS.cell' (i:=3) rfl
 have x4:W.cell? ⟨w.heap.size,4,none⟩=some (.string tx):=hS.cell' (i:=4) rfl
 have K0:=Lib.hid k0
 have HCO:=Lib.hid (fun (w':World)=>(count_any tx htx w').mono (R':=fun r w''=>r=.returned (.int .i64 (countR tx))∧Kept (fun _=>False) w' w'') (fun r w'' h=>by obtain⟨h1,p,rfl⟩:=h;exact⟨h1,iter_kept _ _ _⟩))
 have HBA:=Lib.hid (fun (w':World)=>(badAt_any tx htx w').mono (R':=fun r w''=>r=.returned (.int .i64 (badFrom tx 0))∧Grew w' w'') (fun r w'' h=>by obtain⟨h1,p,rfl⟩:=h;exact⟨h1,(Grew.refl _).alloc _⟩))
 have hcl:=countR_le tx
 unfold maxLen at htx
 obtain⟨A,hA⟩:∃A,ID.after ⟨it,is_⟩ ((countR tx:Int) - 1)=A:=⟨_,rfl⟩
 obtain⟨R,hR⟩:∃R,ID.after ⟨rt,rs⟩ 0=R:=⟨_,rfl⟩
 have hAz:A.t=0→A=⟨0,0⟩:=fun h=>by rw [←hA] at h ⊢;exact after_zero h
 have hRz:(R=⟨rt,rs⟩∧1≤rt)∨R=⟨0,0⟩:=by rw [←hR];exact after_same rt rs
 have HA1:Hid (∀w':World,Calls Tryz.prog 129 #[.agg #[.int .i64 it,.int .i64 is_],.int .i64 ((countR tx:Int) - 1)] w' fun e w''=>e=.returned (.agg #[.int .i64 A.t,.int .i64 A.s])∧Grew w' w''):=Lib.hid (fun w'=>by have h:=after_any ⟨it,is_⟩ ((countR tx:Int) - 1) (by omega) (by omega) w';rw [hA] at h;exact h)
 have HA2:Hid (∀w':World,Calls Tryz.prog 129 #[.agg #[.int .i64 rt,.int .i64 rs],.int .i64 0] w' fun e w''=>e=.returned (.agg #[.int .i64 R.t,.int .i64 R.s])∧Grew w' w''):=Lib.hid (fun w'=>by have h:=after_any ⟨rt,rs⟩ 0 (by decide) (by decide) w';rw [hR] at h;exact h)
 have EA:=Lib.hid hA
 have ER:=Lib.hid hR
 obtain⟨A1,A2⟩:=A
 obtain⟨n,hn⟩:∃n,countR tx=n:=⟨_,rfl⟩
 obtain⟨bd,hbd⟩:∃n,badFrom tx 0=n:=⟨_,rfl⟩
 rw [hn] at HA1 HCO hcl
 rw [hbd] at HBA
 have EN:=Lib.hid hn
 have EB:=Lib.hid hbd
 have hwn:IntKind.i64.wrap ((n:Int) - 1)=(n:Int) - 1:=IntWalk.i64_in _ (by omega)
 have hmix:Tryz.prog.follows .mixedOrders=true:=by kernel_rfl
 have HSZ:=Lib.hid (show w.heap.size<W.heap.size∧w.heap.size+1<W.heap.size by have:=hB.lt;omega)
 have HR0:=Lib.hid (fun (w':World)=>rest_any (w:=w') ⟨⟨ds,dq⟩,⟨da,dn,dc⟩,kd,⟨it,is_⟩,⟨rt,rs⟩,tx,⟨ga,gn,gc⟩,st⟩)
 have HAZ:=Lib.hid hAz
 have HRZ:=Lib.hid hRz
 clear hB hS k0 hW hA hR hn hbd hAz hRz
 obtain⟨rfl,rfl,c2,c3,c4,c5,c6⟩:=hall
 rw [EN.out] at c2 c3
 rw [EB.out] at c4
 rw [EA.out] at c6
 have e2:decide ((0:Int)<n)=true:=decide_eq_true (by omega)
 have g2:decide (0<n)=true:=decide_eq_true c2
 have e3:decide ((n:Int)≤1024)=true:=decide_eq_true (by omega)
 have g3:decide (n≤1024)=true:=decide_eq_true c3
 have e4:decide (bd<0)=true:=decide_eq_true c4
 have e5:(is_ == ds)=true:=beq_iff_eq.2 c5
 have e6:(A1 == 0)=false:=beq_eq_false_iff_ne.2 (fun h=>c6 (HAZ.out h))
 clear c5 c6
 obtain⟨b,hb⟩:∃b,decide (rt<it)=b:=⟨_,rfl⟩
 rw [hb]
 by_cases r1:rt=0∧rs=0
 case pos =>
  obtain⟨rfl,rfl⟩:=r1
  clear hyes
  cases b
  all_goals
   go_enter Tryz.func218,Tryz.ntmps218
   go_upto_region 1 with fail
   rw [HW.out]
   clear HW
   go_upto_region 2 with (go_at_call 127;refine (HCO.out _).mono ?_;rintro r w2 ⟨rfl,hk⟩)
   dsimp only [List.append]
   have b0:=cell_grown (w:=w2) (Nat.lt_of_lt_of_le HSZ.out.2 hk.size) (hk.cell b0)
   have b1:=cell_grown (w:=w2) (Nat.lt_of_lt_of_le HSZ.out.2 hk.size) (hk.cell b1)
   have b2:=cell_grown (w:=w2) (Nat.lt_of_lt_of_le HSZ.out.2 hk.size) (hk.cell b2)
   have b3:=cell_grown (w:=w2) (Nat.lt_of_lt_of_le HSZ.out.2 hk.size) (hk.cell b3)
   have b4:=cell_grown (w:=w2) (Nat.lt_of_lt_of_le HSZ.out.2 hk.size) (hk.cell b4)
   have b5:=cell_grown (w:=w2) (Nat.lt_of_lt_of_le HSZ.out.2 hk.size) (hk.cell b5)
   have b6:=cell_grown (w:=w2) (Nat.lt_of_lt_of_le HSZ.out.2 hk.size) (hk.cell b6)
   have b7:=cell_grown (w:=w2) (Nat.lt_of_lt_of_le HSZ.out.2 hk.size) (hk.cell b7)
   have b8:=cell_grown (w:=w2) (Nat.lt_of_lt_of_le HSZ.out.2 hk.size) (hk.cell b8)
   have b9:=cell_grown (w:=w2) (Nat.lt_of_lt_of_le HSZ.out.2 hk.size) (hk.cell b9)
   have b10:=cell_grown (w:=w2) (Nat.lt_of_lt_of_le HSZ.out.2 hk.size) (hk.cell b10)
   have x0:=cell_grown (w:=w2) (Nat.lt_of_lt_of_le HSZ.out.1 hk.size) (hk.cell x0)
   have x1:=cell_grown (w:=w2) (Nat.lt_of_lt_of_le HSZ.out.1 hk.size) (hk.cell x1)
   have x2:=cell_grown (w:=w2) (Nat.lt_of_lt_of_le HSZ.out.1 hk.size) (hk.cell x2)
   have x3:=cell_grown (w:=w2) (Nat.lt_of_lt_of_le HSZ.out.1 hk.size) (hk.cell x3)
   have x4:=cell_grown (w:=w2) (Nat.lt_of_lt_of_le HSZ.out.1 hk.size) (hk.cell x4)
   have HR:=Lib.hid (fun (w':World) (_:Grew w2 w')=>HR0.out w')
   have HB:=Lib.hid (fun (w':World) (_:Grew w2 w')=>HBA.out w')
   have H1:=Lib.hid (fun (w':World) (_:Grew w2 w')=>HA1.out w')
   have H2:=Lib.hid (fun (w':World) (_:Grew w2 w')=>HA2.out w')
   have HKK:=Lib.hid hk
   clear hk
   refine wp_region_quiet_grown (by assumption) (by kernel_rfl) ?_
   repeat (go_big_quiet_step (first
    | (go_at_call 219;rw [HOP.out];exact grown_call HR.out _ _)
    | (go_at_call 126;exact grown_call HB.out _ _)
    | (go_at_call 129;with_reducible exact grown_call H2.out _ _)
    | (go_at_call 129;exact grown_call H1.out _ _)))
   refine wpQuiet_nil ?_
   intro _ hw2
   obtain⟨⟨nq,osq⟩,hw3⟩:=hw2
   subst hw3
   go_wp2_with fail
   go_ret
   exact⟨rfl,(K0.out.trans HKK.out (fun _ _ h=>h)).trans (Grew.grown _ _).kept (fun _ _ h=>h)⟩
 have hy:=hyes.resolve_left (fun h=>r1 ⟨congrArg ID.t h,congrArg ID.s h⟩)
 have h9:1≤rt:=by rcases HRZ.out with h | h;exact h.2;exact absurd (hy.symm.trans (ER.out.trans h)) (fun e=>r1 ⟨congrArg ID.t e,congrArg ID.s e⟩)
 obtain rfl:R=⟨rt,rs⟩:=ER.out.symm.trans hy
 have e9:(rt == 0)=false:=beq_eq_false_iff_ne.2 (by omega)
 clear hy hyes r1 h9
 cases b
 all_goals
  go_enter Tryz.func218,Tryz.ntmps218
  go_upto_region 1 with fail
  rw [HW.out]
  clear HW
  go_upto_region 2 with (go_at_call 127;refine (HCO.out _).mono ?_;rintro r w2 ⟨rfl,hk⟩)
  dsimp only [List.append]
  have b0:=cell_grown (w:=w2) (Nat.lt_of_lt_of_le HSZ.out.2 hk.size) (hk.cell b0)
  have b1:=cell_grown (w:=w2) (Nat.lt_of_lt_of_le HSZ.out.2 hk.size) (hk.cell b1)
  have b2:=cell_grown (w:=w2) (Nat.lt_of_lt_of_le HSZ.out.2 hk.size) (hk.cell b2)
  have b3:=cell_grown (w:=w2) (Nat.lt_of_lt_of_le HSZ.out.2 hk.size) (hk.cell b3)
  have b4:=cell_grown (w:=w2) (Nat.lt_of_lt_of_le HSZ.out.2 hk.size) (hk.cell b4)
  have b5:=cell_grown (w:=w2) (Nat.lt_of_lt_of_le HSZ.out.2 hk.size) (hk.cell b5)
  have b6:=cell_grown (w:=w2) (Nat.lt_of_lt_of_le HSZ.out.2 hk.size) (hk.cell b6)
  have b7:=cell_grown (w:=w2) (Nat.lt_of_lt_of_le HSZ.out.2 hk.size) (hk.cell b7)
  have b8:=cell_grown (w:=w2) (Nat.lt_of_lt_of_le HSZ.out.2 hk.size) (hk.cell b8)
  have b9:=cell_grown (w:=w2) (Nat.lt_of_lt_of_le HSZ.out.2 hk.size) (hk.cell b9)
  have b10:=cell_grown (w:=w2) (Nat.lt_of_lt_of_le HSZ.out.2 hk.size) (hk.cell b10)
  have x0:=cell_grown (w:=w2) (Nat.lt_of_lt_of_le HSZ.out.1 hk.size) (hk.cell x0)
  have x1:=cell_grown (w:=w2) (Nat.lt_of_lt_of_le HSZ.out.1 hk.size) (hk.cell x1)
  have x2:=cell_grown (w:=w2) (Nat.lt_of_lt_of_le HSZ.out.1 hk.size) (hk.cell x2)
  have x3:=cell_grown (w:=w2) (Nat.lt_of_lt_of_le HSZ.out.1 hk.size) (hk.cell x3)
  have x4:=cell_grown (w:=w2) (Nat.lt_of_lt_of_le HSZ.out.1 hk.size) (hk.cell x4)
  have HR:=Lib.hid (fun (w':World) (_:Grew w2 w')=>HR0.out w')
  have HB:=Lib.hid (fun (w':World) (_:Grew w2 w')=>HBA.out w')
  have H1:=Lib.hid (fun (w':World) (_:Grew w2 w')=>HA1.out w')
  have H2:=Lib.hid (fun (w':World) (_:Grew w2 w')=>HA2.out w')
  have HKK:=Lib.hid hk
  clear hk
  refine wp_region_quiet_grown (by assumption) (by kernel_rfl) ?_
  repeat (go_big_quiet_step (first
   | (go_at_call 219;rw [HOP.out];exact grown_call HR.out _ _)
   | (go_at_call 126;exact grown_call HB.out _ _)
   | (go_at_call 129;with_reducible exact grown_call H2.out _ _)
   | (go_at_call 129;exact grown_call H1.out _ _)))
  refine wpQuiet_nil ?_
  intro _ hw2
  obtain⟨⟨nq,osq⟩,hw3⟩:=hw2
  subst hw3
  go_wp2_with fail
  go_ret
  exact⟨rfl,(K0.out.trans HKK.out (fun _ _ h=>h)).trans (Grew.grown _ _).kept (fun _ _ h=>h)⟩
theorem right_insert {w:World}(x:OpV) (htx:x.text.size≤maxLen) :
  Calls Tryz.prog 218 #[.agg #[.int .i64 x.id.t,.int .i64 x.id.s,.int .i64 x.ref.t,.int .i64 x.ref.s,.string x.text],.agg (opA x)] w fun e w'=>e=.returned (.bool (decide (insOk x)))∧Kept (fun _=>False) w w':=by
 obtain⟨⟨ds,dq⟩,⟨da,dn,dc⟩,kd,⟨it,is_⟩,⟨rt,rs⟩,tx,⟨ga,gn,gc⟩,st⟩:=x
 by_cases hall:gn=0∧st=0∧0<countR tx∧countR tx≤1024∧badFrom tx 0<0∧is_=ds∧ID.after ⟨it,is_⟩ ((countR tx:Int) - 1)≠⟨0,0⟩
 ·by_cases hr:(⟨rt,rs⟩:ID)=⟨0,0⟩∨ID.after ⟨rt,rs⟩ 0=⟨rt,rs⟩
  ·have e:decide (insOk ⟨⟨ds,dq⟩,⟨da,dn,dc⟩,kd,⟨it,is_⟩,⟨rt,rs⟩,tx,⟨ga,gn,gc⟩,st⟩)=decide (rt<it):=decide_eq_decide.2 ⟨fun h=>h.2.2.2.2.2.2.2.2,fun h=>⟨hall.1,hall.2.1,hall.2.2.1,hall.2.2.2.1,hall.2.2.2.2.1,hall.2.2.2.2.2.1,hall.2.2.2.2.2.2,hr,h⟩⟩
   rw [e]
   exact ins_time ds dq kd it is_ rt rs st da ga dn dc gn gc tx htx hall hr
  ·rw [decide_eq_false (fun h:insOk ⟨⟨ds,dq⟩,⟨da,dn,dc⟩,kd,⟨it,is_⟩,⟨rt,rs⟩,tx,⟨ga,gn,gc⟩,st⟩=>hr h.2.2.2.2.2.2.2.1)]
   exact ins_ref ds dq kd it is_ rt rs st da ga dn dc gn gc tx htx hall hr
 ·rw [decide_eq_false (fun h:insOk ⟨⟨ds,dq⟩,⟨da,dn,dc⟩,kd,⟨it,is_⟩,⟨rt,rs⟩,tx,⟨ga,gn,gc⟩,st⟩=>hall ⟨h.1,h.2.1,h.2.2.1,h.2.2.2.1,h.2.2.2.2.1,h.2.2.2.2.2.1,h.2.2.2.2.2.2.1⟩)]
  exact ins_no ds dq kd it is_ rt rs st da ga dn dc gn gc tx htx hall
end Go.Proofs.YtjohljmpcblpjaaGreatDoor
