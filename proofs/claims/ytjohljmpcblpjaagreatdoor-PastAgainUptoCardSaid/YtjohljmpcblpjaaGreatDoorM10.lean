/- op.Check of a join. op.of, whatever the kind; its methods. op.Check of any operation. op.Check of any operation, by what it says. -/
import Derived.Test.YtjohljmpcblpjaaGreatDoorM9
set_option maxRecDepth 100000
set_option maxHeartbeats 20000000
namespace Go.Proofs.YtjohljmpcblpjaaGreatDoor
open Go.RowKit Go.Proofs.YtjohljmpcblpjaaGreatDoor.St
open Go.Sort (grow)
theorem meth_right (s:Int) (w:World):Sem.run Tryz.prog (method 403 233 (.agg #[.int .i64 s]) "hearsay/op.right") w=.ok (229,.agg #[.int .i64 s]) w:=by kernel_rfl
theorem enRight:∀args w,Sem.run Tryz.prog (callFunc 229 args) w=.ok (.enter 229 args) w:=Go.Proofs.enters_of Tryz.func229 (by kernel_rfl) rfl
end Go.Proofs.YtjohljmpcblpjaaGreatDoor
namespace Go.Proofs.YtjohljmpcblpjaaGreatDoor
open Go.RowKit Go.Proofs.YtjohljmpcblpjaaGreatDoor.St
open Go.Sort (grow)
def whatV (x:OpV):Value :=
 if x.kind=1 then .iface 229 (.agg #[.int .i64 x.id.t,.int .i64 x.id.s,.int .i64 x.ref.t,.int .i64 x.ref.s,.string x.text]) else
 if x.kind=2 then .iface 231 (.agg #[x.gone.v]) else
 if x.kind=3 then .iface 233 (.agg #[.int .i64 x.site]) else
 if x.kind=4 then .iface 235 (.agg #[]) else .nilIface
theorem of_all {w:World}(x:OpV):Calls Tryz.prog 119 #[.agg (opA x)] w fun e w'=>e=.returned (whatV x)∧Grew w w':=by
 by_cases h3:x.kind=3
 ·have e:whatV x=.iface 233 (.agg #[.int .i64 x.site]):=by unfold whatV;rw [if_neg (by omega),if_neg (by omega),if_pos h3]
  rw [e]
  exact of_join h3
 have hB:=Blk.new w 62 (opA x)
 have k0:Grew w (w.alloc (.cells (opA x) 62)):=(Grew.refl _).alloc _
 by_cases h1:x.kind=1
 ·have WV:=Lib.hid (show whatV x=.iface 229 (.agg #[.int .i64 x.id.t,.int .i64 x.id.s,.int .i64 x.ref.t,.int .i64 x.ref.s,.string x.text]) from if_pos h1)
  have b3:(w.alloc (.cells (opA x) 62)).cell? ⟨w.heap.size,3,none⟩=some (.int .i64 1):=by rw [←h1];exact hB.cell' (i:=3) rfl
  have b4:(w.alloc (.cells (opA x) 62)).cell? ⟨w.heap.size,4,none⟩=some (.int .i64 x.id.t):=hB.cell' (i:=4) rfl
  have b5:(w.alloc (.cells (opA x) 62)).cell? ⟨w.heap.size,5,none⟩=some (.int .i64 x.id.s):=hB.cell' (i:=5) rfl
  have b6:(w.alloc (.cells (opA x) 62)).cell? ⟨w.heap.size,6,none⟩=some (.int .i64 x.ref.t):=hB.cell' (i:=6) rfl
  have b7:(w.alloc (.cells (opA x) 62)).cell? ⟨w.heap.size,7,none⟩=some (.int .i64 x.ref.s):=hB.cell' (i:=7) rfl
  have b8:(w.alloc (.cells (opA x) 62)).cell? ⟨w.heap.size,8,none⟩=some (.string x.text):=hB.cell' (i:=8) rfl
  clear hB h1 h3
  go_enter Tryz.func119,Tryz.ntmps119
  go_wp2_with fail
  go_ret
  exact⟨by rw [WV.out];rfl,k0⟩
 by_cases h2:x.kind=2
 ·have WV:=Lib.hid (show whatV x=.iface 231 (.agg #[.slice x.gone.a x.gone.n x.gone.c]) by unfold whatV;rw [if_neg h1,if_pos h2];rfl)
  have b3:(w.alloc (.cells (opA x) 62)).cell? ⟨w.heap.size,3,none⟩=some (.int .i64 2):=by rw [←h2];exact hB.cell' (i:=3) rfl
  have b9:(w.alloc (.cells (opA x) 62)).cell? ⟨w.heap.size,9,none⟩=some (.slice x.gone.a x.gone.n x.gone.c):=hB.cell' (i:=9) rfl
  clear hB h1 h2 h3
  go_enter Tryz.func119,Tryz.ntmps119
  go_wp2_with fail
  go_ret
  exact⟨by rw [WV.out];rfl,k0⟩
 by_cases h4:x.kind=4
 ·have WV:=Lib.hid (show whatV x=.iface 235 (.agg #[]) by unfold whatV;rw [if_neg h1,if_neg h2,if_neg h3,if_pos h4])
  have b3:(w.alloc (.cells (opA x) 62)).cell? ⟨w.heap.size,3,none⟩=some (.int .i64 4):=by rw [←h4];exact hB.cell' (i:=3) rfl
  clear hB h1 h2 h3 h4
  go_enter Tryz.func119,Tryz.ntmps119
  go_wp2_with fail
  go_ret
  exact⟨by rw [WV.out];rfl,k0⟩
 ·have WV:=Lib.hid (show whatV x=.nilIface by unfold whatV;rw [if_neg h1,if_neg h2,if_neg h3,if_neg h4])
  have b3:(w.alloc (.cells (opA x) 62)).cell? ⟨w.heap.size,3,none⟩=some (.int .i64 x.kind):=hB.cell' (i:=3) rfl
  have e1:(x.kind == 1)=false:=beq_eq_false_iff_ne.2 h1
  have e2:(x.kind == 2)=false:=beq_eq_false_iff_ne.2 h2
  have e3:(x.kind == 3)=false:=beq_eq_false_iff_ne.2 h3
  have e4:(x.kind == 4)=false:=beq_eq_false_iff_ne.2 h4
  clear hB h1 h2 h3 h4
  go_enter Tryz.func119,Tryz.ntmps119
  go_wp2_with fail
  go_ret
  exact⟨by rw [WV.out];rfl,k0⟩
end Go.Proofs.YtjohljmpcblpjaaGreatDoor
namespace Go.Proofs.YtjohljmpcblpjaaGreatDoor
open Go.RowKit Go.Proofs.YtjohljmpcblpjaaGreatDoor.St
open Go.Sort (grow)
theorem check_core {w:World}{x:OpV}{D:List Dot}{T:TypeId}{v:Value}{f:FuncId}{b:Bool}(hof:∀w',Calls Tryz.prog 119 #[.agg (opA x)] w' fun e w''=>e=.returned (.iface T v)∧Grew w' w'')
  (hme:∀w',Sem.run Tryz.prog (method 403 T v "hearsay/op.right") w'=.ok (f,v) w') (hen:∀args w',Sem.run Tryz.prog (callFunc f args) w'=.ok (.enter f args) w') (hr:∀w',Kept (fun _=>False) w w'→Calls Tryz.prog f #[v,.agg (opA x)] w' fun e w''=>e=.returned (.bool b)∧Kept (fun _=>False) w' w'')
  (hD:SlAt dotE w x.deps.v D) (hDl:D.length≤1000000) :
  Calls Tryz.prog 79 #[.agg (opA x)] w fun e w'=>e=.returned (.int .i64 (if x.dot.Ok∧chkV 0 D=0∧getV D x.dot.site=x.dot.seq-1∧b=true then 0 else 10))∧Kept (fun _=>False) w w':=by
 have hmix:Tryz.prog.follows .mixedOrders=true:=by kernel_rfl
 have hB:=Blk.new w 62 (opA x)
 have k0:Kept (fun _=>False) w (w.alloc (.cells (opA x) 62)):=(Kept.refl _ _).alloc _
 obtain⟨c,hc⟩:∃c:Int,(if x.dot.Ok∧chkV 0 D=0∧getV D x.dot.site=x.dot.seq-1∧b=true then 0 else 10)=c:=⟨_,rfl⟩
 rw [hc]
 have HC:=Lib.hid hc
 clear hc
 have HCH:=Lib.hid (fun (w':World) (hk:Kept (fun _=>False) w w')=>vcheck_any (hD.kept hk) (by omega))
 have HGE:=Lib.hid (fun (w':World) (hk:Kept (fun _=>False) w w')=>get_grew (hD.kept hk) (by omega) x.dot.site)
 have HOF:=Lib.hid hof
 have HRI:=Lib.hid hr
 have ME:=Lib.hid hme
 have EN:=Lib.hid hen
 obtain⟨ch,hch⟩:∃n,chkV 0 D=n:=⟨_,rfl⟩
 obtain⟨gv,hgv⟩:∃n,getV D x.dot.site=n:=⟨_,rfl⟩
 rw [hch] at HCH
 rw [hgv] at HGE
 have ECH:=Lib.hid hch
 have EGV:=Lib.hid hgv
 clear hof hr hme hen hD hch hgv
 go_enter Tryz.func79,Tryz.ntmps79
 go_upto_region 1 with fail
 generalize w.alloc (.cells (opA x) 62)=w0 at *
 have HB:=Lib.hid hB
 have K0:=Lib.hid k0
 clear hB k0
 go_upto_region 2 with (first
  | (refine wpList_load_row rfl 62 _ rfl w.heap.size rfl 62 _ (0,0) _ HB.out Tryz.underlying62 rfl (by rw [opA_size];kernel_rfl) ?_)
  | (go_at_call 119;refine (HOF.out _).mono ?_;rintro r w1 ⟨rfl,hg1⟩))
 have B1:=hg1.kept.blk (fun h=>h) HB.out
 have K1:=Lib.hid (K0.out.trans hg1.kept (fun _ _ h=>h))
 have b0:w1.cell? ⟨w.heap.size,0,none⟩=some (.int .i64 x.dot.site):=B1.cell' (i:=0) rfl
 have b1:w1.cell? ⟨w.heap.size,1,none⟩=some (.int .i64 x.dot.seq):=B1.cell' (i:=1) rfl
 have b2:w1.cell? ⟨w.heap.size,2,none⟩=some x.deps.v:=B1.cell' (i:=2) rfl
 have HB1:=Lib.hid B1
 clear B1 hg1 HB K0
 by_cases d1:x.dot.site<1
 case pos =>
  obtain rfl:c=10:=HC.out.symm.trans (if_neg (fun h=>by have:=h.1;unfold Dot.Ok at this;omega))
  clear HC
  go_wp2_with fail
  go_ret
  exact⟨rfl,K1.out⟩
 by_cases d2:16<x.dot.site
 case pos =>
  obtain rfl:c=10:=HC.out.symm.trans (if_neg (fun h=>by have:=h.1;unfold Dot.Ok at this;omega))
  clear HC
  go_wp2_with fail
  go_ret
  exact⟨rfl,K1.out⟩
 by_cases d3:x.dot.seq<1
 case pos =>
  obtain rfl:c=10:=HC.out.symm.trans (if_neg (fun h=>by have:=h.1;unfold Dot.Ok at this;omega))
  clear HC
  go_wp2_with fail
  go_ret
  exact⟨rfl,K1.out⟩
 by_cases d4:2147483647<x.dot.seq
 case pos =>
  obtain rfl:c=10:=HC.out.symm.trans (if_neg (fun h=>by have:=h.1;unfold Dot.Ok at this;omega))
  clear HC
  go_wp2_with fail
  go_ret
  exact⟨rfl,K1.out⟩
 by_cases d5:ch=0
 case neg =>
  obtain rfl:c=10:=HC.out.symm.trans (if_neg (fun h=>d5 (ECH.out.symm.trans h.2.1)))
  have e5:(ch == 0)=false:=beq_eq_false_iff_ne.2 d5
  clear HC d5
  go_wp2_with (go_at_call 47;refine (HCH.out _ K1.out).mono ?_;rintro r w2 ⟨rfl,hk2⟩)
  go_ret
  exact⟨rfl,K1.out.trans hk2 (fun _ _ h=>h)⟩
 subst d5
 have hw:IntKind.i64.wrap (x.dot.seq-1)=x.dot.seq-1:=IntWalk.i64_in _ (by omega)
 go_upto_region 8 with (go_at_call 47;refine (HCH.out _ K1.out).mono ?_;rintro r w2 ⟨rfl,hk2⟩;have K2:=Lib.hid (K1.out.trans hk2 (fun _ _ h=>h));have HB2:=Lib.hid (hk2.blk (fun h=>h) HB1.out))
 have hbl:=HB2.out.lt
 have c0:=cell_grown (w:=w2) (by show w.heap.size<_;omega) (show w2.cell? ⟨w.heap.size,0,none⟩=some (.int .i64 x.dot.site) from HB2.out.cell' (i:=0) rfl)
 have c1:=cell_grown (w:=w2) (by show w.heap.size<_;omega) (show w2.cell? ⟨w.heap.size,1,none⟩=some (.int .i64 x.dot.seq) from HB2.out.cell' (i:=1) rfl)
 have c2:=cell_grown (w:=w2) (by show w.heap.size<_;omega) (show w2.cell? ⟨w.heap.size,2,none⟩=some x.deps.v from HB2.out.cell' (i:=2) rfl)
 have HG2:=Lib.hid (fun (w':World) (hk:Grew w2 w')=>HGE.out w' (K2.out.trans hk.kept (fun _ _ h=>h)))
 clear b0 b1 b2 hk2
 by_cases d6:gv=x.dot.seq-1
 case neg =>
  obtain rfl:c=10:=HC.out.symm.trans (if_neg (fun h=>d6 (EGV.out.symm.trans h.2.2.1)))
  have e6:(gv == x.dot.seq-1)=false:=beq_eq_false_iff_ne.2 d6
  have e7:(gv != x.dot.seq-1)=true:=bne_iff_ne.2 d6
  clear HC d6
  go_quiet_grown (first
   | (go_at_call 85;exact grown_call HG2.out _ _))
  clear c0 c1 c2
  have K3:=Lib.hid (K2.out.trans (Grew.grown (w:=w2) nq osq).kept (fun _ _ h=>h))
  generalize grow (w2.drewN nq) osq=w3 at *
  go_wp2_with fail
  go_ret
  exact⟨rfl,K3.out⟩
 have D6:=Lib.hid d6
 have e6:(gv == x.dot.seq-1)=true:=beq_iff_eq.2 d6
 have e7:(gv != x.dot.seq-1)=false:=by rw [d6];exact bne_self_eq_false _
 clear d6
 go_quiet_grown (first
  | (go_at_call 85;exact grown_call HG2.out _ _))
 clear c0 c1 c2
 have B3:=Lib.hid ((Grew.grown (w:=w2) nq osq).kept.blk (fun h=>h) HB2.out)
 have K3:=Lib.hid (K2.out.trans (Grew.grown (w:=w2) nq osq).kept (fun _ _ h=>h))
 generalize grow (w2.drewN nq) osq=w3 at *
 have hme:=ME.out
 have hen:=EN.out
 have ENS:Hid ((if b=true then (0:Int) else 10)=c):=Lib.hid (by
  rw [←HC.out]
  by_cases hb:b=true
  ·rw [if_pos hb,if_pos ⟨⟨by omega,by omega,by omega,by omega⟩,ECH.out,EGV.out.trans D6.out,hb⟩]
  ·rw [if_neg hb,if_neg (fun h=>hb h.2.2.2)])
 clear HC d1 d2 d3 d4 hw e6
 cases b with
 | false =>
  obtain rfl:10=c:=ENS.out
  clear ENS
  go_wp2_with (first
   | (refine wpList_load_row rfl 62 _ rfl w.heap.size rfl 62 _ (0,0) _ B3.out Tryz.underlying62 rfl (by rw [opA_size];kernel_rfl) ?_)
   | (refine (HRI.out _ K3.out).mono ?_;rintro r w4 ⟨rfl,hk4⟩))
  go_ret
  exact⟨rfl,K3.out.trans hk4 (fun _ _ h=>h)⟩
 | true =>
  obtain rfl:0=c:=ENS.out
  clear ENS
  go_wp2_with (first
   | (refine wpList_load_row rfl 62 _ rfl w.heap.size rfl 62 _ (0,0) _ B3.out Tryz.underlying62 rfl (by rw [opA_size];kernel_rfl) ?_)
   | (refine (HRI.out _ K3.out).mono ?_;rintro r w4 ⟨rfl,hk4⟩))
  go_ret
  exact⟨rfl,K3.out.trans hk4 (fun _ _ h=>h)⟩
end Go.Proofs.YtjohljmpcblpjaaGreatDoor
namespace Go.Proofs.YtjohljmpcblpjaaGreatDoor
open Go.RowKit Go.Proofs.YtjohljmpcblpjaaGreatDoor.St Go.Proofs.YtjohljmpcblpjaaGreatDoor.Gl
def joinOk (x:OpV):Prop:=x.gone.n=0∧x.id.t=0∧x.id.s=0∧x.ref.t=0∧x.ref.s=0∧x.text=⟨#[]⟩∧1≤x.site∧x.site≤16
instance (x:OpV):Decidable (joinOk x):=by unfold joinOk;infer_instance
theorem right_joinAll {w:World}(ds dq kd it is_ rt rs st:Int) (da ga:Option Addr) (dn dc gn gc:Nat) (tx:ByteArray) :
  Calls Tryz.prog 229 #[.agg #[.int .i64 st],.agg (opA ⟨⟨ds,dq⟩,⟨da,dn,dc⟩,kd,⟨it,is_⟩,⟨rt,rs⟩,tx,⟨ga,gn,gc⟩,st⟩)] w fun e w'=>e=.returned (.bool (decide (joinOk ⟨⟨ds,dq⟩,⟨da,dn,dc⟩,kd,⟨it,is_⟩,⟨rt,rs⟩,tx,⟨ga,gn,gc⟩,st⟩)))∧Kept (fun _=>False) w w':=by
 have hB:=Blk.new (w.alloc (.cells #[.int .i64 st] 233)) 62 (opA ⟨⟨ds,dq⟩,⟨da,dn,dc⟩,kd,⟨it,is_⟩,⟨rt,rs⟩,tx,⟨ga,gn,gc⟩,st⟩)
 have hS:=(Blk.new w 233 #[.int .i64 st]).alloc (.cells (opA ⟨⟨ds,dq⟩,⟨da,dn,dc⟩,kd,⟨it,is_⟩,⟨rt,rs⟩,tx,⟨ga,gn,gc⟩,st⟩) 62)
 have k0:Kept (fun _=>False) w ((w.alloc (.cells #[.int .i64 st] 233)).alloc (.cells (opA ⟨⟨ds,dq⟩,⟨da,dn,dc⟩,kd,⟨it,is_⟩,⟨rt,rs⟩,tx,⟨ga,gn,gc⟩,st⟩) 62)):=((Kept.refl _ _).alloc _).alloc _
 rw [World.size_alloc] at hB
 obtain⟨W,hW⟩:∃W,((w.alloc (.cells #[.int .i64 st] 233)).alloc (.cells (opA ⟨⟨ds,dq⟩,⟨da,dn,dc⟩,kd,⟨it,is_⟩,⟨rt,rs⟩,tx,⟨ga,gn,gc⟩,st⟩) 62))=W:=⟨_,rfl⟩
 rw [hW] at hS hB k0
 have HW:=Lib.hid hW
 have HOP:Hid (#[.int .i64 ds,.int .i64 dq,.slice da dn dc,.int .i64 kd,.int .i64 it,.int .i64 is_,.int .i64 rt,.int .i64 rs,.string tx,.slice ga gn gc,.int .i64 st]=opA ⟨⟨ds,dq⟩,⟨da,dn,dc⟩,kd,⟨it,is_⟩,⟨rt,rs⟩,tx,⟨ga,gn,gc⟩,st⟩):=Lib.hid rfl
 have b0:W.cell? ⟨w.heap.size+1,0,none⟩=some (.int .i64 ds):=hB.cell' (i:=0) rfl
 have b1:W.cell? ⟨w.heap.size+1,1,none⟩=some (.int .i64 dq):=hB.cell' (i:=1) rfl
 have b2:W.cell? ⟨w.heap.size+1,2,none⟩=some (.slice da dn dc):=hB.cell' (i:=2) rfl
 have b3:W.cell? ⟨w.heap.size+1,3,none⟩=some (.int .i64 kd):=hB.cell' (i:=3) rfl
 have b4:W.cell? ⟨w.heap.size+1,4,none⟩=some (.int .i64 it):=hB.cell' (i:=4) rfl
 have b5:W.cell? ⟨w.heap.size+1,5,none⟩=some (.int .i64 is_):=hB.cell' (i:=5) rfl
 have b6:W.cell? ⟨w.heap.size+1,6,none⟩=some (.int .i64 rt):=hB.cell' (i:=6) rfl
 have b7:W.cell? ⟨w.heap.size+1,7,none⟩=some (.int .i64 rs):=hB.cell' (i:=7) rfl
 have b8:W.cell? ⟨w.heap.size+1,8,none⟩=some (.string tx):=hB.cell' (i:=8) rfl
 have b9:W.cell? ⟨w.heap.size+1,9,none⟩=some (.slice ga gn gc):=hB.cell' (i:=9) rfl
 have b10:W.cell? ⟨w.heap.size+1,10,none⟩=some (.int .i64 st):=hB.cell' (i:=10) rfl
 have x0:W.cell? ⟨w.heap.size,0,none⟩=some (.int .i64 st):=hS.cell' (i:=0) rfl
 have K0:=Lib.hid k0
 obtain⟨b,hb⟩:∃b,decide (joinOk ⟨⟨ds,dq⟩,⟨da,dn,dc⟩,kd,⟨it,is_⟩,⟨rt,rs⟩,tx,⟨ga,gn,gc⟩,st⟩)=b:=⟨_,rfl⟩
 rw [hb]
 have HBB:=Lib.hid hb
 have hmix:Tryz.prog.follows .mixedOrders=true:=by kernel_rfl
 have HSZ:=Lib.hid (show w.heap.size<W.heap.size∧w.heap.size+1<W.heap.size by have:=hB.lt;omega)
 have HR:=Lib.hid (fun (w':World) (_:Grew W w')=>rest_any (w:=w') ⟨⟨ds,dq⟩,⟨da,dn,dc⟩,kd,⟨it,is_⟩,⟨rt,rs⟩,tx,⟨ga,gn,gc⟩,st⟩)
 clear hB hS k0 hW hb
 by_cases c0:gn=0
 case neg =>
  obtain rfl:b=false:=HBB.out.symm.trans (decide_eq_false (fun h=>c0 (h.1)))
  have ec0:((gn:Int) == 0)=false:=beq_eq_false_iff_ne.2 (by omega)
  clear c0 HBB
  go_enter Tryz.func229,Tryz.ntmps229
  go_upto_region 1 with fail
  rw [HW.out]
  clear HW
  have b0:=cell_grown (w:=W) HSZ.out.2 b0
  have b1:=cell_grown (w:=W) HSZ.out.2 b1
  have b2:=cell_grown (w:=W) HSZ.out.2 b2
  have b3:=cell_grown (w:=W) HSZ.out.2 b3
  have b4:=cell_grown (w:=W) HSZ.out.2 b4
  have b5:=cell_grown (w:=W) HSZ.out.2 b5
  have b6:=cell_grown (w:=W) HSZ.out.2 b6
  have b7:=cell_grown (w:=W) HSZ.out.2 b7
  have b8:=cell_grown (w:=W) HSZ.out.2 b8
  have b9:=cell_grown (w:=W) HSZ.out.2 b9
  have b10:=cell_grown (w:=W) HSZ.out.2 b10
  have x0:=cell_grown (w:=W) HSZ.out.1 x0
  refine wp_region_quiet_grown (by assumption) (by kernel_rfl) ?_
  repeat (go_big_quiet_step ((go_at_call 219;rw [HOP.out];exact grown_call HR.out _ _)))
  refine wpQuiet_nil ?_
  intro _ hw2
  obtain⟨⟨nq,osq⟩,hw3⟩:=hw2
  subst hw3
  go_wp2_with fail
  go_ret
  exact⟨rfl,K0.out.trans (Grew.grown _ _).kept (fun _ _ h=>h)⟩
 subst c0
 by_cases c1:it=0
 case neg =>
  obtain rfl:b=false:=HBB.out.symm.trans (decide_eq_false (fun h=>c1 (h.2.1)))
  have ec1:(it == 0)=false:=beq_eq_false_iff_ne.2 c1
  clear c1 HBB
  go_enter Tryz.func229,Tryz.ntmps229
  go_upto_region 1 with fail
  rw [HW.out]
  clear HW
  have b0:=cell_grown (w:=W) HSZ.out.2 b0
  have b1:=cell_grown (w:=W) HSZ.out.2 b1
  have b2:=cell_grown (w:=W) HSZ.out.2 b2
  have b3:=cell_grown (w:=W) HSZ.out.2 b3
  have b4:=cell_grown (w:=W) HSZ.out.2 b4
  have b5:=cell_grown (w:=W) HSZ.out.2 b5
  have b6:=cell_grown (w:=W) HSZ.out.2 b6
  have b7:=cell_grown (w:=W) HSZ.out.2 b7
  have b8:=cell_grown (w:=W) HSZ.out.2 b8
  have b9:=cell_grown (w:=W) HSZ.out.2 b9
  have b10:=cell_grown (w:=W) HSZ.out.2 b10
  have x0:=cell_grown (w:=W) HSZ.out.1 x0
  refine wp_region_quiet_grown (by assumption) (by kernel_rfl) ?_
  repeat (go_big_quiet_step ((go_at_call 219;rw [HOP.out];exact grown_call HR.out _ _)))
  refine wpQuiet_nil ?_
  intro _ hw2
  obtain⟨⟨nq,osq⟩,hw3⟩:=hw2
  subst hw3
  go_wp2_with fail
  go_ret
  exact⟨rfl,K0.out.trans (Grew.grown _ _).kept (fun _ _ h=>h)⟩
 subst c1
 by_cases c2:is_=0
 case neg =>
  obtain rfl:b=false:=HBB.out.symm.trans (decide_eq_false (fun h=>c2 (h.2.2.1)))
  have ec2:(is_ == 0)=false:=beq_eq_false_iff_ne.2 c2
  clear c2 HBB
  go_enter Tryz.func229,Tryz.ntmps229
  go_upto_region 1 with fail
  rw [HW.out]
  clear HW
  have b0:=cell_grown (w:=W) HSZ.out.2 b0
  have b1:=cell_grown (w:=W) HSZ.out.2 b1
  have b2:=cell_grown (w:=W) HSZ.out.2 b2
  have b3:=cell_grown (w:=W) HSZ.out.2 b3
  have b4:=cell_grown (w:=W) HSZ.out.2 b4
  have b5:=cell_grown (w:=W) HSZ.out.2 b5
  have b6:=cell_grown (w:=W) HSZ.out.2 b6
  have b7:=cell_grown (w:=W) HSZ.out.2 b7
  have b8:=cell_grown (w:=W) HSZ.out.2 b8
  have b9:=cell_grown (w:=W) HSZ.out.2 b9
  have b10:=cell_grown (w:=W) HSZ.out.2 b10
  have x0:=cell_grown (w:=W) HSZ.out.1 x0
  refine wp_region_quiet_grown (by assumption) (by kernel_rfl) ?_
  repeat (go_big_quiet_step ((go_at_call 219;rw [HOP.out];exact grown_call HR.out _ _)))
  refine wpQuiet_nil ?_
  intro _ hw2
  obtain⟨⟨nq,osq⟩,hw3⟩:=hw2
  subst hw3
  go_wp2_with fail
  go_ret
  exact⟨rfl,K0.out.trans (Grew.grown _ _).kept (fun _ _ h=>h)⟩
 subst c2
 by_cases c3:rt=0
 case neg =>
  obtain rfl:b=false:=HBB.out.symm.trans (decide_eq_false (fun h=>c3 (h.2.2.2.1)))
  have ec3:(rt == 0)=false:=beq_eq_false_iff_ne.2 c3
  clear c3 HBB
  go_enter Tryz.func229,Tryz.ntmps229
  go_upto_region 1 with fail
  rw [HW.out]
  clear HW
  have b0:=cell_grown (w:=W) HSZ.out.2 b0
  have b1:=cell_grown (w:=W) HSZ.out.2 b1
  have b2:=cell_grown (w:=W) HSZ.out.2 b2
  have b3:=cell_grown (w:=W) HSZ.out.2 b3
  have b4:=cell_grown (w:=W) HSZ.out.2 b4
  have b5:=cell_grown (w:=W) HSZ.out.2 b5
  have b6:=cell_grown (w:=W) HSZ.out.2 b6
  have b7:=cell_grown (w:=W) HSZ.out.2 b7
  have b8:=cell_grown (w:=W) HSZ.out.2 b8
  have b9:=cell_grown (w:=W) HSZ.out.2 b9
  have b10:=cell_grown (w:=W) HSZ.out.2 b10
  have x0:=cell_grown (w:=W) HSZ.out.1 x0
  refine wp_region_quiet_grown (by assumption) (by kernel_rfl) ?_
  repeat (go_big_quiet_step ((go_at_call 219;rw [HOP.out];exact grown_call HR.out _ _)))
  refine wpQuiet_nil ?_
  intro _ hw2
  obtain⟨⟨nq,osq⟩,hw3⟩:=hw2
  subst hw3
  go_wp2_with fail
  go_ret
  exact⟨rfl,K0.out.trans (Grew.grown _ _).kept (fun _ _ h=>h)⟩
 subst c3
 by_cases c4:rs=0
 case neg =>
  obtain rfl:b=false:=HBB.out.symm.trans (decide_eq_false (fun h=>c4 (h.2.2.2.2.1)))
  have ec4:(rs == 0)=false:=beq_eq_false_iff_ne.2 c4
  clear c4 HBB
  go_enter Tryz.func229,Tryz.ntmps229
  go_upto_region 1 with fail
  rw [HW.out]
  clear HW
  have b0:=cell_grown (w:=W) HSZ.out.2 b0
  have b1:=cell_grown (w:=W) HSZ.out.2 b1
  have b2:=cell_grown (w:=W) HSZ.out.2 b2
  have b3:=cell_grown (w:=W) HSZ.out.2 b3
  have b4:=cell_grown (w:=W) HSZ.out.2 b4
  have b5:=cell_grown (w:=W) HSZ.out.2 b5
  have b6:=cell_grown (w:=W) HSZ.out.2 b6
  have b7:=cell_grown (w:=W) HSZ.out.2 b7
  have b8:=cell_grown (w:=W) HSZ.out.2 b8
  have b9:=cell_grown (w:=W) HSZ.out.2 b9
  have b10:=cell_grown (w:=W) HSZ.out.2 b10
  have x0:=cell_grown (w:=W) HSZ.out.1 x0
  refine wp_region_quiet_grown (by assumption) (by kernel_rfl) ?_
  repeat (go_big_quiet_step ((go_at_call 219;rw [HOP.out];exact grown_call HR.out _ _)))
  refine wpQuiet_nil ?_
  intro _ hw2
  obtain⟨⟨nq,osq⟩,hw3⟩:=hw2
  subst hw3
  go_wp2_with fail
  go_ret
  exact⟨rfl,K0.out.trans (Grew.grown _ _).kept (fun _ _ h=>h)⟩
 subst c4
 by_cases c5:tx=⟨#[]⟩
 case neg =>
  obtain rfl:b=false:=HBB.out.symm.trans (decide_eq_false (fun h=>c5 (h.2.2.2.2.2.1)))
  have ec5:¬tx.toList=[]:=fun h=>c5 (text_nil h)
  have gc5:tx.toList.isEmpty=false:=by simpa using ec5
  clear c5 HBB
  go_enter Tryz.func229,Tryz.ntmps229
  go_upto_region 1 with fail
  rw [HW.out]
  clear HW
  have b0:=cell_grown (w:=W) HSZ.out.2 b0
  have b1:=cell_grown (w:=W) HSZ.out.2 b1
  have b2:=cell_grown (w:=W) HSZ.out.2 b2
  have b3:=cell_grown (w:=W) HSZ.out.2 b3
  have b4:=cell_grown (w:=W) HSZ.out.2 b4
  have b5:=cell_grown (w:=W) HSZ.out.2 b5
  have b6:=cell_grown (w:=W) HSZ.out.2 b6
  have b7:=cell_grown (w:=W) HSZ.out.2 b7
  have b8:=cell_grown (w:=W) HSZ.out.2 b8
  have b9:=cell_grown (w:=W) HSZ.out.2 b9
  have b10:=cell_grown (w:=W) HSZ.out.2 b10
  have x0:=cell_grown (w:=W) HSZ.out.1 x0
  refine wp_region_quiet_grown (by assumption) (by kernel_rfl) ?_
  repeat (go_big_quiet_step ((go_at_call 219;rw [HOP.out];exact grown_call HR.out _ _)))
  refine wpQuiet_nil ?_
  intro _ hw2
  obtain⟨⟨nq,osq⟩,hw3⟩:=hw2
  subst hw3
  go_wp2_with fail
  go_ret
  exact⟨rfl,K0.out.trans (Grew.grown _ _).kept (fun _ _ h=>h)⟩
 subst c5
 by_cases c6:1≤st
 case neg =>
  obtain rfl:b=false:=HBB.out.symm.trans (decide_eq_false (fun h=>c6 (h.2.2.2.2.2.2.1)))
  have ec6:decide (1≤st)=false:=decide_eq_false c6
  clear c6 HBB
  go_enter Tryz.func229,Tryz.ntmps229
  go_upto_region 1 with fail
  rw [HW.out]
  clear HW
  have b0:=cell_grown (w:=W) HSZ.out.2 b0
  have b1:=cell_grown (w:=W) HSZ.out.2 b1
  have b2:=cell_grown (w:=W) HSZ.out.2 b2
  have b3:=cell_grown (w:=W) HSZ.out.2 b3
  have b4:=cell_grown (w:=W) HSZ.out.2 b4
  have b5:=cell_grown (w:=W) HSZ.out.2 b5
  have b6:=cell_grown (w:=W) HSZ.out.2 b6
  have b7:=cell_grown (w:=W) HSZ.out.2 b7
  have b8:=cell_grown (w:=W) HSZ.out.2 b8
  have b9:=cell_grown (w:=W) HSZ.out.2 b9
  have b10:=cell_grown (w:=W) HSZ.out.2 b10
  have x0:=cell_grown (w:=W) HSZ.out.1 x0
  refine wp_region_quiet_grown (by assumption) (by kernel_rfl) ?_
  repeat (go_big_quiet_step ((go_at_call 219;rw [HOP.out];exact grown_call HR.out _ _)))
  refine wpQuiet_nil ?_
  intro _ hw2
  obtain⟨⟨nq,osq⟩,hw3⟩:=hw2
  subst hw3
  go_wp2_with fail
  go_ret
  exact⟨rfl,K0.out.trans (Grew.grown _ _).kept (fun _ _ h=>h)⟩
 have ec6:decide (1≤st)=true:=decide_eq_true c6
 by_cases c7:st≤16
 case neg =>
  obtain rfl:b=false:=HBB.out.symm.trans (decide_eq_false (fun h=>c7 (h.2.2.2.2.2.2.2)))
  have ec7:decide (st≤16)=false:=decide_eq_false c7
  clear c7 HBB
  go_enter Tryz.func229,Tryz.ntmps229
  go_upto_region 1 with fail
  rw [HW.out]
  clear HW
  have b0:=cell_grown (w:=W) HSZ.out.2 b0
  have b1:=cell_grown (w:=W) HSZ.out.2 b1
  have b2:=cell_grown (w:=W) HSZ.out.2 b2
  have b3:=cell_grown (w:=W) HSZ.out.2 b3
  have b4:=cell_grown (w:=W) HSZ.out.2 b4
  have b5:=cell_grown (w:=W) HSZ.out.2 b5
  have b6:=cell_grown (w:=W) HSZ.out.2 b6
  have b7:=cell_grown (w:=W) HSZ.out.2 b7
  have b8:=cell_grown (w:=W) HSZ.out.2 b8
  have b9:=cell_grown (w:=W) HSZ.out.2 b9
  have b10:=cell_grown (w:=W) HSZ.out.2 b10
  have x0:=cell_grown (w:=W) HSZ.out.1 x0
  refine wp_region_quiet_grown (by assumption) (by kernel_rfl) ?_
  repeat (go_big_quiet_step ((go_at_call 219;rw [HOP.out];exact grown_call HR.out _ _)))
  refine wpQuiet_nil ?_
  intro _ hw2
  obtain⟨⟨nq,osq⟩,hw3⟩:=hw2
  subst hw3
  go_wp2_with fail
  go_ret
  exact⟨rfl,K0.out.trans (Grew.grown _ _).kept (fun _ _ h=>h)⟩
 have ec7:decide (st≤16)=true:=decide_eq_true c7
 obtain rfl:b=true:=HBB.out.symm.trans (decide_eq_true ⟨rfl,rfl,rfl,rfl,rfl,rfl,c6,c7⟩)
 clear HBB c6 c7
 go_enter Tryz.func229,Tryz.ntmps229
 go_upto_region 1 with fail
 rw [HW.out]
 clear HW
 have b0:=cell_grown (w:=W) HSZ.out.2 b0
 have b1:=cell_grown (w:=W) HSZ.out.2 b1
 have b2:=cell_grown (w:=W) HSZ.out.2 b2
 have b3:=cell_grown (w:=W) HSZ.out.2 b3
 have b4:=cell_grown (w:=W) HSZ.out.2 b4
 have b5:=cell_grown (w:=W) HSZ.out.2 b5
 have b6:=cell_grown (w:=W) HSZ.out.2 b6
 have b7:=cell_grown (w:=W) HSZ.out.2 b7
 have b8:=cell_grown (w:=W) HSZ.out.2 b8
 have b9:=cell_grown (w:=W) HSZ.out.2 b9
 have b10:=cell_grown (w:=W) HSZ.out.2 b10
 have x0:=cell_grown (w:=W) HSZ.out.1 x0
 refine wp_region_quiet_grown (by assumption) (by kernel_rfl) ?_
 repeat (go_big_quiet_step ((go_at_call 219;rw [HOP.out];exact grown_call HR.out _ _)))
 refine wpQuiet_nil ?_
 intro _ hw2
 obtain⟨⟨nq,osq⟩,hw3⟩:=hw2
 subst hw3
 go_wp2_with fail
 go_ret
 exact⟨rfl,K0.out.trans (Grew.grown _ _).kept (fun _ _ h=>h)⟩
theorem meth_insert (a b c d:Int) (s:ByteArray) (w:World):Sem.run Tryz.prog (method 403 229 (.agg #[.int .i64 a,.int .i64 b,.int .i64 c,.int .i64 d,.string s]) "hearsay/op.right") w=.ok (218,.agg #[.int .i64 a,.int .i64 b,.int .i64 c,.int .i64 d,.string s]) w:=by kernel_rfl
theorem en_insert:∀args w,Sem.run Tryz.prog (callFunc 218 args) w=.ok (.enter 218 args) w:=Go.Proofs.enters_of Tryz.func218 (by kernel_rfl) rfl
theorem meth_remove (a:Option Addr) (n c:Nat) (w:World):Sem.run Tryz.prog (method 403 231 (.agg #[.slice a n c]) "hearsay/op.right") w=.ok (223,.agg #[.slice a n c]) w:=by kernel_rfl
theorem en_remove:∀args w,Sem.run Tryz.prog (callFunc 223 args) w=.ok (.enter 223 args) w:=Go.Proofs.enters_of Tryz.func223 (by kernel_rfl) rfl
theorem meth_leave  (w:World):Sem.run Tryz.prog (method 403 235 (.agg #[]) "hearsay/op.right") w=.ok (233,.agg #[]) w:=by kernel_rfl
theorem en_leave:∀args w,Sem.run Tryz.prog (callFunc 233 args) w=.ok (.enter 233 args) w:=Go.Proofs.enters_of Tryz.func233 (by kernel_rfl) rfl
def rightOk (x:OpV) (G:List Run):Prop:=(x.kind=1∧insOk x)∨(x.kind=2∧removeOk x G)∨(x.kind=3∧joinOk x)∨(x.kind=4∧x.gone.n=0∧bareOk x)
def opOk (x:OpV) (D:List Dot) (G:List Run):Prop:=x.dot.Ok∧chkV 0 D=0∧getV D x.dot.site=x.dot.seq-1∧rightOk x G
noncomputable instance (x:OpV) (D:List Dot) (G:List Run):Decidable (opOk x D G):=Classical.propDecidable _
noncomputable def opC (x:OpV) (D:List Dot) (G:List Run):Int:=if opOk x D G then 0 else 10
theorem check_op {w:World}(x:OpV){D:List Dot}{G:List Run}(hD:SlAt dotE w x.deps.v D) (hG:SlAt runE w x.gone.v G) (hin:∀r∈G,r.In) (hDl:D.length≤1000000) (hGl:G.length≤1000000) (htx:x.text.size≤maxLen) :
  Calls Tryz.prog 79 #[.agg (opA x)] w fun e w'=>e=.returned (.int .i64 (opC x D G))∧Kept (fun _=>False) w w':=by
 have hgn:x.gone.n=G.length:=by obtain⟨_,_,he,_⟩:=hG.sl;injection he
 have fin:∀ {b:Bool},(b=true↔rightOk x G)→(if x.dot.Ok∧chkV 0 D=0∧getV D x.dot.site=x.dot.seq-1∧b=true then (0:Int) else 10)=opC x D G:=fun hb=>by
  unfold opC
  by_cases h:opOk x D G
  ·rw [if_pos h,if_pos ⟨h.1,h.2.1,h.2.2.1,hb.2 h.2.2.2⟩]
  ·rw [if_neg h,if_neg (fun e=>h ⟨e.1,e.2.1,e.2.2.1,hb.1 e.2.2.2⟩)]
 have hof:=fun (w':World)=>of_all (w:=w') x
 by_cases h1:x.kind=1
 ·have e:whatV x=.iface 229 (.agg #[.int .i64 x.id.t,.int .i64 x.id.s,.int .i64 x.ref.t,.int .i64 x.ref.s,.string x.text]):=if_pos h1
  rw [e] at hof
  rw [←fin (b:=decide (insOk x)) ⟨fun h=>.inl ⟨h1,of_decide_eq_true h⟩,fun h=>decide_eq_true (by rcases h with h | h | h | h;exact h.2;all_goals exact absurd h.1 (by omega))⟩]
  exact check_core hof (fun w'=>meth_insert _ _ _ _ _ w') en_insert (fun w' _=>right_insert x htx) hD hDl
 by_cases h2:x.kind=2
 ·have e:whatV x=.iface 231 (.agg #[x.gone.v]):=by unfold whatV;rw [if_neg h1,if_pos h2]
  rw [e] at hof
  rw [←fin (b:=decide (removeOk x G)) ⟨fun h=>.inr (.inl ⟨h2,of_decide_eq_true h⟩),fun h=>decide_eq_true (by rcases h with h | h | h | h;exact absurd h.1 h1;exact h.2;all_goals exact absurd h.1 (by omega))⟩]
  exact check_core hof (fun w'=>meth_remove _ _ _ w') en_remove (fun w' hk=>right_remove _ _ _ _ _ _ _ _ _ _ _ _ _ _ _ (hG.kept hk) hin (by omega)) hD hDl
 by_cases h3:x.kind=3
 ·have e:whatV x=.iface 233 (.agg #[.int .i64 x.site]):=by unfold whatV;rw [if_neg h1,if_neg h2,if_pos h3]
  rw [e] at hof
  rw [←fin (b:=decide (joinOk x)) ⟨fun h=>.inr (.inr (.inl ⟨h3,of_decide_eq_true h⟩)),fun h=>decide_eq_true (by rcases h with h | h | h | h;exact absurd h.1 h1;exact absurd h.1 h2;exact h.2;exact absurd h.1 (by omega))⟩]
  exact check_core hof (fun w'=>meth_right _ w') enRight (fun w' _=>right_joinAll _ _ _ _ _ _ _ _ _ _ _ _ _ _ _) hD hDl
 by_cases h4:x.kind=4
 ·have e:whatV x=.iface 235 (.agg #[]):=by unfold whatV;rw [if_neg h1,if_neg h2,if_neg h3,if_pos h4]
  rw [e] at hof
  rw [←fin (b:=decide (x.gone.n=0∧bareOk x)) ⟨fun h=>.inr (.inr (.inr ⟨h4,of_decide_eq_true h⟩)),fun h=>decide_eq_true (by rcases h with h | h | h | h;exact absurd h.1 h1;exact absurd h.1 h2;exact absurd h.1 h3;exact h.2)⟩]
  exact check_core hof (fun w'=>meth_leave w') en_leave (fun w' _=>right_leave _ _ _ _ _ _ _ _ _ _ _ _ _ _ _) hD hDl
 ·have e:whatV x=.nilIface:=by unfold whatV;rw [if_neg h1,if_neg h2,if_neg h3,if_neg h4]
  rw [e] at hof
  have ANS:Hid (opC x D G=10):=Lib.hid (if_neg (fun h=>by rcases h.2.2.2 with h | h | h | h;exact h1 h.1;exact h2 h.1;exact h3 h.1;exact h4 h.1))
  have hB:=Blk.new w 62 (opA x)
  have k0:Kept (fun _=>False) w (w.alloc (.cells (opA x) 62)):=(Kept.refl _ _).alloc _
  have HOF:=Lib.hid hof
  clear hof fin hD hG hin htx h1 h2 h3 h4 e hgn
  go_enter Tryz.func79,Tryz.ntmps79
  go_upto_region 1 with fail
  generalize w.alloc (.cells (opA x) 62)=w0 at *
  have HB:=Lib.hid hB
  have K0:=Lib.hid k0
  clear hB k0
  go_wp2_with (first
   | (refine wpList_load_row rfl 62 _ rfl w.heap.size rfl 62 _ (0,0) _ HB.out Tryz.underlying62 rfl (by rw [opA_size];kernel_rfl) ?_)
   | (go_at_call 119;refine (HOF.out _).mono ?_;rintro r w1 ⟨rfl,hg1⟩))
  go_ret
  exact⟨by rw [ANS.out];rfl,K0.out.trans hg1.kept (fun _ _ h=>h)⟩
end Go.Proofs.YtjohljmpcblpjaaGreatDoor
