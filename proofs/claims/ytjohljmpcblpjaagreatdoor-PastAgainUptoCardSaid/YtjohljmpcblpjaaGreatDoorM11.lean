/- past.set, past.Closed. -/
import Derived.Test.YtjohljmpcblpjaaGreatDoorM10
set_option maxRecDepth 100000
set_option maxHeartbeats 8000000
namespace Go.Proofs.YtjohljmpcblpjaaGreatDoor.Pa
open Go.RowKit Go.Proofs.YtjohljmpcblpjaaGreatDoor.St Go.Proofs.YtjohljmpcblpjaaGreatDoor
theorem SlAt.opc {w:World}{v:Value}{L:List Ent}(h:SlAt entE w v L) (hn:0<L.length):∃g o c,v=.slice (some ⟨g,o,none⟩) L.length c∧∀(i:Nat) (x:Ent),L[i]?=some x →
  w.cell? ⟨g,o+i * 11,none⟩=some (.int .i64 x.v.dot.site)∧w.cell? ⟨g,o+i * 11+1,none⟩=some (.int .i64 x.v.dot.seq)∧w.cell? ⟨g,o+i * 11+2,none⟩=some (.slice x.v.deps.a x.v.deps.n x.v.deps.c)∧w.cell? ⟨g,o+i * 11+3,none⟩=some (.int .i64 x.v.kind)∧w.cell? ⟨g,o+i * 11+4,none⟩=some (.int .i64 x.v.id.t)∧w.cell? ⟨g,o+i * 11+5,none⟩=some (.int .i64 x.v.id.s)∧w.cell? ⟨g,o+i * 11+6,none⟩=some (.int .i64 x.v.ref.t)∧w.cell? ⟨g,o+i * 11+7,none⟩=some (.int .i64 x.v.ref.s)∧w.cell? ⟨g,o+i * 11+8,none⟩=some (.string x.v.text)∧w.cell? ⟨g,o+i * 11+9,none⟩=some (.slice x.v.gone.a x.v.gone.n x.v.gone.c)∧w.cell? ⟨g,o+i * 11+10,none⟩=some (.int .i64 x.v.site):=by
 obtain⟨g,o,c,rfl,_,_,_,hc⟩:=h.one hn
 exact⟨g,o,c,rfl,fun i x hx=>⟨hc i x hx 0 _ rfl,hc i x hx 1 _ rfl,hc i x hx 2 _ rfl,hc i x hx 3 _ rfl,hc i x hx 4 _ rfl,hc i x hx 5 _ rfl,hc i x hx 6 _ rfl,hc i x hx 7 _ rfl,hc i x hx 8 _ rfl,hc i x hx 9 _ rfl,hc i x hx 10 _ rfl⟩⟩
def badE (e:Ent):Prop:=¬opOk e.v e.D e.G
def dotOf (e:Ent):Dot:=e.v.dot
def depOf (e:Ent):List Dot:=e.D
noncomputable def closedE (l:List Ent):Int:=closedC badE dotOf depOf l
def kvsOf (l:List Ent):List (Dot × Value):=l.map fun e=>(e.v.dot,.agg (opA e.v))
theorem kvs_keys (l:List Ent):(kvsOf l).map (·.1)=l.map dotOf:=by unfold kvsOf;rw [List.map_map];rfl
theorem kvs_snoc {l:List Ent}{x:Ent}(h:x.v.dot∉l.map dotOf):putK (kvsOf l) x.v.dot (.agg (opA x.v))=kvsOf (l++[x]):=by
 rw [putK_none _ _ _ 0 ((findK_none_iff _ _ 0).2 (getK_none.2 (by rw [kvs_keys];exact h)))]
 unfold kvsOf
 rw [List.map_append]
 rfl
def SetPost (w:World) (l:List Ent) (e:Ending) (w':World):Prop:=((closedE l≠0∧e=.returned (.tuple #[.map none,.int .i64 (closedE l)]))∨(closedE l=0∧∃b,e=.returned (.tuple #[.map (some b),.int .i64 0])∧w.heap.size≤b∧OpsM w' b (kvsOf l)))∧Kept (fun _=>False) w w'
theorem closed_bad {l:List Ent}{x:Ent}(hx:x∈l) (h:¬opOk x.v x.D x.G):closedE l=10:=by
 unfold closedE closedC
 exact if_pos ⟨x,hx,h⟩
theorem closed_twice {l:List Ent}(h:∀e∈l,opOk e.v e.D e.G) (hn:¬(l.map dotOf).Nodup):closedE l=12:=by
 unfold closedE closedC
 rw [if_neg (fun⟨e,he,hb⟩=>hb (h e he)),if_pos hn]
theorem closed_lacks {l:List Ent}(h:∀e∈l,opOk e.v e.D e.G) (hn:(l.map dotOf).Nodup){x:Ent}(hx:x∈l) (hw:¬wholeP (l.map dotOf) x.D):closedE l=20:=by
 unfold closedE closedC
 rw [if_neg (fun⟨e,he,hb⟩=>hb (h e he)),if_neg (fun h=>h hn),if_pos ⟨x,hx,hw⟩]
theorem set_any {w:World}{lv:Value}{l:List Ent}(hl:SlAt entE w lv l) (hin:∀e∈l,OpIn w e) (hlen:l.length≤1000000) (hdl:∀e∈l,e.D.length≤1000000∧e.G.length≤1000000) :
  Calls Tryz.prog 42 #[lv] w (SetPost w l):=by
 obtain⟨la,lc,rfl,_,_⟩:=hl.sl
 have HL:=Lib.hid hl
 have HI:=Lib.hid hin
 have HDL:=Lib.hid hdl
 clear hl hin hdl
 have hmm:=@run_makeMap Tryz.prog
 go_enter Tryz.func42,Tryz.ntmps42
 go_upto_region 2 with fail
 have hM:MapR keyD (w.alloc (.map #[] 0)) w.heap.size []:=MapR.made w
 have OM:=Lib.hid (show OpsM (w.alloc (.map #[] 0)) w.heap.size [] from ⟨hM,fun p hp=>by simp at hp⟩)
 have KM:Hid (Kept (fun _=>False) w (w.alloc (.map #[] 0))):=Lib.hid ((Kept.refl _ _).alloc _)
 obtain⟨W0,hW0⟩:∃W0,w.alloc (.map #[] 0)=W0:=⟨_,rfl⟩
 rw [hW0] at OM KM ⊢
 obtain⟨mb,hmb⟩:∃mb,w.heap.size=mb:=⟨_,rfl⟩
 rw [hmb] at OM ⊢
 have MB:=Lib.hid hmb
 clear hW0 hmb hM hmm
 go_wp2_with fail
 go_loopw [16] (fun iv wr=>∃n:Nat,iv=.int .i64 n∧n≤l.length∧Kept (fun _=>False) W0 wr∧∀e∈l.take n,opOk e.v e.D e.G) (fun iv _=>l.length-(intOf iv).toNat)
 case atStart=>exact⟨0,rfl,Nat.zero_le _,Kept.refl _ _,fun e he=>by simp at he⟩
 case round =>
  obtain⟨n,rfl,hn,hk,hok⟩:=hrel
  have hn0:(0:Int)≤n:=by omega
  have HK:=Lib.hid hk
  have HO:=Lib.hid hok
  clear hk hok
  by_cases hlt:n<l.length
  case pos =>
   have hnl:(n:Int)<l.length:=by omega
   obtain⟨x,hx⟩:=get_of_lt hlt
   have hxm:=List.mem_of_getElem? hx
   have hin:=HI.out x hxm
   have hdl:=HDL.out x hxm
   have htk:l.take (n+1)=l.take n++[x]:=by rw [List.take_add_one,hx];rfl
   obtain⟨lg,lo,lc',e2,hcs⟩:=SlAt.opc (HL.out.kept (KM.out.trans HK.out fun _ _ h=>h)) (by omega)
   cases e2
   have hc:=hcs n x hx
   obtain⟨⟨⟨ds,dq⟩,⟨da,dn,dc⟩,kd,⟨it,is⟩,⟨rt,rs⟩,tx,⟨ga,gn,gc⟩,st⟩,D,G⟩:=x
   obtain⟨c0,c1,c2,c3,c4,c5,c6,c7,c8,c9,c10⟩:=hc
   have e1:IntKind.i64.wrap ((n:Int)+1)=(n:Int)+1:=IntWalk.i64_in _ (by omega)
   have TK:=Lib.hid htk
   have XM:=Lib.hid hxm
   have XI:=Lib.hid hin
   have XD:=Lib.hid hdl
   clear hcs hx hxm hin hdl htk
   have hB:=Blk.new wr 62 #[.int .i64 ds,.int .i64 dq,.slice da dn dc,.int .i64 kd,.int .i64 it,.int .i64 is,.int .i64 rt,.int .i64 rs,.string tx,.slice ga gn gc,.int .i64 st]
   have hk1:Kept (fun _=>False) wr (wr.alloc (.cells #[.int .i64 ds,.int .i64 dq,.slice da dn dc,.int .i64 kd,.int .i64 it,.int .i64 is,.int .i64 rt,.int .i64 rs,.string tx,.slice ga gn gc,.int .i64 st] 62)):=(Kept.refl _ _).alloc _
   have HB:=Lib.hid hB
   have HK1:=Lib.hid hk1
   clear hB hk1
   go_upto_region 5 with fail
   obtain⟨z,hz⟩:∃z,wr.heap.size=z:=⟨_,rfl⟩
   obtain⟨W1,hW1⟩:∃W1,wr.alloc (.cells #[.int .i64 ds,.int .i64 dq,.slice da dn dc,.int .i64 kd,.int .i64 it,.int .i64 is,.int .i64 rt,.int .i64 rs,.string tx,.slice ga gn gc,.int .i64 st] 62)=W1:=⟨_,rfl⟩
   rw [hW1,hz] at HB
   rw [hW1] at HK1 ⊢
   rw [hz]
   clear hz hW1 c0 c1 c2 c3 c4 c5 c6 c7 c8 c9 c10
   have KW:=Lib.hid ((KM.out.trans HK.out fun _ _ h=>h).trans HK1.out fun _ _ h=>h)
   have CK:=Lib.hid (check_op ⟨⟨ds,dq⟩,⟨da,dn,dc⟩,kd,⟨it,is⟩,⟨rt,rs⟩,tx,⟨ga,gn,gc⟩,st⟩ (XI.out.at_.deps.kept KW.out) (XI.out.at_.gone.kept KW.out) XI.out.runs XD.out.1 XD.out.2 XI.out.text)
   obtain⟨q0,q1,q2,q3,q4,q5,q6,q7,q8,q9,q10⟩:W1.cell? ⟨z,0,none⟩=some (.int .i64 ds)∧W1.cell? ⟨z,1,none⟩=some (.int .i64 dq)∧W1.cell? ⟨z,2,none⟩=some (.slice da dn dc)∧W1.cell? ⟨z,3,none⟩=some (.int .i64 kd)∧W1.cell? ⟨z,4,none⟩=some (.int .i64 it)∧W1.cell? ⟨z,5,none⟩=some (.int .i64 is)∧W1.cell? ⟨z,6,none⟩=some (.int .i64 rt)∧W1.cell? ⟨z,7,none⟩=some (.int .i64 rs)∧W1.cell? ⟨z,8,none⟩=some (.string tx)∧W1.cell? ⟨z,9,none⟩=some (.slice ga gn gc)∧W1.cell? ⟨z,10,none⟩=some (.int .i64 st):=⟨HB.out.cell' (i:=0) rfl,HB.out.cell' (i:=1) rfl,HB.out.cell' (i:=2) rfl,HB.out.cell' (i:=3) rfl,HB.out.cell' (i:=4) rfl,HB.out.cell' (i:=5) rfl,HB.out.cell' (i:=6) rfl,HB.out.cell' (i:=7) rfl,HB.out.cell' (i:=8) rfl,HB.out.cell' (i:=9) rfl,HB.out.cell' (i:=10) rfl⟩
   by_cases hop:opOk ⟨⟨ds,dq⟩,⟨da,dn,dc⟩,kd,⟨it,is⟩,⟨rt,rs⟩,tx,⟨ga,gn,gc⟩,st⟩ D G
   case neg =>
    have hC:opC ⟨⟨ds,dq⟩,⟨da,dn,dc⟩,kd,⟨it,is⟩,⟨rt,rs⟩,tx,⟨ga,gn,gc⟩,st⟩ D G=10:=if_neg hop
    rw [hC] at CK
    have CE:=Lib.hid (closed_bad XM.out hop)
    clear hop hC
    go_wp2_with (go_at_call 79;refine CK.out.mono ?_;rintro e w2 ⟨rfl,hk2⟩)
    exact bodyPost_ret (v:=.tuple #[.map none,.int .i64 10]) (by simp [results,Tryz.results42,go_sem]) rfl ⟨.inl ⟨by rw [CE.out];decide,by rw [CE.out]⟩,KW.out.trans hk2 fun _ _ h=>h⟩
   case pos =>
    have hC:opC ⟨⟨ds,dq⟩,⟨da,dn,dc⟩,kd,⟨it,is⟩,⟨rt,rs⟩,tx,⟨ga,gn,gc⟩,st⟩ D G=0:=if_pos hop
    rw [hC] at CK
    have OP:=Lib.hid hop
    clear hop hC
    go_wp2_with (go_at_call 79;refine CK.out.mono ?_;rintro e w2 ⟨rfl,hk2⟩)
    go_roundw
    case rel=>exact⟨n+1,by go_num,by omega,(HK.out.trans HK1.out fun _ _ h=>h).trans hk2 fun _ _ h=>h,fun e he=>by
     rw [TK.out] at he
     rcases List.mem_append.1 he with he|he
     ·exact HO.out e he
     ·rw [List.mem_singleton.1 he];exact OP.out⟩
    case measure=>simp [intOf];omega
  case neg =>
   have hnl:¬(n:Int)<l.length:=by omega
   have ALL:Hid (∀e∈l,opOk e.v e.D e.G):=Lib.hid (by
    have h9:=HO.out
    rwa [List.take_of_length_le (by omega)] at h9)
   have OM1:=Lib.hid (OM.out.keep HK.out fun h=>h)
   have KM1:=Lib.hid (KM.out.trans HK.out fun _ _ h=>h)
   go_wp2_with fail
   obtain⟨W2,hW2⟩:∃W2,wr=W2:=⟨_,rfl⟩
   rw [hW2] at OM1 KM1 ⊢
   clear hW2 HK HO OM KM
   go_loopw [26] (fun iv wr=>∃n:Nat,iv=.int .i64 n∧n≤l.length∧Kept (fun b=>b=mb) W2 wr∧OpsM wr mb (kvsOf (l.take n))∧((l.take n).map dotOf).Nodup) (fun iv _=>l.length-(intOf iv).toNat)
   case atStart=>exact⟨0,rfl,Nat.zero_le _,Kept.refl _ _,OM1.out,List.nodup_nil⟩
   case round =>
    clear OM1
    obtain⟨n,rfl,hn,hk,hom,hnd⟩:=hrel
    have hn0:(0:Int)≤n:=by omega
    have KR:=Lib.hid (KM1.out.over hk fun b hb=>by have:=MB.out;omega)
    have KK:=Lib.hid hk
    have HM:=Lib.hid hom
    have ND:=Lib.hid hnd
    clear hk hom hnd
    by_cases hlt:n<l.length
    case pos =>
     have hnl:(n:Int)<l.length:=by omega
     obtain⟨x,hx⟩:=get_of_lt hlt
     have hxm:=List.mem_of_getElem? hx
     have hin:=HI.out x hxm
     have hdl:=HDL.out x hxm
     have htk:l.take (n+1)=l.take n++[x]:=by rw [List.take_add_one,hx];rfl
     obtain⟨lg,lo,lc',e2,hcs⟩:=SlAt.opc (HL.out.kept KR.out) (by omega)
     cases e2
     have hc:=hcs n x hx
     obtain⟨⟨⟨ds,dq⟩,⟨da,dn,dc⟩,kd,⟨it,is⟩,⟨rt,rs⟩,tx,⟨ga,gn,gc⟩,st⟩,D,G⟩:=x
     obtain⟨c0,c1,c2,c3,c4,c5,c6,c7,c8,c9,c10⟩:=hc
     have e1:IntKind.i64.wrap ((n:Int)+1)=(n:Int)+1:=IntWalk.i64_in _ (by omega)
     have TK:=Lib.hid htk
     have XM:=Lib.hid hxm
     have XI:=Lib.hid hin
     have XD:=Lib.hid hdl
     clear hcs hx hxm hin hdl htk
     have hB:=Blk.new wr 62 #[.int .i64 ds,.int .i64 dq,.slice da dn dc,.int .i64 kd,.int .i64 it,.int .i64 is,.int .i64 rt,.int .i64 rs,.string tx,.slice ga gn gc,.int .i64 st]
     have hk1:Kept (fun _=>False) wr (wr.alloc (.cells #[.int .i64 ds,.int .i64 dq,.slice da dn dc,.int .i64 kd,.int .i64 it,.int .i64 is,.int .i64 rt,.int .i64 rs,.string tx,.slice ga gn gc,.int .i64 st] 62)):=(Kept.refl _ _).alloc _
     have HB:=Lib.hid hB
     have HK1:=Lib.hid hk1
     clear hB hk1
     go_upto_region 11 with fail
     obtain⟨z,hz⟩:∃z,wr.heap.size=z:=⟨_,rfl⟩
     obtain⟨W1,hW1⟩:∃W1,wr.alloc (.cells #[.int .i64 ds,.int .i64 dq,.slice da dn dc,.int .i64 kd,.int .i64 it,.int .i64 is,.int .i64 rt,.int .i64 rs,.string tx,.slice ga gn gc,.int .i64 st] 62)=W1:=⟨_,rfl⟩
     rw [hW1,hz] at HB
     rw [hW1] at HK1 ⊢
     rw [hz]
     clear hz hW1 c0 c1 c2 c3 c4 c5 c6 c7 c8 c9 c10
     have HM1:=Lib.hid (HM.out.keep HK1.out fun h=>h)
     obtain⟨q0,q1,q2,q3,q4,q5,q6,q7,q8,q9,q10⟩:W1.cell? ⟨z,0,none⟩=some (.int .i64 ds)∧W1.cell? ⟨z,1,none⟩=some (.int .i64 dq)∧W1.cell? ⟨z,2,none⟩=some (.slice da dn dc)∧W1.cell? ⟨z,3,none⟩=some (.int .i64 kd)∧W1.cell? ⟨z,4,none⟩=some (.int .i64 it)∧W1.cell? ⟨z,5,none⟩=some (.int .i64 is)∧W1.cell? ⟨z,6,none⟩=some (.int .i64 rt)∧W1.cell? ⟨z,7,none⟩=some (.int .i64 rs)∧W1.cell? ⟨z,8,none⟩=some (.string tx)∧W1.cell? ⟨z,9,none⟩=some (.slice ga gn gc)∧W1.cell? ⟨z,10,none⟩=some (.int .i64 st):=⟨HB.out.cell' (i:=0) rfl,HB.out.cell' (i:=1) rfl,HB.out.cell' (i:=2) rfl,HB.out.cell' (i:=3) rfl,HB.out.cell' (i:=4) rfl,HB.out.cell' (i:=5) rfl,HB.out.cell' (i:=6) rfl,HB.out.cell' (i:=7) rfl,HB.out.cell' (i:=8) rfl,HB.out.cell' (i:=9) rfl,HB.out.cell' (i:=10) rfl⟩
     obtain⟨y,hlk,_⟩:=HM1.out.look ⟨ds,dq⟩
     obtain⟨⟨xs,xq⟩,⟨xa,xn,xc⟩,xk,⟨xt,xi⟩,⟨xrt,xri⟩,xtx,⟨xga,xgn,xgc⟩,xst⟩:=y
     rw [kvs_keys] at hlk
     by_cases hd:(⟨ds,dq⟩:Dot)∈(l.take n).map dotOf
     case pos =>
      rw [decide_eq_true hd] at hlk
      have CE:=Lib.hid (closed_twice ALL.out fun h9=>by
       rw [←List.take_append_drop (n+1) l,TK.out,List.map_append,List.map_append] at h9
       have h8:=(List.nodup_append.1 (List.nodup_append.1 h9).1).2.2 _ hd (⟨ds,dq⟩:Dot) (by simp [dotOf])
       exact h8 rfl)
      have hlk2:(Instr.lookup 91 (.map (some mb)) (.agg #[.int .i64 ds,.int .i64 dq]) true).run Tryz.prog W1=.ok (.tuple #[.agg #[.int .i64 xs,.int .i64 xq,.slice xa xn xc,.int .i64 xk,.int .i64 xt,.int .i64 xi,.int .i64 xrt,.int .i64 xri,.string xtx,.slice xga xgn xgc,.int .i64 xst],.bool true]) W1:=hlk
      clear hlk hd
      go_wp2_with fail
      exact bodyPost_ret (v:=.tuple #[.map none,.int .i64 12]) (by simp [results,Tryz.results42,go_sem]) rfl ⟨.inl ⟨by rw [CE.out];decide,by rw [CE.out]⟩,(KR.out.trans HK1.out fun _ _ h=>h).alloc _⟩
     case neg =>
      rw [decide_eq_false hd] at hlk
      have hlk2:(Instr.lookup 91 (.map (some mb)) (.agg #[.int .i64 ds,.int .i64 dq]) true).run Tryz.prog W1=.ok (.tuple #[.agg #[.int .i64 xs,.int .i64 xq,.slice xa xn xc,.int .i64 xk,.int .i64 xt,.int .i64 xi,.int .i64 xrt,.int .i64 xri,.string xtx,.slice xga xgn xgc,.int .i64 xst],.bool false]) W1:=hlk
      have DN:=Lib.hid hd
      clear hlk hd
      go_upto_region 14 with fail
      obtain⟨W3,hW3⟩:∃W3,W1.alloc (.cells #[.int .i64 xs,.int .i64 xq,.slice xa xn xc,.int .i64 xk,.int .i64 xt,.int .i64 xi,.int .i64 xrt,.int .i64 xri,.string xtx,.slice xga xgn xgc,.int .i64 xst] 62)=W3:=⟨_,rfl⟩
      have K3:Hid (Kept (fun _=>False) W1 W3):=Lib.hid (by rw [←hW3];exact (Kept.refl _ _).alloc _)
      rw [hW3]
      clear hW3 hlk2 q0 q1 q2 q3 q4 q5 q6 q7 q8 q9 q10
      have HB3:=Lib.hid (K3.out.blk (fun h=>h) HB.out)
      obtain⟨q0,q1,q2,q3,q4,q5,q6,q7,q8,q9,q10⟩:W3.cell? ⟨z,0,none⟩=some (.int .i64 ds)∧W3.cell? ⟨z,1,none⟩=some (.int .i64 dq)∧W3.cell? ⟨z,2,none⟩=some (.slice da dn dc)∧W3.cell? ⟨z,3,none⟩=some (.int .i64 kd)∧W3.cell? ⟨z,4,none⟩=some (.int .i64 it)∧W3.cell? ⟨z,5,none⟩=some (.int .i64 is)∧W3.cell? ⟨z,6,none⟩=some (.int .i64 rt)∧W3.cell? ⟨z,7,none⟩=some (.int .i64 rs)∧W3.cell? ⟨z,8,none⟩=some (.string tx)∧W3.cell? ⟨z,9,none⟩=some (.slice ga gn gc)∧W3.cell? ⟨z,10,none⟩=some (.int .i64 st):=⟨HB3.out.cell' (i:=0) rfl,HB3.out.cell' (i:=1) rfl,HB3.out.cell' (i:=2) rfl,HB3.out.cell' (i:=3) rfl,HB3.out.cell' (i:=4) rfl,HB3.out.cell' (i:=5) rfl,HB3.out.cell' (i:=6) rfl,HB3.out.cell' (i:=7) rfl,HB3.out.cell' (i:=8) rfl,HB3.out.cell' (i:=9) rfl,HB3.out.cell' (i:=10) rfl⟩
      obtain⟨W4,hup0,hm4,hk4⟩:=run_updateR (K:=keyD) (k:=⟨ds,dq⟩) Tryz.underlying91 (HM1.out.map.keep K3.out fun h=>h) (.agg #[.int .i64 ds,.int .i64 dq,.slice da dn dc,.int .i64 kd,.int .i64 it,.int .i64 is,.int .i64 rt,.int .i64 rs,.string tx,.slice ga gn gc,.int .i64 st])
      have hup:(Instr.mapUpdate 91 (.map (some mb)) (.agg #[.int .i64 ds,.int .i64 dq]) (.agg #[.int .i64 ds,.int .i64 dq,.slice da dn dc,.int .i64 kd,.int .i64 it,.int .i64 is,.int .i64 rt,.int .i64 rs,.string tx,.slice ga gn gc,.int .i64 st])).run Tryz.prog W3=.ok () W4:=hup0
      have HM4:=Lib.hid hm4
      have HK4:=Lib.hid hk4
      clear hup0 hm4 hk4
      go_wp2_with fail
      go_roundw
      case rel=>exact⟨n+1,by go_num,by omega,(KK.out.trans ((HK1.out.trans K3.out fun _ _ h=>h).mono fun _ _ h=>h.elim) fun _ _ h=>h).trans HK4.out fun _ _ h=>h,by
       rw [TK.out,←kvs_snoc (l:=l.take n) (x:=⟨⟨⟨ds,dq⟩,⟨da,dn,dc⟩,kd,⟨it,is⟩,⟨rt,rs⟩,tx,⟨ga,gn,gc⟩,st⟩,D,G⟩) DN.out]
       refine⟨HM4.out,fun p hp=>?_⟩
       rw [kvs_snoc (l:=l.take n) (x:=⟨⟨⟨ds,dq⟩,⟨da,dn,dc⟩,kd,⟨it,is⟩,⟨rt,rs⟩,tx,⟨ga,gn,gc⟩,st⟩,D,G⟩) DN.out] at hp
       obtain⟨e,_,rfl⟩:=List.mem_map.1 hp
       exact⟨_,rfl⟩,by
       rw [TK.out,List.map_append]
       exact List.nodup_append.2 ⟨ND.out,by simp,fun a ha b hb e=>DN.out (by
        simp only [List.map_cons,List.map_nil,List.mem_singleton] at hb
        rw [←show b=(⟨ds,dq⟩:Dot) from hb,←e]
        exact ha)⟩⟩
      case measure=>simp [intOf];omega
    case neg =>
     have hnl:¬(n:Int)<l.length:=by omega
     have e9:l.take n=l:=List.take_of_length_le (by omega)
     have HMA:Hid (OpsM wr mb (kvsOf l)):=Lib.hid (by have h9:=HM.out;rwa [e9] at h9)
     have NDA:Hid ((l.map dotOf).Nodup):=Lib.hid (by have h9:=ND.out;rwa [e9] at h9)
     clear e9
     go_wp2_with fail
     obtain⟨W5,hW5⟩:∃W5,wr=W5:=⟨_,rfl⟩
     rw [hW5] at HMA KR ⊢
     clear hW5 KK HM ND
     go_loopw [45] (fun iv wr=>∃n:Nat,iv=.int .i64 n∧n≤l.length∧Kept (fun _=>False) W5 wr∧∀e∈l.take n,wholeP (l.map dotOf) e.D) (fun iv _=>l.length-(intOf iv).toNat)
     case atStart=>exact⟨0,rfl,Nat.zero_le _,Kept.refl _ _,fun e he=>by simp at he⟩
     case round =>
      obtain⟨n,rfl,hn,hk,hwh⟩:=hrel
      have hn0:(0:Int)≤n:=by omega
      have K5:=Lib.hid hk
      have KR5:=Lib.hid (KR.out.trans hk fun _ _ h=>h)
      have WH:=Lib.hid hwh
      clear hk hwh
      by_cases hlt:n<l.length
      case neg =>
       have hnl:¬(n:Int)<l.length:=by omega
       have WA:Hid (∀e∈l,wholeP (l.map dotOf) e.D):=Lib.hid (by have h9:=WH.out;rwa [List.take_of_length_le (by omega)] at h9)
       have CE:Hid (closedE l=0):=Lib.hid (closedC_is (fun e he hb=>hb (ALL.out e he)) NDA.out WA.out)
       go_wp2_with fail
       exact bodyPost_ret (v:=.tuple #[.map (some mb),.int .i64 0]) (by simp [results,Tryz.results42,go_sem]) rfl ⟨.inr ⟨CE.out,mb,rfl,by rw [MB.out];exact Nat.le_refl _,HMA.out.keep K5.out fun h=>h⟩,KR5.out⟩
      case pos =>
       have hnl:(n:Int)<l.length:=by omega
       obtain⟨x,hx⟩:=get_of_lt hlt
       have hxm:=List.mem_of_getElem? hx
       have hin:=HI.out x hxm
       have hdl:=HDL.out x hxm
       have htk:l.take (n+1)=l.take n++[x]:=by rw [List.take_add_one,hx];rfl
       obtain⟨lg,lo,lc',e2,hcs⟩:=SlAt.opc (HL.out.kept KR5.out) (by omega)
       cases e2
       have hc:=hcs n x hx
       obtain⟨⟨⟨ds,dq⟩,⟨da,dn,dc⟩,kd,⟨it,is⟩,⟨rt,rs⟩,tx,⟨ga,gn,gc⟩,st⟩,D,G⟩:=x
       obtain⟨c0,c1,c2,c3,c4,c5,c6,c7,c8,c9,c10⟩:=hc
       have e1:IntKind.i64.wrap ((n:Int)+1)=(n:Int)+1:=IntWalk.i64_in _ (by omega)
       have TK:=Lib.hid htk
       have XM:=Lib.hid hxm
       have XI:=Lib.hid hin
       have XD:=Lib.hid hdl
       clear hcs hx hxm hin hdl htk
       have hB:=Blk.new wr 62 #[.int .i64 ds,.int .i64 dq,.slice da dn dc,.int .i64 kd,.int .i64 it,.int .i64 is,.int .i64 rt,.int .i64 rs,.string tx,.slice ga gn gc,.int .i64 st]
       have hk1:Kept (fun _=>False) wr (wr.alloc (.cells #[.int .i64 ds,.int .i64 dq,.slice da dn dc,.int .i64 kd,.int .i64 it,.int .i64 is,.int .i64 rt,.int .i64 rs,.string tx,.slice ga gn gc,.int .i64 st] 62)):=(Kept.refl _ _).alloc _
       have HB:=Lib.hid hB
       have HK1:=Lib.hid hk1
       clear hB hk1
       go_upto_region 19 with fail
       obtain⟨z,hz⟩:∃z,wr.heap.size=z:=⟨_,rfl⟩
       obtain⟨W1,hW1⟩:∃W1,wr.alloc (.cells #[.int .i64 ds,.int .i64 dq,.slice da dn dc,.int .i64 kd,.int .i64 it,.int .i64 is,.int .i64 rt,.int .i64 rs,.string tx,.slice ga gn gc,.int .i64 st] 62)=W1:=⟨_,rfl⟩
       rw [hW1,hz] at HB
       rw [hW1] at HK1 ⊢
       rw [hz]
       clear hz hW1 c0 c1 c2 c3 c4 c5 c6 c7 c8 c9 c10
       have KW:=Lib.hid (KR5.out.trans HK1.out fun _ _ h=>h)
       have q2:=HB.out.cell' (i:=2) (v:=.slice da dn dc) rfl
       have HAS:=Lib.hid (has_any (HMA.out.keep (K5.out.trans HK1.out fun _ _ h=>h) fun h=>h) (XI.out.at_.deps.kept KW.out) (fun d hd=>(XI.out.dots d hd).2) (by have:=XD.out.1;omega))
       rw [kvs_keys] at HAS
       by_cases hwd:wholeP (l.map dotOf) D
       case neg =>
        have CE:=Lib.hid (closed_lacks ALL.out NDA.out XM.out hwd)
        have HAS2:Hid (Calls Tryz.prog 63 #[.map (some mb),.slice da dn dc] W1 fun e w'=>e=.returned (.bool false)∧Kept (fun _=>False) W1 w'):=Lib.hid (HAS.out.mono fun e w' h9=>by
         obtain⟨⟨r,he,hr⟩,hk⟩:=h9
         cases r
         ·exact⟨he,hk⟩
         ·exact absurd (hr.1 rfl) hwd)
        clear hwd HAS
        go_wp2_with (go_at_call 63;refine HAS2.out.mono ?_;rintro e w2 ⟨rfl,hk2⟩)
        exact bodyPost_ret (v:=.tuple #[.map none,.int .i64 20]) (by simp [results,Tryz.results42,go_sem]) rfl ⟨.inl ⟨by rw [CE.out];decide,by rw [CE.out]⟩,KW.out.trans hk2 fun _ _ h=>h⟩
       case pos =>
        have HAS2:Hid (Calls Tryz.prog 63 #[.map (some mb),.slice da dn dc] W1 fun e w'=>e=.returned (.bool true)∧Kept (fun _=>False) W1 w'):=Lib.hid (HAS.out.mono fun e w' h9=>by
         obtain⟨⟨r,he,hr⟩,hk⟩:=h9
         rw [hr.2 hwd] at he
         exact⟨he,hk⟩)
        have WD:=Lib.hid hwd
        clear hwd HAS
        go_wp2_with (go_at_call 63;refine HAS2.out.mono ?_;rintro e w2 ⟨rfl,hk2⟩)
        go_roundw
        case rel=>exact⟨n+1,by go_num,by omega,(K5.out.trans HK1.out fun _ _ h=>h).trans hk2 fun _ _ h=>h,fun e he=>by
         rw [TK.out] at he
         rcases List.mem_append.1 he with he|he
         ·exact WH.out e he
         ·rw [List.mem_singleton.1 he];exact WD.out⟩
        case measure=>simp [intOf];omega
end Go.Proofs.YtjohljmpcblpjaaGreatDoor.Pa
