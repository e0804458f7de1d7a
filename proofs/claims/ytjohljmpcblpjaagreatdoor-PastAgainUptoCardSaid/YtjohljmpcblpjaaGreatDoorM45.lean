/- hearsaylaw24.PastAgain. The arguments of the laws of chapter 24 opened, and the library's table that their rows list. -/
import Derived.Test.YtjohljmpcblpjaaGreatDoorM42
import Derived.Test.YtjohljmpcblpjaaGreatDoorM44
import Derived.Test.YtjohljmpcblpjaaGreatDoorRows
import Derived.Lib.LaidTab
set_option maxRecDepth 100000
set_option maxHeartbeats 8000000
namespace Go.Proofs.YtjohljmpcblpjaaGreatDoor.Pa
open Go.RowKit Go.Proofs.YtjohljmpcblpjaaGreatDoor.St Go.Proofs.YtjohljmpcblpjaaGreatDoor Go.Proofs.YtjohljmpcblpjaaGreatDoor.Tr
attribute [local go_sem] Oper.semAt_some
theorem textN_key {l m:List Ent}(h:l.map keyE=m.map keyE):textN l=textN m:=by
 have h1:∀L:List Ent,textN L=((L.map keyE).map fun o=>o.text.size).sum:=fun L=>by unfold textN;rw [List.map_map];rfl
 rw [h1,h1,h]
theorem textN_set:∀(l:List Ent) (k:Nat) (o:Ent),textN (l.set k o)≤textN l+o.v.text.size
 | [],_,_=>by simp [textN]
 | x::l,0,o=>by simp [textN];omega
 | x::l,k+1,o=>by
  have:=textN_set l k o
  simp only [textN,List.set_cons_succ,List.map_cons,List.sum_cons] at this ⊢
  omega
structure GoodL (w:World) (lv:Value) (l:List Ent):Prop where
 at_:SlAt entE w lv l
 in_:∀e∈l,OpIn w e
 small:Small l
theorem GoodL.kept {w w':World}{lv:Value}{l:List Ent}(h:GoodL w lv l) (hk:Kept (fun _=>False) w w'):GoodL w' lv l:=⟨h.at_.kept hk,fun e he=>Pa.OpIn.kept (h.in_ e he) hk,h.small⟩
theorem GoodL.text {w:World}{lv:Value}{l:List Ent}(h:GoodL w lv l):Calls Tryz.prog 17 #[lv] w fun e w'=>e=.returned (.tuple #[.string ⟨(textB (shL (docS l))).toArray⟩,.int .i64 (closedE l)])∧Kept (fun _=>False) w w' :=
 text_past h.at_ h.in_ (by have:=h.small.len;omega) (fun e he=>⟨(h.small.each e he).1,(h.small.each e he).2.1⟩) (by have:=h.small.text;omega)
theorem GoodL.rtext {w:World}{lv:Value}{l:List Ent}(h:GoodL w lv l):Calls Tryz.prog 18 #[lv] w fun e w'=>e=.returned (.tuple #[.string ⟨(textB (shL (docS l))).toArray⟩,.int .i64 (closedE l)])∧Kept (fun _=>False) w w' :=
 rtextd_any h.at_ h.in_ h.small
theorem GoodL.nodes {w:World}{lv bv:Value}{l:List Ent}{B:List Dot}(h:GoodL w lv l) (hB:SlAt dotE w bv B) (hBI:∀d∈B,I64 d.seq) (hBl:B.length≤1000000):Calls Tryz.prog 25 #[lv,bv] w (NodesPost w l B) :=
 nodes_past h.at_ h.in_ (by have:=h.small.len;omega) (fun e he=>⟨(h.small.each e he).1,(h.small.each e he).2.1⟩) (by have:=h.small.text;omega) hB hBI (by omega)
theorem GoodL.rnodes {w:World}{lv bv:Value}{l:List Ent}{B:List Dot}(h:GoodL w lv l) (hB:SlAt dotE w bv B) (hBl:B.length≤1000000):Calls Tryz.prog 26 #[lv,bv] w (NodesPost w l B) :=
 rnodes_any h.at_ h.in_ h.small hB hBl
theorem FewE.small {w:World}{l:List Ent}{n:Nat}(h:FewE l n) (hin:∀e∈l,OpIn w e):∀e∈l,e.D.length≤20000∧e.G.length≤20000∧e.v.text.size≤20000:=fun e he=>by
 have h1:=h.each e he
 have h2:=gone_n (hin e he).at_
 obtain⟨_,_,h3,_⟩:=(hin e he).at_.deps.sl
 unfold Sl.v at h3
 injection h3 with _ h4 _
 omega
theorem TwinL.good {b0:Nat}{w0 w:World}{u:Value}{l l':List Ent}{n:Nat}(h:TwinL b0 w u l l') (hin:∀e∈l,OpIn w0 e) (hf:FewE l n):GoodL w u l':=by
 obtain⟨g,cap,rfl,hO,_,hkey,ht⟩:=h
 have hll:l'.length=l.length:=by have:=congrArg List.length hkey;simpa using this
 have hmem:∀e∈l',∃x∈l,keyE x=keyE e:=fun e he=>by
  have h1:keyE e∈l.map keyE:=by rw [←hkey];exact List.mem_map_of_mem he
  exact List.mem_map.1 h1
 have e1:(l'++[markE]).take l'.length=l':=by simp
 have hs:=(hO.take l'.length).slAt
 rw [e1,hll] at hs
 refine⟨hs,fun e he=>?_,⟨by have:=hf.len;omega,fun e he=>?_,?_⟩⟩
 ·obtain⟨x,hx,hk⟩:=hmem e he
  exact opIn_same hk.symm (hin x hx) (ht e he).1.at_
 ·obtain⟨x,hx,hk⟩:=hmem e he
  have h1:=hf.small hin x hx
  have e1:x.D=e.D:=congrArg Op0.D hk
  have e2:x.G=e.G:=congrArg Op0.G hk
  have e3:x.v.text=e.v.text:=congrArg Op0.text hk
  rw [←e1,←e2,←e3]
  omega
 ·rw [textN_key hkey]
  have h1:=textN_much l
  have h2:=hf.all
  omega
theorem set_good {w:World}{g n cap:Nat}{k:Nat}{l':List Ent}{o:Ent}(hO:OwnAt entE w 62 g cap ((l'++[markE]).set k o)) (hk:k<l'.length) (hn:l'.length=n) (hin:∀e∈l',OpIn w e) (hs:Small l') (ht:textN l'≤20000) (ho:OpIn w o) (hoD:o.D.length≤20000∧o.G.length≤20000∧o.v.text.size≤20000) :
  GoodL w (.slice (some ⟨g,0,none⟩) n cap) (l'.set k o):=by
 have e1:((l'++[markE]).set k o).take l'.length=l'.set k o:=by
  rw [List.set_append_left _ _ hk]
  have : l'.length=(l'.set k o).length:=by rw [List.length_set]
  rw [this,List.take_left]
 have hs2:=(hO.take l'.length).slAt
 rw [e1,List.length_set,hn] at hs2
 refine⟨hs2,fun e he=>?_,⟨by rw [List.length_set];exact hs.len,fun e he=>?_,?_⟩⟩
 ·rcases List.mem_or_eq_of_mem_set he with h | rfl
  ·exact hin e h
  ·exact ho
 ·rcases List.mem_or_eq_of_mem_set he with h | rfl
  ·exact hs.each e h
  ·omega
 ·have:=textN_set l' k o
  omega
theorem TwinL.kept {b0:Nat}{w w':World}{u:Value}{l l':List Ent}(h:TwinL b0 w u l l') (hk:Kept (fun _=>False) w w'):TwinL b0 w' u l l':=by
 obtain⟨g,cap,h1,h2,h3,h4,h5⟩:=h
 exact⟨g,cap,h1,h2.keep hk fun h=>h,h3,h4,fun e he=>⟨(h5 e he).1.keep hk fun _ _ h=>h,(h5 e he).2⟩⟩
theorem TwinL.len {b0:Nat}{w:World}{u:Value}{l l':List Ent}(h:TwinL b0 w u l l'):l'.length=l.length:=by
 obtain⟨_,_,_,_,_,h4,_⟩:=h
 have:=congrArg List.length h4
 simpa using this
theorem nodesS_few {w:World}{lv:Value}{l:List Ent}(h:GoodL w lv l) (B:List Dot):(nodesS l B).length≤1000000:=by
 unfold nodesS
 split
 next hc =>
  have h0:closedE l=0:=by
   unfold nodesC at hc
   by_cases h0:closedE l=0
   ·exact h0
   ·rw [if_pos h0] at hc;exact hc
  have h1:=docP_len (closed_is h0).1
  have h2:=h.small.text
  have h3:=collR_len ((uptoL B l).foldl setD (docP l))
  rw [foldS_len] at h3
  omega
 ·exact Nat.zero_le _
theorem pastAgain_core {w:World}{lv bv:Value}{l:List Ent}{B:List Dot}{o:Ent}{i:Int}(hTab:TabAt w) (hl:SlAt entE w lv l) (hin:∀e∈l,OpIn w e) (hB:SlAt dotE w bv B) (hBI:∀d∈B,I64 d.site∧I64 d.seq) (ho:OpIn w o) (hf:FewE l B.length) (hfo:FewE [o] 0) (hne:0<l.length) :
  Calls Tryz.prog 4 #[lv,.agg (opA o.v),.int .i64 i,bv] w fun e w'=>e=.returned (.bool true)∧Kept (fun _=>False) w w':=by
 obtain⟨la,lc,rfl,_,_⟩:=hl.sl
 obtain⟨ba,bc,rfl,_,_⟩:=hB.sl
 have htx:∀s∈l,s.v.text.size≤maxLen:=fun s hs=>(hin s hs).text
 have hot:∀s∈[o],s.v.text.size≤maxLen:=fun s hs=>by rw [List.mem_singleton.1 hs];exact ho.text
 have HOS:=Lib.hid (hfo.small (w:=w) (fun e he=>by rw [List.mem_singleton.1 he];exact ho) o List.mem_cons_self)
 have HL:=Lib.hid hl
 have HIN:=Lib.hid hin
 have HB:=Lib.hid hB
 have HBI:=Lib.hid hBI
 have HO:=Lib.hid ho
 have HF:=Lib.hid hf
 have HFO:=Lib.hid hfo
 have HTX:=Lib.hid htx
 have HOT:=Lib.hid hot
 have KN:=Lib.hid (fun W (hk:Kept (fun _=>False) w W)=>known_any (hTab.kept hk))
 have hlI:(0:Int)<(l.length:Int):=by omega
 have hlen:=hf.len
 have hBl:=hf.vec
 have hn9:¬(l.length:Int)=0:=by omega
 have hr1:=Int.lt_tmod_of_pos i hlI
 have hr2:=Int.tmod_lt_of_pos i hlI
 obtain⟨r,hr⟩:∃r,i.tmod (l.length:Int)=r:=⟨_,rfl⟩
 rw [hr] at hr1 hr2
 obtain⟨k,hkk⟩:∃k:Nat,(k:Int)=if r<0 then r+l.length else r:=⟨(if r<0 then r+(l.length:Int) else r).toNat,by split <;> omega⟩
 have hkl:k<l.length:=by split at hkk <;> omega
 have hkl2:(k:Int)<l.length:=by omega
 have hk0:(0:Int)≤k:=by omega
 have HKK:=Lib.hid hkk
 have a1:IntKind.i64.wrap r=r:=IntWalk.i64_in _ (by omega)
 have a2:IntKind.i64.wrap (r+l.length)=r+l.length:=IntWalk.i64_in _ (by omega)
 clear hTab hl hin hB hBI ho hf hfo htx hot hkk
 obtain⟨⟨⟨ds,dq⟩,⟨da,dn,dc⟩,kd,⟨it,is⟩,⟨rt,rs⟩,tx,⟨ga,gn,gc⟩,st⟩,D,G⟩:=o
 show Calls _ _ #[_,.agg #[.int .i64 ds,.int .i64 dq,.slice da dn dc,.int .i64 kd,.int .i64 it,.int .i64 is,.int .i64 rt,.int .i64 rs,.string tx,.slice ga gn gc,.int .i64 st],_,_] _ _
 have k1:Kept (fun _=>False) w (w.alloc (.cells #[.int .i64 ds,.int .i64 dq,.slice da dn dc,.int .i64 kd,.int .i64 it,.int .i64 is,.int .i64 rt,.int .i64 rs,.string tx,.slice ga gn gc,.int .i64 st] 62)):=(Kept.refl _ _).alloc _
 have b1:=Blk.new w 62 #[.int .i64 ds,.int .i64 dq,.slice da dn dc,.int .i64 kd,.int .i64 it,.int .i64 is,.int .i64 rt,.int .i64 rs,.string tx,.slice ga gn gc,.int .i64 st]
 go_enter Tryz.func4,Tryz.ntmps4
 go_upto_region 1 with fail
 obtain⟨z,hz⟩:∃z,w.heap.size=z:=⟨_,rfl⟩
 obtain⟨W1,hW1⟩:∃W1,w.alloc (.cells #[.int .i64 ds,.int .i64 dq,.slice da dn dc,.int .i64 kd,.int .i64 it,.int .i64 is,.int .i64 rt,.int .i64 rs,.string tx,.slice ga gn gc,.int .i64 st] 62)=W1:=⟨_,rfl⟩
 rw [hW1] at k1 b1 ⊢
 rw [hz] at b1 ⊢
 have K1:=Lib.hid k1
 have B1:=Lib.hid b1
 have MUL:=Lib.hid (much_no (vs:=ba) (vc:=bc) (HL.out.kept k1) HTX.out HF.out)
 clear hW1 k1 b1
 go_upto_region 3 with (go_at_call 9;(first
  | ((with_reducible refine (MO.out).mono ?_);rintro e w3 ⟨rfl,hk3⟩)
  | ((with_reducible refine (MUL.out).mono ?_);rintro e w2 ⟨rfl,hk2⟩;have b2:=hk2.blk (fun h=>h) B1.out;have y0:w2.cell? ⟨z,0,none⟩=some (.int .i64 ds):=b2.cell' rfl;have y1:w2.cell? ⟨z,1,none⟩=some (.int .i64 dq):=b2.cell' rfl;have y2:w2.cell? ⟨z,2,none⟩=some (.slice da dn dc):=b2.cell' rfl;have y3:w2.cell? ⟨z,3,none⟩=some (.int .i64 kd):=b2.cell' rfl;have y4:w2.cell? ⟨z,4,none⟩=some (.int .i64 it):=b2.cell' rfl;have y5:w2.cell? ⟨z,5,none⟩=some (.int .i64 is):=b2.cell' rfl;have y6:w2.cell? ⟨z,6,none⟩=some (.int .i64 rt):=b2.cell' rfl;have y7:w2.cell? ⟨z,7,none⟩=some (.int .i64 rs):=b2.cell' rfl;have y8:w2.cell? ⟨z,8,none⟩=some (.string tx):=b2.cell' rfl;have y9:w2.cell? ⟨z,9,none⟩=some (.slice ga gn gc):=b2.cell' rfl;have y10:w2.cell? ⟨z,10,none⟩=some (.int .i64 st):=b2.cell' rfl;have MO:Hid (Calls Tryz.prog 9 #[.slice (some ⟨w2.heap.size,0,none⟩) 1 1,.slice none 0 0] (w2.alloc (.cells #[.int .i64 ds,.int .i64 dq,.slice da dn dc,.int .i64 kd,.int .i64 it,.int .i64 is,.int .i64 rt,.int .i64 rs,.string tx,.slice ga gn gc,.int .i64 st] 62)) fun r w'=>r=.returned (.bool false)∧Kept (fun _=>False) (w2.alloc (.cells #[.int .i64 ds,.int .i64 dq,.slice da dn dc,.int .i64 kd,.int .i64 it,.int .i64 is,.int .i64 rt,.int .i64 rs,.string tx,.slice ga gn gc,.int .i64 st] 62)) w'):=Lib.hid (much_no (vs:=none) (vn:=0) (vc:=0) (SlAt.lit (E:=entE) (w:=w2) (t:=62) ([⟨⟨⟨ds,dq⟩,⟨da,dn,dc⟩,kd,⟨it,is⟩,⟨rt,rs⟩,tx,⟨ga,gn,gc⟩,st⟩,D,G⟩]:List Ent) #[.int .i64 ds,.int .i64 dq,.slice da dn dc,.int .i64 kd,.int .i64 it,.int .i64 is,.int .i64 rt,.int .i64 rs,.string tx,.slice ga gn gc,.int .i64 st] rfl (by show 1≤maxLen;decide)) HOT.out HFO.out);have K2:=Lib.hid (hk2.alloc (.cells #[.int .i64 ds,.int .i64 dq,.slice da dn dc,.int .i64 kd,.int .i64 it,.int .i64 is,.int .i64 rt,.int .i64 rs,.string tx,.slice ga gn gc,.int .i64 st] 62));clear hk2 b2)))
 have K3:=Lib.hid (K1.out.trans (K2.out.trans hk3 fun _ _ h=>h) fun _ _ h=>h)
 have B3:=Lib.hid ((K2.out.trans hk3 fun _ _ h=>h).blk (fun h=>h) B1.out)
 have TW:=Lib.hid (twin_any (HL.out.kept K3.out) (fun e he=>Ent.At.kept (HIN.out e he).at_ K3.out) (by omega) fun e he=>by have:=HF.out.small HIN.out e he;omega)
 clear hk3 MO MUL K2 y0 y1 y2 y3 y4 y5 y6 y7 y8 y9 y10
 go_upto_region 4 with (go_at_call 11;refine TW.out.mono ?_;rintro e w4 ⟨⟨u,l',rfl,htw⟩,hk4⟩)
 have HTW:=Lib.hid htw
 have K4:=Lib.hid (K3.out.trans hk4 fun _ _ h=>h)
 have GL:=Lib.hid (htw.good HIN.out HF.out)
 have B4:=Lib.hid (hk4.blk (fun h=>h) B3.out)
 have HZG:Hid (z<w3.heap.size):=Lib.hid B3.out.lt
 obtain⟨g,cap,rfl,_,hgb,_⟩:=htw
 have HGB:=Lib.hid hgb
 clear hk4 TW hgb
 have T1:=Lib.hid GL.out.text
 go_upto_region 5 with (go_at_call 17;refine T1.out.mono ?_;rintro e w5 ⟨rfl,hk5⟩)
 have HBI2:Hid (∀d∈B,I64 d.seq):=Lib.hid fun d hd=>(HBI.out d hd).2
 have N1:=Lib.hid ((GL.out.kept hk5).nodes ((HB.out.kept K4.out).kept hk5) HBI2.out (by omega))
 have K5:=Lib.hid hk5
 clear hk5 T1
 go_upto_region 6 with (go_at_call 25;refine N1.out.mono ?_;rintro e w6 ⟨⟨nv,rfl,_⟩,hk6⟩)
 have K46:=Lib.hid (K5.out.trans hk6 fun _ _ h=>h)
 have K6:=Lib.hid (K4.out.trans K46.out fun _ _ h=>h)
 have B6:=Lib.hid (K46.out.blk (fun h=>h) B4.out)
 have HT6:=Lib.hid (HTW.out.kept K46.out)
 have GL6:=Lib.hid (GL.out.kept K46.out)
 have HLL:=Lib.hid HTW.out.len
 clear hk6 N1 HTW GL B4 B3 B1
 have OA:Hid (OwnAt entE w6 62 g cap (l'++[markE])):=Lib.hid (by obtain⟨g',cap',h1,h2,_⟩:=HT6.out;cases h1;exact h2)
 have HKL:Hid (k<(l'++[markE]).length):=Lib.hid (by have:=HLL.out;rw [List.length_append];omega)
 have c0:w6.cell? ⟨z,0,none⟩=some (.int .i64 ds):=B6.out.cell' rfl
 have c1:w6.cell? ⟨z,1,none⟩=some (.int .i64 dq):=B6.out.cell' rfl
 have c2:w6.cell? ⟨z,2,none⟩=some (.slice da dn dc):=B6.out.cell' rfl
 have c3:w6.cell? ⟨z,3,none⟩=some (.int .i64 kd):=B6.out.cell' rfl
 have c4:w6.cell? ⟨z,4,none⟩=some (.int .i64 it):=B6.out.cell' rfl
 have c5:w6.cell? ⟨z,5,none⟩=some (.int .i64 is):=B6.out.cell' rfl
 have c6:w6.cell? ⟨z,6,none⟩=some (.int .i64 rt):=B6.out.cell' rfl
 have c7:w6.cell? ⟨z,7,none⟩=some (.int .i64 rs):=B6.out.cell' rfl
 have c8:w6.cell? ⟨z,8,none⟩=some (.string tx):=B6.out.cell' rfl
 have c9:w6.cell? ⟨z,9,none⟩=some (.slice ga gn gc):=B6.out.cell' rfl
 have c10:w6.cell? ⟨z,10,none⟩=some (.int .i64 st):=B6.out.cell' rfl
 have FINAL:Hid (∀W7,OwnAt entE W7 62 g cap ((l'++[markE]).set k ⟨⟨⟨ds,dq⟩,⟨da,dn,dc⟩,kd,⟨it,is⟩,⟨rt,rs⟩,tx,⟨ga,gn,gc⟩,st⟩,D,G⟩)→Kept (fun b=>b=g) w6 W7→GoodL W7 (.slice (some ⟨g,0,none⟩) l.length cap) (l'.set k ⟨⟨⟨ds,dq⟩,⟨da,dn,dc⟩,kd,⟨it,is⟩,⟨rt,rs⟩,tx,⟨ga,gn,gc⟩,st⟩,D,G⟩)∧Kept (fun _=>False) w W7):=Lib.hid fun W7 hoa hka=>by
  have kw:Kept (fun _=>False) w W7:=K6.out.trans hka fun b hb h=>by have h1:=HGB.out;have h2:=K3.out.size;omega
  refine⟨set_good hoa (by rw [HLL.out];exact hkl) HLL.out (fun e he=>?_) GL6.out.small ?_ (Pa.OpIn.kept HO.out kw) HOS.out,kw⟩
  ·obtain⟨g',cap',h1,_,_,_,h5⟩:=HT6.out
   cases h1
   obtain⟨q1,q2⟩:=h5 e he
   exact opIn_same rfl (GL6.out.in_ e he) (q1.keep hka fun b hb h=>q2 b hb (congrArg some h.symm)).at_
  ·obtain⟨_,_,_,_,_,hkey,_⟩:=HT6.out
   rw [textN_key hkey]
   have h1:=textN_much l
   have h2:=HF.out.all
   omega
 by_cases hneg:r<0
 case' pos =>
  have hkk:r+l.length=k:=by have:=HKK.out;rw [if_pos hneg] at this;omega
  replace a2:=a2.trans hkk
  clear hkk
 case' neg =>
  have hkk:(k:Int)=r:=by have:=HKK.out;rw [if_neg hneg] at this;exact this
  subst hkk
  clear a2
 all_goals
  go_upto_region 10 with (refine wpList_store_elem (E:=entE) (i:=k) rfl 62 _ _ rfl ⟨⟨⟨ds,dq⟩,⟨da,dn,dc⟩,kd,⟨it,is⟩,⟨rt,rs⟩,tx,⟨ga,gn,gc⟩,st⟩,D,G⟩ rfl rfl OA.out HKL.out size_op ?_;intro W7 hoa hka)
  obtain⟨hg7,hk7⟩:=FINAL.out _ hoa hka
  clear c0 c1 c2 c3 c4 c5 c6 c7 c8 c9 c10 hoa hka
  obtain⟨l2,hl2⟩:∃l2,l'.set k ⟨⟨⟨ds,dq⟩,⟨da,dn,dc⟩,kd,⟨it,is⟩,⟨rt,rs⟩,tx,⟨ga,gn,gc⟩,st⟩,D,G⟩=l2:=⟨_,rfl⟩
  rw [hl2] at hg7
  obtain⟨S,hS⟩:∃S:ByteArray,(⟨(textB (shL (docS l2))).toArray⟩:ByteArray)=S:=⟨_,rfl⟩
  obtain⟨cc,hcc⟩:∃cc,closedE l2=cc:=⟨_,rfl⟩
  obtain⟨nc,hnc⟩:∃nc,nodesC l2 B=nc:=⟨_,rfl⟩
  obtain⟨ns,hns⟩:∃ns,nodesS l2 B=ns:=⟨_,rfl⟩
  have T2:Hid (∀W,Kept (fun _=>False) W7 W→Calls Tryz.prog 17 #[.slice (some ⟨g,0,none⟩) l.length cap] W fun e w'=>e=.returned (.tuple #[.string S,.int .i64 cc])∧Kept (fun _=>False) W w'):=Lib.hid fun W hk=>by rw [←hS,←hcc];exact (hg7.kept hk).text
  have R2:Hid (∀W,Kept (fun _=>False) W7 W→Calls Tryz.prog 18 #[.slice (some ⟨g,0,none⟩) l.length cap] W fun e w'=>e=.returned (.tuple #[.string S,.int .i64 cc])∧Kept (fun _=>False) W w'):=Lib.hid fun W hk=>by rw [←hS,←hcc];exact (hg7.kept hk).rtext
  have hB7:=HB.out.kept hk7
  have N2:Hid (∀W,Kept (fun _=>False) W7 W→Calls Tryz.prog 25 #[.slice (some ⟨g,0,none⟩) l.length cap,.slice ba B.length bc] W fun e w'=>(∃v,e=.returned (.tuple #[v,.int .i64 nc])∧SlAt nodeE w' v ns)∧Kept (fun _=>False) W w'):=Lib.hid fun W hk=>by rw [←hnc,←hns];exact (hg7.kept hk).nodes (hB7.kept hk) HBI2.out (by omega)
  have M2:Hid (∀W,Kept (fun _=>False) W7 W→Calls Tryz.prog 26 #[.slice (some ⟨g,0,none⟩) l.length cap,.slice ba B.length bc] W fun e w'=>(∃v,e=.returned (.tuple #[v,.int .i64 nc])∧SlAt nodeE w' v ns)∧Kept (fun _=>False) W w'):=Lib.hid fun W hk=>by rw [←hnc,←hns];exact (hg7.kept hk).rnodes (hB7.kept hk) (by omega)
  have NL:Hid (ns.length≤1000000000):=Lib.hid (by have:=nodesS_few hg7 B;rw [hns] at this;omega)
  have K7:=Lib.hid hk7
  clear hl2 hS hcc hnc hns hg7 hk7 hB7 HKL FINAL OA HLL GL6 HT6 B6 HFO HOT HTX HF HOS HO HB HBI HIN HL a1 HKK hr1 hr2
  go_upto_region 11 with (go_at_call 17;refine (T2.out _ (Kept.refl _ _)).mono ?_;rintro e w8 ⟨rfl,hk⟩)
  have K:=Lib.hid hk
  clear hk
  go_upto_region 12 with (go_at_call 18;refine (R2.out _ K.out).mono ?_;rintro e w9 ⟨rfl,hk⟩)
  replace K:=Lib.hid (K.out.trans hk fun _ _ h=>h)
  clear hk
  go_upto_region 13 with (go_at_call 25;refine (N2.out _ K.out).mono ?_;rintro e w10 ⟨⟨nv1,rfl,hv⟩,hk⟩)
  replace K:=Lib.hid (K.out.trans hk fun _ _ h=>h)
  have V1:=Lib.hid hv
  clear hk hv
  go_upto_region 14 with (go_at_call 26;refine (M2.out _ K.out).mono ?_;rintro e w11 ⟨⟨nv2,rfl,hv⟩,hk⟩)
  replace K:=Lib.hid (K.out.trans hk fun _ _ h=>h)
  have NE:Hid (Calls Tryz.prog 27 #[nv1,nv2] w11 fun e w'=>e=.returned (.bool true)∧Kept (fun _=>False) w11 w'):=Lib.hid ((pnodes_eq (V1.out.kept hk) hv NL.out).mono fun e w' ⟨h1,q,h2⟩=>⟨by rw [h1,decide_eq_true rfl],by subst h2;exact (Kept.refl _ _).drewN q⟩)
  clear hk hv
  go_wp2_with (first
   | (go_at_call 27;refine NE.out.mono ?_;rintro e w12 ⟨rfl,hk12⟩;have KK:=Lib.hid (K7.out.trans (K.out.trans hk12 fun _ _ h=>h) fun _ _ h=>h))
   | (go_at_call 10;refine (KN.out _ KK.out).mono ?_;rintro e w13 ⟨rfl,hk13⟩))
  go_ret
  exact⟨rfl,KK.out.trans hk13 fun _ _ h=>h⟩
theorem pastAgain_much {w:World}{lv bv:Value}{l:List Ent}{B:List Dot}{o:Ent}{i:Int}(hTab:TabAt w) (hl:SlAt entE w lv l) (hin:∀e∈l,OpIn w e) (hB:SlAt dotE w bv B) (ho:OpIn w o) (hno:¬(FewE l B.length∧FewE [o] 0∧0<l.length)) :
  Calls Tryz.prog 4 #[lv,.agg (opA o.v),.int .i64 i,bv] w fun e w'=>e=.returned (.bool true)∧Kept (fun _=>False) w w':=by
 obtain⟨la,lc,rfl,_,_⟩:=hl.sl
 obtain⟨ba,bc,rfl,_,_⟩:=hB.sl
 have htx:∀s∈l,s.v.text.size≤maxLen:=fun s hs=>(hin s hs).text
 have hot:∀s∈[o],s.v.text.size≤maxLen:=fun s hs=>by rw [List.mem_singleton.1 hs];exact ho.text
 have HL:=Lib.hid hl
 have HTX:=Lib.hid htx
 have HOT:=Lib.hid hot
 have HNO3:=Lib.hid hno
 have KN:=Lib.hid (fun W (hk:Kept (fun _=>False) w W)=>known_any (hTab.kept hk))
 clear hTab hl hin hB ho htx hot hno
 obtain⟨⟨⟨ds,dq⟩,⟨da,dn,dc⟩,kd,⟨it,is⟩,⟨rt,rs⟩,tx,⟨ga,gn,gc⟩,st⟩,D,G⟩:=o
 show Calls _ _ #[_,.agg #[.int .i64 ds,.int .i64 dq,.slice da dn dc,.int .i64 kd,.int .i64 it,.int .i64 is,.int .i64 rt,.int .i64 rs,.string tx,.slice ga gn gc,.int .i64 st],_,_] _ _
 have k1:Kept (fun _=>False) w (w.alloc (.cells #[.int .i64 ds,.int .i64 dq,.slice da dn dc,.int .i64 kd,.int .i64 it,.int .i64 is,.int .i64 rt,.int .i64 rs,.string tx,.slice ga gn gc,.int .i64 st] 62)):=(Kept.refl _ _).alloc _
 have b1:=Blk.new w 62 #[.int .i64 ds,.int .i64 dq,.slice da dn dc,.int .i64 kd,.int .i64 it,.int .i64 is,.int .i64 rt,.int .i64 rs,.string tx,.slice ga gn gc,.int .i64 st]
 go_enter Tryz.func4,Tryz.ntmps4
 go_upto_region 1 with fail
 obtain⟨z,hz⟩:∃z,w.heap.size=z:=⟨_,rfl⟩
 obtain⟨W1,hW1⟩:∃W1,w.alloc (.cells #[.int .i64 ds,.int .i64 dq,.slice da dn dc,.int .i64 kd,.int .i64 it,.int .i64 is,.int .i64 rt,.int .i64 rs,.string tx,.slice ga gn gc,.int .i64 st] 62)=W1:=⟨_,rfl⟩
 rw [hW1] at k1 b1 ⊢
 rw [hz] at b1 ⊢
 have K1:=Lib.hid k1
 have B1:=Lib.hid b1
 have kl:=HL.out.kept k1
 clear hW1 k1 b1
 by_cases hf:FewE l B.length
 case neg =>
  have MUL:=Lib.hid (much_yes (vs:=ba) (vc:=bc) kl HTX.out hf)
  clear kl hf
  go_wp2_with (first
   | (go_at_call 9;refine MUL.out.mono ?_;rintro e w2 ⟨rfl,hk2⟩;have K2:=Lib.hid (K1.out.trans hk2 fun _ _ h=>h))
   | (go_at_call 10;refine (KN.out _ K2.out).mono ?_;rintro e w9 ⟨rfl,hk9⟩))
  go_ret
  exact⟨rfl,K2.out.trans hk9 fun _ _ h=>h⟩
 case pos =>
 have MUL:=Lib.hid (much_no (vs:=ba) (vc:=bc) kl HTX.out hf)
 have HF:=Lib.hid hf
 clear kl hf
 by_cases hfo:FewE [(⟨⟨⟨ds,dq⟩,⟨da,dn,dc⟩,kd,⟨it,is⟩,⟨rt,rs⟩,tx,⟨ga,gn,gc⟩,st⟩,D,G⟩:Ent)] 0
 case neg =>
  have HNO:=Lib.hid hfo
  clear hfo
  go_wp2_with (first | (go_at_call 10;refine (KN.out _ K3.out).mono ?_;rintro e w9 ⟨rfl,hk9⟩) | (go_at_call 9;(first
   | ((with_reducible refine (MO.out).mono ?_);rintro e w3 ⟨rfl,hk3⟩;have K3:=Lib.hid (K1.out.trans (K2.out.trans hk3 fun _ _ h=>h) fun _ _ h=>h))
   | ((with_reducible refine (MUL.out).mono ?_);rintro e w2 ⟨rfl,hk2⟩;have b2:=hk2.blk (fun h=>h) B1.out;have y0:w2.cell? ⟨z,0,none⟩=some (.int .i64 ds):=b2.cell' rfl;have y1:w2.cell? ⟨z,1,none⟩=some (.int .i64 dq):=b2.cell' rfl;have y2:w2.cell? ⟨z,2,none⟩=some (.slice da dn dc):=b2.cell' rfl;have y3:w2.cell? ⟨z,3,none⟩=some (.int .i64 kd):=b2.cell' rfl;have y4:w2.cell? ⟨z,4,none⟩=some (.int .i64 it):=b2.cell' rfl;have y5:w2.cell? ⟨z,5,none⟩=some (.int .i64 is):=b2.cell' rfl;have y6:w2.cell? ⟨z,6,none⟩=some (.int .i64 rt):=b2.cell' rfl;have y7:w2.cell? ⟨z,7,none⟩=some (.int .i64 rs):=b2.cell' rfl;have y8:w2.cell? ⟨z,8,none⟩=some (.string tx):=b2.cell' rfl;have y9:w2.cell? ⟨z,9,none⟩=some (.slice ga gn gc):=b2.cell' rfl;have y10:w2.cell? ⟨z,10,none⟩=some (.int .i64 st):=b2.cell' rfl;have MO:Hid (Calls Tryz.prog 9 #[.slice (some ⟨w2.heap.size,0,none⟩) 1 1,.slice none 0 0] (w2.alloc (.cells #[.int .i64 ds,.int .i64 dq,.slice da dn dc,.int .i64 kd,.int .i64 it,.int .i64 is,.int .i64 rt,.int .i64 rs,.string tx,.slice ga gn gc,.int .i64 st] 62)) fun r w'=>r=.returned (.bool true)∧Kept (fun _=>False) (w2.alloc (.cells #[.int .i64 ds,.int .i64 dq,.slice da dn dc,.int .i64 kd,.int .i64 it,.int .i64 is,.int .i64 rt,.int .i64 rs,.string tx,.slice ga gn gc,.int .i64 st] 62)) w'):=Lib.hid (much_yes (vs:=none) (vn:=0) (vc:=0) (SlAt.lit (E:=entE) (w:=w2) (t:=62) ([⟨⟨⟨ds,dq⟩,⟨da,dn,dc⟩,kd,⟨it,is⟩,⟨rt,rs⟩,tx,⟨ga,gn,gc⟩,st⟩,D,G⟩]:List Ent) #[.int .i64 ds,.int .i64 dq,.slice da dn dc,.int .i64 kd,.int .i64 it,.int .i64 is,.int .i64 rt,.int .i64 rs,.string tx,.slice ga gn gc,.int .i64 st] rfl (by show 1≤maxLen;decide)) HOT.out HNO.out);have K2:=Lib.hid (hk2.alloc (.cells #[.int .i64 ds,.int .i64 dq,.slice da dn dc,.int .i64 kd,.int .i64 it,.int .i64 is,.int .i64 rt,.int .i64 rs,.string tx,.slice ga gn gc,.int .i64 st] 62));clear hk2 b2))))
  go_ret
  exact⟨rfl,K3.out.trans hk9 fun _ _ h=>h⟩
 case pos =>
  have HFO:=Lib.hid hfo
  have hz0:l.length=0:=by
   have h9:=HNO3.out
   by_cases h0:0<l.length
   ·exact absurd ⟨HF.out,hfo,h0⟩ h9
   ·omega
  obtain rfl:l=[]:=List.eq_nil_of_length_eq_zero hz0
  clear hfo hz0
  simp only [List.length_nil] at MUL ⊢
  go_wp2_with (first | (go_at_call 10;refine (KN.out _ K3.out).mono ?_;rintro e w9 ⟨rfl,hk9⟩) | (go_at_call 9;(first
   | ((with_reducible refine (MO.out).mono ?_);rintro e w3 ⟨rfl,hk3⟩;have K3:=Lib.hid (K1.out.trans (K2.out.trans hk3 fun _ _ h=>h) fun _ _ h=>h))
   | ((with_reducible refine (MUL.out).mono ?_);rintro e w2 ⟨rfl,hk2⟩;have b2:=hk2.blk (fun h=>h) B1.out;have y0:w2.cell? ⟨z,0,none⟩=some (.int .i64 ds):=b2.cell' rfl;have y1:w2.cell? ⟨z,1,none⟩=some (.int .i64 dq):=b2.cell' rfl;have y2:w2.cell? ⟨z,2,none⟩=some (.slice da dn dc):=b2.cell' rfl;have y3:w2.cell? ⟨z,3,none⟩=some (.int .i64 kd):=b2.cell' rfl;have y4:w2.cell? ⟨z,4,none⟩=some (.int .i64 it):=b2.cell' rfl;have y5:w2.cell? ⟨z,5,none⟩=some (.int .i64 is):=b2.cell' rfl;have y6:w2.cell? ⟨z,6,none⟩=some (.int .i64 rt):=b2.cell' rfl;have y7:w2.cell? ⟨z,7,none⟩=some (.int .i64 rs):=b2.cell' rfl;have y8:w2.cell? ⟨z,8,none⟩=some (.string tx):=b2.cell' rfl;have y9:w2.cell? ⟨z,9,none⟩=some (.slice ga gn gc):=b2.cell' rfl;have y10:w2.cell? ⟨z,10,none⟩=some (.int .i64 st):=b2.cell' rfl;have MO:Hid (Calls Tryz.prog 9 #[.slice (some ⟨w2.heap.size,0,none⟩) 1 1,.slice none 0 0] (w2.alloc (.cells #[.int .i64 ds,.int .i64 dq,.slice da dn dc,.int .i64 kd,.int .i64 it,.int .i64 is,.int .i64 rt,.int .i64 rs,.string tx,.slice ga gn gc,.int .i64 st] 62)) fun r w'=>r=.returned (.bool false)∧Kept (fun _=>False) (w2.alloc (.cells #[.int .i64 ds,.int .i64 dq,.slice da dn dc,.int .i64 kd,.int .i64 it,.int .i64 is,.int .i64 rt,.int .i64 rs,.string tx,.slice ga gn gc,.int .i64 st] 62)) w'):=Lib.hid (much_no (vs:=none) (vn:=0) (vc:=0) (SlAt.lit (E:=entE) (w:=w2) (t:=62) ([⟨⟨⟨ds,dq⟩,⟨da,dn,dc⟩,kd,⟨it,is⟩,⟨rt,rs⟩,tx,⟨ga,gn,gc⟩,st⟩,D,G⟩]:List Ent) #[.int .i64 ds,.int .i64 dq,.slice da dn dc,.int .i64 kd,.int .i64 it,.int .i64 is,.int .i64 rt,.int .i64 rs,.string tx,.slice ga gn gc,.int .i64 st] rfl (by show 1≤maxLen;decide)) HOT.out HFO.out);have K2:=Lib.hid (hk2.alloc (.cells #[.int .i64 ds,.int .i64 dq,.slice da dn dc,.int .i64 kd,.int .i64 it,.int .i64 is,.int .i64 rt,.int .i64 rs,.string tx,.slice ga gn gc,.int .i64 st] 62));clear hk2 b2))))
  go_ret
  exact⟨rfl,K3.out.trans hk9 fun _ _ h=>h⟩
theorem pastAgain_any {w:World}{lv bv:Value}{l:List Ent}{B:List Dot}{o:Ent}{i:Int}(hTab:TabAt w) (hl:SlAt entE w lv l) (hin:∀e∈l,OpIn w e) (hB:SlAt dotE w bv B) (hBI:∀d∈B,I64 d.site∧I64 d.seq) (ho:OpIn w o) :
  Calls Tryz.prog 4 #[lv,.agg (opA o.v),.int .i64 i,bv] w fun e w'=>e=.returned (.bool true)∧Kept (fun _=>False) w w':=by
 by_cases h:FewE l B.length∧FewE [o] 0∧0<l.length
 ·exact pastAgain_core hTab hl hin hB hBI ho h.1 h.2.1 h.2.2
 ·exact pastAgain_much hTab hl hin hB ho h
end Go.Proofs.YtjohljmpcblpjaaGreatDoor.Pa
namespace Go.Proofs.YtjohljmpcblpjaaGreatDoor.Pa
open Go.RowKit Go.Proofs.YtjohljmpcblpjaaGreatDoor.St Go.Proofs.YtjohljmpcblpjaaGreatDoor
section
open Go.ChangeShapes Go.WideShapes Go.Deep
variable {H:Type} {enc:TypeId × Value→H} {w:World} {base b0:Nat} {spare:Nat→Bool} {held:Bool}
theorem open_pops {r:Reach}{v:Value}{d:DataW H}{ps:List MemPlace}(hv:Value.okWide Tryz.prog w r b0 22 v)
  (h:DataW.Trod enc Tryz.prog w base spare held 22 v d ps):∃L,SlAt entE w v L∧∀x∈L,OpIn w x :=
 open_rows entE Tryz.underlying22 cells_op elem_op2 hv h
theorem open_pvec {r:Reach}{v:Value}{d:DataW H}{ps:List MemPlace}(hv:Value.okWide Tryz.prog w r b0 24 v)
  (h:DataW.Trod enc Tryz.prog w base spare held 24 v d ps):∃L,SlAt dotE w v L∧∀x∈L,I64 x.site∧I64 x.seq :=
 open_rows dotE Tryz.underlying24 cells_dot (fun n cs d h=>elem_dot2 n cs d h) hv h
end
theorem gTab:Tryz.prog.globalNamed "math/bits.deBruijn32tab" = some 0:=by kernel_rfl
theorem gTabType:(Tryz.prog.globals[0]?).map (·.type)=some 269:=by kernel_rfl
theorem tabCells:Tryz.prog.cellsOf 269=32:=by kernel_rfl
theorem byteCells:Tryz.prog.cellsOf 5=1:=by kernel_rfl
theorem tab_of_laid {W:World}(h:laidMetH Tryz.prog [("math/bits.deBruijn32tab", Rows.laid_math_bits_deBruijn32tab)] W):TabAt W:=fun i k hi=>by
 have h1:Lib.TabIs Tryz.prog W "math/bits.deBruijn32tab" .u8 [0,1,28,2,29,14,24,3,30,22,20,15,25,17,4,8,31,27,13,23,21,19,16,7,26,12,18,6,11,5,10,9] :=
  Lib.tabIs_of_head (rest:=[]) gTab gTabType Tryz.underlying269 Tryz.underlying5 byteCells tabCells h
 have hl:=(List.getElem?_eq_some_iff.1 hi).1
 have h2:=h1.cell gTab i (by simpa [tabL] using hl)
 rw [h2]
 have e:∀j:Nat,j<32→([0,1,28,2,29,14,24,3,30,22,20,15,25,17,4,8,31,27,13,23,21,19,16,7,26,12,18,6,11,5,10,9]:List Int).getD j 0=((tabL[j]?.getD 0:Nat):Int):=by decide
 rw [e i (by simpa [tabL] using hl),hi]
 rfl
end Go.Proofs.YtjohljmpcblpjaaGreatDoor.Pa
