/- past.Order. past.Closed. Settles in another order; plainly. What past.Nodes tells, plainly. past.Nodes. hearsayref24.whole. Parts of the proof. -/
import Derived.Test.YtjohljmpcblpjaaGreatDoorM36
set_option maxRecDepth 100000
set_option maxHeartbeats 4000000
namespace Go.Proofs.YtjohljmpcblpjaaGreatDoor.Pa
open Go.RowKit Go.Proofs.YtjohljmpcblpjaaGreatDoor.St Go.Proofs.YtjohljmpcblpjaaGreatDoor Go.Proofs.YtjohljmpcblpjaaGreatDoor.Tr
theorem clip_sl {α:Type}{E:Enc α}{t:TypeId}{base:Nat}{w:World}{v:Value}{D:List α}(h:ClipAt E t base w v D):SlAt E w v D:=by
 rcases h with ⟨rfl,rfl⟩|⟨b,cap,rfl,_,ho⟩
 ·exact .inl ⟨rfl,rfl⟩
 ·have hle:=ho.le
  exact .inr ⟨⟨b,0,none⟩,D.length,rfl,Nat.le_refl _,by omega,fun _=>rfl,fun i y hy j u hu=>by rw [Nat.zero_add];exact ho.cell hy hu⟩
theorem nodes_post {w:World}{D:List Nd}{g:Option Nat}(hg:g=none∧D=[]∨∃b F,g=some b∧TBox w b D F∧D.length≤900000) :
  Calls Tryz.prog 57 #[.pointer (g.map fun g=>⟨g,0,none⟩)] w fun e w'=>(∃v,e=.returned v∧SlAt nodeE w' v D∧∀b,v.ownBlock=some b→w.heap.size≤b)∧Kept (fun _=>False) w w':=by
 rcases hg with ⟨rfl,rfl⟩|⟨b,F,rfl,hT,hL⟩
 ·exact (nodes_nil w).mono fun e w' ⟨h1,h2⟩=>⟨⟨_,h1,.inl ⟨rfl,rfl⟩,fun b hb=>by cases hb⟩,h2⟩
 ·obtain⟨A,S,mp,h1,_⟩:=hT.at_
  refine (nodes_any h1 hT.doc hL).mono fun e w' ⟨⟨v,h2,h3⟩,h4⟩=>⟨⟨v,h2,clip_sl h3,fun b hb=>?_⟩,h4⟩
  ·rcases h3 with ⟨rfl,h5⟩ | ⟨b2,cap,rfl,h6,_⟩
   ·cases hb
   ·cases hb;exact h6
theorem order_past {w:World}{lv:Value}{l:List Ent}(hl:SlAt entE w lv l) (hin:∀e∈l,OpIn w e) (hlen:l.length≤1000000) (hdl:∀e∈l,e.D.length≤1000000∧e.G.length≤1000000) (htx:textN l≤900000) :
  Calls Tryz.prog 19 #[lv] w fun e w'=>(∃v,e=.returned (.tuple #[v,.int .i64 (closedE l)])∧SlAt idE w' v ((docS l).map (·.id)))∧Kept (fun _=>False) w w':=by
 have DOC:=Lib.hid ((document_any hl hin hlen hdl htx).mono fun e w' h=>doc_post h htx)
 obtain⟨c,hc⟩:∃c,closedE l=c:=⟨_,rfl⟩
 obtain⟨D,hD⟩:∃D,docS l=D:=⟨_,rfl⟩
 rw [hc,hD] at DOC ⊢
 clear hl hin hdl hc hD
 go_enter Tryz.func19,Tryz.ntmps19
 go_upto_region 3 with (go_at_call 53;refine DOC.out.mono ?_;rintro e w1 ⟨⟨g,rfl,hg⟩,hk1⟩)
 have hDl:D.length≤900000:=by
  rcases hg with ⟨_,rfl⟩|⟨_,_,_,_,h,_⟩
  ·exact Nat.zero_le _
  ·exact h
 have HK1:=Lib.hid hk1
 have NO:=Lib.hid (nodes_post (hg.imp id fun⟨b,F,h1,h2,h3,_⟩=>⟨b,F,h1,h2,h3⟩))
 obtain⟨tp,htp⟩:∃tp:Value,Value.pointer (g.map fun g=>⟨g,0,none⟩)=tp:=⟨_,rfl⟩
 rw [htp] at NO ⊢
 clear hk1 hg htp
 go_wp2_with (go_at_call 57;refine NO.out.mono ?_;rintro e w2 ⟨⟨nv,rfl,hnv,_⟩,hk2⟩;obtain⟨na,nc,rfl,_,_⟩:=hnv.sl)
 have K2:=Lib.hid (HK1.out.trans hk2 fun _ _ h=>h)
 have HN:=Lib.hid hnv
 clear hk2 hnv
 go_loopw [6,17] (fun v iv wr=>∃n:Nat,iv=.int .i64 n∧n≤D.length∧Kept (fun _=>False) w2 wr∧wr.ownsRow w2.heap.size 59 2 v n (idE.flat ((D.take n).map (·.id)))) (fun _ iv _=>D.length-(intOf iv).toNat)
 case atStart=>exact⟨0,rfl,Nat.zero_le _,Kept.refl _ _,World.ownsRow_nil ..⟩
 case round =>
  obtain⟨n,rfl,hn,hk,ho⟩:=hrel
  have hn0:(0:Int)≤n:=by omega
  have HK:=Lib.hid hk
  have hk0:=ho
  rcases Nat.lt_or_ge n D.length with hlt|hge
  case inr =>
   have hlt:¬(n:Int)<D.length:=by omega
   have e1:(D.take n)=D:=List.take_of_length_le hge
   rw [e1] at ho
   have FIN:=Lib.hid (owns_slAt (E:=idE) ho)
   clear hk ho hk0 e1
   go_wp2_with fail
   go_ret2
   exact⟨⟨_,rfl,FIN.out⟩,K2.out.trans HK.out fun _ _ h=>h⟩
  case inl =>
   have hltI:(n:Int)<D.length:=by omega
   have es:IntKind.i64.wrap ((n:Int)+1)=(n:Int)+1:=IntWalk.i64_in _ (by omega)
   obtain⟨x,hx⟩:=get_of_lt hlt
   obtain⟨g0,o0,c0,hav,_,hc⟩:=Tr.SlAt.node (HN.out.kept HK.out) (by omega)
   injection hav with h1 _ _
   subst h1
   obtain⟨cc0,cc1,cc2,cc3,cc4,cc5⟩:=hc n x hx
   obtain⟨⟨it,is⟩,⟨rt,rs⟩,rr,st⟩:=x
   have hl2:((D.take n).map (·.id)).length=n:=by rw [List.length_map,List.length_take];omega
   have hxs:(D.take (n+1)).map (·.id)=(D.take n).map (·.id)++[⟨it,is⟩]:=by
    rw [List.take_add_one,hx]
    simp
   have HXS:=Lib.hid hxs
   have k1:Kept (fun _=>False) wr (wr.alloc (.cells #[.int .i64 it,.int .i64 is,.int .i64 rt,.int .i64 rs,.int .i32 rr,.int .i64 st] 84)):=(Kept.refl _ _).alloc _
   have b1:=Blk.new wr 84 #[.int .i64 it,.int .i64 is,.int .i64 rt,.int .i64 rs,.int .i32 rr,.int .i64 st]
   clear hk hk0 hc hxs
   go_upto_region 6 with fail
   obtain⟨W3,hW3⟩:∃W3,wr.alloc (.cells #[.int .i64 it,.int .i64 is,.int .i64 rt,.int .i64 rs,.int .i32 rr,.int .i64 st] 84)=W3:=⟨_,rfl⟩
   obtain⟨z,hz⟩:∃z,wr.heap.size=z:=⟨_,rfl⟩
   rw [hW3] at k1 b1 ⊢
   rw [hz] at b1 ⊢
   have d0:W3.cell? ⟨z,0,none⟩=some (.int .i64 it):=b1.cell' (i:=0) rfl
   have d1:W3.cell? ⟨z,1,none⟩=some (.int .i64 is):=b1.cell' (i:=1) rfl
   have k4:Kept (fun _=>False) W3 (W3.alloc (.cells #[.int .i64 it,.int .i64 is] 59)):=(Kept.refl _ _).alloc _
   have LIT:=Lib.hid (SlAt.lit (E:=idE) (w:=W3) (t:=59) [⟨it,is⟩] #[.int .i64 it,.int .i64 is] rfl (by show 1≤maxLen;decide))
   have KX:=Lib.hid ((HK.out.trans k1 fun _ _ h=>h).trans k4 fun _ _ h=>h)
   have OX:Hid ((W3.alloc (.cells #[.int .i64 it,.int .i64 is] 59)).ownsRow w2.heap.size 59 2 u6 ((D.take n).map (·.id)).length (idE.flat ((D.take n).map (·.id)))):=Lib.hid (by rw [hl2];exact owns_keep (owns_keep ho k1 fun _ _ h=>h) k4 fun _ _ h=>h)
   have ML:Hid (((D.take n).map (·.id)).length≤1000000):=Lib.hid (by omega)
   have HL2:=Lib.hid hl2
   clear hW3 hz b1 k1 k4 ho hl2 cc0 cc1 cc2 cc3 cc4 cc5
   go_wp2_with (at_builtin;refine wpList_append_keeps idE rfl (.tmp 21) (.tmp 24) 39 rfl w2.heap.size 59 _ 16 Tryz.underlying39 info_id rfl (by decide) rfl rfl OX.out LIT.out ML.out KX.out.size ?_;intro v3 w3 ho3 hg3)
   go_roundw
   case rel=>exact⟨v3,.pointer (some ⟨z,0,none⟩),.int .i64 ((n:Int)+1),⟨n+1,by go_num,by omega,KX.out.over (grow1_kept hg3) fun b hb=>owns_new OX.out b hb,by rw [←List.map_take,HXS.out];rw [HL2.out] at ho3;exact ho3⟩,rfl,rfl,rfl⟩
   case measure=>simp [intOf];omega
end Go.Proofs.YtjohljmpcblpjaaGreatDoor.Pa
namespace Go.Proofs.YtjohljmpcblpjaaGreatDoor.Pa
open Go.RowKit Go.Proofs.YtjohljmpcblpjaaGreatDoor.St Go.Proofs.YtjohljmpcblpjaaGreatDoor
theorem closed_any {w:World}{lv:Value}{l:List Ent}(hl:SlAt entE w lv l) (hin:∀e∈l,OpIn w e) (hlen:l.length≤1000000) (hdl:∀e∈l,e.D.length≤1000000∧e.G.length≤1000000) :
  Calls Tryz.prog 12 #[lv] w fun e w'=>e=.returned (.int .i64 (closedE l))∧Kept (fun _=>False) w w':=by
 have SET:=Lib.hid (set_any hl hin hlen hdl)
 obtain⟨C,hC⟩:∃C,closedE l=C:=⟨_,rfl⟩
 have S2:Hid (Calls Tryz.prog 42 #[lv] w fun e w'=>∃mb,e=.returned (.tuple #[.map mb,.int .i64 C])∧Kept (fun _=>False) w w'):=Lib.hid (SET.out.mono fun e w' h9=>by
  obtain⟨⟨_,he⟩ | ⟨h0,b,he,_⟩,hk⟩:=h9
  ·exact⟨none,by rw [he,hC],hk⟩
  ·exact⟨some b,by rw [he,←hC,h0],hk⟩)
 rw [hC]
 clear hl hin hlen hdl SET hC
 go_enter Tryz.func12,Tryz.ntmps12
 go_wp2_with (go_at_call 42;refine S2.out.mono ?_;rintro e w1 ⟨mb,rfl,hk⟩)
 go_ret
 exact⟨rfl,hk⟩
end Go.Proofs.YtjohljmpcblpjaaGreatDoor.Pa
namespace Go.Proofs.YtjohljmpcblpjaaGreatDoor.Tr
open Go.Proofs.YtjohljmpcblpjaaGreatDoor.St
end Go.Proofs.YtjohljmpcblpjaaGreatDoor.Tr
namespace Go.Proofs.YtjohljmpcblpjaaGreatDoor.Pa
open Go.RowKit Go.Proofs.YtjohljmpcblpjaaGreatDoor.St Go.Proofs.YtjohljmpcblpjaaGreatDoor Go.Proofs.YtjohljmpcblpjaaGreatDoor.Tr
open Classical in
noncomputable def nodesC (l:List Ent) (B:List Dot):Int :=
 if closedE l≠0 then closedE l else if chkV 0 B≠0 then chkV 0 B else if ¬wholeP (l.map dotOf) B∨closedE (uptoL B l)≠0 then 20 else 0
noncomputable def setD (L:List Nd) (e:Ent):List Nd:=if e.v.kind=2 then L.map (turnF e.G 2 3) else L
noncomputable def nodesS (l:List Ent) (B:List Dot):List Nd:=if nodesC l B=0 then collR ((uptoL B l).foldl setD (docP l)) else []
theorem setD_len (L:List Nd) (e:Ent):(setD L e).length=L.length:=by
 unfold setD
 split
 ·rw [List.length_map]
 ·rfl
theorem foldS_len:∀(R:List Ent) (L:List Nd),(R.foldl setD L).length=L.length
 | [],_=>rfl
 | e::R,L=>by rw [List.foldl_cons,foldS_len R,setD_len]
theorem foldS_same:∀ {R S:List Ent}(L:List Nd),R.map keyE=S.map keyE→R.foldl setD L=S.foldl setD L
 | [],[],_,_=>rfl
 | [],_::_,_,h=>by simp at h
 | _::_,[],_,h=>by simp at h
 | a::R,b::S,L,h=>by
  simp only [List.map_cons,List.cons.injEq] at h
  have e:setD L a=setD L b:=by
   unfold setD
   have h1:=h.1
   unfold keyE at h1
   injection h1 with h2 h3 h4 h5 h6 h7 h8 h9
   rw [h3,h9]
  rw [List.foldl_cons,List.foldl_cons,e]
  exact foldS_same _ h.2
theorem OpIn.kept {w w':World}{e:Ent}(h:OpIn w e) (hk:Kept (fun _=>False) w w'):OpIn w' e:=⟨Ent.At.kept h.at_ hk,h.runs,h.text,h.dots,h.nums,h.ids⟩
theorem opIn_same {w0 w:World}{e x:Ent}(hk:keyE e=keyE x) (hx:OpIn w0 x) (hat:e.At w):OpIn w e:=by
 unfold keyE at hk
 injection hk with h2 h3 h4 h5 h6 h7 h8 h9
 refine⟨hat,?_,?_,?_,?_,?_⟩
 ·rw [h9];exact hx.runs
 ·rw [h6];exact hx.text
 ·rw [h8];exact hx.dots
 ·rw [h2,h3,h7];exact hx.nums
 ·rw [h4,h5];exact hx.ids
theorem upto_mem {B:List Dot}{l:List Ent}{e:Ent}(h:e∈uptoL B l):e∈l:=(List.mem_filter.1 h).1
end Go.Proofs.YtjohljmpcblpjaaGreatDoor.Pa
namespace Go.Proofs.YtjohljmpcblpjaaGreatDoor.Pa
open Go.RowKit Go.Proofs.YtjohljmpcblpjaaGreatDoor.St Go.Proofs.YtjohljmpcblpjaaGreatDoor Go.Proofs.YtjohljmpcblpjaaGreatDoor.Tr
theorem doc_ok {w w':World}{l:List Ent}{e:Ending}(h:DocPost w l e w') (hc:closedE l=0):∃g F,e=.returned (.tuple #[.pointer (some ⟨g,0,none⟩),.int .i64 0])∧TBox w' g (docP l) F∧(∀b,F b→w.heap.size≤b)∧Kept (fun _=>False) w w':=by
 obtain⟨h1,h2⟩:=h
 rcases h1 with ⟨h3,_⟩|⟨_,g,F,h4,h5,h6⟩
 ·exact absurd hc h3
 ·exact⟨g,F,h4,h5,h6,h2⟩
def NodesPost (w:World) (l:List Ent) (B:List Dot) (e:Ending) (w':World):Prop:=(∃v,e=.returned (.tuple #[v,.int .i64 (nodesC l B)])∧SlAt nodeE w' v (nodesS l B))∧Kept (fun _=>False) w w'
theorem nodesPost_no {w w':World}{l:List Ent}{B:List Dot}{c:Int}(hc:nodesC l B=c) (h0:c≠0) (hk:Kept (fun _=>False) w w'):NodesPost w l B (.returned (.tuple #[.slice none 0 0,.int .i64 c])) w':=by
 refine⟨⟨_,by rw [hc],?_⟩,hk⟩
 unfold nodesS
 rw [if_neg (by rw [hc];exact h0)]
 exact .inl ⟨rfl,rfl⟩
theorem nodes_past {w:World}{lv bv:Value}{l:List Ent}{B:List Dot}(hl:SlAt entE w lv l) (hin:∀e∈l,OpIn w e) (hlen:l.length≤1000000) (hdl:∀e∈l,e.D.length≤1000000∧e.G.length≤1000000) (htx:textN l≤900000)
  (hB:SlAt dotE w bv B) (hBI:∀d∈B,I64 d.seq) (hBl:B.length≤1000000000):Calls Tryz.prog 25 #[lv,bv] w (NodesPost w l B):=by
 have SET:=Lib.hid (set_any hl hin hlen hdl)
 have HL:=Lib.hid hl
 have HIN:=Lib.hid hin
 have HDL:=Lib.hid hdl
 have HB:=Lib.hid hB
 have HBI:=Lib.hid hBI
 clear hl hin hdl hB hBI
 by_cases hc:closedE l=0
 case neg =>
  have SET2:Hid (Calls Tryz.prog 42 #[lv] w fun e w'=>e=.returned (.tuple #[.map none,.int .i64 (closedE l)])∧Kept (fun _=>False) w w'):=Lib.hid (SET.out.mono fun e w' ⟨h1,h2⟩=>⟨h1.elim (fun h=>h.2) (fun h=>absurd h.1 hc),h2⟩)
  have hn:nodesC l B=closedE l:=by unfold nodesC;rw [if_pos hc]
  have HN:=Lib.hid (And.intro hn hc)
  obtain⟨c,hcc⟩:∃c,closedE l=c:=⟨_,rfl⟩
  rw [hcc] at SET2 hc HN
  clear SET hn hcc
  go_enter Tryz.func25,Tryz.ntmps25
  go_wp2_with (go_at_call 42;refine SET2.out.mono ?_;rintro e w1 ⟨rfl,hk1⟩)
  go_ret2
  exact nodesPost_no HN.out.1 HN.out.2 hk1
 case pos =>
  have SET2:Hid (Calls Tryz.prog 42 #[lv] w fun e w'=>(∃b,e=.returned (.tuple #[.map (some b),.int .i64 0])∧OpsM w' b (kvsOf l))∧Kept (fun _=>False) w w'):=Lib.hid (SET.out.mono fun e w' ⟨h1,h2⟩=>⟨h1.elim (fun h=>absurd hc h.1) (fun h=>by obtain⟨_,b,h3,_,h5⟩:=h;exact⟨b,h3,h5⟩),h2⟩)
  have HC:=Lib.hid hc
  clear SET hc
  go_enter Tryz.func25,Tryz.ntmps25
  go_upto_region 4 with (go_at_call 42;refine SET2.out.mono ?_;rintro e w1 ⟨⟨mb,rfl,hom⟩,hk1⟩)
  have CK:=Lib.hid (vcheck_any (HB.out.kept hk1) hBl)
  have HOM:=Lib.hid hom
  have K1:=Lib.hid hk1
  clear hom hk1 SET2
  by_cases hv:chkV 0 B=0
  case neg =>
   have HN:=Lib.hid (And.intro (show nodesC l B=chkV 0 B by unfold nodesC;rw [if_neg (fun h=>h HC.out),if_pos hv]) hv)
   obtain⟨c,hcc⟩:∃c,chkV 0 B=c:=⟨_,rfl⟩
   rw [hcc] at CK HN hv
   clear hcc
   go_wp2_with (go_at_call 47;refine CK.out.mono ?_;rintro e w2 ⟨rfl,hk2⟩)
   go_ret2
   exact nodesPost_no HN.out.1 HN.out.2 (K1.out.trans hk2 fun _ _ h=>h)
  case pos =>
   have HV:=Lib.hid hv
   rw [hv] at CK
   have hup:uptoS B l=uptoL B l:=by unfold uptoS;rw [if_pos hv]
   have UP:=Lib.hid (fun (W:World) (hk:Kept (fun _=>False) w W)=>upto_past (HL.out.kept hk) (fun e he=>Ent.At.kept (HIN.out e he).at_ hk) hlen HDL.out (HB.out.kept hk) hBl)
   rw [hup] at UP
   clear hv hup
   go_upto_region 8 with (first
    | (go_at_call 47;refine CK.out.mono ?_;rintro e w2 ⟨rfl,hk2⟩)
    | (go_at_call 15;refine (UP.out _ (K1.out.trans hk2 fun _ _ h=>h)).mono ?_;rintro e w3 ⟨⟨u,low,rfl,hlow,hkey,hat⟩,hk3⟩))
   have K3:=Lib.hid ((K1.out.trans hk2 fun _ _ h=>h).trans hk3 fun _ _ h=>h)
   have K13:=Lib.hid (hk2.trans hk3 fun _ _ h=>h)
   have hul:low.length≤1000000:=by
    have h1:=len_same hkey
    have h2:(uptoL B l).length≤l.length:=List.length_filter_le _ _
    omega
   have hlin:∀e∈low,OpIn w3 e:=fun e he=>by
    obtain⟨x,hx,hxk⟩:=mem_same hkey he
    exact opIn_same hxk.symm (HIN.out x (upto_mem hx)) (hat e he)
   have hldl:∀e∈low,e.D.length≤1000000∧e.G.length≤1000000:=fun e he=>by
    obtain⟨x,hx,hxk⟩:=mem_same hkey he
    have h1:=HDL.out x (upto_mem hx)
    have e1:x.D=e.D:=congrArg Op0.D hxk
    have e2:x.G=e.G:=congrArg Op0.G hxk
    rw [←e1,←e2]
    exact h1
   have hcs:closedE low=closedE (uptoL B l):=closed_same hkey (fun e he=>gone_n (hat e he)) (fun e he=>gone_n (HIN.out e (upto_mem he)).at_)
   have CL:=Lib.hid (fun (W:World) (hk:Kept (fun _=>False) w3 W)=>closed_any (hlow.kept hk) (fun e he=>OpIn.kept (hlin e he) hk) hul hldl)
   rw [hcs] at CL
   have HLOW:=Lib.hid hlow
   have HKEY:=Lib.hid hkey
   have HLIN:=Lib.hid hlin
   have HUL:=Lib.hid hul
   have HLDL:=Lib.hid hldl
   have HAS:=Lib.hid (has_any (HOM.out.keep K13.out (fun h=>h)) (HB.out.kept K3.out) HBI.out hBl)
   rw [kvs_keys] at HAS
   clear hk2 hk3 hlow hkey hat hul hlin hldl hcs UP
   by_cases hw:wholeP (l.map dotOf) B
   case neg =>
    have HAS2:Hid (Calls Tryz.prog 63 #[.map (some mb),bv] w3 fun e w'=>e=.returned (.bool false)∧Kept (fun _=>False) w3 w'):=Lib.hid (HAS.out.mono fun e w' ⟨⟨r,h1,h2⟩,h3⟩=>by
     cases r with
     | true=>exact absurd (h2.1 rfl) hw
     | false=>exact⟨h1,h3⟩)
    have HN:=Lib.hid (show nodesC l B=20 by unfold nodesC;rw [if_neg (fun h=>h HC.out),if_neg (fun h=>h HV.out),if_pos (.inl hw)])
    clear hw HAS
    go_wp2_with (go_at_call 63;refine HAS2.out.mono ?_;rintro e w4 ⟨rfl,hk4⟩)
    go_ret2
    exact nodesPost_no HN.out (by decide) (K3.out.trans hk4 fun _ _ h=>h)
   case pos =>
    have HAS2:Hid (Calls Tryz.prog 63 #[.map (some mb),bv] w3 fun e w'=>e=.returned (.bool true)∧Kept (fun _=>False) w3 w'):=Lib.hid (HAS.out.mono fun e w' ⟨⟨r,h1,h2⟩,h3⟩=>by
     cases r with
     | true=>exact⟨h1,h3⟩
     | false=>exact absurd (h2.2 hw) (by simp))
    by_cases hcu:closedE (uptoL B l)=0
    case neg =>
     have HN:=Lib.hid (show nodesC l B=20 by unfold nodesC;rw [if_neg (fun h=>h HC.out),if_neg (fun h=>h HV.out),if_pos (.inr hcu)])
     obtain⟨c,hcc⟩:∃c,closedE (uptoL B l)=c:=⟨_,rfl⟩
     rw [hcc] at CL hcu
     clear hw HAS hcc
     go_wp2_with (first
      | (go_at_call 63;refine HAS2.out.mono ?_;rintro e w4 ⟨rfl,hk4⟩)
      | (go_at_call 12;refine (CL.out _ hk4).mono ?_;rintro e w5 ⟨rfl,hk5⟩))
     go_ret2
     exact nodesPost_no HN.out (by decide) ((K3.out.trans hk4 fun _ _ h=>h).trans hk5 fun _ _ h=>h)
    case pos =>
     have HN:=Lib.hid (show nodesC l B=0 by unfold nodesC;rw [if_neg (fun h=>h HC.out),if_neg (fun h=>h HV.out),if_neg (fun h=>h.elim (fun h=>h hw) (fun h=>h hcu))])
     rw [hcu] at CL
     have DOC:=Lib.hid (fun (W:World) (hk:Kept (fun _=>False) w W)=>document_any (HL.out.kept hk) (fun e he=>OpIn.kept (HIN.out e he) hk) hlen HDL.out htx)
     clear hw HAS hcu
     go_upto_region 10 with (first
      | (go_at_call 63;refine HAS2.out.mono ?_;rintro e w4 ⟨rfl,hk4⟩)
      | (go_at_call 12;refine (CL.out _ hk4).mono ?_;rintro e w5 ⟨rfl,hk5⟩))
     have K5:=Lib.hid ((K3.out.trans hk4 fun _ _ h=>h).trans hk5 fun _ _ h=>h)
     have K35:=Lib.hid (hk4.trans hk5 fun _ _ h=>h)
     obtain⟨ua,uc,hu,_,_⟩:=HLOW.out.sl
     subst hu
     clear hk4 hk5 CL HAS2
     go_wp2_with (go_at_call 53;refine (DOC.out _ K5.out).mono ?_;rintro e w6 hd;obtain⟨g,F,rfl,hT,hF,hk6⟩:=doc_ok hd HC.out;clear hd)
     have HT:=Lib.hid hT
     have HF:=Lib.hid hF
     have K56:=Lib.hid hk6
     have HDP:Hid ((docP l).length≤900000):=Lib.hid (by have:=docP_len (closed_is HC.out).1;omega)
     clear hT hF hk6 DOC
     go_loopw [46] (fun iv wr=>∃(n:Nat) (F':Nat→Prop),iv=.int .i64 n∧n≤low.length∧Kept (fun _=>False) w5 wr∧TBox wr g ((low.take n).foldl setD (docP l)) F'∧∀b,F' b→w5.heap.size≤b) (fun iv _=>low.length-(intOf iv).toNat)
     case atStart=>exact⟨0,F,rfl,Nat.zero_le _,K56.out,HT.out,HF.out⟩
     case round =>
      obtain⟨n,F',rfl,hn,hk,hT,hF⟩:=hrel
      have hn0:(0:Int)≤n:=by omega
      have KR:=Lib.hid hk
      have HTR:=Lib.hid hT
      have HFR:=Lib.hid hF
      have hll:((low.take n).foldl setD (docP l)).length≤900000:=by rw [foldS_len];exact HDP.out
      have HLL:=Lib.hid hll
      clear hk hT hF hll
      by_cases hlt:n<low.length
      case neg =>
       have hnl:¬(n:Int)<low.length:=by omega
       have hs:(low.take n).foldl setD (docP l)=(uptoL B l).foldl setD (docP l):=by rw [List.take_of_length_le (by omega)];exact foldS_same _ HKEY.out
       have COLL:=Lib.hid (HTR.out.collect HLL.out)
       have ANS:Hid (nodesS l B=collR ((low.take n).foldl setD (docP l))):=Lib.hid (by unfold nodesS;rw [if_pos HN.out,hs])
       have hcl2:(collR ((low.take n).foldl setD (docP l))).length≤900000:=Nat.le_trans (collR_len _) HLL.out
       have HC2:=Lib.hid hcl2
       obtain⟨R,hR⟩:∃R,collR ((low.take n).foldl setD (docP l))=R:=⟨_,rfl⟩
       rw [hR] at COLL ANS HC2
       clear hs hcl2 hR
       go_wp2_with (first
        | (go_at_call 65;refine COLL.out.mono ?_;rintro e w7 ⟨rfl,hT7,hk7⟩;have NO:=Lib.hid (nodes_post (w:=w7) (D:=R) (g:=some g) (.inr ⟨g,_,rfl,hT7,HC2.out⟩)))
        | (go_at_call 57;refine NO.out.mono ?_;rintro e w8 ⟨⟨v8,rfl,hs8,_⟩,hk8⟩))
       go_ret2
       refine⟨⟨v8,by rw [HN.out];rfl,by rw [ANS.out];exact hs8⟩,?_⟩
       exact ((K5.out.trans KR.out fun _ _ h=>h).trans hk7 fun b hb h=>by have:=HFR.out b h;have:=K5.out.size;omega).trans hk8 fun _ _ h=>h
      case pos =>
       have hnl:(n:Int)<low.length:=by omega
       obtain⟨x,hx⟩:=get_of_lt hlt
       have htk:low.take (n+1)=low.take n++[x]:=by rw [List.take_add_one,hx];rfl
       have hfold:(low.take (n+1)).foldl setD (docP l)=setD ((low.take n).foldl setD (docP l)) x:=by rw [htk,List.foldl_append];rfl
       have K3R:=Lib.hid (K35.out.trans KR.out fun _ _ h=>h)
       have OI:=Lib.hid (HLIN.out x (List.mem_of_getElem? hx))
       have OD:=Lib.hid (HLDL.out x (List.mem_of_getElem? hx))
       have HFO:=Lib.hid hfold
       obtain⟨lg,lo,lc',e2,hcs⟩:=SlAt.opc (HLOW.out.kept K3R.out) (by omega)
       cases e2
       have hc:=hcs n x hx
       obtain⟨⟨⟨ds,dq⟩,⟨da,dn,dc⟩,kd,⟨it,is⟩,⟨rt,rs⟩,tx,⟨ga,gn,gc⟩,st⟩,D,G⟩:=x
       obtain⟨c0,c1,c2,c3,c4,c5,c6,c7,c8,c9,c10⟩:=hc
       have e1:IntKind.i64.wrap ((n:Int)+1)=(n:Int)+1:=IntWalk.i64_in _ (by have:=HUL.out;omega)
       have k1:Kept (fun _=>False) wr (wr.alloc (.cells #[.int .i64 ds,.int .i64 dq,.slice da dn dc,.int .i64 kd,.int .i64 it,.int .i64 is,.int .i64 rt,.int .i64 rs,.string tx,.slice ga gn gc,.int .i64 st] 62)):=(Kept.refl _ _).alloc _
       have b1:=Blk.new wr 62 #[.int .i64 ds,.int .i64 dq,.slice da dn dc,.int .i64 kd,.int .i64 it,.int .i64 is,.int .i64 rt,.int .i64 rs,.string tx,.slice ga gn gc,.int .i64 st]
       clear hcs hx htk hfold
       go_upto_region 14 with fail
       obtain⟨z,hz⟩:∃z,wr.heap.size=z:=⟨_,rfl⟩
       obtain⟨W1,hW1⟩:∃W1,wr.alloc (.cells #[.int .i64 ds,.int .i64 dq,.slice da dn dc,.int .i64 kd,.int .i64 it,.int .i64 is,.int .i64 rt,.int .i64 rs,.string tx,.slice ga gn gc,.int .i64 st] 62)=W1:=⟨_,rfl⟩
       rw [hW1] at k1 b1 ⊢
       rw [hz] at b1 ⊢
       have z3:W1.cell? ⟨z,3,none⟩=some (.int .i64 kd):=b1.cell' rfl
       have z9:W1.cell? ⟨z,9,none⟩=some (.slice ga gn gc):=b1.cell' rfl
       have KZ:=Lib.hid k1
       clear hW1 hz k1 b1 c0 c1 c2 c3 c4 c5 c6 c7 c8 c9 c10
       by_cases h2:kd=2
       case neg =>
        have ST:Hid ((low.take (n+1)).foldl setD (docP l)=(low.take n).foldl setD (docP l)):=Lib.hid (by rw [HFO.out];unfold setD;exact if_neg h2)
        go_wp2_with fail
        go_roundw
        case rel=>exact⟨n+1,F',by go_num,by omega,KR.out.trans KZ.out fun _ _ h=>h,by rw [ST.out];exact HTR.out.still KZ.out,HFR.out⟩
        case measure=>simp [intOf];omega
       case pos =>
        subst h2
        have ST:Hid ((low.take (n+1)).foldl setD (docP l)=((low.take n).foldl setD (docP l)).map (turnF G 2 3)):=Lib.hid (by rw [HFO.out];unfold setD;exact if_pos rfl)
        have SE:=Lib.hid ((HTR.out.still KZ.out).settle0 HLL.out (v:=.slice ga gn gc) ((OI.out.at_.gone.kept K3R.out).kept KZ.out) OI.out.runs (by have h9:G.length≤1000000:=OD.out.2;show G.length≤1000000000;omega) (fun b hb _ hne hFb=>by
         obtain⟨g9,o9,c9,h8,_,_,hg9,_⟩:=OI.out.at_.gone.one (List.length_pos_iff.2 hne)
         have h7:=HFR.out b hFb
         have h6:(Value.slice (some ⟨g9,o9,none⟩) G.length c9).ownBlock=some b:=h8 ▸ hb
         have h5:g9=b:=Option.some.inj h6
         have:=K35.out.size
         omega))
        go_wp2_with (go_at_call 64;refine SE.out.mono ?_;rintro e w7 ⟨rfl,hT7,hk7⟩)
        go_roundw
        case rel=>exact⟨n+1,F',by go_num,by omega,(KR.out.trans KZ.out fun _ _ h=>h).trans hk7 fun b hb h=>by have:=HFR.out b h;omega,by rw [ST.out];exact hT7,HFR.out⟩
        case measure=>simp [intOf];omega
end Go.Proofs.YtjohljmpcblpjaaGreatDoor.Pa
namespace Go.Proofs.YtjohljmpcblpjaaGreatDoor.Pa
open Go.RowKit Go.Proofs.YtjohljmpcblpjaaGreatDoor.St Go.Proofs.YtjohljmpcblpjaaGreatDoor
theorem whole_any {w:World}{lv dv:Value}{l:List Ent}{D:List Dot}(hl:SlAt entE w lv l) (hlen:l.length≤1000000) (hD:SlAt dotE w dv D) (hDl:D.length≤1000000000) :
  Calls Tryz.prog 45 #[lv,dv] w fun e w'=>HasPost (l.map dotOf) D e∧Kept (fun _=>False) w w':=by
 obtain⟨la,lc,rfl,_,_⟩:=hl.sl
 obtain⟨da,dc,rfl,_,_⟩:=hD.sl
 have HL:=Lib.hid hl
 have HD:=Lib.hid hD
 clear hl hD
 go_enter Tryz.func45,Tryz.ntmps45
 go_wp2_with fail
 go_loopw [5] (fun iv wr=>∃n:Nat,iv=.int .i64 n∧n≤D.length∧Kept (fun _=>False) w wr∧wholeP (l.map dotOf) (D.take n)) (fun iv _=>D.length-(intOf iv).toNat)
 case atStart=>exact⟨0,rfl,Nat.zero_le _,Kept.refl _ _,fun d hd=>by simp at hd⟩
 case round =>
  obtain⟨n,rfl,hn,hk,hw⟩:=hrel
  have hn0:(0:Int)≤n:=by omega
  have K1:=Lib.hid hk
  have HW:=Lib.hid hw
  clear hk hw
  by_cases hlt:n<D.length
  case neg =>
   have hnl:¬(n:Int)<D.length:=by omega
   have H9:Hid (wholeP (l.map dotOf) D):=Lib.hid (by have h9:=HW.out;rwa [List.take_of_length_le (by omega)] at h9)
   go_wp2_with fail
   go_ret
   exact⟨⟨true,rfl,fun _=>H9.out,fun _=>rfl⟩,K1.out⟩
  case pos =>
   have hnl:(n:Int)<D.length:=by omega
   obtain⟨d,hx⟩:=get_of_lt hlt
   have DM:=Lib.hid (List.mem_of_getElem? hx)
   obtain⟨lg,lo,lc',e2,hcs⟩:=SlAt.dotc (HD.out.kept K1.out) (by omega)
   cases e2
   obtain⟨c0,c1⟩:=hcs n d hx
   have TK:Hid (D.take (n+1)=D.take n++[d]):=Lib.hid (by rw [List.take_add_one,hx];rfl)
   have e1:IntKind.i64.wrap ((n:Int)+1)=(n:Int)+1:=IntWalk.i64_in _ (by omega)
   by_cases hbig:(l.length:Int)<d.seq
   case pos =>
    have NI:Hid (¬wholeP (l.map dotOf) D):=Lib.hid fun h9=>by
     have:=h9.le DM.out
     rw [List.length_map] at this
     omega
    clear hcs hx
    go_wp2_with fail
    go_ret
    exact⟨⟨false,rfl,(fun h=>by cases h),fun h=>absurd h NI.out⟩,K1.out⟩
   case neg =>
    have CC:Hid (∀W,Kept (fun _=>False) w W→W.cell? ⟨lg,lo+n * 2,none⟩=some (.int .i64 d.site)∧W.cell? ⟨lg,lo+n * 2+1,none⟩=some (.int .i64 d.seq)):=Lib.hid fun W hk=>by
     obtain⟨g9,o9,c9,e9,h9⟩:=SlAt.dotc (HD.out.kept hk) (by omega)
     cases e9
     exact h9 n d hx
    clear hcs hx
    go_wp2_with fail
    clear c0 c1
    go_loopw [6] (fun kv w2=>∃k:Int,kv=.int .i64 k∧1≤k∧(k≤d.seq+1∨k=1)∧Kept (fun _=>False) w w2∧∀j:Int,1≤j→j<k→(⟨d.site,j⟩:Dot)∈l.map dotOf) (fun kv _=>(d.seq+1-intOf kv).toNat)
    case atStart=>exact⟨1,rfl,Int.le_refl _,.inr rfl,K1.out,fun j h1 h2=>by omega⟩
    case round =>
     obtain⟨k,rfl,hk1,hk2,hkk,hall⟩:=hrel
     have K2:=Lib.hid hkk
     have HA:=Lib.hid hall
     clear hkk hall
     obtain⟨c0,c1⟩:=CC.out _ K2.out
     have ek:IntKind.i64.wrap (k+1)=k+1:=IntWalk.i64_in _ (by omega)
     by_cases hks:k≤d.seq
     case neg =>
      go_wp2_with fail
      go_roundw
      case rel=>exact⟨n+1,by go_num,by omega,K2.out,by
       rw [TK.out]
       intro d' hd' j h1 h2
       rcases List.mem_append.1 hd' with hd' | hd'
       ·exact HW.out d' hd' j h1 h2
       ·rw [List.mem_singleton.1 hd'] at h2 ⊢
        exact HA.out j h1 (by omega)⟩
      case measure=>simp [intOf];omega
     case pos =>
      have TH:=Lib.hid (there_any (HL.out.kept K2.out) ⟨d.site,k⟩ (by omega))
      by_cases hin:(⟨d.site,k⟩:Dot)∈l.map dotOf
      case neg =>
       rw [decide_eq_false hin] at TH
       have NI:Hid (¬wholeP (l.map dotOf) D):=Lib.hid fun h9=>hin (h9 d DM.out k hk1 hks)
       clear hin
       go_wp2_with (go_at_call 44;refine TH.out.mono ?_;rintro e w3 ⟨rfl,hk3⟩)
       go_ret
       exact⟨⟨false,rfl,(fun h=>by cases h),fun h=>absurd h NI.out⟩,K2.out.trans hk3 fun _ _ h=>h⟩
      case pos =>
       rw [decide_eq_true hin] at TH
       have IN:=Lib.hid hin
       clear hin
       go_wp2_with (go_at_call 44;refine TH.out.mono ?_;rintro e w3 ⟨rfl,hk3⟩)
       go_roundw
       case rel=>exact⟨k+1,by go_num,by omega,.inl (by omega),K2.out.trans hk3 fun _ _ h=>h,fun j h1 h2=>by
        by_cases hj:j=k
        ·rw [hj];exact IN.out
        ·exact HA.out j h1 (by omega)⟩
       case measure=>simp [intOf];omega
end Go.Proofs.YtjohljmpcblpjaaGreatDoor.Pa
namespace Go.Proofs.YtjohljmpcblpjaaGreatDoor
open Go.RowKit Go.Proofs.YtjohljmpcblpjaaGreatDoor.Gl
theorem rcount_any {s:ByteArray}(hs:s.size≤1000000) (w:World):Calls Tryz.prog 120 #[.string s] w fun e w'=>e=.returned (.int .i64 (countR s))∧Kept (fun _=>False) w w':=by
 have HP:=Lib.hid (rpieces_any hs w)
 clear hs
 go_enter Tryz.func120,Tryz.ntmps120
 go_wp2_with (go_at_call 116;refine HP.out.mono ?_;rintro e w1 ⟨v,rfl,L,ho,hp,hk⟩;obtain⟨a,c,rfl⟩:=owns_sl ho)
 go_ret
 have hl:L.length=countR s:=by
  have h1:=congrArg List.length hp
  rw [List.length_map,List.length_map] at h1
  exact h1
 exact⟨by rw [←hl];rfl,hk⟩
end Go.Proofs.YtjohljmpcblpjaaGreatDoor
namespace Go.Proofs.YtjohljmpcblpjaaGreatDoor.St
open Go.RowKit
theorem why_bad {pre:List Run}{x:Run}(h:¬x.Ok):why pre x=1:=by unfold why;rw [if_pos h]
theorem why_ord {pre:List Run}{x p:Run}(h:x.Ok) (hp:pre.getLast?=some p) (hl:¬p.id.lt x.id):why pre x=9:=by
 unfold why
 rw [if_neg (fun e=>e h),if_pos ⟨p,hp,hl⟩]
theorem why_form {pre:List Run}{x p:Run}(h:x.Ok) (ho:∀p,pre.getLast?=some p→p.id.lt x.id) (hp:p∈pre) (h1:p.id.s=x.id.s) (h2:x.id.t≤p.id.t+p.c):why pre x=6:=by
 unfold why
 rw [if_neg (fun e=>e h),if_neg (fun⟨q,hq,hl⟩=>hl (ho q hq)),if_pos ⟨p,hp,h1,h2⟩]
theorem why_none {pre:List Run}{x:Run}(h:x.Ok) (ho:∀p,pre.getLast?=some p→p.id.lt x.id) (hn:∀p∈pre,¬(p.id.s=x.id.s∧x.id.t≤p.id.t+p.c)):why pre x=0:=by
 unfold why
 rw [if_neg (fun e=>e h),if_neg (fun⟨q,hq,hl⟩=>hl (ho q hq)),if_neg (fun⟨q,hq,hl⟩=>hn q hq hl)]
theorem mem_take {α:Type}{l:List α}{n k:Nat}{p:α}(h:l[k]?=some p) (hk:k<n):p∈l.take n:=by
 refine List.mem_of_getElem? (i:=k) ?_
 rw [List.getElem?_take,if_pos hk]
 exact h
theorem take_mem {α:Type}{l:List α}{n:Nat}{p:α}(h:p∈l.take n):∃k,k<n∧l[k]?=some p:=by
 obtain⟨k,hk⟩:=List.getElem?_of_mem h
 rw [List.getElem?_take] at hk
 split at hk
 ·exact⟨k,by assumption,hk⟩
 ·cases hk
def RcRel (w:World) (L:List Run) (iv:Value) (wr:World):Prop :=
 ∃n:Nat,iv=.int .i64 n∧n≤L.length∧Good (L.take n)∧Kept (fun _=>False) w wr
theorem rcheck_any {w:World}{v:Value}{L:List Run}(h:SlAt runE w v L) (hin:∀r∈L,r.In) (hb:L.length≤1000000000):Calls Tryz.prog 83 #[v] w fun e w'=>∃c,e=.returned (.int .i64 c)∧CheckIs L c∧Kept (fun _=>False) w w':=by
 obtain⟨a,c,rfl,_,_⟩:=h.sl
 have HI:=Lib.hid hin
 have HS:=Lib.hid h
 clear hin h
 go_enter Tryz.func83,Tryz.ntmps83
 go_wp2_with fail
 go_loopw [3] (fun iv wr=>RcRel w L iv wr) (fun iv _=>L.length-(intOf iv).toNat)
 case atStart=>exact⟨0,rfl,Nat.zero_le _,fun n x hx=>by simp at hx,Kept.refl _ _⟩
 case round =>
  obtain⟨n,rfl,hn,hgood,hkw⟩:=hrel
  have GD:=Lib.hid hgood
  clear hgood
  by_cases hlt:n<L.length
  case neg =>
   have hge:L.length≤n:=by omega
   go_wp2_with fail
   go_ret
   exact⟨0,rfl,.inl ⟨rfl,by have:=GD.out;rwa [List.take_of_length_le hge] at this⟩,hkw⟩
  case pos =>
   obtain⟨x,hx⟩:=get_of_lt hlt
   obtain⟨g,o,c',hv,hglt,hc⟩:=SlAt.run (HS.out.kept hkw) (by omega)
   cases hv
   obtain⟨c0,c1,c2⟩:=hc n x hx
   obtain⟨i1,i2,i3⟩:=HI.out x (List.mem_of_getElem? hx)
   unfold I64 at i1 i2 i3
   have HC:=Lib.hid hc
   have X0:=Lib.hid hx
   clear hc hx
   have hn0:(0:Int)≤n:=by omega
   have hnl:(n:Int)<L.length:=by omega
   have hisd:=isid_core x.id.t x.id.s (wr.alloc (.cells #[.int .i64 x.id.t,.int .i64 x.id.s,.int .i64 x.c] 89))
   have HB1:=Lib.hid (Blk.new wr 89 #[.int .i64 x.id.t,.int .i64 x.id.s,.int .i64 x.c])
   have HK1:=Lib.hid (show Kept (fun _=>False) wr (wr.alloc (.cells #[.int .i64 x.id.t,.int .i64 x.id.s,.int .i64 x.c] 89)) from (Kept.refl _ _).alloc _)
   have KW:=Lib.hid hkw
   clear hkw
   by_cases hc1:x.c<1
   ·have HW:=Lib.hid (why_bad (pre:=L.take n) (x:=x) (fun e=>by have:=e.1;omega))
    go_wp2_with fail
    go_ret
    exact⟨1,rfl,.inr ⟨n,x,X0.out,GD.out,HW.out,by decide⟩,KW.out.trans HK1.out (fun _ _ h=>h)⟩
   cases hb1:isB x.id
   ·have HW:=Lib.hid (why_bad (pre:=L.take n) (x:=x) (fun e=>by have:=e.2.1;simp [isB,this] at hb1))
    rw [show isB ⟨x.id.t,x.id.s⟩=false from hb1] at hisd
    clear hb1
    go_wp2_with fail
    refine hisd.mono ?_
    rintro e w1 ⟨rfl,hg1⟩
    go_wp2_with fail
    go_ret
    exact⟨1,rfl,.inr ⟨n,x,X0.out,GD.out,HW.out,by decide⟩,(KW.out.trans HK1.out (fun _ _ h=>h)).trans hg1.kept (fun _ _ h=>h)⟩
   have hIs:x.id.Is:=of_decide_eq_true hb1
   rw [show isB ⟨x.id.t,x.id.s⟩=true from hb1] at hisd
   clear hb1
   have HIs:=Lib.hid hIs
   unfold ID.Is at hIs
   obtain⟨j1,j2,j3,j4⟩:=hIs
   by_cases hov:2147483647-x.id.t<x.c-1
   ·have HW:=Lib.hid (why_bad (pre:=L.take n) (x:=x) (fun e=>by have:=e.2.2;omega))
    go_wp2_with fail
    refine hisd.mono ?_
    rintro e w1 ⟨rfl,hg1⟩
    have q0:_=some (Value.int .i64 x.id.t):=(hg1.box HB1.out).cell' (i:=0) rfl
    have q2:_=some (Value.int .i64 x.c):=(hg1.box HB1.out).cell' (i:=2) rfl
    go_wp2_with fail
    go_ret
    exact⟨1,rfl,.inr ⟨n,x,X0.out,GD.out,HW.out,by decide⟩,(KW.out.trans HK1.out (fun _ _ h=>h)).trans hg1.kept (fun _ _ h=>h)⟩
   have OK:=Lib.hid (show x.Ok from ⟨by omega,HIs.out,by omega⟩)
   go_wp2_with fail
   refine hisd.mono ?_
   rintro e w1 ⟨rfl,hg1⟩
   have hB2:=hg1.box HB1.out
   have hk2:=HK1.out.trans hg1.kept (fun _ _ h=>h)
   have HB2:=Lib.hid hB2
   have HK2:=Lib.hid hk2
   have q0:_=some (Value.int .i64 x.id.t):=hB2.cell' (i:=0) rfl
   have q1:_=some (Value.int .i64 x.id.s):=hB2.cell' (i:=1) rfl
   have q2:_=some (Value.int .i64 x.c):=hB2.cell' (i:=2) rfl
   clear hB2 hk2 hg1 hisd HK1 HB1 c0 c1 c2
   have hcs:(∃m p,n=m+1∧L[m]?=some p)∨n=0:=by
    cases n with
    | zero=>exact .inr rfl
    | succ m =>
     obtain⟨p,hp⟩:=get_of_lt (show m<L.length by omega)
     exact .inl ⟨m,p,rfl,hp⟩
   rcases hcs with ⟨m,p,rfl,hp⟩|hnz
   focus
    obtain⟨p0,p1,_⟩:=HC.out m p hp
    have p0:=old_cell HK2.out p0
    have p1:=old_cell HK2.out p1
    have P0:=Lib.hid hp
    have hm0:(0:Int)≤m:=by omega
    have hml:(m:Int)<L.length:=by omega
    have hw1:IntKind.i64.wrap (m:Int)=(m:Int):=IntWalk.i64_in _ (by omega)
    have hd:decide ((0:Int)<(m:Int)+1)=true:=decide_eq_true (by omega)
    clear hp
    by_cases hord:p.id.lt x.id
    case neg =>
     have hd2:decide ((0:Int)≤p.id.cmp x.id)=true:=decide_eq_true (Int.not_lt.1 fun e=>hord (cmp_lt.1 e))
     have HW:=Lib.hid (why_ord OK.out (take_last P0.out) hord)
     clear hord
     go_wp2_with fail
     go_region_held3 (fun w'=>w'.cell? ⟨wr.heap.size,0,none⟩=some (.int .i64 x.id.t)∧w'.cell? ⟨wr.heap.size,1,none⟩=some (.int .i64 x.id.s)∧w'.cell? ⟨g,o+m * 3,none⟩=some (.int .i64 p.id.t)∧w'.cell? ⟨g,o+m * 3+1,none⟩=some (.int .i64 p.id.s)) (first | exact⟨q0,q1,p0,p1⟩) (first | (go_simp;go_at_call 123;refine (rcompare_any p.id x.id _).mono ?_;rintro e w2 ⟨rfl,hg2⟩;have q0:=old_cell hg2.kept q0;have q1:=old_cell hg2.kept q1;have p0:=old_cell hg2.kept p0;have p1:=old_cell hg2.kept p1))
     go_wp2_with fail
     go_ret
     exact⟨9,rfl,.inr ⟨m+1,x,X0.out,GD.out,HW.out,by decide⟩,KW.out.trans (HK2.out.drew.trans hg2.kept (fun _ _ h=>h)) (fun _ _ h=>h)⟩
    have hd2:decide ((0:Int)≤p.id.cmp x.id)=false:=decide_eq_false (by have:=cmp_lt.2 hord;omega)
    have ORD:Hid (∀p,(L.take (m+1)).getLast?=some p→p.id.lt x.id):=fun q hq=>by
     cases Option.some.inj (hq.symm.trans (take_last P0.out))
     exact hord
    clear hord
    go_wp2_with fail
    go_region_held3 (fun w'=>w'.cell? ⟨wr.heap.size,0,none⟩=some (.int .i64 x.id.t)∧w'.cell? ⟨wr.heap.size,1,none⟩=some (.int .i64 x.id.s)∧w'.cell? ⟨g,o+m * 3,none⟩=some (.int .i64 p.id.t)∧w'.cell? ⟨g,o+m * 3+1,none⟩=some (.int .i64 p.id.s)) (first | exact⟨q0,q1,p0,p1⟩) (first | (go_simp;go_at_call 123;refine (rcompare_any p.id x.id _).mono ?_;rintro e w2 ⟨rfl,hg2⟩;have q0:=old_cell hg2.kept q0;have q1:=old_cell hg2.kept q1;have p0:=old_cell hg2.kept p0;have p1:=old_cell hg2.kept p1))
    go_wp2_with fail
    have KX:=Lib.hid (HK2.out.drew.trans hg2.kept (fun _ _ h=>h))
    have BX:=Lib.hid (hg2.box HB2.out)
    clear hg2 p0 p1 q0 q1 q2 hd hd2 hw1 hm0 hml P0 HK2 HB2
    rw [show (m:Int)+1=((m+1:Nat):Int) from rfl]
    generalize hmn:m+1=n at *
    generalize w2=W at *
   rotate_left
   focus
    have hd:decide ((0:Int)<n)=false:=decide_eq_false (by omega)
    have hd':decide (0<n)=false:=decide_eq_false (by omega)
    have ORD:Hid (∀p,(L.take n).getLast?=some p→p.id.lt x.id):=fun q hq=>by simp [hnz] at hq
    clear hnz
    go_wp2_with fail
    go_quiet (fail)
    have KX:=Lib.hid (HK2.out.drewN nq)
    have BX:=Lib.hid (HB2.out.drewN nq)
    generalize w1.drewN nq=W at *
    clear hd hd' q0 q1 q2 HK2 HB2
   all_goals
    have hns:n<L.length:=hlt
    go_wp2_with fail
    go_loopw [5] (fun kv w6=>∃k:Nat,kv=.int .i64 k∧k≤n∧(∀(j:Nat) (p:Run),j<k→L[j]?=some p→¬(p.id.s=x.id.s∧x.id.t≤p.id.t+p.c))∧Kept (fun _=>False) W w6) (fun kv _=>n-(intOf kv).toNat)
    case atStart=>exact⟨0,rfl,Nat.zero_le _,fun j p hj _=>by omega,Kept.refl _ _⟩
    case round =>
     obtain⟨k,rfl,hk,hno,hk6⟩:=hrel
     have NO:=Lib.hid hno
     clear hno
     by_cases hkn:k<n
     case neg =>
      have HW:=Lib.hid (why_none OK.out ORD.out (fun q hq=>by
       obtain⟨j,hj,hq⟩:=take_mem hq
       exact NO.out j q (by omega) hq))
      have hkz:¬(k:Int)<n:=by omega
      go_wp2_with fail
      go_roundw
      case rel=>exact⟨n+1,by go_num,by omega,good_next X0.out GD.out HW.out,KW.out.trans (KX.out.trans hk6 (fun _ _ h=>h)) (fun _ _ h=>h)⟩
      case measure=>simp [intOf] <;> omega
     case pos =>
      obtain⟨p,hp⟩:=get_of_lt (show k<L.length by omega)
      obtain⟨r0,r1,r2⟩:=HC.out k p hp
      have hk7:=KX.out.trans hk6 (fun _ _ h=>h)
      have r0:=old_cell hk7 r0
      have r1:=old_cell hk7 r1
      have r2:=old_cell hk7 r2
      have hB7:=hk6.blk (fun h=>h) BX.out
      have q0:_=some (Value.int .i64 x.id.t):=hB7.cell' (i:=0) rfl
      have q1:_=some (Value.int .i64 x.id.s):=hB7.cell' (i:=1) rfl
      obtain⟨l1,l2,l3⟩:=GD.out.ok p (mem_take hp hkn)
      unfold ID.Is at l2
      obtain⟨l4,l5,l6,l7⟩:=l2
      have hk0:(0:Int)≤k:=by omega
      have hkI:(k:Int)<n:=by omega
      have hkL:(k:Int)<L.length:=by omega
      have P0:=Lib.hid hp
      clear hp hB7 hk7
      by_cases e1:p.id.s=x.id.s
      ·have e1b:(p.id.s == x.id.s)=true:=by simpa using e1
       by_cases e2:x.id.t≤p.id.t+p.c
       ·have HW:=Lib.hid (why_form OK.out ORD.out (mem_take P0.out hkn) e1 e2)
        have e2b:decide (x.id.t≤p.id.t+p.c)=true:=decide_eq_true e2
        clear e1 e2
        go_wp2_with fail
        go_quiet (fail)
        go_wp2_with fail
        go_ret
        exact⟨6,rfl,.inr ⟨n,x,X0.out,GD.out,HW.out,by decide⟩,KW.out.trans ((KX.out.trans hk6 (fun _ _ h=>h)).drewN _) (fun _ _ h=>h)⟩
       ·have e2b:decide (x.id.t≤p.id.t+p.c)=false:=decide_eq_false e2
        have E2:=Lib.hid e2
        clear e1 e2
        go_wp2_with fail
        go_quiet (fail)
        go_wp2_with fail
        go_roundw
        case rel =>
         refine⟨k+1,by go_num,by omega,fun j q hj hq=>?_,hk6.drewN _⟩
         by_cases hjk:j=k
         ·subst hjk;cases Option.some.inj (P0.out.symm.trans hq);exact fun h=>by have h1:=E2.out;have h2:=h.2;omega
         ·exact NO.out j q (by omega) hq
        case measure=>simp [intOf] <;> omega
      ·have e1b:(p.id.s == x.id.s)=false:=by simpa using e1
       have E1:=Lib.hid e1
       clear e1
       go_wp2_with fail
       go_quiet (fail)
       go_wp2_with fail
       go_roundw
       case rel =>
        refine⟨k+1,by go_num,by omega,fun j q hj hq=>?_,hk6.drewN _⟩
        by_cases hjk:j=k
        ·subst hjk;cases Option.some.inj (P0.out.symm.trans hq);exact fun h=>E1.out h.1
        ·exact NO.out j q (by omega) hq
       case measure=>simp [intOf] <;> omega
end Go.Proofs.YtjohljmpcblpjaaGreatDoor.St
