/- hearsayref24.Closed. hearsayref24.Text. hearsayref24.Nodes. -/
import Derived.Test.YtjohljmpcblpjaaGreatDoorM41
import Derived.Test.YtjohljmpcblpjaaGreatDoorM38
set_option maxRecDepth 100000
set_option maxHeartbeats 8000000
namespace Go.Proofs.YtjohljmpcblpjaaGreatDoor.Pa
open Go.RowKit Go.Proofs.YtjohljmpcblpjaaGreatDoor.St Go.Proofs.YtjohljmpcblpjaaGreatDoor
theorem rclosed_any {w:World}{lv:Value}{l:List Ent}(hl:SlAt entE w lv l) (hin:∀e∈l,OpIn w e) (hlen:l.length≤1000000) (hdl:∀e∈l,e.D.length≤1000000∧e.G.length≤1000000∧e.v.text.size≤1000000) :
  Calls Tryz.prog 13 #[lv] w fun e w'=>e=.returned (.int .i64 (closedE l))∧Kept (fun _=>False) w w':=by
 obtain⟨la,lc,rfl,hlc,_⟩:=hl.sl
 have HL:=Lib.hid hl
 have HI:=Lib.hid hin
 have HDL:=Lib.hid hdl
 have HLC:Hid ((l.length:Int)≤lc):=Lib.hid (by omega)
 obtain⟨C,hC⟩:∃C,closedE l=C:=⟨_,rfl⟩
 rw [hC]
 have HC:=Lib.hid hC
 clear hl hin hdl hC
 go_enter Tryz.func13,Tryz.ntmps13
 go_wp2_with fail
 go_loopw [3] (fun iv wr=>∃n:Nat,iv=.int .i64 n∧n≤l.length∧Kept (fun _=>False) w wr∧∀e∈l.take n,opOk e.v e.D e.G) (fun iv _=>l.length-(intOf iv).toNat)
 case atStart=>exact⟨0,rfl,Nat.zero_le _,Kept.refl _ _,fun e he=>by simp at he⟩
 case round =>
  obtain⟨n,rfl,hn,hk,hok⟩:=hrel
  have hn0:(0:Int)≤n:=by omega
  have K1:=Lib.hid hk
  have HO:=Lib.hid hok
  clear hk hok
  by_cases hlt:n<l.length
  case pos =>
   have hnl:(n:Int)<l.length:=by omega
   obtain⟨x,hx⟩:=get_of_lt hlt
   have hxm:=List.mem_of_getElem? hx
   have hin:=HI.out x hxm
   have hdl:=HDL.out x hxm
   have htk:l.take (n+1)=l.take n++[x]:=by rw [List.take_add_one,hx];rfl
   obtain⟨lg,lo,lc',e2,hcs⟩:=SlAt.opc (HL.out.kept K1.out) (by omega)
   cases e2
   have hc:=hcs n x hx
   obtain⟨⟨⟨ds,dq⟩,⟨da,dn,dc⟩,kd,⟨it,is⟩,⟨rt,rs⟩,tx,⟨ga,gn,gc⟩,st⟩,D,G⟩:=x
   obtain⟨c0,c1,c2,c3,c4,c5,c6,c7,c8,c9,c10⟩:=hc
   have e1:IntKind.i64.wrap ((n:Int)+1)=(n:Int)+1:=IntWalk.i64_in _ (by omega)
   have TK:=Lib.hid htk
   have XM:=Lib.hid hxm
   have XI:=Lib.hid hin
   have XD:=Lib.hid hdl
   clear hcs hx hxm hin hdl htk
   have CK:=Lib.hid (rcheck8_any ⟨⟨ds,dq⟩,⟨da,dn,dc⟩,kd,⟨it,is⟩,⟨rt,rs⟩,tx,⟨ga,gn,gc⟩,st⟩ (XI.out.at_.deps.kept K1.out) (XI.out.at_.gone.kept K1.out) XI.out.runs XD.out.1 XD.out.2.1 XD.out.2.2)
   by_cases hop:opOk ⟨⟨ds,dq⟩,⟨da,dn,dc⟩,kd,⟨it,is⟩,⟨rt,rs⟩,tx,⟨ga,gn,gc⟩,st⟩ D G
   case neg =>
    have hC:opC ⟨⟨ds,dq⟩,⟨da,dn,dc⟩,kd,⟨it,is⟩,⟨rt,rs⟩,tx,⟨ga,gn,gc⟩,st⟩ D G=10:=if_neg hop
    rw [hC] at CK
    obtain rfl:C=10:=HC.out.symm.trans (closed_bad XM.out hop)
    clear hop hC
    go_wp2_with (go_at_call 43;refine CK.out.mono ?_;rintro e w2 ⟨rfl,hk2⟩)
    go_ret
    exact⟨rfl,K1.out.trans hk2 fun _ _ h=>h⟩
   case pos =>
    have hC:opC ⟨⟨ds,dq⟩,⟨da,dn,dc⟩,kd,⟨it,is⟩,⟨rt,rs⟩,tx,⟨ga,gn,gc⟩,st⟩ D G=0:=if_pos hop
    rw [hC] at CK
    have OP:=Lib.hid hop
    clear hop hC
    go_wp2_with (go_at_call 43;refine CK.out.mono ?_;rintro e w2 ⟨rfl,hk2⟩)
    go_roundw
    case rel=>exact⟨n+1,by go_num,by omega,K1.out.trans hk2 fun _ _ h=>h,fun e he=>by
     rw [TK.out] at he
     rcases List.mem_append.1 he with he|he
     ·exact HO.out e he
     ·rw [List.mem_singleton.1 he];exact OP.out⟩
    case measure=>simp [intOf];omega
  case neg =>
   have hnl:¬(n:Int)<l.length:=by omega
   have ALL:Hid (∀e∈l,opOk e.v e.D e.G):=Lib.hid (by
    have h9:=HO.out
    rwa [List.take_of_length_le (by omega)] at h9)
   go_wp2_with fail
   obtain⟨W2,hW2⟩:∃W2,wr=W2:=⟨_,rfl⟩
   rw [hW2] at K1 ⊢
   have K0:=K1
   clear hW2 HO K1
   go_loopw [4] (fun iv wr=>∃n:Nat,iv=.int .i64 n∧n≤l.length∧Kept (fun _=>False) w wr∧((l.take n).map dotOf).Nodup) (fun iv _=>l.length-(intOf iv).toNat)
   case atStart=>exact⟨0,rfl,Nat.zero_le _,K0.out,List.nodup_nil⟩
   case round =>
    clear K0
    obtain⟨n,rfl,hn,hk,hnd⟩:=hrel
    have hn0:(0:Int)≤n:=by omega
    have K1:=Lib.hid hk
    have ND:=Lib.hid hnd
    clear hk hnd
    by_cases hlt:n<l.length
    case pos =>
     have hnl:(n:Int)<l.length:=by omega
     obtain⟨x,hx⟩:=get_of_lt hlt
     have hxm:=List.mem_of_getElem? hx
     have hin:=HI.out x hxm
     have hdl:=HDL.out x hxm
     have htk:l.take (n+1)=l.take n++[x]:=by rw [List.take_add_one,hx];rfl
     obtain⟨lg,lo,lc',e2,hcs⟩:=SlAt.opc (HL.out.kept K1.out) (by omega)
     cases e2
     have hc:=hcs n x hx
     obtain⟨⟨⟨ds,dq⟩,⟨da,dn,dc⟩,kd,⟨it,is⟩,⟨rt,rs⟩,tx,⟨ga,gn,gc⟩,st⟩,D,G⟩:=x
     obtain⟨c0,c1,c2,c3,c4,c5,c6,c7,c8,c9,c10⟩:=hc
     have e1:IntKind.i64.wrap ((n:Int)+1)=(n:Int)+1:=IntWalk.i64_in _ (by omega)
     have TK:=Lib.hid htk
     have XM:=Lib.hid hxm
     have XI:=Lib.hid hin
     have XD:=Lib.hid hdl
     clear hcs hx hxm hin hdl htk
     have hnc:(n:Int)≤lc:=by have:=HLC.out;omega
     have TH:=Lib.hid (there_any (Tr.sl_pre (HL.out.kept K1.out) (n:=n) (by omega)) ⟨ds,dq⟩ (by rw [List.length_take];omega))
     have TH2:=Lib.hid (there_any (Tr.sl_pre (HL.out.kept K1.out.drew) (n:=n) (by omega)) ⟨ds,dq⟩ (by rw [List.length_take];omega))
     clear c2 c3 c4 c5 c6 c7 c8 c9 c10
     go_upto_region 9 with fail
     by_cases hd:(⟨ds,dq⟩:Dot)∈(l.take n).map dotOf
     case pos =>
      rw [decide_eq_true hd] at TH TH2
      obtain rfl:C=12:=HC.out.symm.trans (closed_twice ALL.out fun h9=>by
       rw [←List.take_append_drop (n+1) l,TK.out,List.map_append,List.map_append] at h9
       have h8:=(List.nodup_append.1 (List.nodup_append.1 h9).1).2.2 _ hd (⟨ds,dq⟩:Dot) (by simp [dotOf])
       exact h8 rfl)
      clear hd
      go_region_held3 (fun W9:World=>W9.cell? ⟨lg,lo+n * 11,none⟩=some (.int .i64 ds)∧W9.cell? ⟨lg,lo+n * 11+1,none⟩=some (.int .i64 dq)) (first | exact⟨c0,c1⟩ | exact⟨K9.out.cell c0,K9.out.cell c1⟩) ((go_at_call 44;(first | refine TH2.out.mono ?_ | refine TH.out.mono ?_);rintro e w3 ⟨rfl,hk3⟩;have K9:Hid (Kept (fun _=>False) wr w3):=Lib.hid ((Kept.refl _ _).drew.trans hk3 fun _ _ h=>h)))
      all_goals go_wp2_with fail
      all_goals go_ret
      all_goals exact⟨rfl,K1.out.trans K9.out fun _ _ h=>h⟩
     case neg =>
      rw [decide_eq_false hd] at TH TH2
      have DN:=Lib.hid hd
      clear hd
      go_region_held3 (fun W9:World=>W9.cell? ⟨lg,lo+n * 11,none⟩=some (.int .i64 ds)∧W9.cell? ⟨lg,lo+n * 11+1,none⟩=some (.int .i64 dq)) (first | exact⟨c0,c1⟩ | exact⟨K9.out.cell c0,K9.out.cell c1⟩) ((go_at_call 44;(first | refine TH2.out.mono ?_ | refine TH.out.mono ?_);rintro e w3 ⟨rfl,hk3⟩;have K9:Hid (Kept (fun _=>False) wr w3):=Lib.hid ((Kept.refl _ _).drew.trans hk3 fun _ _ h=>h)))
      all_goals
       go_wp2_with fail
       go_roundw
       case rel=>exact⟨n+1,by go_num,by omega,K1.out.trans K9.out fun _ _ h=>h,by
        rw [TK.out,List.map_append]
        exact List.nodup_append.2 ⟨ND.out,by simp,fun a ha b hb e=>DN.out (by
         simp only [List.map_cons,List.map_nil,List.mem_singleton] at hb
         rw [←show b=(⟨ds,dq⟩:Dot) from hb,←e]
         exact ha)⟩⟩
       case measure=>simp [intOf];omega
    case neg =>
     have hnl:¬(n:Int)<l.length:=by omega
     have NDA:Hid ((l.map dotOf).Nodup):=Lib.hid (by have h9:=ND.out;rwa [List.take_of_length_le (by omega)] at h9)
     go_wp2_with fail
     obtain⟨W5,hW5⟩:∃W5,wr=W5:=⟨_,rfl⟩
     rw [hW5] at K1 ⊢
     have K0:=K1
     clear hW5 ND K1
     go_loopw [5] (fun iv wr=>∃n:Nat,iv=.int .i64 n∧n≤l.length∧Kept (fun _=>False) w wr∧∀e∈l.take n,wholeP (l.map dotOf) e.D) (fun iv _=>l.length-(intOf iv).toNat)
     case atStart=>exact⟨0,rfl,Nat.zero_le _,K0.out,fun e he=>by simp at he⟩
     case round =>
      clear K0
      obtain⟨n,rfl,hn,hk,hwh⟩:=hrel
      have hn0:(0:Int)≤n:=by omega
      have K1:=Lib.hid hk
      have WH:=Lib.hid hwh
      clear hk hwh
      by_cases hlt:n<l.length
      case neg =>
       have hnl:¬(n:Int)<l.length:=by omega
       have WA:Hid (∀e∈l,wholeP (l.map dotOf) e.D):=Lib.hid (by have h9:=WH.out;rwa [List.take_of_length_le (by omega)] at h9)
       obtain rfl:C=0:=HC.out.symm.trans (closedC_is (fun e he hb=>hb (ALL.out e he)) NDA.out WA.out)
       go_wp2_with fail
       go_ret
       exact⟨rfl,K1.out⟩
      case pos =>
       have hnl:(n:Int)<l.length:=by omega
       obtain⟨x,hx⟩:=get_of_lt hlt
       have hxm:=List.mem_of_getElem? hx
       have hin:=HI.out x hxm
       have hdl:=HDL.out x hxm
       have htk:l.take (n+1)=l.take n++[x]:=by rw [List.take_add_one,hx];rfl
       obtain⟨lg,lo,lc',e2,hcs⟩:=SlAt.opc (HL.out.kept K1.out) (by omega)
       cases e2
       have hc:=hcs n x hx
       obtain⟨⟨⟨ds,dq⟩,⟨da,dn,dc⟩,kd,⟨it,is⟩,⟨rt,rs⟩,tx,⟨ga,gn,gc⟩,st⟩,D,G⟩:=x
       obtain⟨c0,c1,c2,c3,c4,c5,c6,c7,c8,c9,c10⟩:=hc
       have e1:IntKind.i64.wrap ((n:Int)+1)=(n:Int)+1:=IntWalk.i64_in _ (by omega)
       have TK:=Lib.hid htk
       have XM:=Lib.hid hxm
       have XI:=Lib.hid hin
       have XD:=Lib.hid hdl
       clear hcs hx hxm hin hdl htk
       have HAS:=Lib.hid (whole_any (HL.out.kept K1.out) hlen (XI.out.at_.deps.kept K1.out) (by have:=XD.out.1;omega))
       by_cases hwd:wholeP (l.map dotOf) D
       case neg =>
        obtain rfl:C=20:=HC.out.symm.trans (closed_lacks ALL.out NDA.out XM.out hwd)
        have HAS2:Hid (Calls Tryz.prog 45 #[.slice (some ⟨lg,lo,none⟩) l.length lc,.slice da dn dc] wr fun e w'=>e=.returned (.bool false)∧Kept (fun _=>False) wr w'):=Lib.hid (HAS.out.mono fun e w' h9=>by
         obtain⟨⟨r,he,hr⟩,hk⟩:=h9
         cases r
         ·exact⟨he,hk⟩
         ·exact absurd (hr.1 rfl) hwd)
        clear hwd HAS
        go_wp2_with (go_at_call 45;refine HAS2.out.mono ?_;rintro e w2 ⟨rfl,hk2⟩)
        go_ret
        exact⟨rfl,K1.out.trans hk2 fun _ _ h=>h⟩
       case pos =>
        have HAS2:Hid (Calls Tryz.prog 45 #[.slice (some ⟨lg,lo,none⟩) l.length lc,.slice da dn dc] wr fun e w'=>e=.returned (.bool true)∧Kept (fun _=>False) wr w'):=Lib.hid (HAS.out.mono fun e w' h9=>by
         obtain⟨⟨r,he,hr⟩,hk⟩:=h9
         rw [hr.2 hwd] at he
         exact⟨he,hk⟩)
        have WD:=Lib.hid hwd
        clear hwd HAS
        go_wp2_with (go_at_call 45;refine HAS2.out.mono ?_;rintro e w2 ⟨rfl,hk2⟩)
        go_roundw
        case rel=>exact⟨n+1,by go_num,by omega,K1.out.trans hk2 fun _ _ h=>h,fun e he=>by
         rw [TK.out] at he
         rcases List.mem_append.1 he with he|he
         ·exact WH.out e he
         ·rw [List.mem_singleton.1 he];exact WD.out⟩
        case measure=>simp [intOf];omega
end Go.Proofs.YtjohljmpcblpjaaGreatDoor.Pa
namespace Go.Proofs.YtjohljmpcblpjaaGreatDoor.Pa
open Go.RowKit Go.Proofs.YtjohljmpcblpjaaGreatDoor.St Go.Proofs.YtjohljmpcblpjaaGreatDoor Go.Proofs.YtjohljmpcblpjaaGreatDoor.Tr
attribute [local go_sem] Oper.semAt_some
structure Small (l:List Ent):Prop where
 len:l.length≤1000
 each:∀e∈l,e.D.length≤1000000∧e.G.length≤1000000∧e.v.text.size≤100000
 text:textN l≤800000
theorem rtextd_any {w:World}{lv:Value}{l:List Ent}(hl:SlAt entE w lv l) (hin:∀e∈l,OpIn w e) (hs:Small l) :
  Calls Tryz.prog 18 #[lv] w fun e w'=>e=.returned (.tuple #[.string ⟨(textB (shL (docS l))).toArray⟩,.int .i64 (closedE l)])∧Kept (fun _=>False) w w':=by
 have CLO:=Lib.hid (rclosed_any hl hin (by have:=hs.len;omega) fun e he=>⟨(hs.each e he).1,(hs.each e he).2.1,by have:=(hs.each e he).2.2;omega⟩)
 have HL:=Lib.hid hl
 have HIN:=Lib.hid hin
 have HS:=Lib.hid hs
 clear hl hin hs
 by_cases hc:closedE l=0
 case neg =>
  have HD:Hid (docS l=[]):=Lib.hid (if_neg hc)
  obtain⟨c,hcc⟩:∃c,closedE l=c:=⟨_,rfl⟩
  rw [hcc] at CLO hc ⊢
  clear hcc
  go_enter Tryz.func18,Tryz.ntmps18
  go_wp2_with (go_at_call 13;refine CLO.out.mono ?_;rintro e w1 ⟨rfl,hk1⟩)
  go_ret2
  exact⟨by rw [HD.out];rfl,hk1⟩
 case pos =>
  have HC:=Lib.hid hc
  have HD:Hid (docS l=docP l):=Lib.hid (if_pos hc)
  rw [hc] at CLO ⊢
  have hn:(docP l).length≤900000:=by have h1:=docP_len (closed_is hc).1;have h2:=HS.out.text;omega
  have HN:=Lib.hid hn
  clear hc hn
  go_enter Tryz.func18,Tryz.ntmps18
  go_upto_region 4 with (go_at_call 13;refine CLO.out.mono ?_;rintro e w1 ⟨rfl,hk1⟩)
  have WH:=Lib.hid (rwhole_any (HL.out.kept hk1) (fun e he=>Pa.OpIn.kept (HIN.out e he) hk1) HC.out HS.out.len HS.out.each HS.out.text)
  have K1:=Lib.hid hk1
  clear hk1
  go_wp2_with (first
   | (go_at_call 56;refine WH.out.mono ?_;rintro e w2 ⟨⟨u,rfl,hu,hr,_⟩,hk2⟩;have TX:=Lib.hid (rtext_any hu HN.out fun n hn=>(docP_good _ n hn).2);have K2:=Lib.hid (K1.out.trans hk2 fun _ _ h=>h);clear hu hr hk2)
   | (go_at_call 55;refine TX.out.mono ?_;rintro e w3 ⟨rfl,hk3⟩))
  go_ret2
  exact⟨by rw [HD.out];rfl,K2.out.trans hk3 fun _ _ h=>h⟩
end Go.Proofs.YtjohljmpcblpjaaGreatDoor.Pa
namespace Go.Proofs.YtjohljmpcblpjaaGreatDoor.Pa
open Go.RowKit Go.Proofs.YtjohljmpcblpjaaGreatDoor.St Go.Proofs.YtjohljmpcblpjaaGreatDoor Go.Proofs.YtjohljmpcblpjaaGreatDoor.Tr
attribute [local go_sem] Oper.semAt_some
theorem setD_good {L:List Nd}(h:∀n∈L,GoodN n) (e:Ent):∀n∈setD L e,GoodN n:=by
 unfold setD
 split
 ·exact turn_good h _ _ _
 ·exact h
theorem foldS_good:∀(R:List Ent) (L:List Nd),(∀n∈L,GoodN n)→∀n∈R.foldl setD L,GoodN n
 | [],_,h=>h
 | e::R,_,h=>foldS_good R _ (setD_good h e)
theorem upto_take_snoc (B:List Dot){l:List Ent}{i:Nat}{x:Ent}(hx:l[i]?=some x):uptoL B (l.take (i+1))=if hasV B x.v.dot then uptoL B (l.take i)++[x] else uptoL B (l.take i):=by
 rw [List.take_add_one,hx]
 exact upto_snoc B _ x
theorem rnodes_any {w:World}{lv bv:Value}{l:List Ent}{B:List Dot}(hl:SlAt entE w lv l) (hin:∀e∈l,OpIn w e) (hs:Small l)
  (hB:SlAt dotE w bv B) (hBl:B.length≤1000000):Calls Tryz.prog 26 #[lv,bv] w (NodesPost w l B):=by
 have CLO:=Lib.hid (rclosed_any hl hin (by have:=hs.len;omega) fun e he=>⟨(hs.each e he).1,(hs.each e he).2.1,by have:=(hs.each e he).2.2;omega⟩)
 have HL:=Lib.hid hl
 have HIN:=Lib.hid hin
 have HS:=Lib.hid hs
 have HB:=Lib.hid hB
 obtain⟨la,lc,rfl,_,_⟩:=hl.sl
 obtain⟨ba,bc,rfl,_,_⟩:=hB.sl
 have hll:=hs.len
 clear hl hin hs hB
 by_cases hc:closedE l=0
 case neg =>
  have HN:=Lib.hid (And.intro (show nodesC l B=closedE l by unfold nodesC;rw [if_pos hc]) hc)
  obtain⟨c,hcc⟩:∃c,closedE l=c:=⟨_,rfl⟩
  rw [hcc] at CLO hc HN
  clear hcc
  go_enter Tryz.func26,Tryz.ntmps26
  go_wp2_with (go_at_call 13;refine CLO.out.mono ?_;rintro e w1 ⟨rfl,hk1⟩)
  go_ret2
  exact nodesPost_no HN.out.1 HN.out.2 hk1
 case pos =>
 have HC:=Lib.hid hc
 rw [hc] at CLO
 clear hc
 go_enter Tryz.func26,Tryz.ntmps26
 go_upto_region 4 with (go_at_call 13;refine CLO.out.mono ?_;rintro e w1 ⟨rfl,hk1⟩)
 have CK:=Lib.hid (rvcheck_any (HB.out.kept hk1) (by omega))
 have K1:=Lib.hid hk1
 clear hk1 CLO
 by_cases hv:chkV 0 B=0
 case neg =>
  have HN:=Lib.hid (And.intro (show nodesC l B=chkV 0 B by unfold nodesC;rw [if_neg (fun h=>h HC.out),if_pos hv]) hv)
  obtain⟨c,hcc⟩:∃c,chkV 0 B=c:=⟨_,rfl⟩
  rw [hcc] at CK HN hv
  clear hcc
  go_wp2_with (go_at_call 51;refine CK.out.mono ?_;rintro e w2 ⟨rfl,hk2⟩)
  go_ret2
  exact nodesPost_no HN.out.1 HN.out.2 (K1.out.trans hk2 fun _ _ h=>h)
 case pos =>
 have HV:=Lib.hid hv
 rw [hv] at CK
 clear hv
 go_upto_region 7 with (go_at_call 51;refine CK.out.mono ?_;rintro e w2 ⟨rfl,hk2⟩)
 have K2:=Lib.hid (K1.out.trans hk2 fun _ _ h=>h)
 obtain⟨hcl,hok,hwh⟩:=closed_is HC.out
 have COV:Hid (wholeP (l.map dotOf) B↔coversV (allV dotOf l) B):=Lib.hid (hcl.covers hwh HV.out)
 have ALL:=Lib.hid (rall_any (HL.out.kept K2.out) (by omega))
 have BK:=Lib.hid fun W (h:Kept (fun _=>False) w2 W)=>HB.out.kept (K2.out.trans h fun _ _ h=>h)
 have AL:Hid ((allV dotOf l).length≤1000000000):=Lib.hid (by have:=all_len l;omega)
 clear hk2 CK hcl hok hwh
 by_cases hw:coversV (allV dotOf l) B
 case neg =>
  have HN:Hid (nodesC l B=20):=Lib.hid (by unfold nodesC;rw [if_neg (fun h=>h HC.out),if_neg (fun h=>h HV.out),if_pos (.inl fun h=>hw (COV.out.1 h))])
  have HW:=Lib.hid (decide_eq_false hw)
  clear hw
  go_wp2_with (first
   | (go_at_call 67;refine ALL.out.mono ?_;rintro e w3 ⟨⟨u,rfl,hu⟩,hk3⟩;obtain⟨ua,uc,rfl,_,_⟩:=hu.sl;have CV:=Lib.hid (rcovers_any hu (BK.out _ hk3) AL.out (by omega));rw [HW.out] at CV;have K3:=Lib.hid (K2.out.trans hk3 fun _ _ h=>h);clear hu hk3)
   | (go_at_call 66;refine CV.out.mono ?_;rintro e w4 ⟨rfl,hk4⟩))
  go_ret2
  exact nodesPost_no HN.out (by decide) (K3.out.trans hk4 fun _ _ h=>h)
 case pos =>
 have HW:=Lib.hid (decide_eq_true hw)
 have UPC:Hid (∀W,Kept (fun _=>False) w2 W→Calls Tryz.prog 16 #[.slice la l.length lc,.slice ba B.length bc] W fun e w'=>(∃u,e=.returned u∧w'.ownsRow W.heap.size 62 11 u (uptoL B l).length (entE.flat (uptoL B l)))∧Kept (fun _=>False) W w'):=Lib.hid fun W h=>rupto_any (HL.out.kept (K2.out.trans h fun _ _ h=>h)) (by omega) (BK.out W h) (by omega) HV.out
 have ULN:Hid ((uptoL B l).length≤1000000):=Lib.hid (by have h1:(uptoL B l).length≤l.length:=List.length_filter_le _ _;omega)
 have CLU:Hid (∀W u,Kept (fun _=>False) w W→SlAt entE W u (uptoL B l)→Calls Tryz.prog 13 #[u] W fun e w'=>e=.returned (.int .i64 (closedE (uptoL B l)))∧Kept (fun _=>False) W w'):=Lib.hid fun W u h hu=>rclosed_any hu (fun e he=>Pa.OpIn.kept (HIN.out e (upto_mem he)) h) ULN.out fun e he=>by have:=HS.out.each e (upto_mem he);exact⟨this.1,this.2.1,by omega⟩
 obtain⟨cu,hcu⟩:∃cu,closedE (uptoL B l)=cu:=⟨_,rfl⟩
 rw [hcu] at CLU
 have WB:=Lib.hid (COV.out.2 hw)
 have HCU:=Lib.hid hcu
 clear hw hcu
 by_cases hu0:cu=0
 case neg =>
  have HN:Hid (nodesC l B=20):=Lib.hid (by unfold nodesC;rw [if_neg (fun h=>h HC.out),if_neg (fun h=>h HV.out),if_pos (.inr (by rw [HCU.out];exact hu0))])
  go_wp2_with (first
   | (go_at_call 67;refine ALL.out.mono ?_;rintro e w3 ⟨⟨u,rfl,hu⟩,hk3⟩;obtain⟨ua,uc,rfl,_,_⟩:=hu.sl;have CV:=Lib.hid (rcovers_any hu (BK.out _ hk3) AL.out (by omega));rw [HW.out] at CV;have K3:=Lib.hid hk3;clear hu hk3)
   | (go_at_call 66;refine CV.out.mono ?_;rintro e w4 ⟨rfl,hk4⟩;have K4:=Lib.hid (K3.out.trans hk4 fun _ _ h=>h);clear hk4)
   | (go_at_call 16;refine (UPC.out _ K4.out).mono ?_;rintro e w5 ⟨⟨v5,rfl,hv5⟩,hk5⟩;have K5:=Lib.hid ((K2.out.trans K4.out fun _ _ h=>h).trans hk5 fun _ _ h=>h);have CL5:=Lib.hid (CLU.out _ v5 K5.out (owns_slAt (E:=entE) hv5));clear hv5 hk5)
   | (go_at_call 13;refine CL5.out.mono ?_;rintro e w6 ⟨rfl,hk6⟩))
  go_ret2
  exact nodesPost_no HN.out (by decide) (K5.out.trans hk6 fun _ _ h=>h)
 case pos =>
 subst hu0
 have HN:Hid (nodesC l B=0):=Lib.hid (by unfold nodesC;rw [if_neg (fun h=>h HC.out),if_neg (fun h=>h HV.out),if_neg (fun h=>h.elim (fun h=>h WB.out) (fun h=>h HCU.out))])
 go_upto_region 9 with (first
   | (go_at_call 67;refine ALL.out.mono ?_;rintro e w3 ⟨⟨u,rfl,hu⟩,hk3⟩;obtain⟨ua,uc,rfl,_,_⟩:=hu.sl;have CV:=Lib.hid (rcovers_any hu (BK.out _ hk3) AL.out (by omega));rw [HW.out] at CV;have K3:=Lib.hid hk3;clear hu hk3)
   | (go_at_call 66;refine CV.out.mono ?_;rintro e w4 ⟨rfl,hk4⟩;have K4:=Lib.hid (K3.out.trans hk4 fun _ _ h=>h);clear hk4)
   | (go_at_call 16;refine (UPC.out _ K4.out).mono ?_;rintro e w5 ⟨⟨v5,rfl,hv5⟩,hk5⟩;have K5:=Lib.hid ((K2.out.trans K4.out fun _ _ h=>h).trans hk5 fun _ _ h=>h);have CL5:=Lib.hid (CLU.out _ v5 K5.out (owns_slAt (E:=entE) hv5));clear hv5 hk5)
   | (go_at_call 13;refine CL5.out.mono ?_;rintro e w6 ⟨rfl,hk6⟩))
 have K6:=Lib.hid (K5.out.trans hk6 fun _ _ h=>h)
 have WH:=Lib.hid (rwhole_any (HL.out.kept K6.out) (fun e he=>Pa.OpIn.kept (HIN.out e he) K6.out) HC.out HS.out.len HS.out.each HS.out.text)
 have DN:Hid ((docP l).length≤900000):=Lib.hid (by have h1:=docP_len (closed_is HC.out).1;have h2:=HS.out.text;omega)
 clear hk6 CL5 CLU UPC CV ALL K3 K4 K5
 go_upto_region 10 with (go_at_call 56;refine WH.out.mono ?_;rintro e w7 ⟨⟨u,rfl,hu,hr,hap⟩,hk7⟩;obtain⟨ua,uc,rfl,_,_⟩:=hu.sl)
 have k8:Kept (fun _=>False) w7 (w7.alloc (.cells #[.slice ua (docP l).length uc] 108)):=(Kept.refl _ _).alloc _
 have b8:=Blk.new w7 108 #[.slice ua (docP l).length uc]
 obtain⟨z,hz⟩:∃z,w7.heap.size=z:=⟨_,rfl⟩
 have K8:=Lib.hid ((K6.out.trans hk7 fun _ _ h=>h).trans k8 fun _ _ h=>h)
 have HU:=Lib.hid (hu.kept k8)
 have HZ:Hid (w.heap.size≤z):=Lib.hid (by have h1:=(K6.out.trans hk7 fun _ _ h=>h).size;omega)
 have HAP:Hid (∀b,(Value.slice ua (docP l).length uc).ownBlock=some b→b≠z):=Lib.hid fun b hb=>by have h1:=hap b hb;omega
 obtain⟨W8,hW8⟩:∃W8,w7.alloc (.cells #[.slice ua (docP l).length uc] 108)=W8:=⟨_,rfl⟩
 rw [hW8] at K8 HU b8 ⊢
 rw [hz] at b8 ⊢
 have B8:=Lib.hid b8
 clear hW8 hz b8 k8 hu hr hap hk7 WH
 go_wp2_with fail
 go_loopw [8] (fun iv wr=>∃(i:Nat) (v:Value),iv=.int .i64 i∧i≤l.length∧Blk wr z 108 #[v]∧SlAt nodeE wr v ((uptoL B (l.take i)).foldl setD (docP l))∧(∀b,v.ownBlock=some b→b≠z)∧Kept (fun b=>b=z) W8 wr) (fun iv _=>l.length-(intOf iv).toNat)
 case atStart=>exact⟨0,_,rfl,Nat.zero_le _,B8.out,HU.out,HAP.out,Kept.refl _ _⟩
 case round =>
  obtain⟨i,v,rfl,hi,hb,hv,hap,hk⟩:=hrel
  obtain⟨va,vc,rfl,_,_⟩:=hv.sl
  have hi0:(0:Int)≤i:=by omega
  have HB9:=Lib.hid hb
  have HVV:=Lib.hid hv
  have HAV:=Lib.hid hap
  have HK:=Lib.hid hk
  have KWR:Hid (Kept (fun _=>False) w wr):=Lib.hid (K8.out.trans hk fun b hb h=>by have:=HZ.out;omega)
  have LEN:Hid (((uptoL B (l.take i)).foldl setD (docP l)).length≤900000):=Lib.hid (by rw [foldS_len];exact DN.out)
  have GD:=Lib.hid (foldS_good (uptoL B (l.take i)) _ (docP_good l))
  clear hb hv hap hk
  obtain⟨D0,hD0⟩:∃D0,(uptoL B (l.take i)).foldl setD (docP l)=D0:=⟨_,rfl⟩
  rw [hD0] at HB9 HVV HAV LEN GD
  have HD0:=Lib.hid hD0
  clear hD0
  have c0:=HB9.out.cell' (i:=0) (v:=.slice va D0.length vc) rfl
  have f0:=HB9.out.frozen 0
  by_cases hlt:i<l.length
  case neg =>
   have hnl:¬(i:Int)<l.length:=by omega
   have FIN:Hid (nodesS l B=collR D0):=Lib.hid (by unfold nodesS;rw [if_pos HN.out,←HD0.out,List.take_of_length_le (by omega)])
   have CO:=Lib.hid (rcollect_any HVV.out LEN.out)
   go_wp2_with (go_at_call 69;refine CO.out.mono ?_;rintro e w9 ⟨⟨u9,rfl,hu9⟩,hk9⟩;obtain⟨ua9,uc9,rfl⟩:=owns_sl hu9;have q9:=hk9.blk (fun h=>h) HB9.out;have c9:=q9.cell' (i:=0) (v:=.slice va D0.length vc) rfl;have f9:=q9.frozen 0;have d9:=(q9.set_ 0 (.slice ua9 (collR D0).length uc9)).cell' (i:=0) (v:=.slice ua9 (collR D0).length uc9) (by simp))
   have hz1:=kept_cell w9 z (.slice ua9 (collR D0).length uc9)
   go_ret2
   refine⟨⟨.slice ua9 (collR D0).length uc9,by rw [HN.out];rfl,?_⟩,(KWR.out.trans hk9 fun _ _ h=>h).trans hz1 fun b hb h=>by have:=HZ.out;omega⟩
   rw [FIN.out]
   exact (owns_slAt (E:=nodeE) hu9).keep hz1 fun b hb _ h=>by have h1:=owns_new hu9 b hb;have h2:=HB9.out.lt;omega
  case pos =>
   have hnl:(i:Int)<l.length:=by omega
   obtain⟨x,hx⟩:=get_of_lt hlt
   have XIN:=Lib.hid (HIN.out x (List.mem_of_getElem? hx))
   have XDL:=Lib.hid (HS.out.each x (List.mem_of_getElem? hx))
   have UP:Hid (uptoL B (l.take (i+1))=if hasV B x.v.dot then uptoL B (l.take i)++[x] else uptoL B (l.take i)):=Lib.hid (upto_take_snoc B hx)
   obtain⟨lg,lo,lc',e2,hcs⟩:=SlAt.opc (HL.out.kept KWR.out) (by omega)
   cases e2
   have hcx:=hcs i x hx
   have HSV:=Lib.hid (rhasV_any (HB.out.kept KWR.out) (by omega) x.v.dot)
   clear hcs hx
   obtain⟨⟨⟨ds,dq⟩,⟨da,dn,dc⟩,kd,⟨it,is⟩,⟨rt,rs⟩,tx,⟨ga,gn,gc⟩,st⟩,D,G⟩:=x
   obtain⟨x0,x1,_,x3,_,_,_,_,_,x9,_⟩:=hcx
   have ei:IntKind.i64.wrap ((i:Int)+1)=(i:Int)+1:=IntWalk.i64_in _ (by omega)
   by_cases hk2:kd=2
   case neg =>
    have EQ:Hid ((uptoL B (l.take (i+1))).foldl setD (docP l)=D0):=Lib.hid (by
     rw [UP.out]
     split
     ·rw [List.foldl_append,HD0.out]
      show setD D0 _=D0
      unfold setD
      rw [if_neg hk2]
     ·exact HD0.out)
    go_wp2_with fail
    go_roundw
    case rel=>exact⟨i+1,.slice va D0.length vc,by go_num,by omega,HB9.out,by rw [EQ.out];exact HVV.out,HAV.out,HK.out⟩
    case measure=>simp [intOf];omega
   case pos =>
    subst hk2
    by_cases hh:hasV B ⟨ds,dq⟩
    case neg =>
     rw [decide_eq_false hh] at HSV
     have EQ:Hid ((uptoL B (l.take (i+1))).foldl setD (docP l)=D0):=Lib.hid (by rw [UP.out,if_neg hh];exact HD0.out)
     clear hh
     go_wp2_with (go_at_call 52;refine HSV.out.mono ?_;rintro e w9 ⟨rfl,hk9⟩)
     go_roundw
     case rel=>exact⟨i+1,.slice va D0.length vc,by go_num,by omega,hk9.blk (fun h=>h) HB9.out,by rw [EQ.out];exact HVV.out.kept hk9,HAV.out,HK.out.trans hk9 fun _ _ h=>h.elim⟩
     case measure=>simp [intOf];omega
    case pos =>
     rw [decide_eq_true hh] at HSV
     have EQ:Hid ((uptoL B (l.take (i+1))).foldl setD (docP l)=D0.map (turnF G 2 3)):=Lib.hid (by
      rw [UP.out,if_pos hh,List.foldl_append,HD0.out,List.foldl_cons,List.foldl_nil]
      unfold setD
      rw [if_pos rfl])
     clear hh
     go_upto_region 14 with (go_at_call 52;refine HSV.out.mono ?_;rintro e w9 ⟨rfl,hk9⟩;have y9:=hk9.cell x9;have q9:=hk9.blk (fun h=>h) HB9.out;have c9:=q9.cell' (i:=0) (v:=.slice va D0.length vc) rfl;have f9:=q9.frozen 0)
     have K9:=Lib.hid hk9
     have Q9:=Lib.hid q9
     have hkd:=hk9.drew
     have QD:=Lib.hid (hkd.blk (fun h=>h) HB9.out)
     have KD:=Lib.hid hkd
     have SE:=rsettle_any (HVV.out.kept hkd) (XIN.out.at_.gone.kept (KWR.out.trans hkd fun _ _ h=>h)) XIN.out.runs XDL.out.2.1 LEN.out fun n hn=>by have h9:=(GD.out n hn).1;unfold ID.Is at h9;omega
     obtain⟨T,hT⟩:∃T,turnN G 2 D0=T:=⟨_,rfl⟩
     rw [hT] at SE
     obtain⟨M,hM⟩:∃M,D0.map (turnF G 2 3)=M:=⟨_,rfl⟩
     rw [hM] at SE EQ
     have SET2:Hid (Calls Tryz.prog 68 #[.agg #[.slice va D0.length vc],.slice ga gn gc] w9.drew fun e w'=>(∃u,e=.returned (.tuple #[.agg #[u],.int .i64 T])∧w'.ownsRow w9.drew.heap.size 84 6 u D0.length (nodeE.flat M))∧Kept (fun _=>False) w9.drew w'):=Lib.hid SE
     clear SE hT hM hk9 hkd q9 x0 x1 x3 x9 c0 f0
     go_region_with (go_at_call 68;refine Calls.mono SET2.out ?_;rintro e w2 ⟨⟨u2,rfl,ho2⟩,hk2⟩;obtain⟨ua2,uc2,rfl⟩:=owns_sl ho2;have q2:=hk2.blk (fun h=>h) QD.out;have g1:=q2.cell' (i:=0) (v:=.slice va D0.length vc) rfl;have h1:=q2.frozen 0)
     all_goals
      have hz1:=kept_cell w2 z (.slice ua2 D0.length uc2)
      have KF:Hid (Kept (fun b=>b=z) W8 (w2.setCell ⟨z,0,none⟩ (.slice ua2 D0.length uc2))):=Lib.hid (((HK.out.trans KD.out fun _ _ h=>h.elim).trans hk2 fun _ _ h=>h.elim).trans hz1 fun _ _ h=>h)
      have HO2:=Lib.hid ho2
      have Q2:=Lib.hid q2
      have ZB:Hid (z<w9.drew.heap.size):=Lib.hid QD.out.lt
      clear ho2 hk2 q2 g1 h1 c9 f9 y9
      go_wp2_with fail
      go_roundw
      case rel=>exact⟨i+1,.slice ua2 D0.length uc2,by go_num,by omega,by simpa using Q2.out.set_ 0 (.slice ua2 D0.length uc2),by rw [EQ.out];exact (owns_slAt (E:=nodeE) HO2.out).keep hz1 fun b hb _ h=>by have h1:=owns_new HO2.out b hb;have h2:=ZB.out;omega,fun b hb=>by have h1:=owns_new HO2.out b hb;have h2:=ZB.out;omega,KF.out⟩
      case measure=>simp [intOf];omega
end Go.Proofs.YtjohljmpcblpjaaGreatDoor.Pa
