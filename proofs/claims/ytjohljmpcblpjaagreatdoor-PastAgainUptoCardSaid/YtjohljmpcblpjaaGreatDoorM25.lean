/- (*tree.Tree).Collect, walked. -/
import Derived.Test.YtjohljmpcblpjaaGreatDoorM24
set_option maxRecDepth 100000
set_option maxHeartbeats 8000000
namespace Go.Proofs.YtjohljmpcblpjaaGreatDoor.Tr
open Go.RowKit Go.Proofs.YtjohljmpcblpjaaGreatDoor.St Go.Shelf
attribute [local go_sem] Oper.semAt_some
theorem coll_any {w:World}{g:Nat}{L:List Nd}{A:ID→Nat}{S:ID→Rw}{mp:Option Nat}(h:TAt w g L A S mp) (hdoc:Doc L) (hlen:L.length≤900000) :
  Calls Tryz.prog 65 #[.pointer (some ⟨g,0,none⟩)] w fun e w'=>e=.returned (.int .i64 (collN L))∧(∃S',TAt w' g (collR L) A S' mp∧∀b,foot g (collR L) A S' mp b→foot g L A S mp b)∧Kept (foot g L A S mp) w w':=by
 refine (callsIn_wide (n:=6)).1 ?_
 have hC1:=((CJ.start (M:=foot g L A S mp) h).boxed #[.pointer (some ⟨g,0,none⟩)] 102).boxed #[.int .i64 0] 3
 have hT2:TAt (((w.alloc (.cells #[.pointer (some ⟨g,0,none⟩)] 102)).alloc (.cells #[.int .i64 0] 3)).alloc (.cells #[.pointer (some ⟨g,0,none⟩)] 102)) g L A S mp:=h.still ((((Kept.refl _ w).alloc _).alloc _).alloc _)
 have hp2:(((w.alloc (.cells #[.pointer (some ⟨g,0,none⟩)] 102)).alloc (.cells #[.int .i64 0] 3)).alloc (.cells #[.pointer (some ⟨g,0,none⟩)] 102)).cell? ⟨w.heap.size+1+1,0,none⟩=some (.pointer (some ⟨g,0,none⟩)):=by
  have h9:=(Blk.new ((w.alloc (.cells #[.pointer (some ⟨g,0,none⟩)] 102)).alloc (.cells #[.int .i64 0] 3)) 102 #[.pointer (some ⟨g,0,none⟩)]).cell' (i:=0) rfl
  simpa using h9
 have HSC:=Lib.hid (scollect_any hT2 hdoc hlen hp2)
 have HC1:=Lib.hid hC1
 clear hC1 hT2 hp2
 refine callsIn_of_wp_marks Tryz.func65 rfl trivial ?_ rfl
 simp only [Tryz.ntmps65,List.size_toArray,List.length_cons,List.length_nil,Nat.reduceAdd,Nat.reduceSub,Array.replicate_succ,Array.replicate_zero,List.push_toArray,List.append_toArray,List.nil_append,List.cons_append]
 gi_wp2_with (first | (refine⟨trivial,?_⟩;gi_at_call 99;refine (callsIn_wide.2 (all_any g _)).mono ?_;rintro e w' ⟨rfl,rfl⟩) | (refine⟨trivial,?_⟩;gi_at_call 111;refine (callsIn_wide.2 HSC.out).mono ?_;rintro e w3 ⟨⟨v,rfl,hO⟩,hk3⟩;obtain⟨va,vc,rfl⟩:=owns_sl hO;have O3:=Lib.hid hO;have K3:=Lib.hid hk3;clear hO hk3) | (refine⟨trivial,?_⟩;gi_at_call 110;refine (callsIn_wide.2 (bwd_any _ _ _ _)).mono ?_;rintro e w' ⟨rfl,rfl⟩))
 have hsa:∀b,(Value.slice va L.length vc).ownBlock=some b→w.heap.size+3≤b∧b<w3.heap.size:=fun b hb=>by
  have h9:=owns_lt O3.out b hb
  simp only [World.size_alloc] at h9
  omega
 have hsl3:=owns_slAt O3.out
 have HC3:=((HC1.out.later ((Kept.refl _ _).alloc _)).later K3.out).boxed #[.slice va L.length vc] 161
 have hz3:w.heap.size+3≤w3.heap.size:=by have h9:=K3.out.size;simp only [World.size_alloc] at h9;omega
 obtain⟨pl,hpl⟩:∃pl,w3.heap.size=pl:=⟨_,rfl⟩
 obtain⟨W0,hW0⟩:∃W0,w3.alloc (.cells #[.slice va L.length vc] 161)=W0:=⟨_,rfl⟩
 have hk0:Kept (fun _=>False) w3 W0:=by rw [←hW0];exact (Kept.refl _ _).alloc _
 have hsl0:SlAt ptrE W0 (.slice va L.length vc) (L.map fun n=>A n.id):=hsl3.kept hk0
 have hs0:W0.heap.size=pl+1:=by rw [←hW0,World.size_alloc,hpl]
 rw [hW0,hpl] at HC3
 rw [hW0,hpl]
 simp only [World.size_alloc,List.nil_append,List.cons_append] at HC3
 rw [hpl] at hsa hz3
 have hC:CJ w W0.heap.size (foot g L A S mp) (collB w.heap.size pl g (.slice va L.length vc) 0) g L A S mp (fun _=>False) W0:=HC3
 clear hW0 hpl hk0 hsl3 HC3 O3 K3 HC1 HSC
 have HS0:=Lib.hid hs0
 clear hs0
 have hvl:(Value.slice va L.length vc)=.slice va L.length vc:=rfl
 generalize Value.slice va L.length vc=v at *
 refine wpIn_iter rfl (by decide) (gf:=150) (lb:=#[.pointer (some ⟨pl,0,none⟩)]) rfl trivial (enters_of Tryz.func150 (by kernel_rfl) rfl) (bwd_iter (D:=L.map fun n=>A n.id) (v:=v) (by rw [List.length_map];omega)) (fun _ _=>rfl) W0.heap.size rfl (collJ w W0.heap.size g pl v L A S mp) (fun _ _ _=>False) ?hrd ?hgr ?hgx ?hob ?hox ?h0 ?round ?done ?stop
 case hrd=>rintro i X W ⟨S',hJ,hS,_⟩;exact⟨hJ.cell 2 rfl 0 rfl,hS⟩
 case hgr=>rintro i X W W' ⟨S',hJ,hS,hF⟩ hk;exact⟨S',hJ.grow hk,hS.keep hk (fun b hb _ hx=>by have:=hsa b hb;have:=hJ.far b hx;have:=HS0.out;omega),hF⟩
 case hgx=>intro c X W W' h _;exact h
 case hob=>rintro i X W o' ⟨S',hJ,hS,hF⟩;exact⟨S',hJ.put (Nat.le_succ _) o',hS.keep (kept_put W _ o') (fun b hb _ hx=>by have:=hsa b hb;have:=HS0.out;omega),hF⟩
 case hox=>intro c X W o' hJ;exact hJ
 case h0 =>
  intro o1 o2
  have hd0:L.drop (L.length-0)=[]:=by rw [Nat.sub_zero,List.drop_length]
  unfold collJ
  rw [coll_none,hd0]
  exact⟨S,(hC.alloc o1).alloc o2,hsl0.kept (((Kept.refl _ _).alloc o1).alloc o2),fun _ h=>h⟩
 case round =>
  intro i W K hi hK
  rw [List.length_map] at hi
  obtain⟨x,P,R,hx,hxL,hPR,hd,hlPR,hgo,hno⟩:=coll_step hi hdoc
  have hbw:bwdAt (L.map fun n=>A n.id) i=A x.id:=by
   unfold bwdAt
   rw [List.length_map,List.getElem?_map,hx]
   rfl
  unfold bwdEnc
  rw [hbw]
  gi_wp2
  rintro X W h2 ⟨S',hJ,hS,hF⟩
  rw [hPR] at hJ hF
  have hxm:x∈P++x::R:=by simp
  have hxi:x.id∈ids (P++x::R):=List.mem_map.2 ⟨x,hxm,rfl⟩
  have he:=hJ.tree.elt x hxm
  have e5:W.cell? ⟨A x.id,5,none⟩=some (.int .i64 x.st):=he.cell' rfl
  have e6:W.cell? ⟨A x.id,6,none⟩=some (S' x.id).v:=he.cell' (by simp [ndC])
  obtain⟨⟨ka,kn,kc⟩,hks⟩:∃s,S' x.id=s:=⟨_,rfl⟩
  have hkn:kn=(kids (P++x::R) x.id).length:=by
   rcases hJ.tree.row x.id (.inr hxi) with ⟨h1,h3⟩|⟨b,cap,h1,_⟩
   ·rw [hks] at h1
    cases h1
    rw [List.map_eq_nil_iff.1 h3]
    rfl
   ·rw [hks] at h1
    cases h1
    exact List.length_map _
  rw [hks] at e6
  unfold Rw.v at e6
  simp only at e6
  have HJ:=Lib.hid hJ
  have HF:=Lib.hid hF
  have HSL:=Lib.hid hS
  have H2:=Lib.hid h2
  have HGO:=Lib.hid hgo
  have HNO:=Lib.hid hno
  have HD:=Lib.hid hd
  have HLP:=Lib.hid hlPR
  have stay:x.st=3∧kids (P++x::R) x.id=[]∨iterPost W0.heap.size (collJ w W0.heap.size g pl v L A S mp) (fun _ _ _=>False) i X W .normal { tmps:=#[],defers:=[] } W:=by
   by_cases hc:x.st=3∧kids (P++x::R) x.id=[]
   ·exact .inl hc
   ·have ho:=HJ.out.off H2.out (Y:=fun _=>False) (Kept.refl _ _) (fun _ h=>h.elim)
    obtain⟨n1,n2⟩:=hno hc
    refine .inr ⟨ho.1,ho.2,S',?_⟩
    rw [n1,n2]
    exact⟨HJ.out,HSL.out,HF.out⟩
  clear hJ hF hS h2 hgo hno hd hlPR hPR he hbw
  have HKN:=Lib.hid hkn
  have STAY:=Lib.hid stay
  clear stay
  by_cases hst:x.st=3
  case neg =>
   have q6:(x.st == 3)=false:=by simpa using hst
   gi_wp2
   exact STAY.out.resolve_left (fun hc=>hst hc.1)
  case pos =>
   rw [hst] at e5
   rcases Nat.eq_zero_or_pos kn with hk0|hk0
   case inr =>
    have hk1:(0:Int)<kn:=by omega
    gi_wp2
    exact STAY.out.resolve_left (fun hc=>by have h9:=HKN.out;rw [hc.2] at h9;simp at h9;omega)
   case inl =>
    subst hk0
    have hkk:kids (P++x::R) x.id=[]:=List.eq_nil_of_length_eq_zero HKN.out.symm
    have GO:=Lib.hid (HGO.out ⟨hst,hkk⟩)
    have href:Ref (P++x::R) x.ref:=HD.out.refs x hxm
    have he:=HJ.out.tree.elt x hxm
    have r2:W.cell? ⟨A x.id,2,none⟩=some (.int .i64 x.ref.t):=he.cell' rfl
    have r3:W.cell? ⟨A x.id,3,none⟩=some (.int .i64 x.ref.s):=he.cell' rfl
    have c0:W.cell? ⟨w.heap.size,0,none⟩=some (.pointer (some ⟨g,0,none⟩)):=HJ.out.cell 0 rfl 0 rfl
    have HL:Hid (∀W':World,Kept (fun _=>False) W W'→Calls Tryz.prog 112 #[.pointer (some ⟨g,0,none⟩),.agg #[.int .i64 x.ref.t,.int .i64 x.ref.s]] W' fun e w'=>e=.returned (.pointer (some (place g A x.ref)))∧Grew W' w'):=Lib.hid fun W' hk=>list_any (HJ.out.tree.still hk) href
    have hrx:x.ref≠x.id:=fun e=>by
     have h9:x∈kids (P++x::R) x.id:=List.mem_filter.2 ⟨hxm,by simp [e]⟩
     rw [hkk] at h9
     cases h9
    have RX:=Lib.hid hrx
    clear HGO HNO STAY HKN he hkk hkn hrx
    gi_wp2
    refine region_cut (fun W'=>Grew W W') ?_
    apply Exists.intro
    refine⟨?_,?_⟩
    focus
     gi_region_with ((refine⟨trivial,?_⟩;gi_at_call 112;refine (CallsIn.inRound _ (callsIn_wide.2 (HL.out _ (by first | exact (Kept.refl _ _).drew | exact Kept.refl _ _)))).mono ?_;rintro e w' ⟨rfl,hg⟩))
     all_goals exact⟨rfl,rfl,((Grew.refl W).drew).trans hg⟩
    rintro W1 hg
    have hJ1:=HJ.out.step hg.kept (fun _ h=>h.elim)
    have hT1:=hJ1.tree
    obtain⟨pb,po,tp,cp,hp,hpb,hpo,htp,htp2,hpg⟩:=place_blk hT1 href
    rw [hp]
    have hxk:x∈kids (P++x::R) x.ref:=List.mem_filter.2 ⟨hxm,by simp⟩
    obtain⟨D,hD⟩:∃D,((kids (P++x::R) x.ref).map fun n=>A n.id)=D:=⟨_,rfl⟩
    have hDm:A x.id∈D:=by rw [←hD];exact List.mem_map.2 ⟨x,hxk,rfl⟩
    obtain⟨b,cap,hs,hO⟩:∃b cap,S' x.ref=⟨some ⟨b,0,none⟩,D.length,cap⟩∧OwnAt ptrE W1 160 b cap D:=by
     rcases hT1.row x.ref href with ⟨_,h1⟩|⟨b,cap,h1,h3⟩
     ·rw [hD] at h1;rw [h1] at hDm;simp at hDm
     ·rw [hD] at h1 h3;exact⟨b,cap,h1,h3⟩
    obtain⟨a1,a2⟩:=addr_first hT1 HD.out.nodup
    rw [hD] at a1 a2
    obtain⟨j,hj⟩:∃j,(kids P x.ref).length=j:=⟨_,rfl⟩
    rw [hj] at a1 a2
    have hjl:j<D.length:=(List.getElem?_eq_some_iff.1 a1).1
    obtain⟨m,hm⟩:∃m,D.length=m+1:=⟨D.length-1,by omega⟩
    have hle:=hO.le
    rw [hs] at hpo
    have hpc:=hpb.cell' hpo
    rw [hm] at hpc
    unfold Rw.v at hpc
    simp only at hpc
    have hD9:D.length≤1000000:=by
     rw [←hD,List.length_map]
     have h9:=List.length_filter_le (fun n=>decide (n.ref=x.ref)) (P++x::R)
     have h8:=HLP.out
     unfold kids
     omega
    have hel:∀y∈D,∃t cs,Blk W1 y t cs:=fun y hy=>by
     rw [←hD] at hy
     obtain⟨n,hn,rfl⟩:=List.mem_map.1 hy
     exact⟨_,_,hT1.elt n (List.mem_filter.1 hn).1⟩
    have hix:=index_any hO.slAt hD9 a1 a2 hel
    rw [hm] at hix
    have IX:=Lib.hid hix
    have D9:=Lib.hid hD9
    have O1:=Lib.hid hO
    have G1:=Lib.hid hg
    have J1:=Lib.hid hJ1
    have HP:=Lib.hid hp
    have HS:=Lib.hid hs
    have PB:=Lib.hid hpb
    have PG:=Lib.hid hpg
    have PO:=Lib.hid hpo
    have TP:=Lib.hid htp
    have TP2:=Lib.hid htp2
    have HM:=Lib.hid hm
    have HJJ:=Lib.hid hj
    have HDD:=Lib.hid hD
    have LE:=Lib.hid hle
    have JL:=Lib.hid hjl
    clear e5 e6 r2 r3 c0 HL hg hJ1 hT1 hp hpb hpo htp htp2 hpg hxk hDm hs hO a1 a2 hm hle hD9 hel hix hj hD hjl
    gi_wp2_with (refine⟨trivial,?_⟩;gi_at_call 113;refine (CallsIn.inRound _ (callsIn_wide.2 IX.out)).mono ?_;rintro e w' ⟨rfl,rfl⟩)
    have hOd:OwnAt ptrE W1.drew 160 b cap D:=O1.out.keep ((Kept.refl (fun _=>False) W1).drew) (fun h=>h)
    have hkd:Kept (·=b) W1 W1.drew:=(Kept.refl _ _).drew
    have CP:Hid (∃(W2:World) (k:Nat),j+k=m∧Kept (·=b) W1 W2∧(∀w2',Kept (fun _=>False) W2 w2'→∃w3,(Builtin.clear_ #[161] 0 #[.slice (some ⟨b,m,none⟩) 1 (cap-m)]).run Tryz.prog w2'=.ok (.tuple #[]) w3∧OwnAt ptrE w3 160 b cap (D.eraseIdx j)∧Kept (·=b) w2' w3) ∧
      ((j<m∧(Builtin.copy_ #[161,161] 3 #[.slice (some ⟨b,j,none⟩) (m+1-j) (cap-j),.slice (some ⟨b,j+1,none⟩) (m-j) (cap-(j+1))]).run Tryz.prog W1.drew=.ok (.int .i64 k) W2) ∨
       (j=m∧∀a c,(Builtin.copy_ #[161,161] 3 #[.slice (some ⟨b,j,none⟩) (m+1-j) (cap-j),.slice a (m-j) c]).run Tryz.prog W1.drew=.ok (.int .i64 k) W2))):=Lib.hid (by
     have hjl:=JL.out
     have hm:=HM.out
     by_cases hlast:j+1<D.length
     ·obtain⟨W2,h1,_,h3,h4⟩:=erase_mid hOd hlast (cap-j) (cap-(j+1)) (cap-m)
      rw [hm] at h1 h4
      rw [show m+1-(j+1)=m-j by omega] at h1
      exact⟨W2,m-j,by omega,hkd.trans h3 (fun _ _ h=>h),by simpa using h4,.inl ⟨by omega,h1⟩⟩
     ·have hjm:j=m:=by omega
      refine⟨W1.drew,0,by omega,hkd,?_,.inr ⟨hjm,fun a c=>?_⟩⟩
      ·have h4:=(erase_end hOd (by omega:j+1=D.length) none (cap-j) 0 (cap-m)).2
       rw [hjm] at h4 ⊢
       exact h4
      ·have h4:=(erase_end hOd (by omega:j+1=D.length) a (cap-j) c (cap-m)).1
       rw [hm] at h4
       rw [show m-j=0 by omega]
       exact h4)
    clear hOd hkd
    obtain⟨W2,k,hjk,hk2,hcl,hcp⟩:=CP.out
    clear CP
    have K2:=Lib.hid hk2
    have CL:=Lib.hid hcl
    have JK:=Lib.hid hjk
    have hj1:IntKind.i64.wrap ((j:Int)+1)=(j:Int)+1:=IntWalk.i64_in _ (by have:=D9.out;have:=JL.out;omega)
    have hc0:(m:Int)+1≤cap:=by have:=LE.out.1;have:=HM.out;omega
    have hc1:(cap:Int)≤9223372036854775807:=by have:=LE.out.2;unfold maxLen at this;omega
    have hj0:(j:Int)≤(m:Int)+1:=by omega
    have hj2:(j:Int)+1≤(m:Int)+1:=by omega
    have hj3:(0:Int)≤(j:Int)+1:=by omega
    have hj4:(j:Int)+1≤cap:=by omega
    have hj5:(j:Int)≤cap:=by omega
    have hj6:¬cap=j:=by omega
    clear hk2 hcl hjk
    rcases hcp with ⟨hlt,hcp⟩|⟨hjm,hcp⟩
    case' inl =>
     have hj7:¬cap=j+1:=by have:=LE.out.1;have:=HM.out;omega
     clear hlt
     refine region_cut (fun W'=>W'=W2) ?_
     apply Exists.intro
     refine⟨?_,?_⟩
     focus
      refine wpIn_region_any (by kernel_rfl) ?_
      try (change wpAnyIn _ _ _ _ _ _ _ _ _ (World.drew _))
      refine wpAnyIn_round _ (by kernel_rfl) _ _ _ _ ?_
      refine wpAnyIn_take (i:=0) (v:=?_) rfl rfl (by kernel_rfl) (by kernel_rfl) (by kernel_rfl) (fun _ _ _ h=>by cases h.1) ⟨Or.inl ⟨by rfl,?_⟩,fun _=>rfl⟩ ?_
      rotate_left 1
      focus (intro w;go_simp;try with_reducible rfl)
      refine wpAnyIn_take (i:=1) (v:=?_) rfl rfl (by kernel_rfl) (by kernel_rfl) (by kernel_rfl) (fun _ _ _ h=>by cases h.1) ⟨Or.inl ⟨by rfl,?_⟩,fun _=>rfl⟩ ?_
      rotate_left 1
      focus (intro w;go_simp;try with_reducible rfl)
      refine wpAnyIn_take (i:=3) (v:=?_) rfl rfl (by kernel_rfl) (by kernel_rfl) (by kernel_rfl) (fun _ _ _ h=>by cases h.1) ⟨Or.inl ⟨by rfl,?_⟩,fun _=>rfl⟩ ?_
      rotate_left 1
      focus (intro w;go_simp;try with_reducible rfl)
      refine wpAnyIn_take (i:=5) (v:=?_) rfl rfl (by kernel_rfl) (by kernel_rfl) (by kernel_rfl) (fun _ _ _ h=>by cases h.1) ⟨Or.inl ⟨by rfl,?_⟩,fun _=>rfl⟩ ?_
      rotate_left 1
      focus (intro w;go_simp;try with_reducible rfl)
      refine wpAnyIn_take (i:=6) (v:=?_) rfl rfl (by kernel_rfl) (by kernel_rfl) (by kernel_rfl) (fun _ _ _ h=>by cases h.1) ⟨Or.inl ⟨by rfl,?_⟩,fun _=>rfl⟩ ?_
      rotate_left 1
      focus (intro w;go_simp;try with_reducible rfl)
      refine wpAnyIn_take (i:=8) (v:=?_) rfl rfl (by kernel_rfl) (by kernel_rfl) (by kernel_rfl) (fun _ _ _ h=>by cases h.1) ⟨Or.inl ⟨by rfl,?_⟩,fun _=>rfl⟩ ?_
      rotate_left 1
      focus (intro w;go_simp;try with_reducible rfl)
      refine wpAnyIn_take (i:=9) (v:=?_) rfl rfl (by kernel_rfl) (by kernel_rfl) (by kernel_rfl) (fun _ _ _ h=>by cases h.1) ⟨Or.inl ⟨by rfl,?_⟩,fun _=>rfl⟩ ?_
      rotate_left 1
      focus (intro w;go_simp;try with_reducible rfl)
      refine wpAnyIn_ready (rs:=[2,7]) (by kernel_rfl) (by simp) ?_
      refine AllReadyIn.cons rfl (fun K hK=>?_) ?_
      focus
       go_simp
       refine hK _ _ ?_
       clear hK K
       refine wpAnyIn_take (i:=4) (v:=?_) rfl rfl (by kernel_rfl) (by kernel_rfl) (by kernel_rfl) (fun _ _ _ h=>by cases h.1) ⟨Or.inl ⟨by rfl,?_⟩,fun _=>rfl⟩ ?_
       rotate_left 1
       focus (intro w;go_simp;try with_reducible rfl)
       refine wpAnyIn_ready (rs:=[7]) (by kernel_rfl) (by simp) ?_
       refine AllReadyIn.cons rfl (fun K hK=>?_) ?_
       focus
        go_simp
        refine hK _ _ ?_
        clear hK K
        refine wpAnyIn_take (i:=10) (v:=?_) rfl rfl (by kernel_rfl) (by kernel_rfl) (by kernel_rfl) (fun _ _ _ h=>by cases h.1) ⟨Or.inl ⟨by rfl,?_⟩,fun _=>rfl⟩ ?_
        rotate_left 1
        focus (intro w;go_simp;try with_reducible rfl)
        refine wpAnyIn_ready (rs:=[11]) (by kernel_rfl) (by simp) ?_
        refine AllReadyIn.cons rfl (fun K hK=>?_) ?_
        focus
         go_simp
         refine hK _ _ ?_
         clear hK K
         refine wpAnyIn_take (i:=12) (v:=?_) rfl rfl (by kernel_rfl) (by kernel_rfl) (by kernel_rfl) (fun _ _ _ h=>by cases h.1) ⟨Or.inl ⟨by rfl,?_⟩,fun _=>rfl⟩ ?_
         rotate_left 1
         focus (intro w;go_simp;try with_reducible rfl)
         refine wpAnyIn_done (by kernel_rfl) ?_ _
         exact⟨rfl,rfl,rfl⟩
        exact AllReadyIn.nil
       exact AllReadyIn.nil
      refine AllReadyIn.cons rfl (fun K hK=>?_) ?_
      focus
       go_simp
       refine hK _ _ ?_
       clear hK K
       refine wpAnyIn_take (i:=10) (v:=?_) rfl rfl (by kernel_rfl) (by kernel_rfl) (by kernel_rfl) (fun _ _ _ h=>by cases h.1) ⟨Or.inl ⟨by rfl,?_⟩,fun _=>rfl⟩ ?_
       rotate_left 1
       focus (intro w;go_simp;try with_reducible rfl)
       refine wpAnyIn_ready (rs:=[2]) (by kernel_rfl) (by simp) ?_
       refine AllReadyIn.cons rfl (fun K hK=>?_) ?_
       focus
        go_simp
        refine hK _ _ ?_
        clear hK K
        refine wpAnyIn_take (i:=4) (v:=?_) rfl rfl (by kernel_rfl) (by kernel_rfl) (by kernel_rfl) (fun _ _ _ h=>by cases h.1) ⟨Or.inl ⟨by rfl,?_⟩,fun _=>rfl⟩ ?_
        rotate_left 1
        focus (intro w;go_simp;try with_reducible rfl)
        refine wpAnyIn_ready (rs:=[11]) (by kernel_rfl) (by simp) ?_
        refine AllReadyIn.cons rfl (fun K hK=>?_) ?_
        focus
         go_simp
         refine hK _ _ ?_
         clear hK K
         refine wpAnyIn_take (i:=12) (v:=?_) rfl rfl (by kernel_rfl) (by kernel_rfl) (by kernel_rfl) (fun _ _ _ h=>by cases h.1) ⟨Or.inl ⟨by rfl,?_⟩,fun _=>rfl⟩ ?_
         rotate_left 1
         focus (intro w;go_simp;try with_reducible rfl)
         refine wpAnyIn_done (by kernel_rfl) ?_ _
         exact⟨rfl,rfl,rfl⟩
        exact AllReadyIn.nil
       exact AllReadyIn.nil
      exact AllReadyIn.nil
     rintro W9 rfl
     clear hj7
    case' inr =>
     clear hjm
     refine region_cut (fun W'=>W'=W2) ?_
     apply Exists.intro
     refine⟨?_,?_⟩
     focus
      refine wpIn_region_any (by kernel_rfl) ?_
      try (change wpAnyIn _ _ _ _ _ _ _ _ _ (World.drew _))
      refine wpAnyIn_round _ (by kernel_rfl) _ _ _ _ ?_
      refine wpAnyIn_take (i:=0) (v:=?_) rfl rfl (by kernel_rfl) (by kernel_rfl) (by kernel_rfl) (fun _ _ _ h=>by cases h.1) ⟨Or.inl ⟨by rfl,?_⟩,fun _=>rfl⟩ ?_
      rotate_left 1
      focus (intro w;go_simp;try with_reducible rfl)
      refine wpAnyIn_take (i:=1) (v:=?_) rfl rfl (by kernel_rfl) (by kernel_rfl) (by kernel_rfl) (fun _ _ _ h=>by cases h.1) ⟨Or.inl ⟨by rfl,?_⟩,fun _=>rfl⟩ ?_
      rotate_left 1
      focus (intro w;go_simp;try with_reducible rfl)
      refine wpAnyIn_take (i:=3) (v:=?_) rfl rfl (by kernel_rfl) (by kernel_rfl) (by kernel_rfl) (fun _ _ _ h=>by cases h.1) ⟨Or.inl ⟨by rfl,?_⟩,fun _=>rfl⟩ ?_
      rotate_left 1
      focus (intro w;go_simp;try with_reducible rfl)
      refine wpAnyIn_take (i:=5) (v:=?_) rfl rfl (by kernel_rfl) (by kernel_rfl) (by kernel_rfl) (fun _ _ _ h=>by cases h.1) ⟨Or.inl ⟨by rfl,?_⟩,fun _=>rfl⟩ ?_
      rotate_left 1
      focus (intro w;go_simp;try with_reducible rfl)
      refine wpAnyIn_take (i:=6) (v:=?_) rfl rfl (by kernel_rfl) (by kernel_rfl) (by kernel_rfl) (fun _ _ _ h=>by cases h.1) ⟨Or.inl ⟨by rfl,?_⟩,fun _=>rfl⟩ ?_
      rotate_left 1
      focus (intro w;go_simp;try with_reducible rfl)
      refine wpAnyIn_take (i:=8) (v:=?_) rfl rfl (by kernel_rfl) (by kernel_rfl) (by kernel_rfl) (fun _ _ _ h=>by cases h.1) ⟨Or.inl ⟨by rfl,?_⟩,fun _=>rfl⟩ ?_
      rotate_left 1
      focus (intro w;go_simp;try with_reducible rfl)
      refine wpAnyIn_take (i:=9) (v:=?_) rfl rfl (by kernel_rfl) (by kernel_rfl) (by kernel_rfl) (fun _ _ _ h=>by cases h.1) ⟨Or.inl ⟨by rfl,?_⟩,fun _=>rfl⟩ ?_
      rotate_left 1
      focus (intro w;go_simp;try with_reducible rfl)
      refine wpAnyIn_ready (rs:=[2,7]) (by kernel_rfl) (by simp) ?_
      refine AllReadyIn.cons rfl (fun K hK=>?_) ?_
      focus
       go_simp
       refine hK _ _ ?_
       clear hK K
       refine wpAnyIn_take (i:=4) (v:=?_) rfl rfl (by kernel_rfl) (by kernel_rfl) (by kernel_rfl) (fun _ _ _ h=>by cases h.1) ⟨Or.inl ⟨by rfl,?_⟩,fun _=>rfl⟩ ?_
       rotate_left 1
       focus (intro w;go_simp;try with_reducible rfl)
       refine wpAnyIn_ready (rs:=[7]) (by kernel_rfl) (by simp) ?_
       refine AllReadyIn.cons rfl (fun K hK=>?_) ?_
       focus
        go_simp
        refine hK _ _ ?_
        clear hK K
        refine wpAnyIn_take (i:=10) (v:=?_) rfl rfl (by kernel_rfl) (by kernel_rfl) (by kernel_rfl) (fun _ _ _ h=>by cases h.1) ⟨Or.inl ⟨by rfl,?_⟩,fun _=>rfl⟩ ?_
        rotate_left 1
        focus (intro w;go_simp;try with_reducible rfl)
        refine wpAnyIn_ready (rs:=[11]) (by kernel_rfl) (by simp) ?_
        refine AllReadyIn.cons rfl (fun K hK=>?_) ?_
        focus
         go_simp
         refine hK _ _ ?_
         clear hK K
         refine wpAnyIn_take (i:=12) (v:=?_) rfl rfl (by kernel_rfl) (by kernel_rfl) (by kernel_rfl) (fun _ _ _ h=>by cases h.1) ⟨Or.inl ⟨by rfl,?_⟩,fun _=>rfl⟩ ?_
         rotate_left 1
         focus (intro w;go_simp;try with_reducible rfl)
         refine wpAnyIn_done (by kernel_rfl) ?_ _
         exact⟨rfl,rfl,rfl⟩
        exact AllReadyIn.nil
       exact AllReadyIn.nil
      refine AllReadyIn.cons rfl (fun K hK=>?_) ?_
      focus
       go_simp
       refine hK _ _ ?_
       clear hK K
       refine wpAnyIn_take (i:=10) (v:=?_) rfl rfl (by kernel_rfl) (by kernel_rfl) (by kernel_rfl) (fun _ _ _ h=>by cases h.1) ⟨Or.inl ⟨by rfl,?_⟩,fun _=>rfl⟩ ?_
       rotate_left 1
       focus (intro w;go_simp;try with_reducible rfl)
       refine wpAnyIn_ready (rs:=[2]) (by kernel_rfl) (by simp) ?_
       refine AllReadyIn.cons rfl (fun K hK=>?_) ?_
       focus
        go_simp
        refine hK _ _ ?_
        clear hK K
        refine wpAnyIn_take (i:=4) (v:=?_) rfl rfl (by kernel_rfl) (by kernel_rfl) (by kernel_rfl) (fun _ _ _ h=>by cases h.1) ⟨Or.inl ⟨by rfl,?_⟩,fun _=>rfl⟩ ?_
        rotate_left 1
        focus (intro w;go_simp;try with_reducible rfl)
        refine wpAnyIn_ready (rs:=[11]) (by kernel_rfl) (by simp) ?_
        refine AllReadyIn.cons rfl (fun K hK=>?_) ?_
        focus
         go_simp
         refine hK _ _ ?_
         clear hK K
         refine wpAnyIn_take (i:=12) (v:=?_) rfl rfl (by kernel_rfl) (by kernel_rfl) (by kernel_rfl) (fun _ _ _ h=>by cases h.1) ⟨Or.inl ⟨by rfl,?_⟩,fun _=>rfl⟩ ?_
         rotate_left 1
         focus (intro w;go_simp;try with_reducible rfl)
         refine wpAnyIn_done (by kernel_rfl) ?_ _
         exact⟨rfl,rfl,rfl⟩
        exact AllReadyIn.nil
       exact AllReadyIn.nil
      exact AllReadyIn.nil
     rintro W9 rfl
     generalize (if cap=j+1 then some (Addr.mk b 0 none) else some (Addr.mk b (j+1) none))=adr
    all_goals
     clear hcp hj1 hj2 hj3 hj4 hj5 hj6 hj0
     have hne:pb≠b:=by
      obtain⟨cs,hb,_⟩:=O1.out
      exact Blk.ne_ PB.out hb TP2.out
     have po9:=PO.out
     rw [HM.out] at po9
     unfold Rw.v at po9
     simp only at po9
     have hpb2:=K2.out.blk (fun e=>hne e) PB.out
     have hpc2:=hpb2.cell' po9
     obtain⟨w4,hcl,hO4,hk4⟩:=CL.out _ (Kept.refl _ _)
     have hpb4:=hk4.blk (fun e=>hne e) hpb2
     have hpc4:=hpb4.cell' po9
     have hpf4:=hpb4.frozen po
     have hsum:IntKind.i64.wrap ((j:Int)+k)=m:=by
      have:=JK.out
      rw [show (j:Int)+k=m by omega]
      exact IntWalk.i64_in _ (by omega)
     have hm0:(m:Int)≤(m:Int)+1:=by omega
     have hm1:(m:Int)≤cap:=by omega
     have hm2:¬cap=m:=by omega
     have PO9:=Lib.hid po9
     have NE:=Lib.hid hne
     have PB4:=Lib.hid hpb4
     have O4:=Lib.hid hO4
     have K4:=Lib.hid (K2.out.trans hk4 (fun _ _ h=>h))
     clear hne po9 hpb2 hpb4 hO4 hk4 hpc
     gi_wp2
     clear hsum hm0 hm1 hm2 hcl hpc2 hpc4 hpf4 CL hc0 hc1
     obtain⟨s',hs'⟩:∃s':Rw,s'=⟨some ⟨b,0,none⟩,m,cap⟩:=⟨_,rfl⟩
     have hsv:Value.slice (some ⟨b,0,none⟩) m cap=s'.v:=by rw [hs'];rfl
     have hbf:foot g (P++x::R) A S' mp b:=.inr (.inr (.inr ⟨x.ref,href,by rw [HS.out];rfl⟩))
     have hpf:foot g (P++x::R) A S' mp pb:=by
      obtain⟨pb',po',h1,_,_,h4⟩:=place_cell J1.out.tree href
      rw [HP.out] at h1
      cases h1
      exact h4
     have hbl:=J1.out.low b hbf
     have hpl:=J1.out.low pb hpf
     rw [hsv]
     obtain⟨W5,hW5⟩:∃W5,w4.setCell ⟨pb,po,none⟩ s'.v=W5:=⟨_,rfl⟩
     have hk5:Kept (fun y=>y=b∨y=pb) W1 W5:=by
      rw [←hW5]
      exact (K4.out.mono fun _ _ h=>.inl h).trans (((Kept.refl _ w4).setCell (p:=⟨pb,po,none⟩) (fun _=>rfl) _).mono fun _ _ h=>.inr h.symm) (fun _ _ h=>h)
     have hA1:=J1.out.tree.elt x hxm
     have hAp:pb≠A x.id:=fun e=>by
      have h1:=HP.out
      unfold place at h1
      split at h1
      ·cases h1;exact Blk.ne_ hA1 J1.out.tree.top (by decide) e.symm
      next hz =>
       cases h1
       exact RX.out (J1.out.tree.one _ (href.resolve_left hz) _ hxi e)
     have hAb:b≠A x.id:=fun e=>by
      obtain⟨cs,hb,_⟩:=O1.out
      exact Blk.ne_ hA1 hb (by decide) e.symm
     have hA5:=hk5.blk (fun h=>by rcases h with h | h;exact hAb h.symm;exact hAp h.symm) hA1
     have e0:W5.cell? ⟨A x.id,0,none⟩=some (.int .i64 x.id.t):=hA5.cell' rfl
     have e1:W5.cell? ⟨A x.id,1,none⟩=some (.int .i64 x.id.s):=hA5.cell' rfl
     have c0:W5.cell? ⟨w.heap.size,0,none⟩=some (.pointer (some ⟨g,0,none⟩)):=(hk5.blk (fun h=>by omega) (J1.out.at_ 0 rfl)).cell' rfl
     obtain⟨mb,kvs,hmp,hmk,hkok,hkl,hkg⟩:∃mb kvs,mp=some mb∧MapK keyI W1 mb kvs∧KeysOk kvs∧kvs.length=(P++x::R).length∧∀y,getK kvs y=if y∈ids (P++x::R) then some (.pointer (some ⟨A y,0,none⟩)) else none:=by
      rcases J1.out.tree.by_ with ⟨_,h0⟩|h0
      ·simp at h0
      ·exact h0
     have hmb:mb≠b∧mb≠pb:=by
      obtain⟨cs,hb,_⟩:=O1.out
      exact⟨fun e=>hmk.ne_blk hb e.symm,fun e=>hmk.ne_blk PB.out e.symm⟩
     have hg1:W5.cell? ⟨g,1,none⟩=some (.map (some mb)):=by
      have ht4:=K4.out.blk (fun (e:g=b)=>by
       obtain⟨cs,hb,_⟩:=O1.out
       exact Blk.ne_ J1.out.tree.top hb (by decide) e) J1.out.tree.top
      rw [hmp] at ht4
      rw [←hW5]
      by_cases e:pb=g
      ·rw [PG.out e,e]
       exact (ht4.set_ 0 _).cell' (by simp)
      ·exact (ht4.far (fun h=>e h.symm) _).cell' rfl
     have hm5:MapK keyI W5.drew mb kvs:=(hmk.keep hk5 (fun h=>by rcases h with h | h;exact hmb.1 h;exact hmb.2 h)).keep ((Kept.refl (fun _=>False) W5).drew) (fun h=>h)
     obtain⟨w7,hdl0,hM7,hk7⟩:=run_deleteK (P:=Tryz.prog) (k:=x.id) Tryz.underlying185 0 hm5
     have hdl:(Builtin.delete_ #[185,59] 0 #[.map (some mb),.agg #[.int .i64 x.id.t,.int .i64 x.id.s]]).run Tryz.prog W5.drew=.ok (.tuple #[]) w7:=hdl0
     rw [hW5]
     clear hdl0 hm5
     refine region_cut (fun W'=>W'=w7) ?_
     apply Exists.intro
     refine⟨?_,?_⟩
     focus
      refine wpIn_region_any (by kernel_rfl) ?_
      try (change wpAnyIn _ _ _ _ _ _ _ _ _ (World.drew _))
      refine wpAnyIn_round _ (by kernel_rfl) _ _ _ _ ?_
      refine wpAnyIn_take (i:=4) (v:=?_) rfl rfl (by kernel_rfl) (by kernel_rfl) (by kernel_rfl) (fun _ _ _ h=>by cases h.1) ⟨Or.inl ⟨by rfl,?_⟩,fun _=>rfl⟩ ?_
      rotate_left 1
      focus (intro w;go_simp;try with_reducible rfl)
      refine wpAnyIn_take (i:=5) (v:=?_) rfl rfl (by kernel_rfl) (by kernel_rfl) (by kernel_rfl) (fun _ _ _ h=>by cases h.1) ⟨Or.inl ⟨by rfl,?_⟩,fun _=>rfl⟩ ?_
      rotate_left 1
      focus (intro w;go_simp;try with_reducible rfl)
      refine wpAnyIn_take (i:=6) (v:=?_) rfl rfl (by kernel_rfl) (by kernel_rfl) (by kernel_rfl) (fun _ _ _ h=>by cases h.1) ⟨Or.inl ⟨by rfl,?_⟩,fun _=>rfl⟩ ?_
      rotate_left 1
      focus (intro w;go_simp;try with_reducible rfl)
      refine wpAnyIn_take (i:=7) (v:=?_) rfl rfl (by kernel_rfl) (by kernel_rfl) (by kernel_rfl) (fun _ _ _ h=>by cases h.1) ⟨Or.inl ⟨by rfl,?_⟩,fun _=>rfl⟩ ?_
      rotate_left 1
      focus (intro w;go_simp;try with_reducible rfl)
      refine wpAnyIn_ready (rs:=[0,8]) (by kernel_rfl) (by simp) ?_
      refine AllReadyIn.cons rfl (fun K hK=>?_) ?_
      focus
       go_simp
       refine hK _ _ ?_
       clear hK K
       refine wpAnyIn_take (i:=1) (v:=?_) rfl rfl (by kernel_rfl) (by kernel_rfl) (by kernel_rfl) (fun _ _ _ h=>by cases h.1) ⟨Or.inl ⟨by rfl,?_⟩,fun _=>rfl⟩ ?_
       rotate_left 1
       focus (intro w;go_simp;try with_reducible rfl)
       refine wpAnyIn_take (i:=2) (v:=?_) rfl rfl (by kernel_rfl) (by kernel_rfl) (by kernel_rfl) (fun _ _ _ h=>by cases h.1) ⟨Or.inl ⟨by rfl,?_⟩,fun _=>rfl⟩ ?_
       rotate_left 1
       focus (intro w;go_simp;try with_reducible rfl)
       refine wpAnyIn_ready (rs:=[3,8]) (by kernel_rfl) (by simp) ?_
       refine AllReadyIn.cons rfl (fun K hK=>?_) ?_
       focus
        go_simp
        refine hK _ _ ?_
        clear hK K
        refine wpAnyIn_ready (rs:=[8]) (by kernel_rfl) (by simp) ?_
        refine AllReadyIn.cons rfl (fun K hK=>?_) ?_
        focus
         go_simp
         refine hK _ _ ?_
         clear hK K
         refine wpAnyIn_ready (rs:=[9]) (by kernel_rfl) (by simp) ?_
         refine AllReadyIn.cons rfl (fun K hK=>?_) ?_
         focus
          go_simp
          refine hK _ _ ?_
          clear hK K
          refine wpAnyIn_done (by kernel_rfl) ?_ _
          exact⟨rfl,rfl,rfl⟩
         exact AllReadyIn.nil
        exact AllReadyIn.nil
       refine AllReadyIn.cons rfl (fun K hK=>?_) ?_
       focus
        go_simp
        refine hK _ _ ?_
        clear hK K
        refine wpAnyIn_ready (rs:=[3]) (by kernel_rfl) (by simp) ?_
        refine AllReadyIn.cons rfl (fun K hK=>?_) ?_
        focus
         go_simp
         refine hK _ _ ?_
         clear hK K
         refine wpAnyIn_ready (rs:=[9]) (by kernel_rfl) (by simp) ?_
         refine AllReadyIn.cons rfl (fun K hK=>?_) ?_
         focus
          go_simp
          refine hK _ _ ?_
          clear hK K
          refine wpAnyIn_done (by kernel_rfl) ?_ _
          exact⟨rfl,rfl,rfl⟩
         exact AllReadyIn.nil
        exact AllReadyIn.nil
       exact AllReadyIn.nil
      refine AllReadyIn.cons rfl (fun K hK=>?_) ?_
      focus
       go_simp
       refine hK _ _ ?_
       clear hK K
       refine wpAnyIn_ready (rs:=[0]) (by kernel_rfl) (by simp) ?_
       refine AllReadyIn.cons rfl (fun K hK=>?_) ?_
       focus
        go_simp
        refine hK _ _ ?_
        clear hK K
        refine wpAnyIn_take (i:=1) (v:=?_) rfl rfl (by kernel_rfl) (by kernel_rfl) (by kernel_rfl) (fun _ _ _ h=>by cases h.1) ⟨Or.inl ⟨by rfl,?_⟩,fun _=>rfl⟩ ?_
        rotate_left 1
        focus (intro w;go_simp;try with_reducible rfl)
        refine wpAnyIn_take (i:=2) (v:=?_) rfl rfl (by kernel_rfl) (by kernel_rfl) (by kernel_rfl) (fun _ _ _ h=>by cases h.1) ⟨Or.inl ⟨by rfl,?_⟩,fun _=>rfl⟩ ?_
        rotate_left 1
        focus (intro w;go_simp;try with_reducible rfl)
        refine wpAnyIn_ready (rs:=[3]) (by kernel_rfl) (by simp) ?_
        refine AllReadyIn.cons rfl (fun K hK=>?_) ?_
        focus
         go_simp
         refine hK _ _ ?_
         clear hK K
         refine wpAnyIn_ready (rs:=[9]) (by kernel_rfl) (by simp) ?_
         refine AllReadyIn.cons rfl (fun K hK=>?_) ?_
         focus
          go_simp
          refine hK _ _ ?_
          clear hK K
          refine wpAnyIn_done (by kernel_rfl) ?_ _
          exact⟨rfl,rfl,rfl⟩
         exact AllReadyIn.nil
        exact AllReadyIn.nil
       exact AllReadyIn.nil
      exact AllReadyIn.nil
     rintro W9 rfl
     have hk9:Kept (fun y=>y=b∨y=pb∨y=mb) W1 W9:=(hk5.mono fun _ _ h=>h.elim .inl fun h=>.inr (.inl h)).trans ((((Kept.refl (fun y=>y=mb) W5).drew).trans hk7 (fun _ _ h=>h)).mono fun _ _ h=>.inr (.inr h)) (fun _ _ h=>h)
     have hYf:∀y,(y=b∨y=pb∨y=mb)→foot g (P++x::R) A S' mp y:=fun y hy=>by
      rcases hy with rfl|rfl|rfl
      ·exact hbf
      ·exact hpf
      ·exact .inr (.inl hmp)
     have hcut:D.eraseIdx j=(kids (P++R) x.ref).map fun n=>A n.id:=by
      rw [←kids_cut P R x,HJJ.out,←HDD.out,erase_map]
     have hml:((kids (P++R) x.ref).map fun n=>A n.id).length=m:=by
      rw [←hcut,List.length_eraseIdx,if_pos JL.out,HM.out]
      exact Nat.add_sub_cancel m 1
     have hsb:s'.blk=(S' x.ref).blk:=by rw [hs',HS.out];rfl
     have hT9:TAt W9 g (P++R) A (updS S' x.ref s') mp:=by
      rw [hmp]
      refine TAt.del_mem (w:=W1) (w3:=w4) (by rw [←hmp];exact J1.out.tree) HD.out hmk hkok hkl hkg (K4.out.mono fun _ _ h=>by rw [HS.out,h];rfl) (.inr ⟨b,cap,?_,by rw [←hcut];exact O4.out⟩) hsb ?_ hM7
      ·rw [hml];exact hs'
      ·rw [HP.out,hW5]
       exact ((Kept.refl (fun y=>y=mb) W5).drew).trans hk7 (fun _ _ h=>h)
     have hff:∀y,foot g (P++R) A (updS S' x.ref s') mp y→foot g (P++x::R) A S' mp y:=fun y hy=>foot_cut hsb href hy
     have hJ9:=J1.out.turned hk9 hYf (fun y hy=>HF.out y (hYf y hy)) hT9 hff
     have c1:W9.cell? ⟨w.heap.size+1,0,none⟩=some (.int .i64 (collN (L.drop (L.length-i)))):=hJ9.cell 1 rfl 0 rfl
     have f1:=hJ9.frozen 1 rfl 0
     have hcn:0≤collN (L.drop (L.length-i))∧collN (L.drop (L.length-i))≤900000:=by
      have h9:=collR_len (L.drop (L.length-i))
      unfold collN
      rw [List.length_drop] at h9 ⊢
      omega
     obtain⟨cn,hcnn⟩:∃cn,collN (L.drop (L.length-i))=cn:=⟨_,rfl⟩
     rw [hcnn] at c1 hcn
     have hw1:IntKind.i64.wrap (cn+1)=cn+1:=IntWalk.i64_in _ (by omega)
     have J9:=Lib.hid hJ9
     have FF:=Lib.hid hff
     have K9:=Lib.hid hk9
     have YF:=Lib.hid hYf
     have CN:=Lib.hid hcnn
     clear hJ9 hff hk9 hYf hT9 hcut hml hsb hdl hM7 hk7 hcnn e0 e1 c0 hg1 hmk hkok hkl hkg hA5 hA1 hk5
     gi_wp2
     have hkA:Kept (fun y=>foot g (P++x::R) A S' mp y∨y=w.heap.size+1) W (W9.setCell ⟨w.heap.size+1,0,none⟩ (.int .i64 (cn+1))) :=
      ((G1.out.kept.mono fun _ _ h=>h.elim).trans (K9.out.mono fun y _ h=>.inl (YF.out y h)) (fun _ _ h=>h)).trans ((kept_cell W9 (w.heap.size+1) _).mono fun _ _ h=>.inr h) (fun _ _ h=>h)
     have hB9:w.heap.size+1<W0.heap.size:=(J1.out.box _ (List.mem_of_getElem? (i:=1) rfl)).1.2
     have ho:=HJ.out.off H2.out hkA (fun y hy=>by
      rcases hy with hy|hy
      ·have h9:=J1.out.low y hy;omega
      ·omega)
     refine⟨ho.1,ho.2,updS S' x.ref s',?_,?_,?_⟩
     ·rw [GO.out.1,GO.out.2,CN.out]
      exact J9.out.set 1 (.int .i64 (cn+1)) rfl (collB_nodup (by omega))
     ·exact HSL.out.keep hkA fun y hy _ h=>by
       have h8:=hsa y hy
       rcases h with h|h
       ·have h9:=J1.out.low y h;omega
       ·omega
     ·rw [GO.out.1]
      exact fun y hy=>HF.out y (FF.out y hy)
 case done =>
  rintro X W ⟨S',hJ,hS,hF⟩ hK
  rw [List.length_map] at hJ hF
  rw [coll_all,Nat.sub_self,List.drop_zero] at hJ
  rw [coll_all] at hF
  have HJ:=Lib.hid hJ
  have HF:=Lib.hid hF
  have HK:=Lib.hid hK
  have c3:W.cell? ⟨w.heap.size+1,0,none⟩=some (.int .i64 (collN L)):=hJ.cell 1 rfl 0 rfl
  clear hJ hF hS hK
  gi_wp2
  have hC2:=HJ.out.taken (.deferred none)
  exact ret_range HK.out (results_tmp rfl _ _ _) ⟨rfl,⟨S',hC2.tree,HF.out⟩,hC2.kept⟩
 case stop =>
  rintro c X W h _
  exact h.elim
end Go.Proofs.YtjohljmpcblpjaaGreatDoor.Tr
