/- shown, an iterator that ranges over all. Len, by a range over shown. All, by a range over shown. Parts of the proof. -/
import Derived.Test.YtjohljmpcblpjaaGreatDoorM16
set_option maxRecDepth 100000
set_option maxHeartbeats 8000000
namespace Go.Proofs.YtjohljmpcblpjaaGreatDoor.Tr
open Go.RowKit Go.Proofs.YtjohljmpcblpjaaGreatDoor.St Go.Shelf
attribute [local go_sem] Oper.semAt_some
def shL (L:List Nd):List Nd:=L.filter fun n=>decide (n.st=1)
def shC (L:List Nd) (i:Nat):Nat:=(shL (L.take i)).length
theorem shC_up {L:List Nd}{i:Nat}{m:Nd}(hm:L[i]?=some m) (hs:m.st=1):shC L (i+1)=shC L i+1∧(shL L)[shC L i]?=some m:=by
 have hi:=(List.getElem?_eq_some_iff.1 hm).1
 have hmm:=(List.getElem?_eq_some_iff.1 hm).2
 have h1:shL (L.take (i+1))=shL (L.take i)++[m]:=by
  unfold shL;rw [List.take_add_one,hm,List.filter_append];simp [hs]
 refine⟨by unfold shC;rw [h1];simp,?_⟩
 have h2:L=L.take (i+1)++L.drop (i+1):=(List.take_append_drop _ _).symm
 have h3:shL L=shL (L.take (i+1))++shL (L.drop (i+1)):=by conv=>lhs;rw [h2]
                                                          unfold shL;rw [List.filter_append]
 rw [h3,h1]
 unfold shC
 simp
theorem shC_same {L:List Nd}{i:Nat}{m:Nd}(hm:L[i]?=some m) (hs:¬m.st=1):shC L (i+1)=shC L i:=by
 unfold shC shL;rw [List.take_add_one,hm,List.filter_append];simp [hs]
theorem shC_le (L:List Nd) (i:Nat):shC L i≤L.length:=by
 unfold shC shL
 have:=List.length_filter_le (fun n:Nd=>decide (n.st=1)) (L.take i)
 have:=List.length_take_le' i L
 omega
theorem shC_all (L:List Nd):shC L L.length=(shL L).length:=by unfold shC;rw [List.take_length]
def shEnc (L:List Nd) (A:ID→Nat) (i:Nat):Array Value:=#[.int .i64 i,.pointer (some ⟨A (nth (shL L) i).id,0,none⟩)]
theorem yield_any {F:Fence}(hd:F.depth=none){m:Nat}(m' l':Nat){P:Program}{l:Nat}{args:Array Value}{W:World}{R:Ending→World→Prop}(h:YieldAt F m P l args W R) :
  ∃fn tmps assign body,(Instr.yield l args).run P W=.ok (.round l fn tmps assign body) W∧RoundIn (F.inRound l') m' P l fn tmps assign body W R:=by
 obtain⟨fn,tmps,assign,body,hy,hR⟩:=h
 exact⟨fn,tmps,assign,body,hy,hR.1,fun c cs _=>hR.2 c cs fun d hd'=>by rw [hd] at hd';cases hd'⟩
structure ShB (z B g yl k:Nat) (X X':Nat→Prop) (W:World):Prop where
 y:Blk W z 224 #[.func (.yield yl) #[] #[]]
 n:Blk W (z+1) 3 #[.int .i64 k]
 t:Blk W (z+1+1) 102 #[.pointer (some ⟨g,0,none⟩)]
 sub:∀b,X b→X' b∧B≤b
 own:X' z∧X' (z+1)∧X' (z+1+1)∧X' B∧X' (B+1)
 lt:z+3≤B
 sz:B≤W.heap.size
theorem ShB.keep {z B g yl k:Nat}{X X' Y Y' U:Nat→Prop}{W W':World}(h:ShB z B g yl k X X' W) (hk:Kept U W W') (hU:∀b,U b→B≤b) (hX:∀b,X' b→Y' b) (hY:∀b,Y b→Y' b∧B≤b):ShB z B g yl k Y Y' W' where
 y:=hk.blk (fun h1=>by have:=hU _ h1;have:=h.lt;omega) h.y
 n:=hk.blk (fun h1=>by have:=hU _ h1;have:=h.lt;omega) h.n
 t:=hk.blk (fun h1=>by have:=hU _ h1;have:=h.lt;omega) h.t
 sub:=hY
 own:=⟨hX _ h.own.1,hX _ h.own.2.1,hX _ h.own.2.2.1,hX _ h.own.2.2.2.1,hX _ h.own.2.2.2.2⟩
 lt:=h.lt
 sz:=Nat.le_trans h.sz hk.size
def shownJ (I:Nat→(Nat→Prop)→World→Prop) (z B g yl:Nat) (L:List Nd) (i:Nat) (X:Nat→Prop) (W:World):Prop:=∃X',I (shC L i) X' W∧ShB z B g yl (shC L i) X X' W
def shownX (Z:(Nat→Prop)→World→Prop) (B:Nat) (c:Code) (X:Nat→Prop) (W:World):Prop:=c=.ret∧∃X',Z X' W∧(∀b,X b→X' b)∧X' B∧X' (B+1)
theorem shown1_iter {L:List Nd}{A:ID→Nat}{S:ID→Rw}{mp:Option Nat}{pl g:Nat}(hdoc:Doc L) (hlen:L.length≤900000) :
  IterOk Fence.wide 5 Tryz.prog 160 #[.pointer (some ⟨pl,0,none⟩)] (shL L).length (shEnc L A) (fun w=>w.cell? ⟨pl,0,none⟩=some (.pointer (some ⟨g,0,none⟩))∧TAt w g L A S mp):=by
 intro yl I Z X0 w hrd hgr hgz hy h0
 have RD:=Lib.hid hrd
 have GR:=Lib.hid hgr
 have GZ:=Lib.hid hgz
 have HY:=Lib.hid hy
 have r0:=(hrd _ _ _ h0).1
 have hpl:pl<w.heap.size:=World.block_lt_of_cell? w _ r0
 clear hrd hgr hgz hy
 refine callsIn_of_wp_marks Tryz.func160 rfl trivial ?_ rfl
 simp only [Tryz.ntmps160,List.size_toArray,List.length_cons,List.length_nil,Nat.reduceAdd,Nat.reduceSub,Array.replicate_succ,Array.replicate_zero,List.push_toArray,List.append_toArray,List.nil_append,List.cons_append]
 gi_wp2_with (refine⟨trivial,?_⟩;gi_at_call 99;refine (callsIn_wide.2 (all_any g _)).mono ?_;rintro e w' ⟨rfl,rfl⟩)
 obtain⟨W0,hW0⟩:∃W0,(((w.alloc (.cells #[.func (.yield yl) #[] #[]] 224)).alloc (.cells #[.int .i64 0] 3)).alloc (.cells #[.pointer (some ⟨g,0,none⟩)] 102))=W0:=⟨_,rfl⟩
 have z0:W0.heap.size=w.heap.size+3:=by rw [←hW0];simp
 have k0:Kept (fun _=>False) w W0:=by rw [←hW0];exact (((Kept.refl _ _).alloc _).alloc _).alloc _
 have b0:Blk W0 w.heap.size 224 #[.func (.yield yl) #[] #[]]:=by rw [←hW0];exact ((Blk.new _ _ _).alloc _).alloc _
 have b1:Blk W0 (w.heap.size+1) 3 #[.int .i64 0]:=by rw [←hW0];have h9:=Blk.new (w.alloc (.cells #[.func (.yield yl) #[] #[]] 224)) 3 #[.int .i64 0];simp only [World.size_alloc] at h9;exact h9.alloc _
 have b2:Blk W0 (w.heap.size+1+1) 102 #[.pointer (some ⟨g,0,none⟩)]:=by rw [←hW0];have h9:=Blk.new ((w.alloc (.cells #[.func (.yield yl) #[] #[]] 224)).alloc (.cells #[.int .i64 0] 3)) 102 #[.pointer (some ⟨g,0,none⟩)];simp only [World.size_alloc] at h9;exact h9
 have Z0:=Lib.hid z0
 have K0:=Lib.hid k0
 have H0:=Lib.hid h0
 have B0:=Lib.hid (And.intro b0 (And.intro b1 b2))
 rw [hW0]
 clear hW0 z0 k0 h0 b0 b1 b2 r0
 refine wpIn_iter rfl (by decide) (gf:=140) (lb:=#[.pointer (some ⟨w.heap.size+1+1,0,none⟩)]) rfl trivial (enters_of Tryz.func140 (by kernel_rfl) rfl) (all1_iter (A:=A) (S:=S) (g:=g) trivial rfl (by decide) hdoc hlen) (fun _ _=>rfl) W0.heap.size rfl (shownJ I w.heap.size W0.heap.size g yl L) (shownX Z W0.heap.size) ?hrd ?hgr ?hgx ?hob ?hox ?h0 ?round ?done ?stop
 case hrd=>rintro i X W ⟨X',h1,h2⟩;exact⟨h2.t.cell' rfl,(RD.out _ _ _ h1).2.shape⟩
 case hgr =>
  rintro i X W W' ⟨X',h1,h2⟩ hk
  exact⟨_,GR.out _ _ _ _ h1 (hk.mono fun b _ h=>(h2.sub b h).1),h2.keep hk (fun b hb=>(h2.sub b hb).2) (fun _ h=>.inl h) fun b hb=>by
   rcases hb with hb|hb
   ·exact⟨.inl (h2.sub b hb).1,(h2.sub b hb).2⟩
   ·exact⟨.inr hb,by have:=h2.sz;omega⟩⟩
 case hgx =>
  rintro c X W W' ⟨hc,X',h1,h2,h3,h4⟩ hk
  exact⟨hc,_,GZ.out _ _ _ h1 (hk.mono fun b _ h=>h2 b h),fun b hb=>hb.imp (h2 b) id,.inl h3,.inl h4⟩
 case hob =>
  rintro i X W o' ⟨X',h1,h2⟩
  have hk:=kept_put W (W0.heap.size+1) o'
  exact⟨_,GR.out _ _ _ _ h1 (hk.mono fun b _ h=>by rw [h];exact h2.own.2.2.2.2),h2.keep hk (fun b hb=>by rw [hb];omega) (fun _ h=>.inl h) fun b hb=>⟨.inl (h2.sub b hb).1,(h2.sub b hb).2⟩⟩
 case hox =>
  rintro c X W o' ⟨hc,X',h1,h2,h3,h4⟩
  have hk:=kept_put W (W0.heap.size+1) o'
  exact⟨hc,_,GZ.out _ _ _ h1 (hk.mono fun b _ h=>by rw [h];exact h4),fun b hb=>.inl (h2 b hb),.inl h3,.inl h4⟩
 case h0 =>
  intro o1 o2
  have hz:=Z0.out
  have hk:Kept X0 w ((W0.alloc o1).alloc o2):=((K0.out.alloc _).alloc _).mono fun _ _ h=>h.elim
  have hs:((W0.alloc o1).alloc o2).heap.size=w.heap.size+5:=by simp;omega
  refine⟨_,GR.out _ _ _ _ H0.out hk,?_⟩
  obtain⟨b0,b1,b2⟩:=B0.out
  exact { y:=(b0.alloc _).alloc _,n:=(b1.alloc _).alloc _,t:=(b2.alloc _).alloc _,sub:=fun _ h=>h.elim,lt:=by omega,sz:=by simp;omega,
          own:=⟨.inr ⟨by omega,by omega⟩,.inr ⟨by omega,by omega⟩,.inr ⟨by omega,by omega⟩,.inr ⟨by omega,by omega⟩,.inr ⟨by omega,by omega⟩⟩ }
 case round =>
  intro i W K hi hK
  have hm:=nth_lt hi
  unfold allEnc
  generalize nth L i=m at hm ⊢
  gi_wp2
  rintro X W h2 ⟨X',hI,hB⟩
  have he:=(RD.out _ _ _ hI).2.elt m (List.mem_of_getElem? hm)
  have e5:W.cell? ⟨A m.id,5,none⟩=some (.int .i64 m.st):=he.cell' rfl
  have c0:W.cell? ⟨w.heap.size,0,none⟩=some (.func (.yield yl) #[] #[]):=hB.y.cell' rfl
  have c1:W.cell? ⟨w.heap.size+1,0,none⟩=some (.int .i64 (shC L i)):=hB.n.cell' rfl
  have f1:=hB.n.frozen 0
  have H2:=Lib.hid h2
  have HI:=Lib.hid hI
  have HB:=Lib.hid hB
  have HM:=Lib.hid hm
  clear h2 hI hB hm he
  by_cases q5:m.st=1
  ·obtain⟨u1,u2⟩:=shC_up HM.out q5
   have hk0:shC L i<(shL L).length:=(List.getElem?_eq_some_iff.1 u2).1
   have hyy:=HY.out _ _ _ hk0 HI.out
   unfold shEnc at hyy
   rw [nth_some u2] at hyy
   have hle:=shC_le L i
   have hs1:(0:Int)≤shC L i:=by omega
   have hs2:((shC L i:Nat):Int)≤900000:=by omega
   obtain⟨fn,tmps,assign,body,hy,hR⟩:=yield_any rfl 2 (W0.heap.size+1) hyy
   have U1:=Lib.hid u1
   have HRR:=Lib.hid hR
   clear u1 u2 hk0 hyy hle hR
   gi_wp2
   refine HRR.out.mono ?_
   rintro e w2 ⟨bb,rfl,hX2,hz2,ht,hf⟩
   have hsub:∀x,X x∨x=W0.heap.size∨x=W0.heap.size+1→w2.heap[x]?=W.heap[x]?:=fun x hx=>hX2 x (by
    rcases hx with hx|rfl|rfl
    ·exact (HB.out.sub x hx).1
    ·exact HB.out.own.2.2.2.1
    ·exact HB.out.own.2.2.2.2)
   have HS:=Lib.hid hsub
   have HZ2:=Lib.hid hz2
   have hBk:∀g' T us,X' g'→Blk W g' T us→Blk w2 g' T us:=fun g' T us h1 h2=>(hX2 g' h1).trans h2
   cases bb with
   | false =>
    have ZZ:=Lib.hid (hf rfl)
    clear ht hf hX2 hz2 hsub hBk e5 c0 c1 f1 hy
    gi_wp2
    exact⟨HS.out,HZ2.out,rfl,X',ZZ.out,fun b hb=>(HB.out.sub b hb).1,HB.out.own.2.2.2.1,HB.out.own.2.2.2.2⟩
   | true =>
    have II:=Lib.hid (ht rfl)
    have hB2:ShB w.heap.size W0.heap.size g yl (shC L i) X X' w2 :=
     {y:=hBk _ _ _ HB.out.own.1 HB.out.y,n:=hBk _ _ _ HB.out.own.2.1 HB.out.n,t:=hBk _ _ _ HB.out.own.2.2.1 HB.out.t,sub:=HB.out.sub,own:=HB.out.own,lt:=HB.out.lt,sz:=Nat.le_trans HB.out.sz hz2 }
    have d1:w2.cell? ⟨w.heap.size+1,0,none⟩=some (.int .i64 (shC L i)):=hB2.n.cell' rfl
    have g1:=hB2.n.frozen 0
    have HB2:=Lib.hid hB2
    clear ht hf hX2 hz2 hsub hBk e5 c0 c1 f1 hy hB2
    gi_wp2
    have hk:=kept_cell w2 (w.heap.size+1) (.int .i64 ((shC L i:Int)+1))
    have hlt:=HB.out.lt
    refine⟨fun x hx=>?_,Nat.le_trans HZ2.out hk.size,_,(by rw [U1.out];exact GR.out _ _ _ _ II.out (hk.mono fun b _ h=>by rw [h];exact HB.out.own.2.1)),?_⟩
    ·have hne:x≠w.heap.size+1:=by
      rcases hx with hx|hx|hx
      ·have:=(HB.out.sub x hx).2;omega
      ·omega
      ·omega
     exact (Below.heap_setCell _ _ _ _ hne).trans (HS.out x hx)
    ·rw [U1.out]
     have hb:=HB2.out
     exact { y:=hk.blk (by omega) hb.y,n:=hb.n.set_ 0 _,t:=hk.blk (by omega) hb.t,sub:=fun b hb'=>⟨.inl (hb.sub b hb').1,(hb.sub b hb').2⟩,lt:=hb.lt,sz:=Nat.le_trans hb.sz hk.size,
             own:=⟨.inl hb.own.1,.inl hb.own.2.1,.inl hb.own.2.2.1,.inl hb.own.2.2.2.1,.inl hb.own.2.2.2.2⟩ }
  ·have U1:=Lib.hid (shC_same HM.out q5)
   gi_wp2
   exact⟨fun _ _=>rfl,Nat.le_refl _,X',by rw [U1.out];exact HI.out,by rw [U1.out];exact HB.out⟩
 case done =>
  rintro X W ⟨X',h1,h2⟩ hK
  rw [shC_all] at h1
  have H1:=Lib.hid h1
  have H2:=Lib.hid h2
  have HK:=Lib.hid hK
  clear h1 h2 hK
  gi_wp2
  exact ret_range HK.out (results_none rfl _ _ _) ⟨⟨_,rfl⟩,.inl ⟨_,GR.out _ _ _ _ H1.out ((kept_put W W0.heap.size (.deferred none)).mono fun b _ h=>by rw [h];exact H2.out.own.2.2.2.1)⟩⟩
 case stop =>
  rintro c X W ⟨rfl,X',h1,h2,h3,h4⟩ hK
  have H1:=Lib.hid h1
  have HK:=Lib.hid hK
  clear h1 h2 hK
  gi_wp2
  exact ret_range HK.out (results_none rfl _ _ _) ⟨⟨_,rfl⟩,.inr ⟨_,GZ.out _ _ _ H1.out ((kept_put W W0.heap.size (.deferred none)).mono fun b _ h=>by rw [h];exact h3)⟩⟩
end Go.Proofs.YtjohljmpcblpjaaGreatDoor.Tr
namespace Go.Proofs.YtjohljmpcblpjaaGreatDoor.Tr
open Go.RowKit Go.Proofs.YtjohljmpcblpjaaGreatDoor.St Go.Shelf
attribute [local go_sem] Oper.semAt_some
theorem shown_any (g:Nat) (w:World):Calls Tryz.prog 131 #[.pointer (some ⟨g,0,none⟩)] w fun e w' =>
  e=.returned (.func (.func 160) #[] #[.pointer (some ⟨w.heap.size,0,none⟩)])∧w'=w.alloc (.cells #[.pointer (some ⟨g,0,none⟩)] 102):=by
 go_enter Tryz.func131,Tryz.ntmps131
 go_wp2
 go_ret
 exact⟨rfl,rfl⟩
theorem shL_le (L:List Nd):(shL L).length≤L.length:=List.length_filter_le _ _
end Go.Proofs.YtjohljmpcblpjaaGreatDoor.Tr
namespace Go.Proofs.YtjohljmpcblpjaaGreatDoor.Tr
open Go.RowKit Go.Proofs.YtjohljmpcblpjaaGreatDoor.St Go.Shelf
attribute [local go_sem] Oper.semAt_some
def allJ (w:World) (B g:Nat) (L:List Nd) (A:ID→Nat) (S:ID→Rw) (mp:Option Nat) (i:Nat) (X:Nat→Prop) (W:World):Prop :=
 Gro nodeE 84 w B (fun _=>False) (nodesB w.heap.size g) g L A S mp ((shL L).take i) X W
theorem allf_any {w:World}{g:Nat}{L:List Nd}{A:ID→Nat}{S:ID→Rw}{mp:Option Nat}(h:TAt w g L A S mp) (hdoc:Doc L) (hlen:L.length≤900000) :
  Calls Tryz.prog 91 #[.pointer (some ⟨g,0,none⟩)] w fun e w'=>(∃b v,e=.returned (.func (.func 132) #[] #[.pointer (some ⟨b,0,none⟩)])∧w.heap.size≤b∧Blk w' b 51 #[v]∧w'.ownsRow w.heap.size 84 6 v (shL L).length (nodeE.flat (shL L)))∧Kept (fun _=>False) w w':=by
 refine (callsIn_wide (n:=6)).1 ?_
 refine callsIn_of_wp_marks Tryz.func91 rfl trivial ?_ rfl
 simp only [Tryz.ntmps91,List.size_toArray,List.length_cons,List.length_nil,Nat.reduceAdd,Nat.reduceSub,Array.replicate_succ,Array.replicate_zero,List.push_toArray,List.append_toArray,List.nil_append,List.cons_append]
 gi_wp2_with (refine⟨trivial,?_⟩;gi_at_call 131;refine (callsIn_wide.2 (shown_any g _)).mono ?_;rintro e w' ⟨rfl,rfl⟩)
 obtain⟨W0,hW0⟩:∃W0,((w.alloc (.cells #[.slice none 0 0] 51)).alloc (.cells #[.pointer (some ⟨g,0,none⟩)] 102))=W0:=⟨_,rfl⟩
 have hC:CJ w W0.heap.size (fun _=>False) (nodesB w.heap.size g (.slice none 0 0)) g L A S mp (fun _=>False) W0:=by
  rw [←hW0]
  have h9:=(((CJ.start (M:=fun _=>False) h).boxed #[.slice none 0 0] 51)).boxed #[.pointer (some ⟨g,0,none⟩)] 102
  simp only [World.size_alloc] at h9 ⊢
  exact h9
 rw [hW0]
 clear hW0
 refine wpIn_iter rfl (by decide) (gf:=160) (lb:=#[.pointer (some ⟨w.heap.size+1,0,none⟩)]) rfl trivial (enters_of Tryz.func160 (by kernel_rfl) rfl) (shown1_iter (A:=A) (S:=S) (g:=g) (mp:=mp) hdoc hlen) (fun _ _=>rfl) W0.heap.size rfl (allJ w W0.heap.size g L A S mp) (fun _ _ _=>False) ?hrd ?hgr ?hgx ?hob ?hox ?h0 ?round ?done ?stop
 case hrd=>rintro i X W ⟨v,hJ,_⟩;exact⟨hJ.cell 1 rfl 0 rfl,hJ.tree⟩
 case hgr=>intro i X W W' hJ hk;exact Gro.grow hJ hk
 case hgx=>intro c X W W' h _;exact h
 case hob=>intro i X W o' hJ;exact Gro.put hJ o'
 case hox=>intro c X W o' hJ;exact hJ
 case h0 =>
  intro o1 o2
  have h9:Gro nodeE 84 w W0.heap.size (fun _=>False) (nodesB w.heap.size g) g L A S mp [] (fun _=>False) W0:=⟨_,hC,World.ownsRow_nil ..,fun b hb=>by cases hb⟩
  exact (h9.alloc o1).alloc o2
 case round =>
  intro i W K hi hK
  have hm:=nth_lt hi
  unfold shEnc
  generalize nth (shL L) i=m at hm ⊢
  gi_wp2
  rintro X W h2 ⟨v,hJ,hO,hX⟩
  have hmL:m∈L:=(List.mem_filter.1 (List.mem_of_getElem? hm)).1
  have he:=hJ.tree.elt m hmL
  have e0:W.cell? ⟨A m.id,0,none⟩=some (.int .i64 m.id.t):=he.cell' rfl
  have e1:W.cell? ⟨A m.id,1,none⟩=some (.int .i64 m.id.s):=he.cell' rfl
  have e2:W.cell? ⟨A m.id,2,none⟩=some (.int .i64 m.ref.t):=he.cell' rfl
  have e3:W.cell? ⟨A m.id,3,none⟩=some (.int .i64 m.ref.s):=he.cell' rfl
  have e4:W.cell? ⟨A m.id,4,none⟩=some (.int .i32 m.rune):=he.cell' rfl
  have e5:W.cell? ⟨A m.id,5,none⟩=some (.int .i64 m.st):=he.cell' rfl
  obtain⟨va,vc,rfl⟩:=owns_sl hO
  have f0:=hJ.frozen 0 rfl 0
  have hlen2:((shL L).take i).length≤1000000:=by have:=List.length_take_le i (shL L);have:=shL_le L;omega
  have hli:((shL L).take i).length=i:=by rw [List.length_take];omega
  have n1:¬A m.id=w.heap.size:=by have:=hJ.low (A m.id) (.inr (.inr (.inl ⟨m.id,List.mem_map.2 ⟨m,hmL,rfl⟩,rfl⟩)));omega
  have hzl:w.heap.size<W.heap.size:=(hJ.at_ 0 rfl).lt
  have hlit:SlAt nodeE (W.drew.alloc (.cells #[.int .i64 m.id.t,.int .i64 m.id.s,.int .i64 m.ref.t,.int .i64 m.ref.s,.int .i32 m.rune,.int .i64 m.st] 84)) (.slice (some ⟨W.heap.size,0,none⟩) 1 1) [m]:=SlAt.lit [m] _ (by simp [Enc.flat,nodeE,ndC]) (by unfold maxLen;simp)
  have hk1:Kept (fun _=>False) W (W.drew.alloc (.cells #[.int .i64 m.id.t,.int .i64 m.id.s,.int .i64 m.ref.t,.int .i64 m.ref.s,.int .i32 m.rune,.int .i64 m.st] 84)):=((Kept.refl _ _).drew).alloc _
  have hown:=owns_keep hO hk1 (fun _ _ h=>h)
  rw [show Value.slice va ((shL L).take i).length vc=.slice va i vc by rw [hli]] at hown hO hJ hX
  have HOWN:=Lib.hid hown
  have HK1:=Lib.hid hk1
  have HB:=Lib.hid (show W0.heap.size+2≤(W.drew.alloc (.cells #[.int .i64 m.id.t,.int .i64 m.id.s,.int .i64 m.ref.t,.int .i64 m.ref.s,.int .i32 m.rune,.int .i64 m.st] 84)).heap.size by simp;omega)
  clear hown hk1
  have c0:W.cell? ⟨w.heap.size,0,none⟩=some (.slice va i vc):=hJ.cell 0 rfl 0 rfl
  have HJ:=Lib.hid hJ
  have HO:=Lib.hid hO
  have HX:=Lib.hid hX
  have H2:=Lib.hid h2
  have HM:=Lib.hid hm
  have HLIT:=Lib.hid hlit
  have HL2:=Lib.hid hlen2
  have HLI:=Lib.hid hli
  clear hJ hO hX h2 hm hlit hlen2 hli he hmL
  gi_wp2
  refine region_any (GroR nodeE 84 w W0.heap.size (fun _=>False) (nodesB w.heap.size g) g L A S mp ((shL L).take i++[m]) X W) ?_ ?_
  focus
   gi_region_with ((refine step_append_in (w:=W.drew.alloc (.cells #[.int .i64 m.id.t,.int .i64 m.id.s,.int .i64 m.ref.t,.int .i64 m.ref.s,.int .i32 m.rune,.int .i64 m.st] 84)) nodeE (.tmp 10) (.tmp 15) 51 rfl (W0.heap.size+2) 84 (.agg #[.int .i64 0,.int .i64 0,.int .i64 0,.int .i64 0,.int .i32 0,.int .i64 0]) 48 Tryz.underlying51 info_node rfl (by decide) rfl rfl (by go_simp) HOWN.out HLIT.out HL2.out HB.out ?_;rintro v2 w2 ho2 hg2;have hJ2:=Gro.after HJ.out HO.out HK1.out hg2;rw [HLI.out] at ho2;obtain⟨va2,vc2,rfl⟩:=owns_sl ho2;have d0:w2.cell? ⟨w.heap.size,0,none⟩=some (.slice va i vc):=hJ2.cell 0 rfl 0 rfl;have g0:=hJ2.frozen 0 rfl 0;clear hJ2))
   all_goals exact⟨rfl,Gro.appended HJ.out HO.out HX.out H2.out HK1.out hg2 (by rw [HLI.out]) ho2 0 rfl (nodesB_nodup ..) rfl⟩
  rintro a' W' ⟨ho,hG⟩
  gi_wp2
  refine⟨ho.1,ho.2,?_⟩
  show Gro _ _ _ _ _ _ _ _ _ _ _ _ _ _
  rw [List.take_add_one,HM.out]
  exact hG
 case done =>
  rintro X W hJ0 hK
  obtain⟨v,hJ,hO,hX⟩:=hJ0
  rw [List.take_length] at hO
  have HJ:=Lib.hid hJ
  have HO:=Lib.hid hO
  have HK:=Lib.hid hK
  clear hJ hO hX hK
  gi_wp2
  have hC2:=HJ.out.taken (.deferred none)
  have hO3:=owns_keep HO.out (kept_put W W0.heap.size (.deferred none)) fun b hb e=>by have:=(owns_lt HO.out b hb).1;omega
  have hs0:=HJ.out.size.1
  refine ret_range HK.out (results_tmp rfl _ _ _) ⟨⟨w.heap.size,rfl,Nat.le_refl _,v,hC2.at_ 0 rfl,hO3.1,?_⟩,hC2.kept⟩
  rcases hO3.2 with h5|⟨g',cap,cur,e1,e2,e3⟩
  ·exact .inl h5
  ·exact .inr ⟨g',cap,cur,e1,by omega,e3⟩
 case stop =>
  rintro c X W h _
  exact h.elim
end Go.Proofs.YtjohljmpcblpjaaGreatDoor.Tr
namespace Go.Proofs.YtjohljmpcblpjaaGreatDoor.Tr
open Go.RowKit Go.Proofs.YtjohljmpcblpjaaGreatDoor.St Go.Shelf
attribute [local go_sem] Oper.semAt_some
theorem SlAt.node {w:World}{v:Value}{L:List Nd}(h:SlAt nodeE w v L) (hn:0<L.length):∃g o c,v=.slice (some ⟨g,o,none⟩) L.length c∧g<w.heap.size∧∀(i:Nat) (x:Nd),L[i]?=some x →
  w.cell? ⟨g,o+i * 6,none⟩=some (.int .i64 x.id.t)∧w.cell? ⟨g,o+i * 6+1,none⟩=some (.int .i64 x.id.s)∧w.cell? ⟨g,o+i * 6+2,none⟩=some (.int .i64 x.ref.t)∧w.cell? ⟨g,o+i * 6+3,none⟩=some (.int .i64 x.ref.s)∧w.cell? ⟨g,o+i * 6+4,none⟩=some (.int .i32 x.rune)∧w.cell? ⟨g,o+i * 6+5,none⟩=some (.int .i64 x.st):=by
 obtain⟨g,o,c,rfl,_,_,hg,hc⟩:=h.one hn
 exact⟨g,o,c,rfl,hg,fun i x hx=>⟨hc i x hx 0 _ rfl,hc i x hx 1 _ rfl,hc i x hx 2 _ rfl,hc i x hx 3 _ rfl,hc i x hx 4 _ rfl,hc i x hx 5 _ rfl⟩⟩
theorem allp_any {w:World}{L:List Nd}{pl:Nat}{v:Value}(hb:L.length≤1000000) (k:FuncId) (caps:Array Value) (I:Nat→World→Prop) (Z:World→Prop)
  (hrd:∀i w,I i w→w.cell? ⟨pl,0,none⟩=some v∧SlAt nodeE w v L) (hgr:∀i w w',I i w→Kept (fun _=>False) w w'→I i w')
  (hy:∀i x w,L[i]?=some x→I i w→Calls Tryz.prog k (#[idV x.id,.int .i32 x.rune]++caps) w fun e w'=>∃b,e=.returned (.bool b)∧(b=true→I (i+1) w')∧(b=false→Z w'))
  (hen:∀args w,Sem.run Tryz.prog (callFunc k args) w=.ok (.enter k args) w) (h:I 0 w) :
  Calls Tryz.prog 132 #[.func (.func k) #[] caps,.pointer (some ⟨pl,0,none⟩)] w fun e w'=>e=.returned (.tuple #[])∧(I L.length w'∨Z w'):=by
 obtain⟨x0,hs0⟩:=hrd 0 w h
 obtain⟨a,c,rfl,_,_⟩:=hs0.sl
 have RD:=Lib.hid hrd
 have GR:=Lib.hid hgr
 have HY:=Lib.hid hy
 have H0:=Lib.hid h
 clear hrd hgr hy hs0 h
 go_enter Tryz.func132,Tryz.ntmps132
 go_wp2_with fail
 go_loopw [7] (fun iv wr=>∃j:Nat,iv=.int .i64 j∧j≤L.length∧I j wr) (fun iv _=>L.length-(intOf iv).toNat)
 case atStart=>exact⟨0,rfl,Nat.zero_le _,H0.out⟩
 case round =>
  obtain⟨j,rfl,hj,hI⟩:=hrel
  have hj0:(0:Int)≤j:=by omega
  by_cases hlt:j<L.length
  case neg =>
   have hnl:¬(j:Int)<L.length:=by omega
   go_wp2_with fail
   go_end0
   exact⟨rfl,.inl (by rw [show j=L.length by omega] at hI;exact hI)⟩
  case pos =>
   have hltI:(j:Int)<L.length:=by omega
   obtain⟨r,hr⟩:=get_of_lt hlt
   obtain⟨_,hs1⟩:=RD.out _ _ hI
   obtain⟨g,o,c',hv,hglt,hc⟩:=SlAt.node hs1 (by omega)
   cases hv
   obtain⟨c0,c1,c2,c3,c4,c5⟩:=hc j r hr
   have hcall:=HY.out j r (wr.alloc (.cells #[.int .i64 r.id.t,.int .i64 r.id.s,.int .i64 r.ref.t,.int .i64 r.ref.s,.int .i32 r.rune,.int .i64 r.st] 84)) hr (GR.out _ _ _ hI ((Kept.refl _ _).alloc _))
   unfold idV at hcall
   have R:=Lib.hid hr
   clear hr hc hs1 hI
   go_wp2_with fail
   refine hcall.mono ?_
   rintro e w2 ⟨bb,rfl,ht,hf⟩
   cases bb with
   | true =>
    have T:=Lib.hid (ht rfl)
    clear ht hf
    go_wp2_with fail
    go_roundw
    case rel=>exact⟨j+1,by go_num,by omega,T.out⟩
    case measure=>simp [intOf];omega
   | false =>
    have T:=Lib.hid (hf rfl)
    clear ht hf
    go_wp2_with fail
    refine bodyPost_ret (results_none rfl _ _ _) rfl ?_
    exact⟨rfl,.inr T.out⟩
def nodeEnc (L:List Nd) (i:Nat):Array Value:=#[.agg #[.int .i64 (nth L i).id.t,.int .i64 (nth L i).id.s],.int .i32 (nth L i).rune]
theorem all2_iter {L:List Nd}{pl:Nat}{v:Value}(hb:L.length≤1000000) :
  IterOk Fence.wide 5 Tryz.prog 132 #[.pointer (some ⟨pl,0,none⟩)] L.length (nodeEnc L) (fun w=>w.cell? ⟨pl,0,none⟩=some v∧SlAt nodeE w v L):=by
 intro yl I Z X0 w hrd hgr hgz hy h0
 obtain⟨x0,hs0⟩:=hrd _ _ w h0
 obtain⟨a,c,rfl,_,_⟩:=hs0.sl
 have RD:=Lib.hid hrd
 have GR:=Lib.hid hgr
 have HY:=Lib.hid hy
 have H0:=Lib.hid h0
 clear hrd hgr hgz hy hs0 h0
 refine callsIn_of_wp Tryz.func132 rfl trivial ?_ rfl
 simp only [Tryz.ntmps132,List.size_toArray,List.length_cons,List.length_nil,Nat.reduceAdd,Nat.reduceSub,Array.replicate_succ,Array.replicate_zero,List.push_toArray,List.append_toArray,List.nil_append,List.cons_append]
 gi_wp2
 gi_loopw [7] (fun iv wr=>∃j:Nat,iv=.int .i64 j∧j≤L.length∧∃X,I j X wr) (fun iv _=>L.length-(intOf iv).toNat)
 case atStart=>exact⟨0,rfl,Nat.zero_le _,_,H0.out⟩
 case round =>
  obtain⟨j,rfl,hj,X,hI⟩:=hrel
  have hj0:(0:Int)≤j:=by omega
  by_cases hlt:j<L.length
  case neg =>
   have hnl:¬(j:Int)<L.length:=by omega
   gi_wp2
   go_end0
   exact⟨⟨_,rfl⟩,.inl ⟨X,by rw [show j=L.length by omega] at hI;exact hI⟩⟩
  case pos =>
   have hltI:(j:Int)<L.length:=by omega
   obtain⟨r,hr⟩:=get_of_lt hlt
   obtain⟨_,hs1⟩:=RD.out _ _ _ hI
   obtain⟨g,o,c',hv,hglt,hc⟩:=SlAt.node hs1 (by omega)
   cases hv
   obtain⟨c0,c1,c2,c3,c4,c5⟩:=hc j r hr
   have hcall:=HY.out j _ (wr.alloc (.cells #[.int .i64 r.id.t,.int .i64 r.id.s,.int .i64 r.ref.t,.int .i64 r.ref.s,.int .i32 r.rune,.int .i64 r.st] 84)) hlt (GR.out _ _ _ _ hI ((Kept.refl _ _).alloc _))
   unfold nodeEnc at hcall
   rw [nth_some hr] at hcall
   obtain⟨fn,tmps,assign,body,hy,hR⟩:=hcall
   have HRR:=Lib.hid hR
   clear hr hc hs1 hI hR
   gi_wp2
   refine HRR.out.mono ?_
   rintro e w2 ⟨bb,rfl,_,_,ht,hf⟩
   cases bb with
   | true =>
    have T:=Lib.hid (ht rfl)
    clear ht hf hy c0 c1 c2 c3 c4 c5
    gi_wp2
    go_roundw
    case rel=>exact⟨j+1,by go_num,by omega,_,T.out⟩
    case measure=>simp [intOf];omega
   | false =>
    have T:=Lib.hid (hf rfl)
    clear ht hf hy c0 c1 c2 c3 c4 c5
    gi_wp2
    refine bodyPost_ret (results_none rfl _ _ _) rfl ?_
    exact⟨⟨_,rfl⟩,.inr ⟨_,T.out⟩⟩
end Go.Proofs.YtjohljmpcblpjaaGreatDoor.Tr
namespace Go.Proofs.YtjohljmpcblpjaaGreatDoor.Tr
open Go.RowKit Go.Proofs.YtjohljmpcblpjaaGreatDoor.St
theorem eq_node (x y:Nd):decide (x=y)=((x.id.t == y.id.t && x.id.s == y.id.s) && (x.ref.t == y.ref.t && x.ref.s == y.ref.s) && x.rune == y.rune && x.st == y.st):=by
 rw [Bool.eq_iff_iff]
 simp [Nd.ext_iff,ID.ext_iff,and_assoc]
theorem ne_node (x y:Nd) (w:World):(binOp .neq 84 (.agg (ndC x).toArray) (.agg (ndC y).toArray)).run Tryz.prog w=.ok (.bool (!decide (x=y))) w:=by
 rw [eq_node]
 show (binOp .neq 84 (.agg #[.int .i64 x.id.t,.int .i64 x.id.s,.int .i64 x.ref.t,.int .i64 x.ref.s,.int .i32 x.rune,.int .i64 x.st]) (.agg #[.int .i64 y.id.t,.int .i64 y.id.s,.int .i64 y.ref.t,.int .i64 y.ref.s,.int .i32 y.rune,.int .i64 y.st])).run Tryz.prog w=_
 cases h1:x.id.t == y.id.t
 ·go_simp
 cases h2:x.id.s == y.id.s
 ·go_simp
 cases h3:x.ref.t == y.ref.t
 ·go_simp
 cases h4:x.ref.s == y.ref.s
 ·go_simp
 cases h5:x.rune == y.rune
 ·go_simp
 cases h6:x.st == y.st
 ·go_simp
 ·go_simp
end Go.Proofs.YtjohljmpcblpjaaGreatDoor.Tr
namespace Go.Proofs.YtjohljmpcblpjaaGreatDoor.Pa
open Go.RowKit Go.Proofs.YtjohljmpcblpjaaGreatDoor.St Go.Proofs.YtjohljmpcblpjaaGreatDoor Go.Proofs.YtjohljmpcblpjaaGreatDoor.Tr
theorem pnodes_eq {w:World}{u v:Value}{L M:List Nd}(hu:SlAt nodeE w u L) (hv:SlAt nodeE w v M) (hb:L.length≤1000000000) :
  Calls Tryz.prog 27 #[u,v] w fun e w'=>e=.returned (.bool (decide (L=M)))∧∃q,w'=w.drewN q:=by
 obtain⟨a,c,rfl,_,_⟩:=hu.sl
 obtain⟨b,d,rfl,_,_⟩:=hv.sl
 by_cases hl:L.length=M.length
 case neg =>
  have hne:decide (L=M)=false:=decide_eq_false fun e=>hl (by rw [e])
  have hlb:((L.length:Int) != M.length)=true:=by simp;omega
  rw [hne]
  clear hu hv hl hne
  go_enter Tryz.func27,Tryz.ntmps27
  go_wp2
  go_ret
  exact⟨rfl,0,rfl⟩
 case pos =>
  have hlb:((L.length:Int) != M.length)=false:=by simp;omega
  have HU:=Lib.hid hu
  have HV:=Lib.hid hv
  have HL:=Lib.hid hl
  clear hu hv hl
  go_enter Tryz.func27,Tryz.ntmps27
  go_wp2
  go_loopw [5] (fun i wr=>∃n q:Nat,i=.int .i64 n∧n≤L.length∧L.take n=M.take n∧wr=w.drewN q) (fun i _=>L.length-(intOf i).toNat)
  case atStart=>exact⟨0,0,rfl,Nat.zero_le _,rfl,rfl⟩
  case round =>
   obtain⟨n,q,rfl,hn,ht,rfl⟩:=hrel
   have TT:=Lib.hid ht
   clear ht
   by_cases hlt:n<L.length
   case neg =>
    have hge:L.length≤n:=by omega
    have e:decide (L=M)=true:=decide_eq_true (by have:=TT.out;rw [List.take_of_length_le hge,List.take_of_length_le (by rw [←HL.out];exact hge)] at this;exact this)
    have E:=Lib.hid e
    clear e
    go_wp2
    go_ret
    exact⟨by rw [E.out];rfl,_,rfl⟩
   case pos =>
    have hlM:=HL.out
    obtain⟨x,hx⟩:=get_of_lt hlt
    obtain⟨y,hy⟩:=get_of_lt (show n<M.length by omega)
    obtain⟨g,o,c',e1,_,h1⟩:=SlAt.node HU.out (by omega)
    obtain⟨g',o',c2,e2,_,h2⟩:=SlAt.node HV.out (by omega)
    cases e1
    cases e2
    obtain⟨k1,k2,k3,k4,k5,k6⟩:=h1 n x hx
    obtain⟨l1,l2,l3,l4,l5,l6⟩:=h2 n y hy
    have X0:=Lib.hid hx
    have Y0:=Lib.hid hy
    have hn0:(0:Int)≤n:=by omega
    have hnl:(n:Int)<L.length:=by omega
    have hnm:(n:Int)<M.length:=by omega
    clear hx hy h1 h2 hlM
    have hne:=ne_node x y
    unfold ndC at hne
    by_cases hxy:x=y
    ·rw [decide_eq_true hxy] at hne
     have XY:=Lib.hid hxy
     clear hxy
     go_wp2
     go_quiet (fail)
     go_wp2
     go_roundw
     case rel=>exact⟨n+1,_,by go_num,by omega,by rw [List.take_add_one,List.take_add_one,X0.out,Y0.out,TT.out,XY.out],rfl⟩
     case measure=>simp [intOf];omega
    ·rw [decide_eq_false hxy] at hne
     have HNE:=Lib.hid hxy
     clear hxy
     have NE:Hid (decide (L=M)=false):=decide_eq_false fun e=>by
      have hz:=Y0.out
      rw [←e,X0.out] at hz
      exact HNE.out (Option.some.inj hz)
     go_wp2
     go_quiet (fail)
     go_wp2
     go_ret
     exact⟨by rw [NE.out];rfl,_,World.drewN_drewN _ _ _⟩
def intE:Enc Int:=⟨1,fun x=>[.int .i64 x],fun _=>rfl,by decide,fun x u hu=>by rw [List.mem_singleton.1 hu];rfl⟩
theorem eq_int (x y:Int):x=y∨(x≠y∧(x == y)=false):=by
 by_cases h:x=y
 ·exact .inl h
 ·exact .inr ⟨h,by simpa using h⟩
theorem SlAt.intc {w:World}{v:Value}{L:List Int}(h:SlAt intE w v L) (hn:0<L.length):∃g o c,v=.slice (some ⟨g,o,none⟩) L.length c∧∀(i:Nat) (x:Int),L[i]?=some x→w.cell? ⟨g,o+i,none⟩=some (.int .i64 x):=by
 obtain⟨g,o,c,rfl,_,_,_,hc⟩:=h.one hn
 exact⟨g,o,c,rfl,fun i x hx=>by have h9:=hc i x hx 0 _ rfl;rw [show intE.k=1 from rfl,Nat.mul_one,Nat.add_zero] at h9;exact h9⟩
theorem pints_eq {w:World}{u v:Value}{L M:List Int}(hu:SlAt intE w u L) (hv:SlAt intE w v M) (hb:L.length≤1000000000) :
  Calls Tryz.prog 24 #[u,v] w fun e w'=>e=.returned (.bool (decide (L=M)))∧∃q,w'=w.drewN q:=by
 obtain⟨a,c,rfl,_,_⟩:=hu.sl
 obtain⟨b,d,rfl,_,_⟩:=hv.sl
 by_cases hl:L.length=M.length
 case neg =>
  have hne:decide (L=M)=false:=decide_eq_false fun e=>hl (by rw [e])
  have hlb:((L.length:Int) != M.length)=true:=by simp;omega
  rw [hne]
  clear hu hv hl hne
  go_enter Tryz.func24,Tryz.ntmps24
  go_wp2
  go_ret
  exact⟨rfl,0,rfl⟩
 case pos =>
  have hlb:((L.length:Int) != M.length)=false:=by simp;omega
  have HU:=Lib.hid hu
  have HV:=Lib.hid hv
  have HL:=Lib.hid hl
  clear hu hv hl
  go_enter Tryz.func24,Tryz.ntmps24
  go_wp2
  go_loopw [5] (fun i wr=>∃n q:Nat,i=.int .i64 n∧n≤L.length∧L.take n=M.take n∧wr=w.drewN q) (fun i _=>L.length-(intOf i).toNat)
  case atStart=>exact⟨0,0,rfl,Nat.zero_le _,rfl,rfl⟩
  case round =>
   obtain⟨n,q,rfl,hn,ht,rfl⟩:=hrel
   have TT:=Lib.hid ht
   clear ht
   by_cases hlt:n<L.length
   case neg =>
    have hge:L.length≤n:=by omega
    have e:decide (L=M)=true:=decide_eq_true (by have:=TT.out;rw [List.take_of_length_le hge,List.take_of_length_le (by rw [←HL.out];exact hge)] at this;exact this)
    have E:=Lib.hid e
    clear e
    go_wp2
    go_ret
    exact⟨by rw [E.out];rfl,_,rfl⟩
   case pos =>
    have hlM:=HL.out
    obtain⟨x,hx⟩:=get_of_lt hlt
    obtain⟨y,hy⟩:=get_of_lt (show n<M.length by omega)
    obtain⟨g,o,c',e1,h1⟩:=SlAt.intc HU.out (by omega)
    obtain⟨g',o',c2,e2,h2⟩:=SlAt.intc HV.out (by omega)
    cases e1
    cases e2
    have k1:=h1 n x hx
    have k4:=h2 n y hy
    have X0:=Lib.hid hx
    have Y0:=Lib.hid hy
    have hn0:(0:Int)≤n:=by omega
    have hnl:(n:Int)<L.length:=by omega
    have hnm:(n:Int)<M.length:=by omega
    clear hx hy h1 h2 hlM
    rcases eq_int x y with rfl|⟨hxy,e1⟩
    ·go_wp2
     go_quiet (fail)
     go_wp2
     go_roundw
     case rel=>exact⟨n+1,_,by go_num,by omega,by rw [List.take_add_one,List.take_add_one,X0.out,Y0.out,TT.out],rfl⟩
     case measure=>simp [intOf];omega
    all_goals
     have HNE:=Lib.hid hxy
     clear hxy
     have NE:Hid (decide (L=M)=false):=decide_eq_false fun e=>by
      have hz:=Y0.out
      rw [←e,X0.out] at hz
      exact HNE.out (Option.some.inj hz)
     go_wp2
     go_quiet (fail)
     go_wp2
     go_ret
     exact⟨by rw [NE.out];rfl,_,World.drewN_drewN _ _ _⟩
end Go.Proofs.YtjohljmpcblpjaaGreatDoor.Pa
