/- (*tree.Tree).Insert, walked. -/
import Derived.Test.YtjohljmpcblpjaaGreatDoorM21
import Derived.Test.YtjohljmpcblpjaaGreatDoorM22
import Derived.Lib.OthersKept
set_option maxRecDepth 100000
set_option maxHeartbeats 8000000
namespace Go.Proofs.YtjohljmpcblpjaaGreatDoor.Tr
open Go.RowKit Go.Sort Go.Proofs.YtjohljmpcblpjaaGreatDoor.St Go.Proofs.YtjohljmpcblpjaaGreatDoor.Gl Go.Proofs.YtjohljmpcblpjaaGreatDoor
theorem text_nil' {s:ByteArray}(h:s.toList=[]):s=⟨#[]⟩:=by
 rw [ByteArray.toList_eq] at h
 obtain⟨⟨l⟩⟩:=s
 have h:l=[]:=h
 rw [h]
theorem text_size {s:ByteArray}:s.size=0↔s.toList=[]:=by
 constructor
 ·intro h
  have e:s=⟨#[]⟩:=ByteArray.size_eq_zero_iff.1 h
  rw [e,ByteArray.toList_eq]
 ·intro h
  rw [text_nil' h]
  rfl
def runesL (s:ByteArray) (i:Nat):List Int:=(pieces s i).map fun j=>(Utf8.decode s j).1
theorem runesL_len (s:ByteArray):(runesL s 0).length=countR s:=by unfold runesL countR;rw [List.length_map]
def badB (s:ByteArray):Bool:=decide (0≤badFrom s 0)
def InsertPost (w:World) (g:Nat) (L:List Nd) (A:ID→Nat) (S:ID→Rw) (mp:Option Nat) (r:Int) (L':List Nd) (e:Ending) (w':World):Prop :=
 e=.returned (.int .i64 r)∧∃A' S' mp',TAt w' g L' A' S' mp'∧(∀b,foot g L' A' S' mp' b→foot g L A S mp b∨w.heap.size≤b)∧Kept (foot g L A S mp) w w'
theorem insert_no {w w':World}{g:Nat}{L:List Nd}{A:ID→Nat}{S:ID→Rw}{mp:Option Nat}{r:Int}{L':List Nd}{i ref:ID}{s:ByteArray}(h:TAt w g L A S mp) (hg:Grew w w') (hr:insE L i ref s.size (badB s) (runesL s 0)=r) (hn:r≠0) (hL:L'=insL L i ref s.size (badB s) (runesL s 0)) :
  InsertPost w g L A S mp (insE L i ref s.size (badB s) (runesL s 0)) L' (.returned (.int .i64 r)) w':=by
 subst hL
 have hl:insL L i ref s.size (badB s) (runesL s 0)=L:=if_pos (by rw [hr];exact hn)
 rw [hl,hr]
 exact⟨rfl,A,S,mp,h.still hg.kept,fun b hb=>.inl hb,hg.kept.mono fun _ _ h=>h.elim⟩
def backR (i ref:ID) (j:Nat):ID:=if j=0 then ref else ⟨i.t+(j:Int) - 1,i.s⟩
theorem freshL_snoc (i ref:ID) (rs:List Int) (r:Int):freshL i ref (rs++[r])=freshL i ref rs++[⟨⟨i.t+rs.length,i.s⟩,backR i ref rs.length,r,1⟩]:=by
 induction rs generalizing i ref with
 | nil=>simp [freshL,backR]
 | cons q qs ih =>
  show (⟨i,ref,q,1⟩:Nd)::freshL ⟨i.t+1,i.s⟩ i (qs++[r])=⟨i,ref,q,1⟩::(freshL ⟨i.t+1,i.s⟩ i qs++_)
  rw [ih]
  congr 3
  have e1:(⟨i.t+1+(qs.length:Int),i.s⟩:ID)=⟨i.t+((q::qs).length:Int),i.s⟩:=by
   rw [List.length_cons];congr 1;push_cast;omega
  have e2:backR ⟨i.t+1,i.s⟩ i qs.length=backR i ref (q::qs).length:=by
   unfold backR
   rw [if_neg (show ¬(q::qs).length=0 by simp),List.length_cons]
   split
   next h=>rw [h];obtain⟨a,b⟩:=i;simp
   next h=>congr 1;push_cast;omega
  show (⟨⟨i.t+1+(qs.length:Int),i.s⟩,backR ⟨i.t+1,i.s⟩ i qs.length,r,1⟩:Nd)=_
  rw [e1,e2]
theorem puts_snoc (xs:List Nd) (y:Nd):∀L,puts L (xs++[y])=put (puts L xs) (placeP (puts L xs) y.id y.ref) y:=by
 induction xs with
 | nil=>intro L;rfl
 | cons x xs ih=>intro L;exact ih _
def insJ (L:List Nd) (i ref:ID) (rs:List Int) (j:Nat):List Nd:=puts L (freshL i ref (rs.take j))
theorem insJ_succ {L:List Nd}{i ref:ID}{rs:List Int}{j:Nat}{r:Int}(h:rs[j]?=some r):insJ L i ref rs (j+1)=put (insJ L i ref rs j) (placeP (insJ L i ref rs j) ⟨i.t+j,i.s⟩ (backR i ref j)) ⟨⟨i.t+j,i.s⟩,backR i ref j,r,1⟩:=by
 unfold insJ
 have hj:=(List.getElem?_eq_some_iff.1 h).1
 rw [List.take_succ_eq_append_getElem hj,(List.getElem?_eq_some_iff.1 h).2,freshL_snoc,puts_snoc,List.length_take,Nat.min_eq_left (Nat.le_of_lt hj)]
structure InsCore (w:World) (B q g:Nat) (L:List Nd) (A:ID→Nat) (S:ID→Rw) (mp:Option Nat) (i ref:ID) (s:ByteArray) (j pos:Nat) (wr:World):Prop where
 tree:∃A' S' mp',TAt wr g (insJ L i ref (runesL s 0) j) A' S' mp'∧(∀b,foot g (insJ L i ref (runesL s 0) j) A' S' mp' b→foot g L A S mp b∨B≤b)
 doc:Doc (insJ L i ref (runesL s 0) j)
 mem:∀y,y∈ids (insJ L i ref (runesL s 0) j)↔y∈ids L∨∃k:Nat,k<j∧y=⟨i.t+k,i.s⟩
 len:(insJ L i ref (runesL s 0) j).length=L.length+j
 kept:Kept (foot g L A S mp) w wr
 size:B≤wr.heap.size
 iter:wr.heap[q]?=some (.stringIter s pos)
 inr:pos≤s.size
 rest:runesL s pos=(runesL s 0).drop j
section
variable {w wr:World} {B q g:Nat} {L:List Nd} {A:ID→Nat} {S:ID→Rw} {mp:Option Nat} {i ref:ID} {s:ByteArray} {j p:Nat}
theorem runes_next (h:p<s.size):runesL s p=((Utf8.decode s p).1:Int)::runesL s (p+stepW s p):=by unfold runesL;rw [pieces_next h];rfl
theorem runes_end (h:¬p<s.size):runesL s p=[]:=by unfold runesL;rw [pieces_end h];rfl
theorem InsCore.at_ (h:InsCore w B q g L A S mp i ref s j p wr) (hlt:p<s.size):(runesL s 0)[j]?=some ((Utf8.decode s p).1:Int)∧runesL s (p+stepW s p)=(runesL s 0).drop (j+1):=by
 have h1:=h.rest
 rw [runes_next hlt] at h1
 have h2:j<(runesL s 0).length:=by
  rcases Nat.lt_or_ge j (runesL s 0).length with h3|h3
  ·exact h3
  ·rw [List.drop_eq_nil_of_le h3] at h1;cases h1
 rw [List.drop_eq_getElem_cons h2] at h1
 injection h1 with e1 e2
 exact⟨by rw [List.getElem?_eq_getElem h2,e1],e2⟩
theorem InsCore.apart (h0:TAt w g L A S mp){A':ID→Nat}{S':ID→Rw}{mp':Option Nat}{L':List Nd}(hf:∀b,foot g L' A' S' mp' b→foot g L A S mp b∨B≤b){x:Nat}(h1:w.heap.size≤x) (h2:x<B):¬foot g L' A' S' mp' x:=fun h=>by
 rcases hf x h with h3|h3
 ·have:=h0.lt x h3;omega
 ·omega
theorem InsCore.boxes {W6:World}(h:InsCore w B q g L A S mp i ref s j p wr) (h0:TAt w g L A S mp) (hB:w.heap.size+1<q∧q<B) (hk:Kept (fun b=>b=w.heap.size∨b=w.heap.size+1) wr W6):InsCore w B q g L A S mp i ref s j p W6:=by
 obtain⟨A',S',mp',ht,hf⟩:=h.tree
 refine⟨⟨A',S',mp',ht.keep hk (fun b hb hx=>?_),hf⟩,h.doc,h.mem,h.len,h.kept.trans hk (fun b hb hx=>?_),Nat.le_trans h.size hk.size,?_,h.inr,h.rest⟩
 ·rcases hx with rfl | rfl
  ·exact InsCore.apart h0 hf (Nat.le_refl _) (by omega) hb
  ·exact InsCore.apart h0 hf (Nat.le_succ _) (by omega) hb
 ·rcases hx with rfl | rfl <;> omega
 ·rw [hk.block q (by have:=h.size;omega) (by rintro (e | e) <;> omega)]
  exact h.iter
theorem InsCore.call (h:InsCore w B q g L A S mp i ref s j p wr) (h0:TAt w g L A S mp) (hB:w.heap.size+1<q∧q<B) (hlt:p<s.size) (hi:i.Is) (hlim:i.t+(runesL s 0).length-1≤2147483647) (href:Ref L ref) (hrl:ref.lt i) (hlen:L.length+(runesL s 0).length≤900000)
  (hno:∀k:Nat,k<(runesL s 0).length→(⟨i.t+k,i.s⟩:ID)∉ids L) {t1 t2:TypeId} {c1 c2:Array Value} (b1:Blk wr w.heap.size t1 c1) (b2:Blk wr (w.heap.size+1) t2 c2) :
  Calls Tryz.prog 130 #[.pointer (some ⟨g,0,none⟩),.agg (ndC ⟨⟨i.t+j,i.s⟩,backR i ref j,(Utf8.decode s p).1,1⟩).toArray] (wr.iterAt q s (p+stepW s p)) fun e W4=>e=.returned (.tuple #[])∧InsCore w B q g L A S mp i ref s (j+1) (p+stepW s p) W4∧Blk W4 w.heap.size t1 c1∧Blk W4 (w.heap.size+1) t2 c2:=by
 obtain⟨A',S',mp',ht,hf⟩:=h.tree
 obtain⟨hrs,hrest⟩:=h.at_ hlt
 have hjn:=(List.getElem?_eq_some_iff.1 hrs).1
 have hkq:Kept (·=q) wr (wr.iterAt q s (p+stepW s p)):=kept_obj wr q (.stringIter s (p+stepW s p))
 have hqf:¬foot g (insJ L i ref (runesL s 0) j) A' S' mp' q:=InsCore.apart h0 hf (by omega) hB.2
 have hbf1:¬foot g (insJ L i ref (runesL s 0) j) A' S' mp' w.heap.size:=InsCore.apart h0 hf (Nat.le_refl _) (by omega)
 have hbf2:¬foot g (insJ L i ref (runesL s 0) j) A' S' mp' (w.heap.size+1):=InsCore.apart h0 hf (Nat.le_succ _) (by omega)
 have ht2:=ht.keep hkq (fun b hb e=>hqf (e ▸ hb))
 have hz:(⟨i.t+j,i.s⟩:ID)≠ID.zero:=fun e=>by have:=congrArg ID.t e;have h3:i.t+(j:Int)=0:=this;have:=hi.1;omega
 have hbr:Ref (insJ L i ref (runesL s 0) j) (backR i ref j)∧(backR i ref j).lt ⟨i.t+j,i.s⟩:=by
  unfold backR
  by_cases hj0:j=0
  ·subst hj0
   rw [if_pos rfl]
   refine⟨?_,?_⟩
   ·rcases href with h1 | h1
    ·exact .inl h1
    ·exact .inr ((h.mem _).2 (.inl h1))
   ·have e:(⟨i.t+((0:Nat):Int),i.s⟩:ID)=i:=by obtain⟨a,b⟩:=i;simp
    rw [e];exact hrl
  ·rw [if_neg hj0]
   refine⟨.inr ((h.mem _).2 (.inr ⟨j-1,by omega,?_⟩)),?_⟩
   ·congr 1;omega
   ·unfold ID.lt
    left
    show i.t+(j:Int) - 1<i.t+j
    omega
 have hnew:(⟨i.t+j,i.s⟩:ID)∉ids (insJ L i ref (runesL s 0) j):=fun hm=>by
  rcases (h.mem _).1 hm with h1|⟨k,hk,e⟩
  ·exact hno j hjn h1
  ·have:=congrArg ID.t e;have h3:i.t+(j:Int)=i.t+(k:Int):=this;omega
 refine (put_any ht2 h.doc (by rw [h.len];omega) ⟨⟨i.t+j,i.s⟩,backR i ref j,(Utf8.decode s p).1,1⟩ hz hbr.1 hbr.2 hnew).mono ?_
 rintro e W4 ⟨he,A4,S4,mp4,ht4,hf4,hk4⟩
 refine⟨he,⟨⟨A4,S4,mp4,?_,?_⟩,?_,?_,?_,?_,?_,?_,stepW_in hlt,hrest⟩,?_,?_⟩
 ·rw [insJ_succ hrs];exact ht4
 ·rw [insJ_succ hrs]
  intro b hb
  rcases hf4 b hb with h1|h1
  ·exact hf b h1
  ·have h2:=h.size
   have h3:=hkq.size
   exact .inr (by omega)
 ·rw [insJ_succ hrs]
  exact (h.doc.put (x:=⟨⟨i.t+j,i.s⟩,backR i ref j,(Utf8.decode s p).1,1⟩) hbr.1 hbr.2 hnew).1
 ·intro y
  rw [insJ_succ hrs,put_ids,h.mem]
  constructor
  ·rintro (rfl | h1 | ⟨k,hk,rfl⟩)
   ·exact .inr ⟨j,by omega,rfl⟩
   ·exact .inl h1
   ·exact .inr ⟨k,by omega,rfl⟩
  ·rintro (h1 | ⟨k,hk,rfl⟩)
   ·exact .inr (.inl h1)
   ·rcases Nat.lt_succ_iff_lt_or_eq.1 hk with h2 | rfl
    ·exact .inr (.inr ⟨k,h2,rfl⟩)
    ·exact .inl rfl
 ·rw [insJ_succ hrs,put_len,h.len];rfl
 ·refine (h.kept.trans hkq (fun b hb e=>?_)).trans hk4 (fun b hb hx=>?_)
  ·exfalso;omega
  ·rcases hf b hx with h1 | h1
   ·exact h1
   ·exfalso;omega
 ·exact Nat.le_trans h.size (Nat.le_trans hkq.size hk4.size)
 ·rw [hk4.block q (by have:=h.size;have:=hkq.size;omega) hqf]
  exact Lib.iterAt_heap wr q s p _ h.iter
 ·exact hk4.blk hbf1 (hkq.blk (by omega) b1)
 ·exact hk4.blk hbf2 (hkq.blk (by omega) b2)
theorem InsCore.start {w5:World}(h0:TAt w g L A S mp) (hdoc:Doc L) (hk:Kept (fun _=>False) w w5):InsCore w (w5.heap.size+1) w5.heap.size g L A S mp i ref s 0 0 (w5.alloc (.stringIter s 0)) where
 tree:=⟨A,S,mp,by have h:=(h0.still hk).still ((Kept.refl (fun _=>False) w5).alloc (.stringIter s 0));simpa [insJ,freshL,puts] using h,fun b hb=>.inl (by simpa [insJ,freshL,puts] using hb)⟩
 doc:=by simpa [insJ,freshL,puts] using hdoc
 mem:=fun y=>by simp [insJ,freshL,puts]
 len:=by simp [insJ,freshL,puts]
 kept:=(hk.alloc _).mono fun _ _ h=>h.elim
 size:=by simp
 iter:=heap_alloc_new w5 _
 inr:=Nat.zero_le _
 rest:=rfl
theorem InsCore.done {W:World}(h:InsCore w B q g L A S mp i ref s j p W) (hp:¬p<s.size) (hdoc:Doc L) (hw:w.heap.size≤B) (hi:i.Is) (hno:¬hasAny L i (runesL s 0).length) (hsz:s.size≠0){L':List Nd}(hL:L'=L.take (placeP L i ref)++freshL i ref (runesL s 0)++L.drop (placeP L i ref)) :
  InsertPost w g L A S mp 0 L' (.returned (.int .i64 0)) W:=by
 have h1:=h.rest
 rw [runes_end hp] at h1
 have h2:(runesL s 0).length≤j:=by
  have:=congrArg List.length h1
  simp at this
  omega
 have h3:insJ L i ref (runesL s 0) j=L':=by
  unfold insJ
  rw [List.take_of_length_le h2,hL]
  obtain⟨r,rs,hr⟩:∃r rs,runesL s 0=r::rs:=⟨_,_,runes_next (Nat.pos_of_ne_zero hsz)⟩
  rw [hr] at hno ⊢
  exact ins_puts hdoc hi hno
 obtain⟨A',S',mp',ht,hf⟩:=h.tree
 rw [h3] at ht hf
 exact⟨rfl,A',S',mp',ht,fun b hb=>(hf b hb).imp_right (Nat.le_trans hw),h.kept⟩
end
theorem insE_why {L:List Nd}{i ref:ID}{sz:Nat}{bad:Bool}{rs:List Int}(h1:¬(¬i.Is∨(ref≠ID.zero∧¬ref.Is))) (h2:¬(sz=0∨bad=true)) (h3:¬2147483647<i.t+rs.length-1) :
  insE L i ref sz bad rs=if whyE L i ref≠0 then whyE L i ref else if hasAny L i rs.length then 12 else 0:=by
 by_cases q:ref.lt i
 ·by_cases r:ref≠ID.zero∧ref∉ids L
  ·have e:whyE L i ref=11:=by unfold whyE;rw [if_neg (fun h=>h q),if_pos r]
   rw [e]
   unfold insE
   rw [if_neg h1,if_neg h2,if_neg h3,if_neg (fun h=>h q),if_pos r,if_pos (by decide)]
  ·have e:whyE L i ref=0:=by unfold whyE;rw [if_neg (fun h=>h q),if_neg r]
   rw [e]
   unfold insE
   rw [if_neg h1,if_neg h2,if_neg h3,if_neg (fun h=>h q),if_neg r]
   exact (if_neg (fun h=>h rfl)).symm
 ·have e:whyE L i ref=9:=by unfold whyE;rw [if_pos q]
  rw [e]
  unfold insE
  rw [if_neg h1,if_neg h2,if_neg h3,if_pos q,if_pos (by decide)]
variable {w:World} {g:Nat} {L:List Nd} {A:ID→Nat} {S:ID→Rw} {mp:Option Nat}
theorem insert_any (h:TAt w g L A S mp) (hdoc:Doc L) (i ref:ID) (s:ByteArray) (hs:s.size≤maxLen) (hlen:L.length+countR s≤900000) :
  Calls Tryz.prog 88 #[.pointer (some ⟨g,0,none⟩),idV i,idV ref,.string s] w (InsertPost w g L A S mp (insE L i ref s.size (badB s) (runesL s 0)) (insL L i ref s.size (badB s) (runesL s 0))):=by
 obtain⟨L',hL'⟩:∃L',L'=insL L i ref s.size (badB s) (runesL s 0):=⟨_,rfl⟩
 rw [←hL']
 obtain⟨it,is⟩:=i
 obtain⟨rt,rs⟩:=ref
 show Calls _ _ #[_,.agg #[.int .i64 it,.int .i64 is],.agg #[.int .i64 rt,.int .i64 rs],_] _ _
 obtain⟨E,hE⟩:∃E,insE L ⟨it,is⟩ ⟨rt,rs⟩ s.size (badB s) (runesL s 0)=E:=⟨_,rfl⟩
 have HNO:=Lib.hid (fun (w':World) (hg:Grew w w') (r:Int) (hr:insE L ⟨it,is⟩ ⟨rt,rs⟩ s.size (badB s) (runesL s 0)=r) (hn:r≠0)=>insert_no h hg hr hn hL')
 rw [hE] at HNO ⊢
 have HE:=Lib.hid hE
 have HL:=Lib.hid hL'
 have HT:=Lib.hid h
 have HD:=Lib.hid hdoc
 have HN:=Lib.hid hlen
 have HS:=Lib.hid hs
 have hgl:=h.top.lt
 have hg0:Grew w ((w.alloc (.cells #[.int .i64 it,.int .i64 is] 59)).alloc (.cells #[.int .i64 rt,.int .i64 rs] 59)):=((Grew.refl w).alloc _).alloc _
 have b1:=(Blk.new w 59 #[.int .i64 it,.int .i64 is]).alloc (.cells #[.int .i64 rt,.int .i64 rs] 59)
 have b0:=Blk.new (w.alloc (.cells #[.int .i64 it,.int .i64 is] 59)) 59 #[.int .i64 rt,.int .i64 rs]
 rw [World.size_alloc] at b0
 have G0:=Lib.hid hg0
 have B0:=Lib.hid b0
 have B1:=Lib.hid b1
 have M1:Hid (∀w,Calls Tryz.prog 125 #[.agg #[.int .i64 it,.int .i64 is]] w fun e w'=>e=.returned (.bool (isB ⟨it,is⟩))∧Grew w w'):=Lib.hid fun w=>may_any ⟨it,is⟩ w
 have M2:Hid (∀w,Calls Tryz.prog 125 #[.agg #[.int .i64 rt,.int .i64 rs]] w fun e w'=>e=.returned (.bool (isB ⟨rt,rs⟩))∧Grew w w'):=Lib.hid fun w=>may_any ⟨rt,rs⟩ w
 obtain⟨p1,hp1⟩:∃b,isB ⟨it,is⟩=b:=⟨_,rfl⟩
 obtain⟨p2,hp2⟩:∃b,isB ⟨rt,rs⟩=b:=⟨_,rfl⟩
 rw [hp1] at M1
 rw [hp2] at M2
 obtain⟨bb,hbb⟩:∃b,(!p1 || (!decide ((⟨rt,rs⟩:ID)=ID.zero) && !p2))=b:=⟨_,rfl⟩
 have P1:=Lib.hid hp1
 have P2:=Lib.hid hp2
 have PB:=Lib.hid hbb
 have BA:Hid (∀w,Calls Tryz.prog 126 #[.string s] w fun e w'=>e=.returned (.int .i64 (badFrom s 0))∧Grew w w'):=Lib.hid fun w=>(badAt_any s hs w).mono fun e w' ⟨h1,p,h2⟩=>⟨h1,by rw [h2];exact (Grew.refl w).alloc _⟩
 have CA:Hid (∀w,Calls Tryz.prog 127 #[.string s] w fun e w'=>e=.returned (.int .i64 (countR s))∧Grew w w'):=Lib.hid fun w=>(count_any s hs w).mono fun e w' ⟨h1,p,h2⟩=>⟨h1,by rw [h2];exact (Grew.refl w).alloc _⟩
 clear h hdoc hlen hs hE hL' hg0 b0 b1 hp1 hp2 hbb
 go_enter Tryz.func88,Tryz.ntmps88
 go_upto_region 1 with fail
 obtain⟨W0,hW0⟩:∃W0,((w.alloc (.cells #[.int .i64 it,.int .i64 is] 59)).alloc (.cells #[.int .i64 rt,.int .i64 rs] 59))=W0:=⟨_,rfl⟩
 rw [hW0] at G0 B0 B1
 have hz0:=B1.out.cell' (i:=0) (v:=.int .i64 it) rfl
 have hz1:=B1.out.cell' (i:=1) (v:=.int .i64 is) rfl
 rw [hW0]
 clear hW0
 go_cut [13] (fun v wx=>v=.bool bb∧Grew W0 wx)
 case first =>
  cases p1
  case false =>
   go_wp2_with (go_at_call 125;with_reducible refine (M1.out _).mono ?_;rintro e w1 ⟨rfl,hg1⟩)
   go_meet
   case rel=>exact⟨by rw [←PB.out];rfl,hg1⟩
  case true =>
   by_cases h0:rt=0
   ·subst h0
    by_cases h1:rs=0
    ·subst h1
     go_wp2_with (go_at_call 125;with_reducible refine (M1.out _).mono ?_;rintro e w1 ⟨rfl,hg1⟩;have hb0:=hg1.box B0.out;have y0:w1.cell? ⟨w.heap.size+1,0,none⟩=some (.int .i64 0):=hb0.cell' rfl;have y1:w1.cell? ⟨w.heap.size+1,1,none⟩=some (.int .i64 0):=hb0.cell' rfl)
     go_meet
     case rel=>exact⟨by rw [←PB.out];rfl,hg1⟩
    ·have PZ:=Lib.hid (show (⟨0,rs⟩:ID)≠ID.zero from fun e=>h1 (by injection e))
     go_wp2_with (first
      | (go_at_call 125;with_reducible refine (M1.out _).mono ?_;rintro e w1 ⟨rfl,hg1⟩;have hb0:=hg1.box B0.out;have y0:w1.cell? ⟨w.heap.size+1,0,none⟩=some (.int .i64 0):=hb0.cell' rfl;have y1:w1.cell? ⟨w.heap.size+1,1,none⟩=some (.int .i64 rs):=hb0.cell' rfl)
      | (go_at_call 125;with_reducible refine (M2.out _).mono ?_;rintro e w2 ⟨rfl,hg2⟩))
     go_meet
     case rel=>exact⟨by rw [←PB.out,decide_eq_false PZ.out];cases p2 <;> rfl,hg1.trans hg2⟩
   ·have PZ:=Lib.hid (show (⟨rt,rs⟩:ID)≠ID.zero from fun e=>h0 (by injection e))
    go_wp2_with (first
     | (go_at_call 125;with_reducible refine (M1.out _).mono ?_;rintro e w1 ⟨rfl,hg1⟩;have hb0:=hg1.box B0.out;have y0:w1.cell? ⟨w.heap.size+1,0,none⟩=some (.int .i64 rt):=hb0.cell' rfl;have y1:w1.cell? ⟨w.heap.size+1,1,none⟩=some (.int .i64 rs):=hb0.cell' rfl)
     | (go_at_call 125;with_reducible refine (M2.out _).mono ?_;rintro e w2 ⟨rfl,hg2⟩))
    go_meet
    case rel=>exact⟨by rw [←PB.out,decide_eq_false PZ.out];cases p2 <;> rfl,hg1.trans hg2⟩
 case rest =>
  obtain⟨rfl,hgc⟩:=hcut
  have GC:=Lib.hid hgc
  clear hgc M1 M2 hz0 hz1
  cases bb
  case true =>
   go_wp2_with fail
   go_ret
   exact HNO.out _ (G0.out.trans GC.out) 1 (by
    rw [←HE.out]
    refine if_pos ?_
    have h1:=PB.out
    rw [←P1.out,←P2.out] at h1
    simp only [Bool.or_eq_true,Bool.and_eq_true,Bool.not_eq_true',decide_eq_false_iff_not,isB] at h1
    exact h1) (by decide)
  case false =>
  have OK1:Hid ((⟨it,is⟩:ID).Is∧((⟨rt,rs⟩:ID)=ID.zero∨(⟨rt,rs⟩:ID).Is)):=Lib.hid (by
   have h1:=PB.out
   rw [←P1.out,←P2.out] at h1
   simp only [Bool.or_eq_false_iff,Bool.and_eq_false_iff,Bool.not_eq_false',decide_eq_true_eq,isB] at h1
   exact h1)
  obtain⟨b3,hb3⟩:∃b,(decide (s.size=0) || badB s)=b:=⟨_,rfl⟩
  have B3:=Lib.hid hb3
  clear hb3
  go_upto_region 3 with fail
  go_cut [31] (fun v wx=>v=.bool b3∧Grew wc wx)
  case first =>
   by_cases hz:s.toList=[]
   ·have B4:Hid (b3=true):=Lib.hid (by rw [←B3.out,decide_eq_true (text_size.2 hz)];rfl)
    go_wp2_with fail
    go_meet
    case rel=>exact⟨by rw [B4.out],Grew.refl _⟩
   ·have B4:Hid (b3=decide (0≤badFrom s 0)):=Lib.hid (by rw [←B3.out,decide_eq_false (fun h=>hz (text_size.1 h))];rfl)
    go_wp2_with (go_at_call 126;with_reducible refine (BA.out _).mono ?_;rintro e w1 ⟨rfl,hg1⟩)
    go_meet
    case rel=>exact⟨by rw [B4.out];simp [hz],hg1⟩
  case rest =>
  obtain⟨rfl,hgc⟩:=hcut
  have GD:=Lib.hid (GC.out.trans hgc)
  clear hgc GC BA
  have OK2:Hid (¬(¬(⟨it,is⟩:ID).Is∨((⟨rt,rs⟩:ID)≠ID.zero∧¬(⟨rt,rs⟩:ID).Is))):=Lib.hid (fun h=>by
   rcases h with h|⟨h1,h2⟩
   ·exact h OK1.out.1
   ·exact OK1.out.2.elim h1 h2)
  cases b3
  case true =>
   go_wp2_with fail
   go_ret
   exact HNO.out _ (G0.out.trans GD.out) 2 (by
    rw [←HE.out]
    unfold insE
    rw [if_neg OK2.out]
    refine if_pos ?_
    have h1:=B3.out
    simpa using h1) (by decide)
  case false =>
  have OK3:Hid (¬(s.size=0∨badB s=true)):=Lib.hid (by
   have h1:=B3.out
   simp only [Bool.or_eq_false_iff,decide_eq_false_iff_not] at h1
   rintro (h | h)
   ·exact h1.1 h
   ·rw [h1.2] at h;cases h)
  clear B3
  obtain⟨n,hn⟩:∃n,countR s=n:=⟨_,rfl⟩
  rw [hn] at CA
  have hnl:n≤900000:=by have:=HN.out;omega
  have hit:1≤it∧it≤2147483647:=⟨OK1.out.1.1,OK1.out.1.2.1⟩
  have NN:=Lib.hid hn
  have e1:IntKind.i64.wrap ((n:Int) - 1)=(n:Int) - 1:=IntWalk.i64_in _ (by omega)
  have e2:IntKind.i64.wrap (2147483647-it)=2147483647-it:=IntWalk.i64_in _ (by omega)
  obtain⟨b5,hb5⟩:∃b,decide (2147483647-it<(n:Int) - 1)=b:=⟨_,rfl⟩
  have B5:=Lib.hid hb5
  have hq:=GD.out.box B1.out
  have hq0:wc.cell? ⟨w.heap.size,0,none⟩=some (.int .i64 it):=hq.cell' rfl
  have c0:=cell_grown (a:=⟨w.heap.size,0,none⟩) hq.lt hq0
  have hmix:Tryz.prog.follows .mixedOrders=true:=by kernel_rfl
  have CG:Hid (∀w',Grew wc w'→Calls Tryz.prog 127 #[.string s] w' fun e w''=>e=.returned (.int .i64 n)∧Grew w' w''):=Lib.hid fun w' _=>CA.out w'
  clear hn hq hq0 hnl
  go_wp2_with fail
  go_quiet_grown ((go_at_call 127;exact grown_call CG.out _ _))
  have GE:=Lib.hid (GD.out.trans (grew_grown nq osq))
  generalize grow (wc.drewN nq) osq=W1 at *
  clear c0 hmix CG GD e1 e2 hb5
  cases b5
  case true =>
   go_wp2_with fail
   go_ret
   exact HNO.out _ (G0.out.trans GE.out) 1 (by
    rw [←HE.out]
    unfold insE
    rw [if_neg OK2.out,if_neg OK3.out]
    refine if_pos ?_
    have h1:=of_decide_eq_true B5.out
    rw [runesL_len,NN.out]
    show 2147483647<it+(n:Int) - 1
    omega) (by decide)
  case false =>
  have OK4:Hid (¬2147483647<(⟨it,is⟩:ID).t+((runesL s 0).length:Int) - 1):=Lib.hid (by
   have h1:=of_decide_eq_false B5.out
   rw [runesL_len,NN.out]
   show ¬2147483647<it+(n:Int) - 1
   omega)
  have HE2:=Lib.hid (HE.out.symm.trans (insE_why OK2.out OK3.out OK4.out))
  have hlim:it+(n:Int) - 1≤2147483647:=by have h1:=of_decide_eq_false B5.out;omega
  clear B5
  obtain⟨y,hy⟩:∃y,whyE L ⟨it,is⟩ ⟨rt,rs⟩=y:=⟨_,rfl⟩
  have WH:Hid (∀w',Grew W1 w'→Calls Tryz.prog 128 #[.pointer (some ⟨g,0,none⟩),.agg #[.int .i64 it,.int .i64 is],.agg #[.int .i64 rt,.int .i64 rs]] w' fun e w''=>e=.returned (.int .i64 y)∧Grew w' w''):=Lib.hid fun w' hg=>by
   rw [←hy]
   exact why_any (((HT.out.still G0.out.kept).still GE.out.kept).still hg.kept) ⟨it,is⟩ ⟨rt,rs⟩
  have YY:=Lib.hid hy
  have x0:=GE.out.box B1.out
  have x1:=GE.out.box B0.out
  have u0:W1.cell? ⟨w.heap.size,0,none⟩=some (.int .i64 it):=x0.cell' rfl
  have u1:W1.cell? ⟨w.heap.size,1,none⟩=some (.int .i64 is):=x0.cell' rfl
  have u2:W1.cell? ⟨w.heap.size+1,0,none⟩=some (.int .i64 rt):=x1.cell' rfl
  have u3:W1.cell? ⟨w.heap.size+1,1,none⟩=some (.int .i64 rs):=x1.cell' rfl
  clear hy x0 x1
  by_cases hy0:y=0
  case neg =>
   go_wp2_with (go_at_call 128;with_reducible refine (WH.out _ (Grew.refl _)).mono ?_;rintro e w2 ⟨rfl,hg2⟩)
   go_ret
   exact HNO.out _ ((G0.out.trans GE.out).trans hg2) y (by rw [HE2.out,YY.out,if_pos hy0]) hy0
  case pos =>
  subst hy0
  go_wp2_with (first
   | (go_at_call 128;with_reducible refine (WH.out _ (Grew.refl _)).mono ?_;rintro e w2 ⟨rfl,hg2⟩)
   | (go_at_call 127;with_reducible refine (CA.out _).mono ?_;rintro e w3 ⟨rfl,hg3⟩))
  have G3:=Lib.hid ((GE.out.trans hg2).trans hg3)
  clear hg2 hg3 WH u0 u1 u2 u3 CA GE
  go_loopw [56] (fun kv wr=>∃k:Nat,kv=.int .i64 k∧k≤n∧(∀j:Nat,j<k→(⟨it+j,is⟩:ID)∉ids L)∧Grew W0 wr) (fun kv _=>n-(intOf kv).toNat)
  case atStart=>exact⟨0,rfl,Nat.zero_le _,fun j hj=>absurd hj (Nat.not_lt_zero _),G3.out⟩
  case round =>
   obtain⟨k,rfl,hk,hno,hg⟩:=hrel
   have NO:=Lib.hid hno
   have GR:=Lib.hid hg
   clear hno hg
   by_cases hlt:k<n
   case pos =>
    have hltI:(k:Int)<n:=by omega
    have e1:IntKind.i64.wrap ((k:Int)+1)=(k:Int)+1:=IntWalk.i64_in _ (by have:=HN.out;have:=NN.out;omega)
    have hT:=(HT.out.still G0.out.kept).still GR.out.kept
    have hb:=GR.out.box B1.out
    have q0:wr.cell? ⟨w.heap.size,0,none⟩=some (.int .i64 it):=hb.cell' rfl
    have q1:wr.cell? ⟨w.heap.size,1,none⟩=some (.int .i64 is):=hb.cell' rfl
    have q2:wr.cell? ⟨g,1,none⟩=some (.map mp):=hT.top.cell' rfl
    have c0:=cell_grown (a:=⟨w.heap.size,0,none⟩) hb.lt q0
    have c1:=cell_grown (a:=⟨w.heap.size,1,none⟩) hb.lt q1
    have c2:=cell_grown (a:=⟨g,1,none⟩) hT.top.lt q2
    have hmix:Tryz.prog.follows .mixedOrders=true:=by kernel_rfl
    have haf:(⟨it,is⟩:ID).after k=⟨it+k,is⟩:=by
     unfold ID.after
     rw [if_pos ⟨OK1.out.1,by omega,by show (k:Int)≤2147483647-it;omega⟩]
    have AF:Hid (∀w',Grew wr w'→Calls Tryz.prog 129 #[.agg #[.int .i64 it,.int .i64 is],.int .i64 k] w' fun e w''=>e=.returned (.agg #[.int .i64 (it+k),.int .i64 is])∧Grew w' w''):=Lib.hid fun w' _=>by
     have h9:=after_any ⟨it,is⟩ k (by omega) (by have:=HN.out;have:=NN.out;omega) w'
     rw [haf] at h9
     exact h9
    have hlk:∀nn os,(Instr.lookup 185 (.map mp) (.agg #[.int .i64 (it+k),.int .i64 is]) false).run Tryz.prog (grow (wr.drewN nn) os)=.ok (.pointer (if (⟨it+k,is⟩:ID)∈ids L then some ⟨A ⟨it+k,is⟩,0,none⟩ else none)) (grow (wr.drewN nn) os):=fun nn os=>(hT.still (grew_grown nn os).kept).look ⟨it+k,is⟩
    clear hT hb q0 q1 q2 haf
    by_cases hm:(⟨it+k,is⟩:ID)∈ids L
    ·have HM:=Lib.hid hm
     simp only [if_pos hm] at hlk
     clear hm
     go_wp2_with fail
     go_quiet_grown ((go_at_call 129;exact grown_call AF.out _ _))
     have GF:=Lib.hid (GR.out.trans (grew_grown nq osq))
     clear hlk c0 c1 c2 hmix AF
     go_wp2_with fail
     go_ret
     exact HNO.out _ (G0.out.trans GF.out) 12 (by
      rw [HE2.out,YY.out,if_neg (fun h=>h rfl)]
      refine if_pos ⟨k,?_,HM.out⟩
      rw [runesL_len,NN.out]
      exact hlt) (by decide)
    ·have HM:=Lib.hid hm
     simp only [if_neg hm] at hlk
     clear hm
     go_wp2_with fail
     go_quiet_grown ((go_at_call 129;exact grown_call AF.out _ _))
     have GF:=Lib.hid (GR.out.trans (grew_grown nq osq))
     clear hlk c0 c1 c2 hmix AF
     go_wp2_with fail
     go_roundw
     case rel=>exact⟨k+1,by go_num,by omega,fun j hj=>by
      rcases Nat.lt_succ_iff_lt_or_eq.1 hj with h|rfl
      ·exact NO.out j h
      ·exact HM.out,GF.out⟩
     case measure=>simp [intOf];omega
   case neg =>
    obtain rfl:k=n:=by omega
    have hltI:¬(k:Int)<k:=by omega
    have hlim':it+(k:Int) - 1≤2147483647:=hlim
    clear hlim
    go_wp2_with fail
    have hno:¬hasAny L ⟨it,is⟩ (runesL s 0).length:=by
     rintro⟨j,hj,hm⟩
     rw [runesL_len,NN.out] at hj
     exact NO.out j hj hm
    have HNA:=Lib.hid hno
    have HY:=YY.out
    have hwhy:Ref L ⟨rt,rs⟩∧(⟨rt,rs⟩:ID).lt ⟨it,is⟩:=by
     unfold whyE at HY
     split at HY
     ·simp at HY
     next h1 =>
     split at HY
     ·simp at HY
     next h2=>exact⟨by by_cases hz:(⟨rt,rs⟩:ID)=ID.zero;exact .inl hz;exact .inr (Classical.byContradiction fun h=>h2 ⟨hz,h⟩),Classical.byContradiction fun h=>h1 h⟩
    have HW:=Lib.hid hwhy
    have EZ:Hid (E=0):=Lib.hid (by rw [HE2.out,YY.out,if_neg (fun h=>h rfl),if_neg hno])
    have BX1:=Lib.hid ((GR.out.box B1.out).alloc (.stringIter s 0))
    have BX2:=Lib.hid ((GR.out.box B0.out).alloc (.stringIter s 0))
    have IC:=Lib.hid (InsCore.start (i:=⟨it,is⟩) (ref:=⟨rt,rs⟩) (s:=s) HT.out HD.out (G0.out.trans GR.out).kept)
    have hqb:w.heap.size+1<wr.heap.size:=(GR.out.box B0.out).lt
    have HQ:=Lib.hid hqb
    clear HY hno hwhy hltI GR NO YY HE2 hqb B0 B1 G3 HNO
    obtain⟨q,hq⟩:∃q,wr.heap.size=q:=⟨_,rfl⟩
    rw [hq] at IC HQ
    rw [hq]
    clear hq
    go_loopw [12] (fun _ W=>∃j p:Nat,InsCore w (q+1) q g L A S mp ⟨it,is⟩ ⟨rt,rs⟩ s j p W∧∃a b c d,Blk W w.heap.size 59 #[.int .i64 a,.int .i64 b]∧Blk W (w.heap.size+1) 59 #[.int .i64 c,.int .i64 d]∧(j<k→(⟨a,b⟩:ID)=⟨it+j,is⟩∧(⟨c,d⟩:ID)=backR ⟨it,is⟩ ⟨rt,rs⟩ j)) (fun _ W=>s.size-W.iterPos q)
    case atStart=>exact⟨0,0,IC.out,it,is,rt,rs,BX1.out,BX2.out,fun _=>⟨by simp,rfl⟩⟩
    case round =>
     obtain⟨j,p,hc,a,b,c,d,hb1,hb2,hv⟩:=hrel
     have hip:wr.iterPos q=p:=by unfold World.iterPos;rw [hc.iter]
     have hrl:(runesL s 0).length=k:=by rw [runesL_len];exact NN.out
     by_cases hlt:p<s.size
     case neg =>
      have hnx:=fun ty=>Lib.run_next_end_at (P:=Tryz.prog) wr q s p ty hc.iter hlt
      have IC2:=Lib.hid hc
      clear hc hb1 hb2 hv
      go_wp2_with fail
      go_ret
      rw [EZ.out]
      refine IC2.out.done hlt HD.out (by have:=HQ.out;omega) OK1.out.1 HNA.out (fun h=>OK3.out (.inl h)) ?_
      rw [HL.out]
      unfold insL
      rw [HE.out,EZ.out,if_neg (fun h=>h rfl)]
     case pos =>
      have hnx:=fun ty=>Lib.run_next_any_at (P:=Tryz.prog) wr q s p ty hc.iter hlt
      have hst:(Utf8.decode s p).2=stepW s p:=(decode_runeW s p).1
      rw [hst] at hnx
      have hjk:j<k:=by
       have:=(List.getElem?_eq_some_iff.1 (hc.at_ hlt).1).1
       omega
      obtain⟨v1,v2⟩:=hv hjk
      have va:a=it+j:=congrArg ID.t v1
      have vb:b=is:=congrArg ID.s v1
      subst va vb
      have PUT:=hc.call HT.out ⟨HQ.out,Nat.lt_succ_self _⟩ hlt OK1.out.1 (by rw [hrl];exact hlim') HW.out.1 HW.out.2 (by rw [runesL_len];exact HN.out) (fun j hj hm=>HNA.out ⟨j,hj,hm⟩) hb1 hb2
      have hkq:Kept (·=q) wr (wr.iterAt q s (p+stepW s p)):=kept_obj wr q (.stringIter s (p+stepW s p))
      have hq1:=HQ.out
      have hc1:=hkq.blk (by omega) hb1
      have hc2:=hkq.blk (by omega) hb2
      rw [←v2] at PUT
      have z0:=hc1.cell' (i:=0) (v:=.int .i64 (it+j)) rfl
      have z1:=hc1.cell' (i:=1) (v:=.int .i64 b) rfl
      have z2:=hc2.cell' (i:=0) (v:=.int .i64 c) rfl
      have z3:=hc2.cell' (i:=1) (v:=.int .i64 d) rfl
      obtain⟨r,hr⟩:∃r:Nat,(Utf8.decode s p).1=r:=⟨_,rfl⟩
      rw [hr] at hnx PUT
      have PT:=Lib.hid PUT
      have V2:=Lib.hid v2
      have HIP:=Lib.hid hip
      have HRL:=Lib.hid hrl
      clear hst hv v1 v2 hc hb1 hb2 hkq hc1 hc2 PUT hr hip hrl
      go_wp2_with (go_at_call 130;refine PT.out.mono ?_;rintro e W4 ⟨rfl,hc4,hb41,hb42⟩)
      obtain⟨⟨ua,ub⟩,hu⟩:∃u,(⟨it+j,b⟩:ID).after 1=u:=⟨_,rfl⟩
      have AF:Hid (∀w',Calls Tryz.prog 129 #[.agg #[.int .i64 (it+j),.int .i64 b],.int .i64 1] w' fun e w''=>e=.returned (.agg #[.int .i64 ua,.int .i64 ub])∧Grew w' w''):=Lib.hid fun w'=>by
       have h9:=after_any ⟨it+j,b⟩ 1 (by decide) (by decide) w'
       rw [hu] at h9
       exact h9
      have y0:=hb41.cell' (i:=0) (v:=.int .i64 (it+j)) rfl
      have y1:=hb41.cell' (i:=1) (v:=.int .i64 b) rfl
      have HU:=Lib.hid hu
      have C4:=Lib.hid hc4
      have B41:=Lib.hid hb41
      have B42:=Lib.hid hb42
      have hne:¬w.heap.size=w.heap.size+1:=by omega
      have hne2:¬w.heap.size+1=w.heap.size:=by omega
      clear z0 z1 z2 z3 hnx hc4 hb41 hb42 hu PT
      go_region_with (go_at_call 129;refine (AF.out _).mono ?_;rintro e' w5 ⟨rfl,hg⟩;have hg5:Grew W4 w5:=((Grew.refl W4).drewN 1).trans hg;have hb51:=hg5.box B41.out;have hb52:=hg5.box B42.out;have d0:=hb51.cell' (i:=0) (v:=.int .i64 (it+j)) rfl;have d1:=hb51.cell' (i:=1) (v:=.int .i64 b) rfl;have d2:=hb52.cell' (i:=0) (v:=.int .i64 c) rfl;have d3:=hb52.cell' (i:=1) (v:=.int .i64 d) rfl;have f0:=hb51.frozen 0;have f1:=hb51.frozen 1;have f2:=hb52.frozen 0;have f3:=hb52.frozen 1;have G5:=Lib.hid hg5;have B51:=Lib.hid hb51;have B52:=Lib.hid hb52;clear hg hg5 hb51 hb52)
      all_goals have hkx:Kept (fun b=>b=w.heap.size∨b=w.heap.size+1) W4 ((((w5.setCell ⟨w.heap.size,0,none⟩ (.int .i64 ua)).setCell ⟨w.heap.size,1,none⟩ (.int .i64 ub)).setCell ⟨w.heap.size+1,0,none⟩ (.int .i64 (it+j))).setCell ⟨w.heap.size+1,1,none⟩ (.int .i64 b)):=((((G5.out.kept.mono fun _ _ h=>h.elim).setCell (fun _=>.inl rfl) _).setCell (fun _=>.inl rfl) _).setCell (fun _=>.inr rfl) _).setCell (fun _=>.inr rfl) _
      all_goals have hx1:=((((B51.out.set_ 0 (.int .i64 ua)).set_ 1 (.int .i64 ub)).far (p:=⟨w.heap.size+1,0,none⟩) hne (.int .i64 (it+j))).far (p:=⟨w.heap.size+1,1,none⟩) hne (.int .i64 b))
      all_goals have hx2:=((((B52.out.far (p:=⟨w.heap.size,0,none⟩) hne2 (.int .i64 ua)).far (p:=⟨w.heap.size,1,none⟩) hne2 (.int .i64 ub)).set_ 0 (.int .i64 (it+j))).set_ 1 (.int .i64 b))
      all_goals clear d0 d1 d2 d3 f0 f1 f2 f3
      all_goals
       focus
        try simp only [Exit.inBlock]
        refine⟨?_,?measure⟩
        iterate 13 apply Exists.intro
        refine⟨?rel,rfl⟩
        case rel =>
         refine⟨j+1,p+stepW s p,C4.out.boxes HT.out ⟨HQ.out,Nat.lt_succ_self _⟩ hkx,ua,ub,it+j,b,by simpa using hx1,by simpa using hx2,fun hj1=>⟨?_,?_⟩⟩
         ·rw [←HU.out]
          unfold ID.after
          have h1:=OK1.out.1
          have h2:=hlim'
          rw [if_pos ⟨⟨by show 1≤it+(j:Int);omega,by show it+(j:Int)≤2147483647;omega,h1.2.2.1,h1.2.2.2⟩,by decide,by show (1:Int)≤2147483647-(it+j);omega⟩]
          rw [ID.ext_iff]
          exact⟨by show it+(j:Int)+1=it+((j+1:Nat):Int);omega,rfl⟩
         ·unfold backR
          rw [if_neg (Nat.succ_ne_zero _),ID.ext_iff]
          exact⟨by show it+(j:Int)=it+((j+1:Nat):Int) - 1;omega,rfl⟩
        case measure =>
         rw [HIP.out]
         have h1:∀W:World,InsCore w (q+1) q g L A S mp ⟨it,b⟩ ⟨rt,rs⟩ s (j+1) (p+stepW s p) W→W.iterPos q=p+stepW s p:=fun W h=>by unfold World.iterPos;rw [h.iter]
         rw [h1 _ (C4.out.boxes HT.out ⟨HQ.out,Nat.lt_succ_self _⟩ hkx)]
         have:=stepW_pos s p
         omega
end Go.Proofs.YtjohljmpcblpjaaGreatDoor.Tr
