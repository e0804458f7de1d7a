/- An element taken out: what the document in memory becomes. Collect, plainly: where an element stands, and what one round leaves. Parts of the proof. -/
import Derived.Test.YtjohljmpcblpjaaGreatDoorM21
import Derived.Test.YtjohljmpcblpjaaGreatDoorM17
import Derived.LaidEqlPtr
set_option maxRecDepth 100000
set_option maxHeartbeats 8000000
namespace Go.Proofs.YtjohljmpcblpjaaGreatDoor.Tr
open Go.RowKit Go.Proofs.YtjohljmpcblpjaaGreatDoor.St
def updS (S:ID→Rw) (r:ID) (s:Rw) (y:ID):Rw:=if y=r then s else S y
theorem delK_len {κ:Type} [DecidableEq κ] {k:κ}:∀ {l:List (κ × Value)},k∈l.map (·.1)→(delK l k).length+1=l.length
 | [],h=>by simp at h
 | y::r,h=>by
  show (if y.1=k then r else y::delK r k).length+1=r.length+1
  by_cases e:y.1=k
  ·rw [if_pos e]
  ·rw [if_neg e,List.length_cons,delK_len (l:=r) (by
    rcases List.mem_cons.1 h with h1|h1
    ·exact absurd h1.symm e
    ·exact h1)]
variable {w:World} {g:Nat} {A:ID→Nat} {S:ID→Rw}
theorem TAt.del_mem {w3 w5:World}{mb:Nat}{P K:List Nd}{x:Nd}{s':Rw}{kvs:List (ID × Value)}(h:TAt w g (P++x::K) A S (some mb)) (hdoc:Doc (P++x::K))
  (hkv:MapK keyI w mb kvs) (hok:KeysOk kvs) (hkl:kvs.length=(P++x::K).length) (hkg:∀y,getK kvs y=if y∈ids (P++x::K) then some (.pointer (some ⟨A y,0,none⟩)) else none)
  (hk3:Kept (fun b=>(S x.ref).blk=some b) w w3) (hr:RowAt w3 s' ((kids (P++K) x.ref).map fun n=>A n.id)) (hs':s'.blk=(S x.ref).blk)
  (hk5:Kept (·=mb) (w3.setCell (place g A x.ref) s'.v) w5) (hm5:MapK keyI w5 mb (delK kvs x.id)) :
  TAt w5 g (P++K) A (updS S x.ref s') (some mb):=by
 have hxL:x∈P++x::K:=by simp
 have hxi:x.id∈ids (P++x::K):=List.mem_map.2 ⟨x,hxL,rfl⟩
 have hnd:=hdoc.nodup
 have hxz:x.id≠ID.zero:=fun e=>by
  obtain⟨F,hF,hw,_⟩:=hdoc
  have:=WFs.gt F hw x (by rw [hF];exact hxL)
  rw [e] at this
  exact ID.lt_irrefl _ this
 have hids:∀y,y∈ids (P++K)↔y∈ids (P++x::K)∧y≠x.id:=fun y=>by
  have hnd2:(ids P++x.id::ids K).Nodup:=by have:=hnd;simpa [ids] using this
  have h1:=List.nodup_append.1 hnd2
  have h2:x.id∉ids K:=(List.nodup_cons.1 h1.2.1).1
  have h3:x.id∉ids P:=fun hm=>h1.2.2 x.id hm x.id List.mem_cons_self rfl
  have e1:ids (P++K)=ids P++ids K:=by simp [ids]
  have e2:ids (P++x::K)=ids P++x.id::ids K:=by simp [ids]
  rw [e1,e2,List.mem_append,List.mem_append,List.mem_cons]
  constructor
  ·rintro (h | h)
   ·exact⟨.inl h,fun e=>h3 (e ▸ h)⟩
   ·exact⟨.inr (.inr h),fun e=>h2 (e ▸ h)⟩
  ·rintro⟨h | h | h,hne⟩
   ·exact .inl h
   ·exact absurd h hne
   ·exact .inr h
 have hmem:∀n∈P++K,n∈P++x::K:=fun n hn=>by
  rcases List.mem_append.1 hn with h|h
  ·exact List.mem_append.2 (.inl h)
  ·exact List.mem_append.2 (.inr (List.mem_cons_of_mem _ h))
 have hRef:∀r,Ref (P++K) r→Ref (P++x::K) r:=fun r hr=>hr.imp_right fun h=>((hids r).1 h).1
 have href:Ref (P++x::K) x.ref:=hdoc.refs x hxL
 have hSr:updS S x.ref s' x.ref=s':=if_pos rfl
 have hSo:∀y,y≠x.ref→updS S x.ref s' y=S y:=fun y h1=>if_neg h1
 have hrowne:∀r,Ref (P++x::K) r→∀b,(S r).blk=some b→b≠g∧(∀y∈ids (P++x::K),b≠A y)∧b≠mb:=fun r hr b hb=>by
  refine⟨(h.row r hr).ne h.top (by decide) b hb,fun y hy=>?_,?_⟩
  ·obtain⟨n,hn,rfl⟩:=List.mem_map.1 hy
   exact (h.row r hr).ne (h.elt n hn) (by decide) b hb
  ·rcases h.row r hr with ⟨e1,_⟩ | ⟨b',cap,e1,cs,h2,_⟩
   ·rw [e1] at hb;cases hb
   ·rw [e1] at hb;cases hb
    exact hkv.ne_blk h2
 have hplace:(place g A x.ref).block=(if x.ref=ID.zero then g else A x.ref):=by unfold place;split <;> rfl
 have keep5:∀b,b<w.heap.size→(S x.ref).blk≠some b→b≠(place g A x.ref).block→b≠mb→w5.heap[b]?=w.heap[b]?:=fun b hb h1 h2 h3=>by
  have hb3:b<w3.heap.size:=Nat.lt_of_lt_of_le hb hk3.size
  rw [hk5.block b (by simpa using hb3) h3,Below.heap_setCell _ _ _ _ h2,hk3.block b hb h1]
 have blk5:∀b t cs,Blk w b t cs→(S x.ref).blk≠some b→b≠(place g A x.ref).block→b≠mb→Blk w5 b t cs:=fun b t cs hb h1 h2 h3=>(keep5 b hb.lt h1 h2 h3).trans hb
 have put5:∀b t cs o,Blk w b t cs→(S x.ref).blk≠some b→place g A x.ref=⟨b,o,none⟩→b≠mb→Blk w5 b t (cs.setIfInBounds o s'.v):=fun b t cs o hb h1 h2 h3=>by
  have h4:Blk w3 b t cs:=hk3.blk h1 hb
  have h5:=h4.set_ o s'.v
  rw [h2] at hk5
  exact hk5.blk h3 h5
 have hmbg:mb≠g:=fun e=>hkv.ne_blk h.top e.symm
 have hmbe:∀n∈P++x::K,mb≠A n.id:=fun n hn e=>hkv.ne_blk (h.elt n hn) e.symm
 have hgA:∀n∈P++x::K,g≠A n.id:=fun n hn e=>Blk.ne_ h.top (h.elt n hn) (by decide) e
 have hrg:=hrowne x.ref href
 refine { top:=?_,elt:=?_,row:=?_,by_:=?_,one:=?_,far:=?_ }
 ·by_cases hz:x.ref=ID.zero
  ·have h1:=put5 g _ _ 0 h.top (fun e=>(hrg g e).1 rfl) (by unfold place;rw [if_pos hz]) (fun e=>hmbg e.symm)
   have e1:updS S x.ref s' ID.zero=s':=by rw [←hz];exact hSr
   rw [e1]
   exact h1
  ·have e1:updS S x.ref s' ID.zero=S ID.zero:=hSo _ (fun e=>hz e.symm)
   rw [e1]
   have hrL:x.ref∈ids (P++x::K):=href.resolve_left hz
   obtain⟨n,hn,hne⟩:=List.mem_map.1 hrL
   exact blk5 g _ _ h.top (fun e=>(hrg g e).1 rfl) (by rw [hplace,if_neg hz,←hne];exact hgA n hn) (fun e=>hmbg e.symm)
 ·intro n hn0
  have hn:=hmem n hn0
  have hni:n.id∈ids (P++x::K):=List.mem_map.2 ⟨n,hn,rfl⟩
  by_cases hz:n.id=x.ref
  ·have e1:updS S x.ref s' n.id=s':=by rw [hz];exact hSr
   rw [e1]
   have hnz:x.ref≠ID.zero:=fun e0=>by
    obtain⟨F,hF,hw,_⟩:=hdoc
    have:=WFs.gt F hw n (by rw [hF];exact hn)
    rw [hz,e0] at this
    exact ID.lt_irrefl _ this
   have h1:=put5 (A n.id) _ _ 6 (h.elt n hn) (fun e=>(hrg _ e).2.1 n.id hni rfl) (by unfold place;rw [if_neg hnz,hz]) (fun e=>hmbe n hn e.symm)
   have e2:((ndC n++[(S n.id).v]).toArray.setIfInBounds 6 s'.v)=(ndC n++[s'.v]).toArray:=by simp [ndC]
   rw [e2] at h1
   exact h1
  ·have e1:updS S x.ref s' n.id=S n.id:=hSo _ hz
   rw [e1]
   refine blk5 (A n.id) _ _ (h.elt n hn) (fun e=>(hrg _ e).2.1 n.id hni rfl) ?_ (fun e=>hmbe n hn e.symm)
   rw [hplace]
   split
   ·exact fun e=>hgA n hn e.symm
   next hz2=>exact fun e=>hz (h.one _ hni _ (href.resolve_left hz2) e)
 ·intro r hr'
  have hrL:=hRef r hr'
  by_cases hz:r=x.ref
  ·subst hz
   rw [hSr]
   rcases hr with ⟨h1,h2⟩|⟨b,cap,h1,h2⟩
   ·exact .inl ⟨h1,h2⟩
   ·refine .inr ⟨b,cap,h1,h2.keep (S:=fun k=>k=(place g A x.ref).block∨k=mb) ?_ ?_⟩
    ·exact (((Kept.refl (fun k=>k=(place g A x.ref).block) w3).setCell (fun _=>rfl) _).mono (fun _ _ h=>.inl h)).trans (hk5.mono fun _ _ h=>.inr h) (fun _ _ h=>h)
    ·have hbb:s'.blk=some b:=by rw [h1];rfl
     rw [hs'] at hbb
     obtain⟨q1,q2,q3⟩:=hrg b hbb
     rintro (e1 | e1)
     ·rw [hplace] at e1
      split at e1
      ·exact q1 e1
      next hz=>exact q2 _ (href.resolve_left hz) e1
     ·exact q3 e1
  ·rw [hSo r hz,kids_rem (x:=x) r,if_neg (fun e=>hz e.symm)]
   rcases h.row r hrL with h1|⟨b,cap,h1,cs,h2,h3⟩
   ·exact .inl h1
   ·obtain⟨q1,q2,q3⟩:=hrowne r hrL b (by rw [h1];rfl)
    refine .inr ⟨b,cap,h1,cs,blk5 b _ _ h2 (fun e=>hz (h.far r x.ref hrL href b (by rw [h1];rfl) e)) ?_ q3,h3⟩
    rw [hplace]
    split
    ·exact q1
    next hz2=>exact q2 _ (href.resolve_left hz2)
 ·refine .inr ⟨mb,_,rfl,hm5,hok.del _,?_,fun y=>?_⟩
  ·have hf:x.id∈kvs.map (·.1):=Classical.byContradiction fun hn=>by
    have h1:=hkg x.id
    rw [if_pos hxi,getK_none.2 hn] at h1
    cases h1
   have h2:=delK_len hf
   have h3:(P++x::K).length=(P++K).length+1:=by simp;omega
   omega
  ·rw [getK_del hok]
   by_cases hy:x.id=y
   ·subst hy
    rw [if_pos rfl,if_neg (fun hh=>((hids _).1 hh).2 rfl)]
   ·rw [if_neg hy,hkg y]
    by_cases hyL:y∈ids (P++x::K)
    ·rw [if_pos hyL,if_pos ((hids y).2 ⟨hyL,fun e=>hy e.symm⟩)]
    ·rw [if_neg hyL,if_neg (fun hh=>hyL ((hids y).1 hh).1)]
 ·intro y hy z hz hyz
  exact h.one y ((hids y).1 hy).1 z ((hids z).1 hz).1 hyz
 ·intro y z hy hz b hb1 hb2
  have hSb:∀y,(updS S x.ref s' y).blk=some b→(S y).blk=some b:=fun y hb=>by
   by_cases h1:y=x.ref
   ·subst h1;rw [hSr,hs'] at hb;exact hb
   ·rw [hSo y h1] at hb;exact hb
  exact h.far y z (hRef y hy) (hRef z hz) b (hSb y hb1) (hSb z hb2)
end Go.Proofs.YtjohljmpcblpjaaGreatDoor.Tr
namespace Go.Proofs.YtjohljmpcblpjaaGreatDoor.Tr
open Go.RowKit Go.Proofs.YtjohljmpcblpjaaGreatDoor.St
theorem kids_mid (P K:List Nd) (x:Nd):kids (P++x::K) x.ref=kids P x.ref++x::kids K x.ref:=by
 have h:kids [x] x.ref=[x]:=by unfold kids;rw [List.filter_cons_of_pos (by simp),List.filter_nil]
 rw [kids_append,show x::K=[x]++K from rfl,kids_append,h]
 rfl
theorem kids_cut (P K:List Nd) (x:Nd):(kids (P++x::K) x.ref).eraseIdx (kids P x.ref).length=kids (P++K) x.ref:=by
 rw [kids_mid,kids_append,List.eraseIdx_append_of_length_le (Nat.le_refl _),Nat.sub_self]
 rfl
theorem addr_first {w:World}{g:Nat}{A:ID→Nat}{S:ID→Rw}{mp:Option Nat}{P K:List Nd}{x:Nd}(h:TAt w g (P++x::K) A S mp) (hnd:(ids (P++x::K)).Nodup) :
  ((kids (P++x::K) x.ref).map fun n=>A n.id)[(kids P x.ref).length]?=some (A x.id)∧∀j<(kids P x.ref).length,((kids (P++x::K) x.ref).map fun n=>A n.id)[j]?≠some (A x.id):=by
 rw [kids_mid,List.map_append,List.map_cons]
 refine⟨by rw [List.getElem?_append_right (by simp)];simp,fun j hj e=>?_⟩
 rw [List.getElem?_append_left (by simpa using hj),List.getElem?_map] at e
 obtain⟨m,hm,e2⟩:=Option.map_eq_some_iff.1 e
 have hmP:m∈P:=(List.mem_filter.1 (List.mem_of_getElem? hm)).1
 have h1:m.id=x.id:=h.one _ (List.mem_map.2 ⟨m,by simp [hmP],rfl⟩) _ (List.mem_map.2 ⟨x,by simp,rfl⟩) e2
 have hnd2:(ids P++x.id::ids K).Nodup:=by simpa [ids] using hnd
 exact (List.nodup_append.1 hnd2).2.2 m.id (List.mem_map.2 ⟨m,hmP,rfl⟩) x.id List.mem_cons_self h1
def collN (L:List Nd):Int:=(L.length:Int) - ((collR L).length:Int)
theorem collR_len (L:List Nd):(collR L).length≤L.length:=(collR_sub L).length_le
theorem erase_map {α β:Type}(f:α→β) (l:List α) (j:Nat):(l.map f).eraseIdx j=(l.eraseIdx j).map f:=by
 rw [List.eraseIdx_eq_take_drop_succ,List.eraseIdx_eq_take_drop_succ,List.map_append,List.map_take,List.map_drop]
theorem coll_step {L:List Nd}{i:Nat}(hi:i<L.length) (hdoc:Doc L):∃x P K,L[L.length-1-i]?=some x∧x∈L∧L.take (L.length-i)++collR (L.drop (L.length-i))=P++x::K∧Doc (P++x::K)∧(P++x::K).length≤L.length ∧
  (x.st=3∧kids (P++x::K) x.id=[]→L.take (L.length-(i+1))++collR (L.drop (L.length-(i+1)))=P++K∧collN (L.drop (L.length-(i+1)))=collN (L.drop (L.length-i))+1) ∧
  (¬(x.st=3∧kids (P++x::K) x.id=[])→L.take (L.length-(i+1))++collR (L.drop (L.length-(i+1)))=P++x::K∧collN (L.drop (L.length-(i+1)))=collN (L.drop (L.length-i))):=by
 have hj:L.length-1-i<L.length:=by omega
 obtain⟨x,hx⟩:∃x,L[L.length-1-i]?=some x:=⟨_,List.getElem?_eq_getElem hj⟩
 have hx2:L[L.length-1-i]=x:=(List.getElem?_eq_some_iff.1 hx).2
 have e1:L.length-i=L.length-1-i+1:=by omega
 have e2:L.length-(i+1)=L.length-1-i:=by omega
 have e3:L.drop (L.length-1-i)=x::L.drop (L.length-1-i+1):=by rw [List.drop_eq_getElem_cons hj,hx2]
 have e4:L.take (L.length-1-i+1)=L.take (L.length-1-i)++[x]:=by rw [List.take_add_one,hx];rfl
 have hL:L.take (L.length-1-i)++x::L.drop (L.length-1-i+1)=L:=by rw [←e3,List.take_append_drop]
 have hd:Doc (L.take (L.length-1-i)++x::L.drop (L.length-1-i+1)):=by rw [hL];exact hdoc
 obtain⟨k1,k2⟩:=coll_kids hd
 have hlc:=collR_len (L.drop (L.length-1-i+1))
 have hll:(L.take (L.length-1-i)++x::L.drop (L.length-1-i+1)).length=L.length:=by rw [hL]
 rw [List.length_append,List.length_cons] at hll
 rw [e1,e2,e4,e3]
 refine⟨x,L.take (L.length-1-i),collR (L.drop (L.length-1-i+1)),hx,List.mem_of_getElem? hx,by simp,k1,by rw [List.length_append,List.length_cons];omega,fun h=>?_,fun h=>?_⟩
 ·have h9:collR (x::L.drop (L.length-1-i+1))=collR (L.drop (L.length-1-i+1)):=by
   rw [collR,if_pos ⟨h.1,k2.1 h.2⟩]
  refine⟨by rw [h9],?_⟩
  unfold collN
  rw [h9,List.length_cons]
  push_cast
  omega
 ·have h9:collR (x::L.drop (L.length-1-i+1))=x::collR (L.drop (L.length-1-i+1)):=by
   rw [collR,if_neg (fun hh=>h ⟨hh.1,k2.2 hh.2⟩)]
  refine⟨by rw [h9],?_⟩
  unfold collN
  rw [h9,List.length_cons,List.length_cons]
  push_cast
  omega
theorem coll_all (L:List Nd):L.take (L.length-L.length)++collR (L.drop (L.length-L.length))=collR L:=by
 rw [Nat.sub_self,List.take_zero,List.drop_zero,List.nil_append]
theorem coll_none (L:List Nd):L.take (L.length-0)++collR (L.drop (L.length-0))=L:=by
 rw [Nat.sub_zero,List.take_length,List.drop_length]
 exact List.append_nil _
theorem CJ.later {w W W':World}{M:Nat→Prop}{bs:List Box}{g:Nat}{L:List Nd}{A:ID→Nat}{S:ID→Rw}{mp:Option Nat}(h:CJ w W.heap.size M bs g L A S mp (fun _=>False) W) (hk:Kept (fun _=>False) W W'):CJ w W'.heap.size M bs g L A S mp (fun _=>False) W' where
 box:=fun x hx=>⟨⟨(h.box x hx).1.1,Nat.lt_of_lt_of_le (h.box x hx).1.2 hk.size⟩,hk.blk (fun h=>h) (h.box x hx).2⟩
 tree:=h.tree.still hk
 low:=h.low
 far:=fun _ h=>h.elim
 size:=⟨Nat.le_trans h.size.1 hk.size,Nat.le_refl _⟩
 kept:=h.kept.trans hk fun _ _ h=>h.elim
theorem CJ.turned {w W W':World}{B:Nat}{M X Y:Nat→Prop}{bs:List Box}{g:Nat}{L L':List Nd}{A A':ID→Nat}{S S':ID→Rw}{mp mp':Option Nat}(h:CJ w B M bs g L A S mp X W) (hk:Kept Y W W') (hY:∀b,Y b→foot g L A S mp b) (hM:∀b,Y b→M b) (ht:TAt W' g L' A' S' mp') (hf:∀b,foot g L' A' S' mp' b→foot g L A S mp b) :
  CJ w B M bs g L' A' S' mp' X W' where
 box:=fun x hx=>⟨(h.box x hx).1,hk.blk (fun hy=>by have:=h.low _ (hY _ hy);have:=(h.box x hx).1;omega) (h.box x hx).2⟩
 tree:=ht
 low:=fun b hb=>h.low b (hf b hb)
 far:=fun b hb=>⟨(h.far b hb).1,Nat.lt_of_lt_of_le (h.far b hb).2 hk.size⟩
 size:=⟨h.size.1,Nat.le_trans h.size.2 hk.size⟩
 kept:=h.kept.trans hk fun b _ hy=>hM b hy
theorem foot_cut {g:Nat}{P K:List Nd}{x:Nd}{A:ID→Nat}{S:ID→Rw}{mp:Option Nat}{s':Rw}(hs':s'.blk=(S x.ref).blk) (href:Ref (P++x::K) x.ref){b:Nat}(h:foot g (P++K) A (updS S x.ref s') mp b):foot g (P++x::K) A S mp b:=by
 have hi:∀y,y∈ids (P++K)→y∈ids (P++x::K):=fun y hy=>by
  obtain⟨n,hn,rfl⟩:=List.mem_map.1 hy
  refine List.mem_map.2 ⟨n,?_,rfl⟩
  rcases List.mem_append.1 hn with h|h
  ·exact List.mem_append.2 (.inl h)
  ·exact List.mem_append.2 (.inr (List.mem_cons_of_mem _ h))
 rcases h with h|h|⟨y,hy,h⟩|⟨r,hr,h⟩
 ·exact .inl h
 ·exact .inr (.inl h)
 ·exact .inr (.inr (.inl ⟨y,hi y hy,h⟩))
 ·by_cases e:r=x.ref
  ·subst e
   rw [updS,if_pos rfl,hs'] at h
   exact .inr (.inr (.inr ⟨_,href,h⟩))
  ·rw [updS,if_neg e] at h
   exact .inr (.inr (.inr ⟨r,hr.imp_right (hi r),h⟩))
def collB (z pl g:Nat) (v:Value) (k:Int):List Box :=
 [(z,102,#[.pointer (some ⟨g,0,none⟩)]),(z+1,3,#[.int .i64 k]),(pl,161,#[v])]
theorem collB_nodup {z pl g:Nat}{v:Value}{k:Int}(h:z+1<pl):((collB z pl g v k).map (·.1)).Nodup:=by
 simp [collB]
 omega
def collJ (w:World) (B g pl:Nat) (v:Value) (L:List Nd) (A:ID→Nat) (S:ID→Rw) (mp:Option Nat) (i:Nat) (X:Nat→Prop) (W:World):Prop :=
 ∃S',CJ w B (foot g L A S mp) (collB w.heap.size pl g v (collN (L.drop (L.length-i)))) g (L.take (L.length-i)++collR (L.drop (L.length-i))) A S' mp X W ∧
  SlAt ptrE W v (L.map fun n=>A n.id)∧∀b,foot g (L.take (L.length-i)++collR (L.drop (L.length-i))) A S' mp b→foot g L A S mp b
end Go.Proofs.YtjohljmpcblpjaaGreatDoor.Tr
namespace Go.Proofs.YtjohljmpcblpjaaGreatDoor.Tr
open Go.RowKit Go.Proofs.YtjohljmpcblpjaaGreatDoor.St Go.Shelf
attribute [local go_sem] Oper.semAt_some
def bwdAt (D:List Nat) (i:Nat):Nat:=D[D.length-1-i]?.getD 0
def bwdEnc (D:List Nat) (i:Nat):Array Value:=#[.int .i64 ((D.length:Int) - 1-i),.pointer (some ⟨bwdAt D i,0,none⟩)]
theorem bwd_iter {D:List Nat}{pl:Nat}{v:Value}(hb:D.length≤1000000) :
  IterOk Fence.wide 5 Tryz.prog 150 #[.pointer (some ⟨pl,0,none⟩)] D.length (bwdEnc D) (fun w=>w.cell? ⟨pl,0,none⟩=some v∧SlAt ptrE w v D):=by
 intro yl I Z X0 w hrd hgr hgz hy h0
 obtain⟨x0,hs0⟩:=hrd _ _ w h0
 obtain⟨a,c,rfl,_,_⟩:=hs0.sl
 have RD:=Lib.hid hrd
 have GR:=Lib.hid hgr
 have HY:=Lib.hid hy
 have H0:=Lib.hid h0
 have e0:IntKind.i64.wrap ((D.length:Int) - 1)=(D.length:Int) - 1:=IntWalk.i64_in _ (by omega)
 clear hrd hgr hgz hy hs0 h0
 refine callsIn_of_wp Tryz.func150 rfl trivial ?_ rfl
 simp only [Tryz.ntmps150,List.size_toArray,List.length_cons,List.length_nil,Nat.reduceAdd,Nat.reduceSub,Array.replicate_succ,Array.replicate_zero,List.push_toArray,List.append_toArray,List.nil_append,List.cons_append]
 gi_wp2
 gi_loopw [3] (fun iv wr=>∃j:Nat,iv=.int .i64 ((D.length:Int) - 1-j)∧j≤D.length∧∃X,I j X wr) (fun iv _=>(intOf iv+1).toNat)
 case atStart=>exact⟨0,by simp,Nat.zero_le _,_,H0.out⟩
 case round =>
  obtain⟨j,rfl,hj,X,hI⟩:=hrel
  by_cases hlt:j<D.length
  case neg =>
   have hnl:¬(0:Int)≤(D.length:Int) - 1-j:=by omega
   gi_wp2
   go_end0
   exact⟨⟨_,rfl⟩,.inl ⟨X,by rw [show j=D.length by omega] at hI;exact hI⟩⟩
  case pos =>
   obtain⟨k,hk⟩:∃k:Nat,(D.length:Int) - 1-j=k:=⟨D.length-1-j,by omega⟩
   have hkn:D.length-1-j=k:=by omega
   have hkl:k<D.length:=by omega
   have hk1:(k:Int)<D.length:=by omega
   have hk0:(0:Int)≤k:=by omega
   have e1:IntKind.i64.wrap ((k:Int) - 1)=(k:Int) - 1:=IntWalk.i64_in _ (by omega)
   obtain⟨r,hr⟩:=get_of_lt hkl
   obtain⟨c0,hs1⟩:=RD.out _ _ _ hI
   obtain⟨b,o,c',hv,_,_,hbl,hc⟩:=hs1.one (by omega)
   cases hv
   have c1:wr.cell? ⟨b,o+k,none⟩=some (.pointer (some ⟨r,0,none⟩)):=by
    have h9:=hc k r hr 0 _ rfl
    rw [show ptrE.k=1 from rfl] at h9
    simpa using h9
   have hcall:=HY.out j _ wr hlt hI
   unfold bwdEnc bwdAt at hcall
   rw [hkn,hr,hk] at hcall
   simp only [Option.getD_some] at hcall
   obtain⟨fn,tmps,assign,body,hy,hR⟩:=hcall
   have HRR:=Lib.hid hR
   have HK:=Lib.hid hk
   rw [hk]
   clear hr hc hs1 hI hR hk hkn
   gi_wp2
   refine HRR.out.mono ?_
   rintro e w2 ⟨bb,rfl,_,_,ht,hf⟩
   cases bb with
   | true =>
    have T:=Lib.hid (ht rfl)
    clear ht hf hy c0 c1
    gi_wp2
    go_roundw
    case rel=>exact⟨j+1,by have:=HK.out;first | (congr 1;push_cast;omega) | go_num,by omega,_,T.out⟩
    case measure=>simp [intOf] <;> omega
   | false =>
    have T:=Lib.hid (hf rfl)
    clear ht hf hy c0 c1
    gi_wp2
    refine bodyPost_ret (results_none rfl _ _ _) rfl ?_
    exact⟨⟨_,rfl⟩,.inr ⟨_,T.out⟩⟩
end Go.Proofs.YtjohljmpcblpjaaGreatDoor.Tr
namespace Go.Proofs.YtjohljmpcblpjaaGreatDoor.Tr
open Go.RowKit Go.Proofs.YtjohljmpcblpjaaGreatDoor.St Go.Shelf
attribute [local go_sem] Oper.semAt_some
theorem info_ptrS:(Tryz.prog.info? 160).map (fun i=>(i.zero,i.size,i.bytes))=some (some (.pointer none),1,8):=by kernel_rfl
def seqB (z:Nat) (v:Value):List Box:=[(z,161,#[v])]
theorem seqB_nodup (z:Nat) (v:Value):((seqB z v).map (·.1)).Nodup:=by simp [seqB]
def seqJ (w:World) (B g:Nat) (L:List Nd) (A:ID→Nat) (S:ID→Rw) (mp:Option Nat) (i:Nat) (X:Nat→Prop) (W:World):Prop :=
 Gro ptrE 160 w B (fun _=>False) (seqB w.heap.size) g L A S mp ((L.take i).map fun n=>A n.id) X W
theorem seq_any {w:World}{g:Nat}{L:List Nd}{A:ID→Nat}{S:ID→Rw}{mp:Option Nat}(h:TAt w g L A S mp) (hdoc:Doc L) (hlen:L.length≤900000){pl:Nat}(hpl:w.cell? ⟨pl,0,none⟩=some (.pointer (some ⟨g,0,none⟩))) :
  Calls Tryz.prog 151 #[.slice none 0 0,.func (.func 140) #[] #[.pointer (some ⟨pl,0,none⟩)]] w fun e w'=>(∃v,e=.returned v∧w'.ownsRow w.heap.size 160 1 v L.length (ptrE.flat (L.map fun n=>A n.id)))∧Kept (fun _=>False) w w':=by
 refine (callsIn_wide (n:=6)).1 ?_
 refine callsIn_of_wp_marks Tryz.func151 rfl trivial ?_ rfl
 simp only [Tryz.ntmps151,List.size_toArray,List.length_cons,List.length_nil,Nat.reduceAdd,Nat.reduceSub,Array.replicate_succ,Array.replicate_zero,List.push_toArray,List.append_toArray,List.nil_append,List.cons_append]
 gi_wp2
 obtain⟨W0,hW0⟩:∃W0,(w.alloc (.cells #[.slice none 0 0] 161))=W0:=⟨_,rfl⟩
 have hC:CJ w W0.heap.size (fun _=>False) (seqB w.heap.size (.slice none 0 0)) g L A S mp (fun _=>False) W0:=by
  rw [←hW0]
  have h9:=(CJ.start (M:=fun _=>False) h).boxed #[.slice none 0 0] 161
  simp only [World.size_alloc] at h9 ⊢
  exact h9
 rw [hW0]
 clear hW0
 refine wpIn_iter rfl (by decide) (gf:=140) (lb:=#[.pointer (some ⟨pl,0,none⟩)]) rfl trivial (enters_of Tryz.func140 (by kernel_rfl) rfl) (all1_iter (A:=A) (S:=S) (g:=g) trivial rfl (by decide) hdoc hlen) (fun _ _=>rfl) W0.heap.size rfl (seqJ w W0.heap.size g L A S mp) (fun _ _ _=>False) ?hrd ?hgr ?hgx ?hob ?hox ?h0 ?round ?done ?stop
 case hrd=>rintro i X W ⟨v,hJ,_⟩;exact⟨hJ.kept.cell hpl,hJ.tree.shape⟩
 case hgr=>intro i X W W' hJ hk;exact Gro.grow hJ hk
 case hgx=>intro c X W W' h _;exact h
 case hob=>intro i X W o' hJ;exact Gro.put hJ o'
 case hox=>intro c X W o' hJ;exact hJ
 case h0 =>
  intro o1 o2
  have h9:Gro ptrE 160 w W0.heap.size (fun _=>False) (seqB w.heap.size) g L A S mp [] (fun _=>False) W0:=⟨_,hC,World.ownsRow_nil ..,fun b hb=>by cases hb⟩
  exact (h9.alloc o1).alloc o2
 case round =>
  intro i W K hi hK
  have hm:=nth_lt hi
  unfold allEnc
  generalize nth L i=m at hm ⊢
  gi_wp2
  rintro X W h2 ⟨v,hJ,hO,hX⟩
  obtain⟨va,vc,rfl⟩:=owns_sl hO
  have hli:((L.take i).map fun n=>A n.id).length=i:=by rw [List.length_map,List.length_take];omega
  have hlen2:((L.take i).map fun n=>A n.id).length≤1000000:=by rw [hli];omega
  have hlit:SlAt ptrE (W.alloc (.cells #[.pointer (some ⟨A m.id,0,none⟩)] 160)) (.slice (some ⟨W.heap.size,0,none⟩) 1 1) [A m.id]:=SlAt.lit [A m.id] _ (by simp [Enc.flat,ptrE]) (by unfold maxLen;simp)
  have hk1:Kept (fun _=>False) W (W.alloc (.cells #[.pointer (some ⟨A m.id,0,none⟩)] 160)):=(Kept.refl _ _).alloc _
  have hown:=owns_keep hO hk1 (fun _ _ h=>h)
  rw [show Value.slice va ((L.take i).map fun n=>A n.id).length vc=.slice va i vc by rw [hli]] at hown hO hJ hX
  have c0:W.cell? ⟨w.heap.size,0,none⟩=some (.slice va i vc):=hJ.cell 0 rfl 0 rfl
  have hs2:=hJ.size
  have HOWN:=Lib.hid hown
  have HK1:=Lib.hid hk1
  have HB:=Lib.hid (show W0.heap.size+2≤(W.alloc (.cells #[.pointer (some ⟨A m.id,0,none⟩)] 160)).heap.size by simp;omega)
  have HJ:=Lib.hid hJ
  have HO:=Lib.hid hO
  have HX:=Lib.hid hX
  have H2:=Lib.hid h2
  have HM:=Lib.hid hm
  have HLIT:=Lib.hid hlit
  have HL2:=Lib.hid hlen2
  have HLI:=Lib.hid hli
  clear hJ hO hX h2 hm hlit hlen2 hli hown hk1 hs2
  gi_wp2_with (gi_at_builtin;(refine wpListIn_append_keeps ptrE rfl (.tmp 8) (.tmp 10) 161 rfl (W0.heap.size+2) 160 (.pointer none) 8 Tryz.underlying161 info_ptrS rfl (by decide) rfl rfl HOWN.out HLIT.out HL2.out HB.out ?_);(rintro v2 w2 ho2 hg2;have hJ2:=Gro.after HJ.out HO.out HK1.out hg2;have G2:=Lib.hid hg2;rw [HLI.out] at ho2;obtain⟨va2,vc2,rfl⟩:=owns_sl ho2;have O2:=Lib.hid ho2;have d0:w2.cell? ⟨w.heap.size,0,none⟩=some (.slice va i vc):=hJ2.cell 0 rfl 0 rfl;have g0:=hJ2.frozen 0 rfl 0;clear hJ2 ho2 hg2))
  have hG:=Gro.appended (x:=A m.id) HJ.out HO.out HX.out H2.out HK1.out G2.out (by rw [HLI.out]) O2.out 0 rfl (seqB_nodup ..) rfl
  refine⟨hG.1.1,hG.1.2,?_⟩
  show Gro _ _ _ _ _ _ _ _ _ _ _ _ _ _
  rw [List.take_add_one,HM.out,Option.toList_some,List.map_append]
  exact hG.2
 case done =>
  rintro X W hJ0 hK
  obtain⟨v,hJ,hO,hX⟩:=hJ0
  rw [List.take_length] at hO
  have c0:W.cell? ⟨w.heap.size,0,none⟩=some v:=hJ.cell 0 rfl 0 rfl
  have HJ:=Lib.hid hJ
  have HO:=Lib.hid hO
  have HK:=Lib.hid hK
  clear hJ hO hX hK
  gi_wp2
  have hC2:=HJ.out.taken (.deferred none)
  have hO3:=owns_keep HO.out (kept_put W W0.heap.size (.deferred none)) fun b hb e=>by have:=(owns_lt HO.out b hb).1;omega
  have hs0:=HJ.out.size.1
  rw [List.length_map] at hO3
  refine ret_range HK.out (results_tmp rfl _ _ _) ⟨⟨v,rfl,hO3.1,?_⟩,hC2.kept⟩
  rcases hO3.2 with h5|⟨g',cap,cur,e1,e2,e3⟩
  ·exact .inl h5
  ·exact .inr ⟨g',cap,cur,e1,by omega,e3⟩
 case stop =>
  rintro c X W h _
  exact h.elim
theorem scollect_any {w:World}{g:Nat}{L:List Nd}{A:ID→Nat}{S:ID→Rw}{mp:Option Nat}(h:TAt w g L A S mp) (hdoc:Doc L) (hlen:L.length≤900000){pl:Nat}(hpl:w.cell? ⟨pl,0,none⟩=some (.pointer (some ⟨g,0,none⟩))) :
  Calls Tryz.prog 111 #[.func (.func 140) #[] #[.pointer (some ⟨pl,0,none⟩)]] w fun e w'=>(∃v,e=.returned v∧w'.ownsRow w.heap.size 160 1 v L.length (ptrE.flat (L.map fun n=>A n.id)))∧Kept (fun _=>False) w w':=by
 have HS:=Lib.hid (seq_any h hdoc hlen hpl)
 clear h hpl
 go_enter Tryz.func111,Tryz.ntmps111
 go_wp2_with (go_at_call 151;refine HS.out.mono ?_;rintro e w' ⟨⟨v,rfl,ho⟩,hk⟩)
 go_ret
 exact⟨⟨v,rfl,ho⟩,hk⟩
end Go.Proofs.YtjohljmpcblpjaaGreatDoor.Tr
namespace Go.Proofs.YtjohljmpcblpjaaGreatDoor.Tr
open Go.RowKit Go.Proofs.YtjohljmpcblpjaaGreatDoor.St
theorem bwd_any (a:Option Addr) (n c:Nat) (w:World):Calls Tryz.prog 110 #[.slice a n c] w fun e w' =>
  e=.returned (.func (.func 150) #[] #[.pointer (some ⟨w.heap.size,0,none⟩)])∧w'=w.alloc (.cells #[.slice a n c] 161):=by
 go_enter Tryz.func110,Tryz.ntmps110
 go_wp2
 go_ret
 exact⟨rfl,rfl⟩
theorem size_ptrB:(Tryz.prog.info? 160).map (·.size)=some ptrE.k:=by kernel_rfl
theorem zero_elB (w:World):(zeroValue 160).run Tryz.prog w=.ok (.pointer none) w:=by kernel_rfl
theorem erase_mid {w:World}{b cap i:Nat}{D:List Nat}(h:OwnAt ptrE w 160 b cap D) (hi:i+1<D.length) (c1 c2 c3:Nat) :
  ∃w2,(Builtin.copy_ #[161,161] 3 #[.slice (some ⟨b,i,none⟩) (D.length-i) c1,.slice (some ⟨b,i+1,none⟩) (D.length-(i+1)) c2]).run Tryz.prog w=.ok (.int .i64 ((D.length-(i+1):Nat):Int)) w2∧OwnAt ptrE w2 160 b cap (D.eraseIdx i)∧Kept (·=b) w w2 ∧
   ∀w2',Kept (fun _=>False) w2 w2'→∃w3,(Builtin.clear_ #[161] 0 #[.slice (some ⟨b,D.length-1,none⟩) 1 c3]).run Tryz.prog w2'=.ok (.tuple #[]) w3∧OwnAt ptrE w3 160 b cap (D.eraseIdx i)∧Kept (·=b) w2' w3:=by
 obtain⟨w2,h1,h2,h3⟩:=run_copy_erase (P:=Tryz.prog) h 161 161 3 160 Tryz.underlying161 size_ptrB hi c1 c2
 rw [show ptrE.k=1 from rfl,Nat.mul_one,Nat.mul_one] at h1
 refine⟨w2,h1,h2,h3,fun w2' hk=>?_⟩
 have hl:(D.eraseIdx i).length=D.length-1:=by rw [List.length_eraseIdx,if_pos (by omega)]
 have hc:=h.le
 obtain⟨w3,k1,k2,k3⟩:=run_clear_own (P:=Tryz.prog) (h2.keep hk (fun h=>h)) (T:=161) 0 Tryz.underlying161 zero_elB rfl (fun u hu=>by rcases (show u=.pointer none by simpa [Value.cells] using hu) with rfl;rfl) (i:=D.length-1) (n:=1) (c:=c3) (by omega)
 rw [show ptrE.k=1 from rfl,Nat.mul_one] at k1
 rw [List.take_of_length_le (by omega)] at k2
 exact⟨w3,k1,k2,k3⟩
theorem erase_end {w:World}{b cap i:Nat}{D:List Nat}(h:OwnAt ptrE w 160 b cap D) (hi:i+1=D.length) (a:Option Addr) (c1 c2 c3:Nat) :
  (Builtin.copy_ #[161,161] 3 #[.slice (some ⟨b,i,none⟩) (D.length-i) c1,.slice a 0 c2]).run Tryz.prog w=.ok (.int .i64 0) w ∧
   ∀w2',Kept (fun _=>False) w w2'→∃w3,(Builtin.clear_ #[161] 0 #[.slice (some ⟨b,i,none⟩) 1 c3]).run Tryz.prog w2'=.ok (.tuple #[]) w3∧OwnAt ptrE w3 160 b cap (D.eraseIdx i)∧Kept (·=b) w2' w3:=by
 refine⟨run_copy_noneK (P:=Tryz.prog) w 161 161 3 160 _ a _ c1 0 c2 (k:=1) Tryz.underlying161 size_ptrB (by simp),fun w2' hk=>?_⟩
 have hc:=h.le
 obtain⟨w3,k1,k2,k3⟩:=run_clear_own (P:=Tryz.prog) (h.keep hk (fun h=>h)) (T:=161) 0 Tryz.underlying161 zero_elB rfl (fun u hu=>by rcases (show u=.pointer none by simpa [Value.cells] using hu) with rfl;rfl) (i:=i) (n:=1) (c:=c3) (by omega)
 rw [show ptrE.k=1 from rfl,Nat.mul_one] at k1
 have e:D.eraseIdx i=D.take i:=by
  rw [List.eraseIdx_eq_take_drop_succ,List.drop_of_length_le (by omega),List.append_nil]
 rw [←e] at k2
 exact⟨w3,k1,k2,k3⟩
theorem eq_ptr {w:World}{x y:Nat}{t1 t2:TypeId}{c1 c2:Array Value}(hx:Blk w x t1 c1) (hy:Blk w y t2 c2) :
  (binOp .eql 160 (.pointer (some ⟨x,0,none⟩)) (.pointer (some ⟨y,0,none⟩))).run Tryz.prog w=.ok (.bool (decide (x=y))) w:=by
 have hp:Tryz.prog.underlying 160=some (.pointer 163):=by kernel_rfl
 have hi:(Tryz.prog.info? 163).map (·.size)=some 7:=by kernel_rfl
 obtain⟨j,hj,hs⟩:=Option.map_eq_some_iff.1 hi
 by_cases e:x=y
 ·subst e
  rw [decide_eq_true rfl]
  exact run_eql_ptr_same w _ hp hj
 ·rw [decide_eq_false e]
  exact run_eql_ptr_other w hp hj (by omega) (fun h=>e (by injection h)) hx hy
theorem index_any {w:World}{v:Value}{D:List Nat}(hv:SlAt ptrE w v D) (hl:D.length≤1000000){x i:Nat}(hi:D[i]?=some x) (hno:∀j<i,D[j]?≠some x) (hel:∀y∈D,∃t cs,Blk w y t cs) :
  Calls Tryz.prog 113 #[v,.pointer (some ⟨x,0,none⟩)] w fun e w'=>e=.returned (.int .i64 i)∧w=w':=by
 have hin:=(List.getElem?_eq_some_iff.1 hi).1
 obtain⟨b,o,c,rfl,_,_,hbl,hc⟩:=hv.one (by omega)
 have HC:=Lib.hid hc
 have HI:=Lib.hid hi
 have HN:=Lib.hid hno
 have HE:=Lib.hid hel
 have hxm:=List.mem_of_getElem? hi
 clear hv hc hi hno hel
 go_enter Tryz.func113,Tryz.ntmps113
 go_wp2_with fail
 go_loopw [8] (fun kv wr=>∃k:Nat,kv=.int .i64 k∧k≤i∧w=wr) (fun kv _=>D.length-(intOf kv).toNat)
 case atStart=>exact⟨0,rfl,Nat.zero_le _,rfl⟩
 case round =>
  obtain⟨k,rfl,hk,rfl⟩:=hrel
  have h1:(k:Int)<D.length:=by omega
  have h2:(0:Int)≤k:=by omega
  have e1:IntKind.i64.wrap ((k:Int)+1)=(k:Int)+1:=IntWalk.i64_in _ (by omega)
  obtain⟨y,hy⟩:∃y,D[k]?=some y:=⟨_,List.getElem?_eq_getElem (by omega)⟩
  have hcell:w.cell? ⟨b,o+k,none⟩=some (.pointer (some ⟨y,0,none⟩)):=by
   have h9:=HC.out k y hy 0 _ rfl
   rw [show ptrE.k=1 from rfl] at h9
   simpa using h9
  obtain⟨t1,c1,hb1⟩:=HE.out x hxm
  obtain⟨t2,c2,hb2⟩:=HE.out y (List.mem_of_getElem? hy)
  have heq:=eq_ptr hb1 hb2
  clear hb1 hb2
  by_cases hxy:x=y
  ·subst hxy
   have hki:k=i:=by
    rcases Nat.lt_or_eq_of_le hk with h|h
    ·exact absurd hy (HN.out k h)
    ·exact h
   have HK:=Lib.hid hki
   rw [decide_eq_true rfl] at heq
   clear hki hy
   go_wp2_with fail
   go_ret
   exact⟨by rw [←HK.out];rfl,rfl⟩
  ·have hne:¬y=x:=fun e=>hxy e.symm
   have hlt:k<i:=by
    rcases Nat.lt_or_eq_of_le hk with h|h
    ·exact h
    ·subst h;rw [HI.out] at hy;cases hy;exact absurd rfl hxy
   rw [decide_eq_false hxy] at heq
   clear hy
   go_wp2_with fail
   go_roundw
   case rel=>exact⟨k+1,by go_num,by omega,trivial⟩
   case measure=>simp [intOf];omega
end Go.Proofs.YtjohljmpcblpjaaGreatDoor.Tr
namespace Go.Proofs.YtjohljmpcblpjaaGreatDoor.Tr
open Go.RowKit
def noDefer (o:Oper):Bool:=match o.op with | .defer _=>false | _=>true
theorem noDefer_spec {o:Oper}(h:noDefer o=true):∀c,o.op≠.defer c:=fun c e=>by
 unfold noDefer at h
 rw [e] at h
 cases h
theorem wpIn_round {F:Fence}{n:Nat}{P:Program}{o:Oper}{a:Act}{w:World}{K:Act→World→Prop}{Q:Exit→Act→World→Prop}(l:Nat) (hd:noDefer o=true) (h:o.wpIn F n P a w K Q):o.wpIn (F.inRound l) n P a w K Q:=by
 unfold Oper.wpIn at *
 refine⟨h.1,?_⟩
 have h2:=h.2
 rw [Oper.semAt_eq _ _ _ (noDefer_spec hd)] at h2 ⊢
 generalize (execOp a.eval o).run P w=r at *
 cases r with
 | ok x w'=>cases x <;> exact h2
 | halt x w'=>cases x <;> exact h2
theorem wpAnyIn_round {F:Fence}{n:Nat}{P:Program}{md:Region.Mode}{ops:Array Oper}{Q:Exit→Act→World→Prop}(l:Nat) (hd:ops.all noDefer=true):∀(fuel:Nat) (listed:Array Bool) (a:Act) (w:World),wpAnyIn F n P md ops Q fuel listed a w→wpAnyIn (F.inRound l) n P md ops Q fuel listed a w
 | 0,_,_,_,h=>h
 | fuel+1,listed,a,w,h=>by
  refine⟨h.1,fun i hi=>?_⟩
  have h2:=wpOpIn_mono (fun a' w'=>wpAnyIn_round l hd fuel (listed.setIfInBounds i true) a' w') (h.2 i hi)
  unfold wpOpIn at h2 ⊢
  cases ho:ops[i]? with
  | none=>rw [ho] at h2;exact h2
  | some o =>
   rw [ho] at h2
   simp only at h2 ⊢
   have hdo:noDefer o=true:=by
    obtain⟨hi2,e⟩:=Array.getElem?_eq_some_iff.1 ho
    have h5:=Array.all_eq_true.1 hd i hi2
    rwa [e] at h5
   by_cases hw:Region.wanted o (yielded ops a.tmps)=true
   ·rw [if_pos hw] at h2 ⊢
    exact wpIn_round l hdo h2
   ·rw [if_neg hw] at h2 ⊢
    exact h2
end Go.Proofs.YtjohljmpcblpjaaGreatDoor.Tr
