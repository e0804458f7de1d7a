/- An element put: what the document in memory becomes. slices.BinarySearchFunc with higher. (*tree.Tree).put, walked. -/
import Derived.Test.YtjohljmpcblpjaaGreatDoorM20
import Derived.Test.YtjohljmpcblpjaaGreatDoorM16
set_option maxRecDepth 100000
set_option maxHeartbeats 8000000
namespace Go.Proofs.YtjohljmpcblpjaaGreatDoor.Tr
open Go.RowKit Go.Proofs.YtjohljmpcblpjaaGreatDoor.St
theorem WFs.sorted {r:ID}:∀ {F:List T},WFs r F→(F.map T.n).Pairwise fun a b=>b.id.lt a.id
 | [],_=>List.Pairwise.nil
 | t::ts,h=>List.Pairwise.cons (fun m hm=>by
   obtain⟨u,hu,rfl⟩:=List.mem_map.1 hm
   exact h.2.1 u hu) (WFs.sorted h.2.2)
theorem Doc.sorted {L:List Nd}(h:Doc L){r:ID}(hr:Ref L r):(kids L r).Pairwise fun a b=>b.id.lt a.id:=by
 obtain⟨F,rfl,hw,hnd⟩:=h
 rcases hr with rfl|hr
 ·rw [kids_root hw];exact hw.sorted
 ·obtain⟨m,hm,rfl⟩:=List.mem_map.1 hr
  rw [←subss_flat] at hm
  obtain⟨u,hu,rfl⟩:=List.mem_map.1 hm
  rw [kids_subs F hw hnd u hu]
  obtain⟨r',hwu⟩:=WFs.sub F hw u hu
  exact (WF.eq.1 hwu).2.2.sorted
theorem takeWhile_count {α:Type}{p:α→Bool}:∀ {l:List α}{j:Nat},j≤l.length→(∀i y,l[i]?=some y→(i<j↔p y=true))→(l.takeWhile p).length=j
 | [],j,hj,_=>by simp at hj;simp [hj]
 | a::l,0,_,h=>by
  have:=(h 0 a rfl)
  rw [List.takeWhile_cons_of_neg (fun hp=>by have:=this.2 hp;omega)];rfl
 | a::l,j+1,hj,h=>by
  have h0:=(h 0 a rfl).1 (Nat.succ_pos _)
  rw [List.takeWhile_cons_of_pos h0,List.length_cons,takeWhile_count (l:=l) (j:=j) (by simpa using hj) (fun i y hy=>by
   have h9:=h (i+1) y (by simpa using hy)
   exact⟨fun h=>h9.1 (by omega),fun h=>by have:=h9.2 h;omega⟩)]
def putA (A:ID→Nat) (x:ID) (e:Nat) (y:ID):Nat:=if y=x then e else A y
def putS (S:ID→Rw) (x r:ID) (s:Rw) (y:ID):Rw:=if y=r then s else if y=x then ⟨none,0,0⟩ else S y
theorem put_perm (L:List Nd) (p:Nat) (x m:Nd):m∈put L p x↔m=x∨m∈L:=by
 unfold put
 rw [List.mem_append,List.mem_cons]
 constructor
 ·rintro (h | h | h)
  ·exact .inr (List.mem_of_mem_take h)
  ·exact .inl h
  ·exact .inr (List.mem_of_mem_drop h)
 ·rintro (h | h)
  ·exact .inr (.inl h)
  ·rw [←List.take_append_drop p L] at h
   rcases List.mem_append.1 h with h|h
   ·exact .inl h
   ·exact .inr (.inr h)
theorem put_len (L:List Nd) (p:Nat) (x:Nd):(put L p x).length=L.length+1:=by unfold put;simp;omega
theorem put_ref {L:List Nd}{p:Nat}{x:Nd}{r:ID}(h:Ref (put L p x) r):r=x.id∨Ref L r:=by
 rcases h with h|h
 ·exact .inr (.inl h)
 ·rcases put_ids.1 h with h | h
  ·exact .inl h
  ·exact .inr (.inr h)
variable {w w':World} {g:Nat} {L:List Nd} {A:ID→Nat} {S:ID→Rw} {mp:Option Nat}
theorem kids_putA {L:List Nd}{x:Nd}(hx:x.id∉ids L) (e:Nat) (A:ID→Nat) (r:ID):(kids L r).map (fun n=>putA A x.id e n.id)=(kids L r).map fun n=>A n.id :=
 List.map_congr_left fun n hn=>if_neg (fun (h:n.id=x.id)=>hx (by rw [←h];exact List.mem_map.2 ⟨n,(List.mem_filter.1 hn).1,rfl⟩))
theorem TAt.put_mem {w w3 w5:World}{mb e:Nat}{x:Nd}{s':Rw}{p:Nat}{kvs:List (ID × Value)}(h:TAt w g L A S (some mb)) (hdoc:Doc L) (hid:x.id≠ID.zero) (href:Ref L x.ref) (hlt:x.ref.lt x.id) (hx:x.id∉ids L)
  (he:Blk w e 163 (ndC x++[Value.slice none 0 0]).toArray) (hef:¬foot g L A S (some mb) e) (hkv:MapK keyI w mb kvs) (hok:KeysOk kvs) (hkl:kvs.length=L.length) (hkg:∀y,getK kvs y=if y∈ids L then some (.pointer (some ⟨A y,0,none⟩)) else none)
  (hk3:Kept (fun b=>(S x.ref).blk=some b) w w3) (hr:RowAt w3 s' ((kids (put L p x) x.ref).map fun n=>putA A x.id e n.id)) (hs':s'.blk=(S x.ref).blk∨∃b,s'.blk=some b∧w.heap.size≤b)
  (hk5:Kept (·=mb) (w3.setCell (place g A x.ref) s'.v) w5) (hm5:MapK keyI w5 mb (putK kvs x.id (.pointer (some ⟨e,0,none⟩)))) :
  TAt w5 g (put L p x) (putA A x.id e) (putS S x.id x.ref s') (some mb):=by
 have hrx:x.ref≠x.id:=fun e=>by rw [e] at hlt;exact ID.lt_irrefl _ hlt
 have hAx:putA A x.id e x.id=e:=if_pos rfl
 have hAo:∀y,y≠x.id→putA A x.id e y=A y:=fun y hy=>if_neg hy
 have hSr:putS S x.id x.ref s' x.ref=s':=if_pos rfl
 have hSx:putS S x.id x.ref s' x.id=⟨none,0,0⟩:=by unfold putS;rw [if_neg (fun h=>hrx h.symm),if_pos rfl]
 have hSo:∀y,y≠x.ref→y≠x.id→putS S x.id x.ref s' y=S y:=fun y h1 h2=>by unfold putS;rw [if_neg h1,if_neg h2]
 have hxin:∀y∈ids L,y≠x.id:=fun y hy e=>hx (e ▸ hy)
 have hRx:∀y,Ref L y→y≠x.id:=fun y hy=>by rcases hy with rfl | hy;exact fun e=>hid e.symm;exact hxin y hy
 have hrowne:∀r,Ref L r→∀b,(S r).blk=some b→b≠g∧(∀y∈ids L,b≠A y)∧b≠mb∧b≠e:=fun r hr b hb=>by
  refine⟨(h.row r hr).ne h.top (by decide) b hb,fun y hy=>?_,?_,fun e=>hef (e ▸ .inr (.inr (.inr ⟨r,hr,hb⟩)))⟩
  ·obtain⟨n,hn,rfl⟩:=List.mem_map.1 hy
   exact (h.row r hr).ne (h.elt n hn) (by decide) b hb
  ·rcases h.row r hr with ⟨e1,_⟩ | ⟨b',cap,e1,cs,h2,_⟩
   ·rw [e1] at hb;cases hb
   ·rw [e1] at hb;cases hb
    exact hkv.ne_blk h2
 have hplace:(place g A x.ref).block=(if x.ref=ID.zero then g else A x.ref):=by unfold place;split <;> rfl
 have keep5:∀b,b<w.heap.size→(S x.ref).blk≠some b→b≠(place g A x.ref).block→b≠mb→w5.heap[b]?=w.heap[b]?:=fun b hb h1 h2 h3=>by
  have hb3:b<w3.heap.size:=Nat.lt_of_lt_of_le hb hk3.size
  rw [hk5.block b (by simpa using hb3) h3,Below.heap_setCell _ _ _ _ h2,hk3.block b hb h1]
 have blk5:∀b t cs,Blk w b t cs→(S x.ref).blk≠some b→b≠(place g A x.ref).block→b≠mb→Blk w5 b t cs:=fun b t cs hb h1 h2 h3=>(keep5 b hb.lt h1 h2 h3).trans hb
 have put5:∀b t cs o,Blk w b t cs→(S x.ref).blk≠some b→place g A x.ref=⟨b,o,none⟩→b≠mb→Blk w5 b t (cs.setIfInBounds o s'.v):=fun b t cs o hb h1 h2 h3=>by
  have h4:Blk w3 b t cs:=hk3.blk h1 hb
  have h5:=h4.set_ o s'.v
  rw [h2] at hk5
  exact hk5.blk h3 h5
 have hmbg:mb≠g:=fun e=>hkv.ne_blk h.top e.symm
 have hmbe:∀n∈L,mb≠A n.id:=fun n hn e=>hkv.ne_blk (h.elt n hn) e.symm
 have hgA:∀n∈L,g≠A n.id:=fun n hn e=>Blk.ne_ h.top (h.elt n hn) (by decide) e
 have hrg:=hrowne x.ref href
 refine { top:=?_,elt:=?_,row:=?_,by_:=?_,one:=?_,far:=?_ }
 ·by_cases hz:x.ref=ID.zero
  ·have h1:=put5 g _ _ 0 h.top (fun e=>(hrg g e).1 rfl) (by unfold place;rw [if_pos hz]) (fun e=>hmbg e.symm)
   have e1:putS S x.id x.ref s' ID.zero=s':=by rw [←hz];exact hSr
   rw [e1]
   exact h1
  ·have e1:putS S x.id x.ref s' ID.zero=S ID.zero:=hSo _ (fun e=>hz e.symm) (fun e=>hid e.symm)
   rw [e1]
   have hrL:x.ref∈ids L:=href.resolve_left hz
   obtain⟨n,hn,hne⟩:=List.mem_map.1 hrL
   exact blk5 g _ _ h.top (fun e=>(hrg g e).1 rfl) (by rw [hplace,if_neg hz,←hne];exact hgA n hn) (fun e=>hmbg e.symm)
 ·intro n hn
  rcases (put_perm L p x n).1 hn with rfl|hn
  ·rw [hAx,hSx]
   have hpe:e≠(place g A n.ref).block:=by
    rw [hplace]
    split
    ·intro e1;exact hef (e1 ▸ .inl rfl)
    next hz=>intro e1;exact hef (e1 ▸ .inr (.inr (.inl ⟨n.ref,href.resolve_left hz,rfl⟩)))
   exact blk5 e _ _ he (fun e1=>(hrg e e1).2.2.2 rfl) hpe (fun e1=>hef (e1 ▸ .inr (.inl rfl)))
  ·have hni:n.id∈ids L:=List.mem_map.2 ⟨n,hn,rfl⟩
   rw [hAo n.id (hxin _ hni)]
   by_cases hz:n.id=x.ref
   ·have e1:putS S x.id x.ref s' n.id=s':=by rw [hz];exact hSr
    rw [e1]
    have hnz:x.ref≠ID.zero:=fun e0=>by
     obtain⟨F,rfl,hw,_⟩:=hdoc
     have:=WFs.gt F hw n hn
     rw [hz,e0] at this
     exact ID.lt_irrefl _ this
    have h1:=put5 (A n.id) _ _ 6 (h.elt n hn) (fun e=>(hrg _ e).2.1 n.id hni rfl) (by unfold place;rw [if_neg hnz,hz]) (fun e=>hmbe n hn e.symm)
    have e2:((ndC n++[(S n.id).v]).toArray.setIfInBounds 6 s'.v)=(ndC n++[s'.v]).toArray:=by simp [ndC]
    rw [e2] at h1
    exact h1
   ·have e1:putS S x.id x.ref s' n.id=S n.id:=hSo _ hz (hxin _ hni)
    rw [e1]
    refine blk5 (A n.id) _ _ (h.elt n hn) (fun e=>(hrg _ e).2.1 n.id hni rfl) ?_ (fun e=>hmbe n hn e.symm)
    rw [hplace]
    split
    ·exact fun e=>hgA n hn e.symm
    next hz2=>exact fun e=>hz (h.one _ hni _ (href.resolve_left hz2) e)
 ·intro r hr'
  rcases put_ref hr' with rfl|hrL
  ·rw [hSx]
   refine .inl ⟨rfl,?_⟩
   rw [kids_put hrx,kids_none (fun m hm e=>?_)]
   ·rfl
   ·rcases hdoc.refs m hm with h1 | h1
    ·exact hid (e ▸ h1)
    ·exact hx (e ▸ h1)
  ·by_cases hz:r=x.ref
   ·subst hz
    rw [hSr]
    rcases hr with ⟨h1,h2⟩|⟨b,cap,h1,h2⟩
    ·exact .inl ⟨h1,h2⟩
    ·refine .inr ⟨b,cap,h1,h2.keep (S:=fun k=>k=(place g A x.ref).block∨k=mb) ?_ ?_⟩
     ·exact (((Kept.refl (fun k=>k=(place g A x.ref).block) w3).setCell (fun _=>rfl) _).mono (fun _ _ h=>.inl h)).trans (hk5.mono fun _ _ h=>.inr h) (fun _ _ h=>h)
     ·have hbb:s'.blk=some b:=by rw [h1];rfl
      have hbp:b≠(place g A x.ref).block∧b≠mb:=by
       rcases hs' with h3|⟨b',h3,h4⟩
       ·rw [hbb] at h3
        obtain⟨q1,q2,q3,_⟩:=hrg b h3.symm
        refine⟨?_,q3⟩
        rw [hplace]
        split
        ·exact q1
        next hz=>exact q2 _ (href.resolve_left hz)
       ·rw [hbb] at h3;cases h3
        have hl:=h.lt
        refine⟨?_,fun e=>by have:=hl mb (.inr (.inl rfl));omega⟩
        rw [hplace]
        split
        ·intro e;have:=hl g (.inl rfl);omega
        next hz=>intro e;have:=hl _ (.inr (.inr (.inl ⟨x.ref,href.resolve_left hz,rfl⟩)));omega
      rintro (e1 | e1)
      ·exact hbp.1 e1
      ·exact hbp.2 e1
   ·rw [hSo r hz (hRx r hrL),kids_put (fun e=>hz e.symm),kids_putA hx]
    rcases h.row r hrL with h1|⟨b,cap,h1,cs,h2,h3⟩
    ·exact .inl h1
    ·obtain⟨q1,q2,q3,q4⟩:=hrowne r hrL b (by rw [h1];rfl)
     refine .inr ⟨b,cap,h1,cs,blk5 b _ _ h2 (fun e=>hz (h.far r x.ref hrL href b (by rw [h1];rfl) e)) ?_ q3,h3⟩
     rw [hplace]
     split
     ·exact q1
     next hz2=>exact q2 _ (href.resolve_left hz2)
 ·refine .inr ⟨mb,_,rfl,hm5,hok.put _ _,?_,fun y=>?_⟩
  ·have hnf:x.id∉kvs.map (·.1):=getK_none.1 (by rw [hkg,if_neg hx])
   have : ∀(l:List (ID × Value)),x.id∉l.map (·.1)→(putK l x.id (.pointer (some ⟨e,0,none⟩))).length=l.length+1:=by
    intro l
    induction l with
    | nil=>intro _;rfl
    | cons y r ih =>
     intro hn
     have h1:¬y.1=x.id:=fun e=>hn (by simp [e])
     show (if y.1=x.id then _ else y::putK r x.id _).length=_
     rw [if_neg h1,List.length_cons,ih (fun hh=>hn (by simp;right;simpa using hh))]
     rfl
   rw [this kvs hnf,put_len,hkl]
  ·rw [getK_put]
   by_cases hy:x.id=y
   ·subst hy
    rw [if_pos rfl,if_pos (put_ids.2 (.inl rfl)),hAx]
   ·rw [if_neg hy,hkg y]
    by_cases hyL:y∈ids L
    ·rw [if_pos hyL,if_pos (put_ids.2 (.inr hyL)),hAo y (fun e=>hy e.symm)]
    ·rw [if_neg hyL,if_neg (fun hh=>by rcases put_ids.1 hh with h1 | h1;exact hy h1.symm;exact hyL h1)]
 ·intro y hy z hz hyz
  have hne:∀y∈ids L,A y≠e:=fun y hy e1=>hef (e1 ▸ .inr (.inr (.inl ⟨y,hy,rfl⟩)))
  rcases put_ids.1 hy with rfl|hy' <;> rcases put_ids.1 hz with rfl|hz'
  ·rfl
  ·rw [hAx,hAo z (hxin z hz')] at hyz;exact absurd hyz.symm (hne z hz')
  ·rw [hAx,hAo y (hxin y hy')] at hyz;exact absurd hyz (hne y hy')
  ·rw [hAo y (hxin y hy'),hAo z (hxin z hz')] at hyz;exact h.one y hy' z hz' hyz
 ·intro y z hy hz b hb1 hb2
  have hSb:∀y,Ref (put L p x) y→∀b,(putS S x.id x.ref s' y).blk=some b→(y=x.ref∧s'.blk=some b)∨(y≠x.ref∧Ref L y∧(S y).blk=some b):=fun y hy b hb=>by
   by_cases h1:y=x.ref
   ·subst h1;rw [hSr] at hb;exact .inl ⟨rfl,hb⟩
   ·rcases put_ref hy with rfl | hyL
    ·rw [hSx] at hb;cases hb
    ·rw [hSo y h1 (hRx y hyL)] at hb;exact .inr ⟨h1,hyL,hb⟩
  have hmix:∀y,y≠x.ref→Ref L y→(S y).blk=some b→s'.blk=some b→False:=fun y h1 h2 h3 h4=>by
   rcases hs' with h5|⟨b',h5,h6⟩
   ·rw [h4] at h5;exact h1 (h.far y x.ref h2 href b h3 h5.symm)
   ·rw [h4] at h5;cases h5
    have:=h.lt b (.inr (.inr (.inr ⟨y,h2,h3⟩)))
    omega
  rcases hSb y hy b hb1 with ⟨h1,h2⟩|⟨h1,h2,h3⟩ <;> rcases hSb z hz b hb2 with ⟨k1,k2⟩|⟨k1,k2,k3⟩
  ·rw [h1,k1]
  ·exact (hmix z k1 k2 k3 h2).elim
  ·exact (hmix y h1 h2 h3 k2).elim
  ·exact h.far y z h2 k2 b h3 k3
end Go.Proofs.YtjohljmpcblpjaaGreatDoor.Tr
namespace Go.Proofs.YtjohljmpcblpjaaGreatDoor.Tr
open Go.RowKit Go.Proofs.YtjohljmpcblpjaaGreatDoor.St Go.Sort
theorem grew_grown {w:World}(n:Nat) (os:Array Obj):Grew w (grow (w.drewN n) os):=⟨n,os,rfl⟩
theorem grown_call {f:FuncId}{args:Array Value}{w:World}{v:Value}(h:∀w',Grew w w'→Calls Tryz.prog f args w' fun e w''=>e=.returned v∧Grew w' w'') (n:Nat) (os:Array Obj) :
  Calls Tryz.prog f args (grow (w.drewN n) os) fun e w''=>e=.returned v∧∃p:GrownBy,w''=grow (w.drewN p.n) p.os :=
 Calls.grown_of ((h _ (grew_grown n os)).mono fun _ _ ⟨he,q,os',hq⟩=>⟨he,q,os',hq⟩)
def SearchPost (w:World) (N:List Nd) (i:ID) (e:Ending) (w':World):Prop:=(∃b,e=.returned (.tuple #[.int .i64 (N.takeWhile fun n=>decide (i.lt n.id)).length,.bool b])∧(b=true→∃n∈N,n.id=i))∧Grew w w'
theorem search_done {w w':World}{N:List Nd}{i:ID}{lo:Nat}{b:Bool}(h:(N.takeWhile fun n=>decide (i.lt n.id)).length=lo) (hg:Grew w w') (hb:b=true→∃n∈N,n.id=i):SearchPost w N i (.returned (.tuple #[.int .i64 lo,.bool b])) w':=⟨⟨b,by rw [h],hb⟩,hg⟩
def SearchRel (w:World) (N:List Nd) (i:ID) (iv jv:Value) (wr:World):Prop :=
 ∃lo hi:Nat,iv=.int .i64 lo∧jv=.int .i64 hi∧lo≤hi∧hi≤N.length∧(∀k m,k<lo→N[k]?=some m→i.lt m.id)∧(∀k m,hi≤k→N[k]?=some m→¬i.lt m.id)∧Grew w wr
theorem bsf_any {w:World}{v:Value}{N:List Nd}{A:ID→Nat}(hv:SlAt ptrE w v (N.map fun n=>A n.id)) (hel:∀n∈N,w.cell? ⟨A n.id,0,none⟩=some (.int .i64 n.id.t)∧w.cell? ⟨A n.id,1,none⟩=some (.int .i64 n.id.s)) (hl:N.length≤1000000) (i:ID) (hsort:N.Pairwise fun a b=>b.id.lt a.id) :
  Calls Tryz.prog 157 #[v,idV i,.func (.func 158) #[] #[]] w (SearchPost w N i):=by
 obtain⟨a,c,rfl,_,_⟩:=hv.sl
 rw [List.length_map]
 have HV:=Lib.hid hv
 have HE:=Lib.hid hel
 have HS:=Lib.hid hsort
 have HG:=Lib.hid (Grew.alloc (Grew.refl w) (.cells #[.int .i64 i.t,.int .i64 i.s] 59))
 have HB:=Lib.hid (Blk.new w 59 #[.int .i64 i.t,.int .i64 i.s])
 clear hv hel hsort
 unfold idV
 go_enter Tryz.func157,Tryz.ntmps157
 go_wp2_with fail
 go_loopw [9,10] (SearchRel (w.alloc (.cells #[.int .i64 i.t,.int .i64 i.s] 59)) N i) (fun iv jv _=>(intOf jv-intOf iv).toNat)
 case atStart=>exact⟨0,N.length,rfl,rfl,Nat.zero_le _,Nat.le_refl _,fun k m h=>absurd h (Nat.not_lt_zero _),fun k m h hm=>by have:=(List.getElem?_eq_some_iff.1 hm).1;omega,Grew.refl _⟩
 case round =>
  obtain⟨lo,hi,rfl,rfl,h1,h2,hlo,hhi,hg⟩:=hrel
  have LO:=Lib.hid hlo
  have HI:=Lib.hid hhi
  have G:=Lib.hid hg
  clear hlo hhi hg
  by_cases hlt:lo<hi
  ·have hltI:(lo:Int)<hi:=by omega
   have hb1:(hi:Int)≤1000000:=by omega
   have hb0:(0:Int)≤lo:=by omega
   have hb2:(0:Int)≤hi:=by omega
   obtain⟨h,hh⟩:∃h:Nat,((lo:Int)+(hi:Int)) / 2=(h:Int):=⟨(lo+hi) / 2,by omega⟩
   have hh1:lo≤h∧h<hi:=by omega
   have hhN:h<N.length:=by omega
   obtain⟨m,hm⟩:∃m,N[h]?=some m:=⟨_,List.getElem?_eq_getElem hhN⟩
   have hrow:=(HV.out.kept HG.out.kept).kept G.out.kept
   obtain⟨b,o,c',hv,_,_,hbl,hc⟩:=hrow.one (by simp;omega)
   obtain⟨rfl,rfl⟩:a=some ⟨b,o,none⟩∧c=c':=by rw [List.length_map] at hv;injection hv with e1 _ e3;exact⟨e1,e3⟩
   have hcell:wr.cell? ⟨b,o+h,none⟩=some (.pointer (some ⟨A m.id,0,none⟩)):=by
    have h9:=hc h (A m.id) (by simp [hm]) 0 _ rfl
    rw [show ptrE.k=1 from rfl] at h9
    simpa using h9
   have hz:=HB.out
   have hzl:=G.out.size
   have b0:=(G.out.box hz).cell' (i:=0) (v:=.int .i64 i.t) rfl
   have b1:=(G.out.box hz).cell' (i:=1) (v:=.int .i64 i.s) rfl
   have hzb:w.heap.size<wr.heap.size:=(G.out.box hz).lt
   have cg0:=cell_grown (a:=⟨w.heap.size,0,none⟩) hzb b0
   have cg1:=cell_grown (a:=⟨w.heap.size,1,none⟩) hzb b1
   have cg2:=cell_grown (a:=⟨b,o+h,none⟩) hbl hcell
   obtain⟨he0,he1⟩:=HE.out m (List.mem_of_getElem? hm)
   have hkk:Kept (fun _=>False) w wr:=HG.out.kept.trans G.out.kept fun _ _ h=>h
   have HC:Hid (∀w',Grew wr w'→Calls Tryz.prog 158 #[.pointer (some ⟨A m.id,0,none⟩),.agg #[.int .i64 i.t,.int .i64 i.s]] w' fun e w''=>e=.returned (.int .i64 (i.cmp m.id))∧Grew w' w''):=Lib.hid fun w' hg' =>
    higher_any (n:=m) i (cell_keep (hkk.trans hg'.kept fun _ _ h=>h) he0) (cell_keep (hkk.trans hg'.kept fun _ _ h=>h) he1)
   have hmix:Tryz.prog.follows .mixedOrders=true:=by kernel_rfl
   have HM:=Lib.hid hm
   have H1:=Lib.hid hh1
   have hin:(h:Int)<N.length:=by omega
   have hin0:(0:Int)≤h:=by omega
   clear hrow hv hc hcell hz hzl b0 b1 hbl hzb he0 he1 hkk hm hh1
   have hbd:=cmp_bd i m.id
   by_cases q:i.lt m.id
   ·have q1:i.cmp m.id<0:=cmp_lt.2 q
    generalize i.cmp m.id=k at *
    go_wp2_with fail
    go_quiet_grown ((go_at_call 158;exact grown_call HC.out _ _))
    go_wp2_with fail
    go_roundw
    case rel =>
     have hh1:=H1.out
     exact⟨h+1,hi,by go_num,rfl,by omega,by omega,fun k m' hk hm'=>by
      rcases Nat.lt_or_ge k lo with hk2|hk2
      ·exact LO.out k m' hk2 hm'
      ·rcases Nat.lt_succ_iff_lt_or_eq.1 hk with hk3 | rfl
       ·exact ID.lt_trans q ((List.pairwise_iff_getElem.1 HS.out k h (List.getElem?_eq_some_iff.1 hm').1 hhN hk3) |> fun h5=>by rw [(List.getElem?_eq_some_iff.1 hm').2,(List.getElem?_eq_some_iff.1 HM.out).2] at h5;exact h5)
       ·rw [HM.out] at hm';cases hm';exact q,HI.out,G.out.trans (grew_grown _ _)⟩
    case measure=>have hh1:=H1.out;simp [intOf];omega
   ·have q1:¬i.cmp m.id<0:=fun h=>q (cmp_lt.1 h)
    generalize i.cmp m.id=k at *
    go_wp2_with fail
    go_quiet_grown ((go_at_call 158;exact grown_call HC.out _ _))
    go_wp2_with fail
    go_roundw
    case rel =>
     have hh1:=H1.out
     exact⟨lo,h,rfl,rfl,by omega,by omega,LO.out,fun k m' hk hm'=>by
      rcases Nat.lt_or_ge k hi with hk2|hk2
      ·rcases Nat.lt_or_eq_of_le hk with hk3 | rfl
       ·intro hlt'
        refine q (ID.lt_trans hlt' ((List.pairwise_iff_getElem.1 HS.out h k hhN (List.getElem?_eq_some_iff.1 hm').1 hk3) |> fun h5=>by rw [(List.getElem?_eq_some_iff.1 hm').2,(List.getElem?_eq_some_iff.1 HM.out).2] at h5;exact h5))
       ·rw [HM.out] at hm';cases hm';exact q
      ·exact HI.out k m' hk2 hm',G.out.trans (grew_grown _ _)⟩
    case measure=>have hh1:=H1.out;simp [intOf];omega
  ·have heq:lo=hi:=by omega
   subst heq
   have hcount:(N.takeWhile fun n=>decide (i.lt n.id)).length=lo:=by
    have hsplit:N=N.take lo++N.drop lo:=(List.take_append_drop _ _).symm
    have h3:(N.takeWhile fun n=>decide (i.lt n.id))=N.take lo:=by
     conv=>lhs;rw [hsplit]
     rw [List.takeWhile_append_of_pos (fun m hm=>by
      obtain⟨k,hk,e⟩:=List.mem_take_iff_getElem.1 hm
      simpa using LO.out k m (by omega) (by rw [←e];exact List.getElem?_eq_getElem _))]
     cases hd:N.drop lo with
     | nil=>simp
     | cons m r =>
      have hm:N[lo]?=some m:=by have h9:=congrArg (fun l=>l[0]?) hd;simpa using h9
      rw [List.takeWhile_cons_of_neg (by simpa using HI.out lo m (Nat.le_refl _) hm),List.append_nil]
    rw [h3,List.length_take,Nat.min_eq_left h2]
   have HCN:=Lib.hid hcount
   clear hcount
   have hloI:¬(lo:Int)<lo:=by omega
   by_cases hend:lo<N.length
   ·obtain⟨m,hm⟩:∃m,N[lo]?=some m:=⟨_,List.getElem?_eq_getElem hend⟩
    have hrow:=(HV.out.kept HG.out.kept).kept G.out.kept
    obtain⟨b,o,c',hv,_,_,hbl,hc⟩:=hrow.one (by simp;omega)
    obtain⟨rfl,rfl⟩:a=some ⟨b,o,none⟩∧c=c':=by rw [List.length_map] at hv;injection hv with e1 _ e3;exact⟨e1,e3⟩
    have hcell:wr.cell? ⟨b,o+lo,none⟩=some (.pointer (some ⟨A m.id,0,none⟩)):=by
     have h9:=hc lo (A m.id) (by simp [hm]) 0 _ rfl
     rw [show ptrE.k=1 from rfl] at h9
     simpa using h9
    have hz:=HB.out
    have b0:=(G.out.box hz).cell' (i:=0) (v:=.int .i64 i.t) rfl
    have b1:=(G.out.box hz).cell' (i:=1) (v:=.int .i64 i.s) rfl
    have hzb:w.heap.size<wr.heap.size:=(G.out.box hz).lt
    have cg0:=cell_grown (a:=⟨w.heap.size,0,none⟩) hzb b0
    have cg1:=cell_grown (a:=⟨w.heap.size,1,none⟩) hzb b1
    have cg2:=cell_grown (a:=⟨b,o+lo,none⟩) hbl hcell
    obtain⟨he0,he1⟩:=HE.out m (List.mem_of_getElem? hm)
    have hkk:Kept (fun _=>False) w wr:=HG.out.kept.trans G.out.kept fun _ _ h=>h
    have HC:Hid (∀w',Grew wr w'→Calls Tryz.prog 158 #[.pointer (some ⟨A m.id,0,none⟩),.agg #[.int .i64 i.t,.int .i64 i.s]] w' fun e w''=>e=.returned (.int .i64 (i.cmp m.id))∧Grew w' w''):=Lib.hid fun w' hg' =>
     higher_any (n:=m) i (cell_keep (hkk.trans hg'.kept fun _ _ h=>h) he0) (cell_keep (hkk.trans hg'.kept fun _ _ h=>h) he1)
    have hmix:Tryz.prog.follows .mixedOrders=true:=by kernel_rfl
    have hin:(lo:Int)<N.length:=by omega
    have hin0:(0:Int)≤lo:=by omega
    have hdec:decide ((lo:Int)<(N.length:Int))=true:=decide_eq_true hin
    have HE2:Hid (i.cmp m.id=0→∃n∈N,n.id=i):=Lib.hid fun h0=>⟨m,List.mem_of_getElem? hm,(cmp_zero.1 h0).symm⟩
    clear hrow hv hc hcell hz b0 b1 hbl hzb he0 he1 hkk hm
    generalize i.cmp m.id=k at *
    go_wp2_with fail
    go_quiet_grown ((go_at_call 158;exact grown_call HC.out _ _))
    have GG:=Lib.hid (HG.out.trans (G.out.trans (grew_grown nq osq)))
    clear hmix hin hin0 hdec cg0 cg1 cg2
    go_wp2_with fail
    go_ret2
    exact search_done HCN.out GG.out (fun h=>HE2.out (by simpa using h))
   ·have hdec:decide ((lo:Int)<(N.length:Int))=false:=decide_eq_false (by omega)
    have hmix:Tryz.prog.follows .mixedOrders=true:=by kernel_rfl
    go_wp2_with fail
    go_quiet (fail)
    have GG:=Lib.hid (HG.out.trans (G.out.drewN nq))
    clear hmix hdec
    go_wp2_with fail
    go_ret2
    exact search_done HCN.out GG.out (fun h=>by simp at h)
end Go.Proofs.YtjohljmpcblpjaaGreatDoor.Tr
namespace Go.Proofs.YtjohljmpcblpjaaGreatDoor.Tr
open Go.RowKit Go.Sort Go.Proofs.YtjohljmpcblpjaaGreatDoor.St
theorem TAt.mapped {w:World}{g:Nat}{L:List Nd}{A:ID→Nat}{S:ID→Rw}(h:TAt w g L A S none) (vs:Array Value) (t:TypeId):TAt (((w.setCell ⟨g,1,none⟩ (.map (some (w.heap.size+1)))).alloc (.cells vs t)).alloc (.map #[] 0)) g L A S (some (w.heap.size+1)):=by
 have hL:L=[]:=by rcases h.by_ with ⟨_,h1⟩ | ⟨_,_,h1,_⟩;exact h1;cases h1
 subst hL
 have hg:=h.top.lt
 have hk:Kept (·=g) w (((w.setCell ⟨g,1,none⟩ (.map (some (w.heap.size+1)))).alloc (.cells vs t)).alloc (.map #[] 0)):=(((Kept.refl (·=g) w).setCell (p:=⟨g,1,none⟩) (fun _=>rfl) _).alloc _).alloc _
 refine { top:=((h.top.set_ 1 _).alloc _).alloc _,elt:=fun n hn=>by simp at hn,row:=fun r hr=>(h.row r hr).keep hk ((h.row r hr).ne h.top (by decide)),by_:=.inr ⟨w.heap.size+1,[],rfl,?_,List.Pairwise.nil,rfl,fun y=>by simp [getK]⟩,one:=fun x hx=>by simp at hx,far:=h.far }
 have h9:=MapK.made (K:=keyI) ((w.setCell ⟨g,1,none⟩ (.map (some (w.heap.size+1)))).alloc (.cells vs t))
 simpa using h9
theorem place_cell {w:World}{g:Nat}{L:List Nd}{A:ID→Nat}{S:ID→Rw}{mp:Option Nat}(h:TAt w g L A S mp){r:ID}(hr:Ref L r):∃pb po,place g A r=⟨pb,po,none⟩∧w.cell? ⟨pb,po,none⟩=some (S r).v∧w.frozen? ⟨pb,po,none⟩=false∧foot g L A S mp pb:=by
 unfold place
 by_cases hz:r=ID.zero
 ·rw [if_pos hz]
  subst hz
  exact⟨g,0,rfl,h.top.cell' rfl,h.top.frozen 0,.inl rfl⟩
 ·rw [if_neg hz]
  obtain⟨n,hn,rfl⟩:=List.mem_map.1 (hr.resolve_left hz)
  exact⟨A n.id,6,rfl,(h.elt n hn).cell' (by simp [ndC]),(h.elt n hn).frozen 6,.inr (.inr (.inl ⟨n.id,List.mem_map.2 ⟨n,hn,rfl⟩,rfl⟩))⟩
def PutPost (w:World) (g:Nat) (L:List Nd) (A:ID→Nat) (S:ID→Rw) (mp:Option Nat) (L':List Nd) (e:Ending) (w':World):Prop :=
 e=.returned (.tuple #[])∧∃A' S' mp',TAt w' g L' A' S' mp'∧(∀b,foot g L' A' S' mp' b→foot g L A S mp b∨w.heap.size≤b)∧Kept (foot g L A S mp) w w'
theorem place_blk {w:World}{g:Nat}{L:List Nd}{A:ID→Nat}{S:ID→Rw}{mp:Option Nat}(h:TAt w g L A S mp){r:ID}(hr:Ref L r):∃pb po t cs,place g A r=⟨pb,po,none⟩∧Blk w pb t cs∧cs[po]?=some (S r).v∧t≠84∧t≠160∧(pb=g→po=0):=by
 unfold place
 by_cases hz:r=ID.zero
 ·rw [if_pos hz]
  subst hz
  exact⟨g,0,_,_,rfl,h.top,rfl,by decide,by decide,fun _=>rfl⟩
 ·rw [if_neg hz]
  obtain⟨n,hn,rfl⟩:=List.mem_map.1 (hr.resolve_left hz)
  exact⟨A n.id,6,_,_,rfl,h.elt n hn,by simp [ndC],by decide,by decide,fun e=>absurd e (Blk.ne_ (h.elt n hn) h.top (by decide))⟩
theorem put_close {w W W4 w3 w7:World}{g:Nat}{L:List Nd}{A:ID→Nat}{S:ID→Rw}{mp:Option Nat}{mb e:Nat}{x:Nd}{s':Rw}{j:Nat}(hdoc:Doc L) (hid:x.id≠ID.zero) (href:Ref L x.ref) (hlt:x.ref.lt x.id) (hx:x.id∉ids L)
  (hKW:Kept (foot g L A S mp) w W) (hFT:∀b,foot g L A S (some mb) b→foot g L A S mp b∨w.heap.size≤b) (hT:TAt W g L A S (some mb)) (h4:Kept (fun _=>False) W W4) (hwe:w.heap.size≤e)
  (he:Blk W4 e 163 (ndC x++[Value.slice none 0 0]).toArray) (heW:W.heap.size≤e)
  (hj:((kids L x.ref).takeWhile fun n=>decide (x.id.lt n.id)).length=j)
  (hr:RowAt w3 s' (((kids L x.ref).map fun n=>A n.id).take j++e::((kids L x.ref).map fun n=>A n.id).drop j)) (hs':s'.blk=(S x.ref).blk∨∃b,s'.blk=some b∧W4.heap.size≤b) (hk3:Kept (fun b=>(S x.ref).blk=some b) W4 w3)
  (hup:∃kvs,MapK keyI W mb kvs∧KeysOk kvs∧kvs.length=L.length∧(∀y,getK kvs y=if y∈ids L then some (.pointer (some ⟨A y,0,none⟩)) else none)∧MapK keyI w7 mb (putK kvs x.id (.pointer (some ⟨e,0,none⟩)))) (hk7:Kept (·=mb) (w3.setCell (place g A x.ref) s'.v) w7) :
  PutPost w g L A S mp (put L (placeP L x.id x.ref) x) (.returned (.tuple #[])) w7:=by
 obtain⟨kvs,hm,hok,hkl,hkg,hm7⟩:=hup
 have hT4:=hT.still h4
 have hlt4:=hT.lt
 obtain⟨hd',_,j',hj1,hkids,hj2⟩:=hdoc.put href hlt hx
 have hjj:j'=j:=by rw [←hj];exact (takeWhile_count hj1 (fun i y hy=>by rw [hj2 i y hy];simp)).symm
 subst hjj
 have hef:¬foot g L A S (some mb) e:=fun h=>by have:=hlt4 e h;omega
 have hrow:RowAt w3 s' ((kids (put L (placeP L x.id x.ref) x) x.ref).map fun n=>putA A x.id e n.id):=by
  rw [hkids,List.map_append,List.map_cons,show putA A x.id e x.id=e from if_pos rfl]
  have h1:∀l:List Nd,(∀n∈l,n∈kids L x.ref)→l.map (fun n=>putA A x.id e n.id)=l.map fun n=>A n.id:=fun l hl =>
   List.map_congr_left fun n hn=>if_neg (fun (h:n.id=x.id)=>hx (by rw [←h];exact List.mem_map.2 ⟨n,(List.mem_filter.1 (hl n hn)).1,rfl⟩))
  rw [h1 _ (fun n hn=>List.mem_of_mem_take hn),h1 _ (fun n hn=>List.mem_of_mem_drop hn),List.map_take,List.map_drop]
  exact hr
 have hfin:=TAt.put_mem hT4 hdoc hid href hlt hx he hef (hm.keep h4 (fun h=>h)) hok hkl hkg hk3 hrow (hs'.imp_right fun⟨b,h1,h2⟩=>⟨b,h1,h2⟩) hk7 hm7
 have hKW4:Kept (foot g L A S mp) w W4:=hKW.trans h4 fun _ _ h=>h.elim
 have hfm:∀b,b<w.heap.size→foot g L A S (some mb) b→foot g L A S mp b:=fun b hb h=>(hFT b h).resolve_right (by omega)
 have hplf:foot g L A S (some mb) (place g A x.ref).block:=by
  unfold place
  split
  ·exact .inl rfl
  next hz=>exact .inr (.inr (.inl ⟨x.ref,href.resolve_left hz,rfl⟩))
 refine⟨rfl,_,_,_,hfin,fun b hb=>?_,?_⟩
 ·have hsz:w.heap.size≤W4.heap.size:=hKW4.size
  rcases hb with h1|h1|⟨y,hy,h1⟩|⟨r,hr',h1⟩
  ·exact hFT b (.inl h1)
  ·exact hFT b (.inr (.inl h1))
  ·rcases put_ids.1 hy with rfl | hy
   ·rw [show putA A x.id e x.id=e from if_pos rfl] at h1;exact .inr (h1 ▸ hwe)
   ·rw [show putA A x.id e y=A y from if_neg (fun (h:y=x.id)=>hx (h ▸ hy))] at h1
    exact hFT b (.inr (.inr (.inl ⟨y,hy,h1⟩)))
  ·unfold putS at h1
   by_cases hq:r=x.ref
   ·rw [if_pos hq] at h1
    rcases hs' with h2|⟨b',h2,h3⟩
    ·rw [h2] at h1;exact hFT b (.inr (.inr (.inr ⟨_,href,h1⟩)))
    ·rw [h2] at h1;cases h1;exact .inr (by omega)
   ·rw [if_neg hq] at h1
    rcases put_ref hr' with rfl|hrL
    ·rw [if_pos rfl] at h1;cases h1
    ·by_cases hq2:r=x.id
     ·rw [if_pos hq2] at h1;cases h1
     ·rw [if_neg hq2] at h1
      exact hFT b (.inr (.inr (.inr ⟨r,hrL,h1⟩)))
 ·have k1:Kept (foot g L A S mp) w w3:=hKW4.trans hk3 fun b hb h=>hfm b hb (.inr (.inr (.inr ⟨_,href,h⟩)))
  have k2:Kept (foot g L A S mp) w (w3.setCell (place g A x.ref) s'.v):=k1.setCell (fun hb=>hfm _ hb hplf) _
  exact k2.trans hk7 fun b hb h=>hfm b hb (.inr (.inl (by rw [h])))
variable {w:World} {g:Nat} {L:List Nd} {A:ID→Nat} {S:ID→Rw} {mp:Option Nat}
theorem put_any (h:TAt w g L A S mp) (hdoc:Doc L) (hlen:L.length≤900000) (x:Nd) (hid:x.id≠ID.zero) (href:Ref L x.ref) (hlt:x.ref.lt x.id) (hx:x.id∉ids L) :
  Calls Tryz.prog 130 #[.pointer (some ⟨g,0,none⟩),.agg (ndC x).toArray] w (PutPost w g L A S mp (put L (placeP L x.id x.ref) x)):=by
 have hmm:=@run_makeMap Tryz.prog
 have hq0:∀W,(binOp .eql 185 (.map none) (.map none)).run Tryz.prog W=.ok (.bool true) W:=fun W=>by kernel_rfl
 have hq1:∀b W,(binOp .eql 185 (.map (some b)) (.map none)).run Tryz.prog W=.ok (.bool false) W:=fun b W=>by kernel_rfl
 have hgl:=h.top.lt
 have hng:¬g=w.heap.size:=by omega
 have hc1:w.cell? ⟨g,1,none⟩=some (.map mp):=h.top.cell' rfl
 have hf1:=h.top.frozen 1
 have HT:=Lib.hid h
 have HD:=Lib.hid hdoc
 have HL:=Lib.hid hlen
 have HX:=Lib.hid (And.intro hid (And.intro href (And.intro hlt hx)))
 show Calls _ _ #[_,.agg #[.int .i64 x.id.t,.int .i64 x.id.s,.int .i64 x.ref.t,.int .i64 x.ref.s,.int .i32 x.rune,.int .i64 x.st]] _ _
 clear h hdoc hlen hid href hlt hx
 have ndc:(ndC x).toArray=#[.int .i64 x.id.t,.int .i64 x.id.s,.int .i64 x.ref.t,.int .i64 x.ref.s,.int .i32 x.rune,.int .i64 x.st]:=rfl
 cases mp
 case' none =>
  have hTW:=HT.out.mapped (ndC x).toArray 84
  rw [ndc] at hTW
  have hBW:Blk (((w.setCell ⟨g,1,none⟩ (.map (some (w.heap.size+1)))).alloc (.cells (ndC x).toArray 84)).alloc (.map #[] 0)) w.heap.size 84 (ndC x).toArray:=by
   have h9:=Blk.new (w.setCell ⟨g,1,none⟩ (.map (some (w.heap.size+1)))) 84 (ndC x).toArray
   rw [World.size_setCell] at h9
   exact h9.alloc _
  rw [ndc] at hBW
  have hKW:Kept (·=g) w (((w.setCell ⟨g,1,none⟩ (.map (some (w.heap.size+1)))).alloc (.cells (ndC x).toArray 84)).alloc (.map #[] 0)):=(((Kept.refl (·=g) w).setCell (p:=⟨g,1,none⟩) (fun _=>rfl) _).alloc _).alloc _
  rw [ndc] at hKW
  have hFT:Hid (∀b,foot g L A S (some (w.heap.size+1)) b→foot g L A S none b∨w.heap.size≤b):=Lib.hid fun b hb=>by
   rcases hb with h1|h1|h1|h1
   ·exact .inl (.inl h1)
   ·cases h1;exact .inr (Nat.le_succ _)
   ·exact .inl (.inr (.inr (.inl h1)))
   ·exact .inl (.inr (.inr (.inr h1)))
  have TW:=Lib.hid hTW
  have BW:=Lib.hid hBW
  have KW:=Lib.hid hKW
  clear hTW hBW hKW ndc
  go_enter Tryz.func130,Tryz.ntmps130
  go_wp2_with fail
  generalize (((w.setCell ⟨g,1,none⟩ (.map (some (w.heap.size+1)))).alloc (.cells #[.int .i64 x.id.t,.int .i64 x.id.s,.int .i64 x.ref.t,.int .i64 x.ref.s,.int .i32 x.rune,.int .i64 x.st] 84)).alloc (.map #[] 0))=W at *
  clear hc1 hf1
  have TL:=Lib.hid (list_any TW.out HX.out.2.1)
  obtain⟨mb,hmb⟩:∃mb,w.heap.size+1=mb:=⟨_,rfl⟩
  rw [hmb] at TW hFT ⊢
  clear hmb
 case' some mb =>
  have hBW:Blk (w.alloc (.cells (ndC x).toArray 84)) w.heap.size 84 (ndC x).toArray:=Blk.new w _ _
  rw [ndc] at hBW
  have hKW:Kept (·=g) w (w.alloc (.cells (ndC x).toArray 84)):=(Kept.refl (·=g) w).alloc _
  rw [ndc] at hKW
  have hTW:TAt (w.alloc (.cells (ndC x).toArray 84)) g L A S (some mb):=HT.out.still ((Kept.refl _ w).alloc _)
  rw [ndc] at hTW
  have hFT:Hid (∀b,foot g L A S (some mb) b→foot g L A S (some mb) b∨w.heap.size≤b):=Lib.hid fun b hb=>.inl hb
  have TW:=Lib.hid hTW
  have BW:=Lib.hid hBW
  have KW:=Lib.hid hKW
  clear hTW hBW hKW ndc
  go_enter Tryz.func130,Tryz.ntmps130
  go_wp2_with fail
  generalize (w.alloc (.cells #[.int .i64 x.id.t,.int .i64 x.id.s,.int .i64 x.ref.t,.int .i64 x.ref.s,.int .i32 x.rune,.int .i64 x.st] 84))=W at *
  clear hc1 hf1
  have TL:=Lib.hid (list_any TW.out HX.out.2.1)
 all_goals
  refine TL.out.mono ?_
  rintro e W1 ⟨rfl,hg1⟩
  have hT1:=TW.out.still hg1.kept
  obtain⟨pb,po,tp,cp,hp,hpb,hpo,htp,htp2,hpg⟩:=place_blk hT1 HX.out.2.1
  rw [hp]
  have hpc:=hpb.cell' hpo
  obtain⟨⟨sa,sn,sc⟩,hs⟩:∃s,S x.ref=s:=⟨_,rfl⟩
  rw [hs] at hpc
  have hrow:=hT1.row x.ref HX.out.2.1
  rw [hs] at hrow
  have hsl:=hrow.sl
  have hel:∀n∈kids L x.ref,W1.cell? ⟨A n.id,0,none⟩=some (.int .i64 n.id.t)∧W1.cell? ⟨A n.id,1,none⟩=some (.int .i64 n.id.s):=fun n hn=>by
   have he:=hT1.elt n (List.mem_filter.1 hn).1
   exact⟨he.cell' rfl,he.cell' rfl⟩
  have hkl:(kids L x.ref).length≤900000:=by have:=List.length_filter_le (fun n=>decide (n.ref=x.ref)) L;have:=HL.out;unfold kids;omega
  have hb1:=hg1.box BW.out
  have z0:W1.cell? ⟨w.heap.size,0,none⟩=some (.int .i64 x.id.t):=hb1.cell' rfl
  have z1:W1.cell? ⟨w.heap.size,1,none⟩=some (.int .i64 x.id.s):=hb1.cell' rfl
  have HK:=Lib.hid hkl
  obtain⟨j,hj⟩:∃j,((kids L x.ref).takeWhile fun n=>decide (x.id.lt n.id)).length=j:=⟨_,rfl⟩
  have HBS:Hid (∀W',Grew W1 W'→Calls Tryz.prog 157 #[.slice sa sn sc,.agg #[.int .i64 x.id.t,.int .i64 x.id.s],.func (.func 158) #[] #[]] W' fun e w''=>e=.returned (.tuple #[.int .i64 j,.bool false])∧Grew W' w''):=Lib.hid (fun W' hg=>by
   have hk:=hg.kept
   refine (bsf_any (hsl.kept hk) (fun n hn=>⟨cell_keep hk (hel n hn).1,cell_keep hk (hel n hn).2⟩) (by omega) x.id (HD.out.sorted HX.out.2.1)).mono ?_
   rintro e w'' ⟨⟨b,rfl,hb⟩,hgw⟩
   rw [hj]
   cases b with
   | false=>exact⟨rfl,hgw⟩
   | true =>
    obtain⟨n,hn,hne⟩:=hb rfl
    exact absurd (List.mem_map.2 ⟨n,(List.mem_filter.1 hn).1,hne⟩) HX.out.2.2.2)
  have HJ:=Lib.hid hj
  have T1:=Lib.hid hT1
  have G1:=Lib.hid hg1
  have HP:=Lib.hid hp
  have HS:=Lib.hid hs
  have HR:=Lib.hid hrow
  have PB:=Lib.hid hpb
  have PO:=Lib.hid hpo
  have PG:=Lib.hid hpg
  have NZ:=Lib.hid (Blk.ne_ hb1 hpb (fun e=>htp e.symm))
  have NR:=Lib.hid (hrow.ne hpb htp2)
  have NG:=Lib.hid (Blk.ne_ hb1 hT1.top (by decide))
  have NRZ:=Lib.hid (hrow.ne hb1 (by decide))
  have NRG:=Lib.hid (hrow.ne hT1.top (by decide))
  have B1:=Lib.hid hb1
  unfold Rw.v at hpc
  simp only at hpc
  have hpl:pb<W1.heap.size:=World.block_lt_of_cell? _ _ hpc
  have hzl:w.heap.size<W1.heap.size:=hb1.lt
  have cg0:=cell_grown (a:=⟨pb,po,none⟩) hpl hpc
  have cg1:=cell_grown (a:=⟨w.heap.size,0,none⟩) hzl z0
  have cg2:=cell_grown (a:=⟨w.heap.size,1,none⟩) hzl z1
  have hmix:Tryz.prog.follows .mixedOrders=true:=by kernel_rfl
  clear hT1 hp hs hrow hsl hel hkl hb1 hg1 hpb hpo htp htp2 hpg hpc hpl hzl z0 z1 hj
  go_wp2_with fail
  go_quiet_grown ((go_at_call 157;exact grown_call HBS.out _ _))
  have hg2:Grew W1 (grow (W1.drewN nq) osq):=grew_grown _ _
  generalize grow (W1.drewN nq) osq=W2 at *
  clear cg0 cg1 cg2 hmix HBS
  have G2:=Lib.hid hg2
  have hb2:=hg2.box B1.out
  have z0:W2.cell? ⟨w.heap.size,0,none⟩=some (.int .i64 x.id.t):=hb2.cell' rfl
  have z1:W2.cell? ⟨w.heap.size,1,none⟩=some (.int .i64 x.id.s):=hb2.cell' rfl
  have z2:W2.cell? ⟨w.heap.size,2,none⟩=some (.int .i64 x.ref.t):=hb2.cell' rfl
  have z3:W2.cell? ⟨w.heap.size,3,none⟩=some (.int .i64 x.ref.s):=hb2.cell' rfl
  have z4:W2.cell? ⟨w.heap.size,4,none⟩=some (.int .i32 x.rune):=hb2.cell' rfl
  have z5:W2.cell? ⟨w.heap.size,5,none⟩=some (.int .i64 x.st):=hb2.cell' rfl
  have hpc2:W2.cell? ⟨pb,po,none⟩=some (.slice sa sn sc):=by
   have h9:=(hg2.box PB.out).cell' PO.out
   rw [HS.out] at h9
   exact h9
  have hn2:¬W2.heap.size=pb:=World.new_ne _ _ hpc2
  have hn3:¬pb=W2.heap.size:=fun e=>hn2 e.symm
  have hlb:(Rw.mk sa sn sc).v=Value.slice sa sn sc:=rfl
  have B2:=Lib.hid hb2
  have hel:(ndC x++[Value.slice none 0 0]).toArray=#[.int .i64 x.id.t,.int .i64 x.id.s,.int .i64 x.ref.t,.int .i64 x.ref.s,.int .i32 x.rune,.int .i64 x.st,.slice none 0 0]:=rfl
  have hE3:Blk (W2.alloc (.cells (ndC x++[Value.slice none 0 0]).toArray 163)) W2.heap.size 163 (ndC x++[Value.slice none 0 0]).toArray:=Blk.new W2 _ _
  have hE4:=hE3.alloc (.cells #[.pointer (some ⟨W2.heap.size,0,none⟩)] 160)
  have hL4:=Blk.new (W2.alloc (.cells (ndC x++[Value.slice none 0 0]).toArray 163)) 160 #[.pointer (some ⟨W2.heap.size,0,none⟩)]
  have hK4:Kept (fun _=>False) W1 ((W2.alloc (.cells (ndC x++[Value.slice none 0 0]).toArray 163)).alloc (.cells #[.pointer (some ⟨W2.heap.size,0,none⟩)] 160)):=(hg2.kept.alloc _).alloc _
  have hs2:W1.heap.size≤W2.heap.size:=hg2.kept.size
  have S2:=Lib.hid hs2
  have hpc3:(W2.alloc (.cells (ndC x++[Value.slice none 0 0]).toArray 163)).cell? ⟨pb,po,none⟩=some (.slice sa sn sc):=((Kept.refl _ W2).alloc _).cell hpc2
  rw [World.size_alloc] at hL4
  rw [hel] at hpc3
  rw [hel] at hE4 hL4 hK4
  clear hb2 hg2 hel hE3 hlb hs2
  go_wp2_with fail
  obtain⟨W4,hW4⟩:∃W4,((W2.alloc (.cells #[.int .i64 x.id.t,.int .i64 x.id.s,.int .i64 x.ref.t,.int .i64 x.ref.s,.int .i32 x.rune,.int .i64 x.st,.slice none 0 0] 163)).alloc (.cells #[.pointer (some ⟨W2.heap.size,0,none⟩)] 160))=W4:=⟨_,rfl⟩
  rw [hW4] at hE4 hL4 hK4 ⊢
  clear hW4 hpc2 hpc3 hn2 hn3 z0 z1 z2 z3 z4 z5
  have E4:=Lib.hid hE4
  have K4:=Lib.hid hK4
  have hjk:j≤((kids L x.ref).map fun n=>A n.id).length:=by rw [←HJ.out,List.length_map];exact (List.takeWhile_prefix _).length_le
  have INS:=Lib.hid (insP_any (HR.out.keep hK4 (fun _ _ h=>h)) (by rw [List.length_map];exact HK.out) hjk hL4 (fun b hb e=>by
   have h1:b<W1.heap.size:=by
    rcases HR.out with ⟨h0,_⟩|⟨b',cap,h0,hO⟩
    ·rw [h0] at hb;cases hb
    ·rw [h0] at hb;cases hb;exact hO.lt
   have:=S2.out
   omega))
  clear hE4 hL4 hK4 hjk
  refine INS.out.mono ?_
  rintro e w3 ⟨⟨sa',sn',sc'⟩,rfl,hR3,hS3,hK3⟩
  have hb4:=K4.out.blk (fun h=>h) B1.out
  have hb5:=hK3.blk (fun h=>NRZ.out _ h rfl) hb4
  have hp5:=hK3.blk (fun h=>NR.out _ h rfl) (K4.out.blk (fun h=>h) PB.out)
  have ht5:=hK3.blk (fun h=>NRG.out _ h rfl) (K4.out.blk (fun h=>h) T1.out.top)
  have hst:w3.cell? ⟨pb,po,none⟩=some (S x.ref).v:=hp5.cell' PO.out
  have hsf:w3.frozen? ⟨pb,po,none⟩=false:=hp5.frozen po
  obtain⟨W5,hW5⟩:∃W5,w3.setCell ⟨pb,po,none⟩ (.slice sa' sn' sc')=W5:=⟨_,rfl⟩
  have hg1:W5.cell? ⟨g,1,none⟩=some (.map (some mb)):=by
   rw [←hW5]
   by_cases e:pb=g
   ·rw [PG.out e,e]
    exact (ht5.set_ 0 _).cell' (by simp)
   ·exact (ht5.far (fun h=>e h.symm) _).cell' rfl
  have hb6:=hb5.far (p:=⟨pb,po,none⟩) NZ.out (.slice sa' sn' sc')
  rw [hW5] at hb6
  have z0:W5.cell? ⟨w.heap.size,0,none⟩=some (.int .i64 x.id.t):=hb6.cell' rfl
  have z1:W5.cell? ⟨w.heap.size,1,none⟩=some (.int .i64 x.id.s):=hb6.cell' rfl
  obtain⟨kvs,hmk,hkok,hkl,hkg⟩:∃kvs,MapK keyI W mb kvs∧KeysOk kvs∧kvs.length=L.length∧∀y,getK kvs y=if y∈ids L then some (.pointer (some ⟨A y,0,none⟩)) else none:=by
   rcases TW.out.by_ with ⟨h0,_⟩|⟨b,kvs,h0,h1⟩
   ·cases h0
   ·cases h0;exact⟨kvs,h1⟩
  have hm5:MapK keyI W5.drew mb kvs:=by
   have h1:MapK keyI W4 mb kvs:=(hmk.keep G1.out.kept (fun h=>h)).keep K4.out (fun h=>h)
   have h2:MapK keyI w3 mb kvs:=h1.keep hK3 (fun h=>by
    rcases HR.out with ⟨h0,_⟩|⟨b',cap,h0,cs,h3,_⟩
    ·rw [h0] at h;cases h
    ·rw [h0] at h;cases h;exact (hmk.keep G1.out.kept (fun h=>h)).ne_blk h3 rfl)
   have h3:MapK keyI W5 mb kvs:=by
    rw [←hW5]
    exact h2.keep (((Kept.refl (fun k=>k=pb) w3).setCell (fun _=>rfl) _)) (fun e=>h2.ne_blk hp5 e.symm)
   exact h3.keep ((Kept.refl (fun _=>False) W5).drew) (fun h=>h)
  obtain⟨w7,hup0,hM7,hk7⟩:=run_updateK (P:=Tryz.prog) (k:=x.id) Tryz.underlying185 hm5 (.pointer (some ⟨W2.heap.size,0,none⟩))
  have hup:(Instr.mapUpdate 185 (.map (some mb)) (.agg #[.int .i64 x.id.t,.int .i64 x.id.s]) (.pointer (some ⟨W2.heap.size,0,none⟩))).run Tryz.prog W5.drew=.ok () w7:=hup0
  have R3:=Lib.hid hR3
  have S3:=Lib.hid hS3
  have K3:=Lib.hid hK3
  have W5e:=Lib.hid hW5
  have MK:=Lib.hid hmk
  have KO:=Lib.hid hkok
  have KL:=Lib.hid hkl
  have KG:=Lib.hid hkg
  have M7:=Lib.hid hM7
  have K7:=Lib.hid hk7
  unfold Rw.v
  simp only
  clear hb4 hb5 hp5 ht5 hR3 hS3 hK3 hb6 hmk hkok hkl hkg hm5 hup0 hM7 hk7
  go_wp2_with fail
  go_region
  go_wp2
  go_end0
  refine put_close HD.out HX.out.1 HX.out.2.1 HX.out.2.2.1 HX.out.2.2.2 (KW.out.mono fun b _ h=>.inl h) hFT.out TW.out (G1.out.kept.trans K4.out fun _ _ h=>h) ?_ E4.out ?_ HJ.out R3.out (by rw [HS.out];exact S3.out) (by rw [HS.out];exact K3.out) ⟨kvs,MK.out,KO.out,KL.out,KG.out,M7.out⟩ ?_
  ·exact Nat.le_trans KW.out.size (Nat.le_trans G1.out.kept.size S2.out)
  ·exact Nat.le_trans G1.out.kept.size S2.out
  ·rw [HP.out]
   show Kept _ (w3.setCell ⟨pb,po,none⟩ (.slice sa' sn' sc')) w7
   rw [W5e.out]
   exact ((Kept.refl _ W5).drew).trans K7.out fun _ _ h=>h
end Go.Proofs.YtjohljmpcblpjaaGreatDoor.Tr
