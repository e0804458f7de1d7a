/- A text put rune by rune; states turned; elements forgotten: plainly. What is forgotten, what may be loaded: plainly. Parts of the proof. -/
import Derived.Test.YtjohljmpcblpjaaGreatDoorM13
import Derived.Deep.AppendSrc
import Derived.ProofKit
import Derived.ChangeOld
import Derived.Below
import Derived.StillTailTactics
namespace Go.Proofs.YtjohljmpcblpjaaGreatDoor.Tr
open Go.Proofs.YtjohljmpcblpjaaGreatDoor.St
def puts:List Nd→List Nd→List Nd
 | L,[]=>L
 | L,x::xs=>puts (put L (placeP L x.id x.ref) x) xs
def Chained:List Nd→Prop
 | []=>True
 | [_]=>True
 | x::y::r=>y.ref=x.id∧Chained (y::r)
theorem place_next {A B:List Nd}{x y:Nd}(hA:x.id∉ids A) (hx:x.id≠ID.zero) (hB:∀m,B.head?=some m→m.ref≠x.id) (hy:y.ref=x.id):placeP (A++x::B) y.id y.ref=A.length+1:=by
 unfold placeP
 rw [hy,if_neg hx]
 have hidx:(A++x::B).findIdx (fun n=>decide (n.id=x.id))=A.length:=by
  rw [List.findIdx_append,if_neg]
  ·rw [List.findIdx_cons];simp
  ·intro h
   rw [List.findIdx_lt_length] at h
   obtain⟨m,hm,hm2⟩:=h
   exact hA (List.mem_map.2 ⟨m,hm,by simpa using hm2⟩)
 rw [hidx]
 obtain⟨f,hf⟩:∃f,(A++x::B).length=f+1:=⟨A.length+B.length,by simp;omega⟩
 rw [hf]
 unfold placeGo
 rw [List.getElem?_append_right (by omega),show A.length+1-A.length=1 by omega]
 show (match B[0]? with | none=>A.length+1 | some n=>_)=_
 cases B with
 | nil=>rfl
 | cons m B =>
  show (if m.ref=x.id∧y.id.lt m.id then _ else A.length+1)=_
  rw [if_neg (fun h=>hB m rfl h.1)]
theorem put_at (A B:List Nd) (x y:Nd):put (A++x::B) (A.length+1) y=A++[x]++y::B:=by
 unfold put
 rw [show A++x::B=(A++[x])++B by simp,show A.length+1=(A++[x]).length by simp,List.take_left,List.drop_left]
theorem puts_chain:∀(xs:List Nd) (A B:List Nd) (x:Nd),Chained (x::xs)→x.id∉ids A→x.id≠ID.zero→(∀y∈xs,y.id≠ID.zero∧y.id∉ids A∧y.id≠x.id∧∀m,B.head?=some m→m.ref≠y.id)→(ids xs).Nodup→(∀m,B.head?=some m→m.ref≠x.id)→puts (A++x::B) xs=A++x::xs++B
 | [],A,B,x,_,_,_,_,_,_=>by simp [puts]
 | y::ys,A,B,x,hc,hA,hx,hall,hnd,hB=>by
  have hy:=hall y List.mem_cons_self
  show puts (put (A++x::B) (placeP (A++x::B) y.id y.ref) y) ys=_
  rw [place_next hA hx hB hc.1,put_at]
  obtain⟨n1,n2⟩:=List.nodup_cons.1 (show (y.id::ids ys).Nodup from hnd)
  rw [puts_chain ys (A++[x]) B y hc.2 (by rw [ids_append];intro h;rcases List.mem_append.1 h with h | h;exact hy.2.1 h;exact hy.2.2.1 (by simpa using h)) hy.1 (fun z hz=>by
   have h1:=hall z (List.mem_cons_of_mem _ hz)
   exact⟨h1.1,by rw [ids_append];intro h;rcases List.mem_append.1 h with h | h;exact h1.2.1 h;exact h1.2.2.1 (by simpa using h),fun e=>n1 (List.mem_map.2 ⟨z,hz,e⟩),h1.2.2.2⟩) n2 hy.2.2.2]
  simp
theorem Doc.refs {L:List Nd}(h:Doc L):∀m∈L,m.ref=ID.zero∨m.ref∈ids L:=by
 obtain⟨F,rfl,hw,_⟩:=h
 exact hw.refs
theorem Doc.nodup {L:List Nd}(h:Doc L):(ids L).Nodup:=by obtain⟨F,rfl,_,h⟩:=h;exact h
theorem Doc.nil:Doc []:=⟨[],rfl,trivial,List.Pairwise.nil⟩
theorem puts_text {L:List Nd}(h:Doc L){x:Nd}{xs:List Nd}(hc:Chained (x::xs)) (hz:∀y∈x::xs,y.id≠ID.zero∧y.id∉ids L) (hnd:(ids (x::xs)).Nodup) :
  puts L (x::xs)=L.take (placeP L x.id x.ref)++(x::xs)++L.drop (placeP L x.id x.ref):=by
 show puts (put L (placeP L x.id x.ref) x) xs=_
 generalize placeP L x.id x.ref=p at *
 obtain⟨n1,n2⟩:=List.nodup_cons.1 (show (x.id::ids xs).Nodup from hnd)
 have hno:∀y∈x::xs,∀m,(L.drop p).head?=some m→m.ref≠y.id:=fun y hy m hm e=>by
  have hm2:m∈L:=List.mem_of_mem_drop (List.mem_of_mem_head? hm)
  rcases h.refs m hm2 with h1|h1
  ·exact (hz y hy).1 (e.symm.trans h1)
  ·rw [e] at h1;exact (hz y hy).2 h1
 have hnt:∀y∈x::xs,y.id∉ids (L.take p):=fun y hy e=>by
  obtain⟨m,hm,hm2⟩:=List.mem_map.1 e
  exact (hz y hy).2 (List.mem_map.2 ⟨m,List.mem_of_mem_take hm,hm2⟩)
 exact puts_chain xs (L.take p) (L.drop p) x hc (hnt x List.mem_cons_self) (hz x List.mem_cons_self).1 (fun y hy=>⟨(hz y (List.mem_cons_of_mem _ hy)).1,hnt y (List.mem_cons_of_mem _ hy),fun e=>n1 (List.mem_map.2 ⟨y,hy,e⟩),hno y (List.mem_cons_of_mem _ hy)⟩) n2 (hno x List.mem_cons_self)
mutual
def mapT (f:Nd→Nd):T→T | .mk n ks=>.mk (f n) (mapF f ks)
def mapF (f:Nd→Nd):List T→List T | []=>[] | t::ts=>mapT f t::mapF f ts
end
theorem mapT_n (f:Nd→Nd) (t:T):(mapT f t).n=f t.n:=by cases t;rfl
mutual
theorem mapT_flat (f:Nd→Nd):∀t:T,flat (mapT f t)=(flat t).map f
 | .mk n ks=>by show f n::flats (mapF f ks)=f n::(flats ks).map f;rw [mapF_flats f ks]
theorem mapF_flats (f:Nd→Nd):∀F:List T,flats (mapF f F)=(flats F).map f
 | []=>rfl
 | t::ts=>by show flat (mapT f t)++flats (mapF f ts)=(flat t++flats ts).map f;rw [mapT_flat f t,mapF_flats f ts,List.map_append]
end
theorem mapF_mem (f:Nd→Nd):∀(F:List T) (u:T),u∈mapF f F→∃t∈F,u=mapT f t
 | [],u,h=>by simp [mapF] at h
 | t::ts,u,h=>by
  rcases List.mem_cons.1 (show u∈mapT f t::mapF f ts from h) with rfl|h
  ·exact⟨t,List.mem_cons_self,rfl⟩
  ·obtain⟨v,hv,e⟩:=mapF_mem f ts u h
   exact⟨v,List.mem_cons_of_mem _ hv,e⟩
mutual
theorem mapT_wf {f:Nd→Nd}(hf:∀n,(f n).id=n.id∧(f n).ref=n.ref){r:ID}:∀t:T,WF r t→WF r (mapT f t)
 | .mk n ks,h=>by
  have h1:=mapF_wf hf (r:=n.id) ks h.2.2
  refine⟨(hf n).2.trans h.1,by rw [(hf n).1];exact h.2.1,?_⟩
  rw [(hf n).1];exact h1
theorem mapF_wf {f:Nd→Nd}(hf:∀n,(f n).id=n.id∧(f n).ref=n.ref){r:ID}:∀F:List T,WFs r F→WFs r (mapF f F)
 | [],_=>trivial
 | t::ts,h=>⟨mapT_wf hf t h.1,fun u hu=>by
   obtain⟨v,hv,rfl⟩:=mapF_mem f ts u hu
   rw [mapT_n,mapT_n,(hf _).1,(hf _).1]
   exact h.2.1 v hv,mapF_wf hf ts h.2.2⟩
end
theorem Doc.map {L:List Nd}(h:Doc L){f:Nd→Nd}(hf:∀n,(f n).id=n.id∧(f n).ref=n.ref):Doc (L.map f):=by
 obtain⟨F,rfl,hw,hnd⟩:=h
 refine⟨mapF f F,mapF_flats f F,mapF_wf hf F hw,?_⟩
 have : ids ((flats F).map f)=ids (flats F):=by unfold ids;rw [List.map_map];exact List.map_congr_left fun n _=>(hf n).1
 rw [this];exact hnd
mutual
theorem sub_split (u:T):∀(t:T),u∈subs t→∃A B,flat t=A++(u.n::flats u.ks++B)
 | .mk n ks,h=>by
  rcases List.mem_cons.1 h with rfl|h
  ·exact⟨[],[],by simp [flat,T.n,T.ks]⟩
  ·obtain⟨A,B,e⟩:=subs_split u ks h
   exact⟨n::A,B,by show n::flats ks=_;rw [e];rfl⟩
theorem subs_split (u:T):∀(F:List T),u∈subss F→∃A B,flats F=A++(u.n::flats u.ks++B)
 | [],h=>by simp [subss] at h
 | t::ts,h=>by
  rcases List.mem_append.1 h with h|h
  ·obtain⟨A,B,e⟩:=sub_split u t h
   exact⟨A,B++flats ts,by show flat t++flats ts=_;rw [e];simp⟩
  ·obtain⟨A,B,e⟩:=subs_split u ts h
   exact⟨flat t++A,B,by show flat t++flats ts=_;rw [e];simp⟩
end
theorem Doc.at_ {L:List Nd}(h:Doc L){P K:List Nd}{x:Nd}(e:L=P++x::K):∃(F:List T) (u:T) (B:List Nd),flats F=L∧WFs ID.zero F∧u∈subss F∧u.n=x∧K=flats u.ks++B:=by
 obtain⟨F,rfl,hw,hnd⟩:=h
 have hx:x∈flats F:=by rw [e];simp
 have hx2:=hx
 rw [←subss_flat] at hx2
 obtain⟨u,hu,hun⟩:=List.mem_map.1 hx2
 obtain⟨A,B,hAB⟩:=subs_split u F hu
 refine⟨F,u,B,rfl,hw,hu,hun,?_⟩
 have e2:P++x::K=A++(x::(flats u.ks++B)):=by rw [←e,hAB,hun];rfl
 have hPA:P=A∧x::K=x::(flats u.ks++B):=by
  rcases List.append_eq_append_iff.1 e2 with ⟨C,h1,h2⟩|⟨C,h1,h2⟩
  ·cases C with
   | nil=>exact⟨by rw [h1,List.append_nil],h2⟩
   | cons c C =>
    exfalso
    have hc:c=x:=by have:=congrArg List.head? h2;simpa using this.symm
    rw [e,ids_append] at hnd
    rw [hAB] at e
    have h3:x∈A:=by rw [h1,hc];simp
    have h4:(ids (A++(u.n::flats u.ks++B))).Nodup:=by rw [e,ids_append];exact hnd
    rw [ids_append] at h4
    exact (List.nodup_append.1 h4).2.2 x.id (List.mem_map.2 ⟨x,h3,rfl⟩) x.id (by rw [hun];exact List.mem_cons_self) rfl
  ·cases C with
   | nil=>exact⟨by rw [h1,List.append_nil],Eq.symm h2⟩
   | cons c C =>
    exfalso
    have hc:c=x:=by have:=congrArg List.head? h2;simpa using this.symm
    rw [e,ids_append] at hnd
    have h3:x∈P:=by rw [h1,hc];simp
    exact (List.nodup_append.1 hnd).2.2 x.id (List.mem_map.2 ⟨x,h3,rfl⟩) x.id List.mem_cons_self rfl
 have:=hPA.2
 injection this
theorem Doc.next {L:List Nd}(h:Doc L){P K:List Nd}{x:Nd}(e:L=P++x::K):kids L x.id=[]↔∀m,K.head?=some m→m.ref≠x.id:=by
 obtain⟨F,u,B,hF,hw,hu,hun,hK⟩:=h.at_ e
 have hk:kids L x.id=u.ks.map T.n:=by rw [←hF,←hun];exact kids_subs F hw (by rw [hF];exact h.nodup) u hu
 rw [hk]
 constructor
 ·intro h0 m hm e1
  have hks:u.ks=[]:=by simpa using h0
  have hmL:m∈L:=by rw [e];exact List.mem_append.2 (.inr (List.mem_cons_of_mem _ (List.mem_of_mem_head? hm)))
  have : m∈kids L x.id:=List.mem_filter.2 ⟨hmL,by simpa using e1⟩
  rw [hk,h0] at this
  simp at this
 ·intro h0
  cases hks:u.ks with
  | nil=>rfl
  | cons t ts =>
   exfalso
   have hmem:t∈subss F:=subss_trans F hu (by rw [subs_eq,hks];exact List.mem_cons_of_mem _ (mem_subss List.mem_cons_self))
   obtain⟨r',hwu⟩:=WFs.sub F hw u hu
   have h1:=(WF.eq.1 hwu).2.2
   rw [hks] at h1
   refine h0 t.n ?_ (by rw [(WF.eq.1 h1.1).1,hun])
   rw [hK,hks]
   show ((flat t++flats ts)++B).head?=some t.n
   rw [flat_eq];rfl
mutual
theorem rem_one {u:T}(huk:u.ks=[]){r:ID}:∀(t:T),WF r t→u∈subs t→u≠t→(ids (flat t)).Nodup→∃t',WF r t'∧t'.n=t.n∧∃A B,flat t=A++u.n::B∧flat t'=A++B
 | .mk n ks,h,hu,hne,hnd=>by
  have hnd2:(n.id::ids (flats ks)).Nodup:=hnd
  rcases List.mem_cons.1 hu with e|hu
  ·exact absurd e hne
  ·obtain⟨F',h1,h2,A,B,h3,h4⟩:=rem_forest huk ks h.2.2 hu (List.nodup_cons.1 hnd2).2
   exact⟨.mk n F',⟨h.1,h.2.1,h1⟩,rfl,n::A,B,by show n::flats ks=_;rw [h3];rfl,by show n::flats F'=_;rw [h4];rfl⟩
theorem rem_forest {u:T}(huk:u.ks=[]){r:ID}:∀(F:List T),WFs r F→u∈subss F→(ids (flats F)).Nodup→∃F',WFs r F'∧(∀v∈F',∃y∈F,v.n=y.n)∧∃A B,flats F=A++u.n::B∧flats F'=A++B
 | [],_,hu,_=>by simp [subss] at hu
 | t::ts,h,hu,hnd=>by
  have hnd2:(ids (flat t)++ids (flats ts)).Nodup:=by rw [←ids_append];exact hnd
  obtain⟨n1,n2,n3⟩:=List.nodup_append.1 hnd2
  rcases List.mem_append.1 hu with hu|hu
  ·by_cases he:u=t
   ·subst he
    exact⟨ts,h.2.2,fun v hv=>⟨v,List.mem_cons_of_mem _ hv,rfl⟩,[],flats ts,by show flat u++flats ts=_;rw [flat_eq,huk];rfl,rfl⟩
   ·obtain⟨t',h1,h2,A,B,h3,h4⟩:=rem_one huk t h.1 hu he n1
    refine⟨t'::ts,⟨h1,fun v hv=>by rw [h2];exact h.2.1 v hv,h.2.2⟩,fun v hv=>?_,A,B++flats ts,?_,?_⟩
    ·rcases List.mem_cons.1 hv with rfl | hv
     ·exact⟨t,List.mem_cons_self,h2⟩
     ·exact⟨v,List.mem_cons_of_mem _ hv,rfl⟩
    ·show flat t++flats ts=_;rw [h3];simp
    ·show flat t'++flats ts=_;rw [h4];simp
  ·obtain⟨F',h1,h2,A,B,h3,h4⟩:=rem_forest huk ts h.2.2 hu n2
   refine⟨t::F',⟨h.1,fun v hv=>?_,h1⟩,fun v hv=>?_,flat t++A,B,?_,?_⟩
   ·obtain⟨y,hy,e⟩:=h2 v hv
    rw [e];exact h.2.1 y hy
   ·rcases List.mem_cons.1 hv with rfl | hv
    ·exact⟨_,List.mem_cons_self,rfl⟩
    ·obtain⟨y,hy,e⟩:=h2 v hv
     exact⟨y,List.mem_cons_of_mem _ hy,e⟩
   ·show flat t++flats ts=_;rw [h3];simp
   ·show flat t++flats F'=_;rw [h4];simp
end
theorem Doc.rem {L:List Nd}(h:Doc L){P K:List Nd}{x:Nd}(e:L=P++x::K) (hk:kids L x.id=[]):Doc (P++K):=by
 obtain⟨F,u,B,hF,hw,hu,hun,hK⟩:=h.at_ e
 have hks:u.ks=[]:=by
  have : kids L x.id=u.ks.map T.n:=by rw [←hF,←hun];exact kids_subs F hw (by rw [hF];exact h.nodup) u hu
  rw [hk] at this
  simpa using this.symm
 obtain⟨F',h1,_,A,B',h3,h4⟩:=rem_forest hks F hw hu (by rw [hF];exact h.nodup)
 rw [hF,hun,e] at h3
 have hnd:=h.nodup
 rw [e] at hnd
 have hPA:P=A∧K=B':=by
  rcases List.append_eq_append_iff.1 h3 with ⟨C,e1,e2⟩|⟨C,e1,e2⟩
  ·cases C with
   | nil=>exact⟨by rw [e1,List.append_nil],by have h5:x::K=x::B':=e2;injection h5⟩
   | cons c C =>
    exfalso
    have hc:c=x:=by have:=congrArg List.head? e2;simpa using this.symm
    rw [h3,e1,hc] at hnd
    simp only [ids_append] at hnd
    exact (List.nodup_append.1 hnd).2.2 x.id (List.mem_append.2 (.inr List.mem_cons_self)) x.id List.mem_cons_self rfl
  ·cases C with
   | nil=>exact⟨by rw [e1,List.append_nil],by have h5:x::B'=x::K:=e2;injection h5 with _ h6;exact h6.symm⟩
   | cons c C =>
    exfalso
    have hc:c=x:=by have:=congrArg List.head? e2;simpa using this.symm
    rw [e1,hc] at hnd
    simp only [ids_append] at hnd
    exact (List.nodup_append.1 hnd).2.2 x.id (List.mem_append.2 (.inr List.mem_cons_self)) x.id List.mem_cons_self rfl
 refine⟨F',by rw [h4,hPA.1,hPA.2],h1,?_⟩
 refine hnd.sublist ?_
 rw [ids_append,ids_append]
 exact List.Sublist.append (List.Sublist.refl _) (List.sublist_cons_self _ _)
instance (K:List Nd) (i:ID):Decidable (∀m,K.head?=some m→m.ref≠i) :=
 match K with
 | []=>isTrue (fun m h=>by simp at h)
 | k::_=>if h:k.ref=i then isFalse (fun hh=>hh k rfl h) else isTrue (fun _ hm=>(Option.some.inj hm) ▸ h)
def collR:List Nd→List Nd
 | []=>[]
 | x::r=>if x.st=3∧(∀m,(collR r).head?=some m→m.ref≠x.id) then collR r else x::collR r
theorem collR_sub:∀L:List Nd,(collR L).Sublist L
 | []=>List.Sublist.refl _
 | x::r=>by
  unfold collR
  split
  ·exact (collR_sub r).trans (List.sublist_cons_self _ _)
  ·exact List.Sublist.cons_cons _ (collR_sub r)
theorem coll_doc:∀(R P:List Nd),Doc (P++R)→Doc (P++collR R)
 | [],P,h=>h
 | x::r,P,h=>by
  have h1:Doc ((P++[x])++collR r):=coll_doc r (P++[x]) (by simpa using h)
  have h2:Doc (P++x::collR r):=by simpa using h1
  unfold collR
  split
  ·next hc=>exact h2.rem rfl ((h2.next rfl).2 hc.2)
  ·exact h2
theorem coll_kids {P r:List Nd}{x:Nd}(h:Doc (P++x::r)):Doc (P++x::collR r)∧(kids (P++x::collR r) x.id=[]↔∀m,(collR r).head?=some m→m.ref≠x.id):=by
 have h1:Doc ((P++[x])++collR r):=coll_doc r (P++[x]) (by simpa using h)
 have h2:Doc (P++x::collR r):=by simpa using h1
 exact⟨h2,h2.next rfl⟩
theorem kids_rem {P K:List Nd}{x:Nd}(r:ID):kids (P++K) r=if x.ref=r then (kids P r)++kids K r else kids (P++x::K) r:=by
 split
 ·rw [kids_append]
 ·next h=>rw [kids_append,kids_append,show x::K=[x]++K from rfl,kids_append,kids_none (L:=[x]) (fun m hm=>by rw [List.mem_singleton.1 hm];exact h),List.nil_append]
def isRuneP (r:Int):Prop:=0≤r∧r≤1114111∧(r<55296∨57343<r)
instance (r:Int):Decidable (isRuneP r):=by unfold isRuneP;infer_instance
theorem put_mem {L:List Nd}{p:Nat}{x y:Nd}:y∈put L p x↔y=x∨y∈L:=by
 unfold put
 rw [List.mem_append,List.mem_cons]
 constructor
 ·rintro (h | h | h)
  ·exact .inr (List.mem_of_mem_take h)
  ·exact .inl h
  ·exact .inr (List.mem_of_mem_drop h)
 ·rintro (h | h)
  ·exact .inr (.inl h)
  ·rw [←List.take_append_drop p L] at h
   rcases List.mem_append.1 h with h|h
   ·exact .inl h
   ·exact .inr (.inr h)
theorem put_ids {L:List Nd}{p:Nat}{x:Nd}{i:ID}:i∈ids (put L p x)↔i=x.id∨i∈ids L:=by
 constructor
 ·intro h
  obtain⟨y,hy,rfl⟩:=List.mem_map.1 h
  rcases put_mem.1 hy with rfl|hy
  ·exact .inl rfl
  ·exact .inr (List.mem_map.2 ⟨y,hy,rfl⟩)
 ·rintro (rfl | h)
  ·exact List.mem_map.2 ⟨x,put_mem.2 (.inl rfl),rfl⟩
  ·obtain⟨y,hy,rfl⟩:=List.mem_map.1 h
   exact List.mem_map.2 ⟨y,put_mem.2 (.inr hy),rfl⟩
def freshL (i ref:ID):List Int→List Nd
 | []=>[]
 | r::rs=>⟨i,ref,r,1⟩::freshL ⟨i.t+1,i.s⟩ i rs
theorem freshL_len (i ref:ID) (rs:List Int):(freshL i ref rs).length=rs.length:=by
 induction rs generalizing i ref with
 | nil=>rfl
 | cons r rs ih=>show (freshL _ _ rs).length+1=rs.length+1;rw [ih]
theorem freshL_chain (i ref:ID) (rs:List Int):Chained (freshL i ref rs):=by
 induction rs generalizing i ref with
 | nil=>trivial
 | cons r rs ih =>
  cases rs with
  | nil=>trivial
  | cons q qs=>exact⟨rfl,ih ⟨i.t+1,i.s⟩ i⟩
theorem freshL_id (i ref:ID) (rs:List Int):∀y,y∈ids (freshL i ref rs)↔∃k:Nat,k<rs.length∧y=⟨i.t+k,i.s⟩:=by
 induction rs generalizing i ref with
 | nil=>intro y;simp [freshL]
 | cons r rs ih =>
  intro y
  show y∈i::ids (freshL _ _ rs)↔_
  rw [List.mem_cons,ih]
  constructor
  ·rintro (rfl | ⟨k,hk,rfl⟩)
   ·exact⟨0,by simp,by simp⟩
   ·exact⟨k+1,by simp;omega,by rw [ID.ext_iff];constructor;(show i.t+1+(k:Int)=i.t+((k+1:Nat):Int);omega);rfl⟩
  ·rintro⟨k,hk,rfl⟩
   cases k with
   | zero=>exact .inl (by simp)
   | succ k=>exact .inr ⟨k,by simp at hk;omega,by rw [ID.ext_iff];constructor;(show i.t+((k+1:Nat):Int)=i.t+1+(k:Int);omega);rfl⟩
theorem freshL_nodup (i ref:ID) (rs:List Int):(ids (freshL i ref rs)).Nodup:=by
 induction rs generalizing i ref with
 | nil=>exact List.Pairwise.nil
 | cons r rs ih =>
  show (i::ids (freshL _ _ rs)).Nodup
  refine List.nodup_cons.2 ⟨fun h=>?_,ih _ _⟩
  obtain⟨k,_,e⟩:=(freshL_id _ _ _ _).1 h
  have:=congrArg ID.t e
  have h2:i.t=i.t+1+(k:Int):=this
  omega
def hasAny (L:List Nd) (i:ID) (n:Nat):Prop:=∃k:Nat,k<n∧(⟨i.t+k,i.s⟩:ID)∈ids L
theorem hasAny_iff (L:List Nd) (i:ID) (n:Nat):hasAny L i n↔∃m∈L,m.id.s=i.s∧i.t≤m.id.t∧m.id.t-i.t<n:=by
 constructor
 ·rintro⟨k,hk,h⟩
  obtain⟨m,hm,e⟩:=List.mem_map.1 h
  exact⟨m,hm,by rw [e],by rw [e];show i.t≤i.t+(k:Int);omega,by rw [e];show i.t+(k:Int) - i.t<n;omega⟩
 ·rintro⟨m,hm,h1,h2,h3⟩
  refine⟨(m.id.t-i.t).toNat,by omega,List.mem_map.2 ⟨m,hm,?_⟩⟩
  rw [ID.ext_iff]
  exact⟨by show m.id.t=i.t+((m.id.t-i.t).toNat:Int);omega,h1⟩
noncomputable instance (L:List Nd) (i:ID) (n:Nat):Decidable (hasAny L i n):=Classical.propDecidable _
noncomputable def insE (L:List Nd) (i ref:ID) (sz:Nat) (bad:Bool) (rs:List Int):Int :=
 if ¬i.Is∨(ref≠ID.zero∧¬ref.Is) then 1 else
 if sz=0∨bad=true then 2 else
 if 2147483647<i.t+rs.length-1 then 1 else
 if ¬ref.lt i then 9 else
 if ref≠ID.zero∧ref∉ids L then 11 else
 if hasAny L i rs.length then 12 else 0
noncomputable def insL (L:List Nd) (i ref:ID) (sz:Nat) (bad:Bool) (rs:List Int):List Nd :=
 if insE L i ref sz bad rs≠0 then L else L.take (placeP L i ref)++freshL i ref rs++L.drop (placeP L i ref)
theorem insE_ok {L:List Nd}{i ref:ID}{sz:Nat}{bad:Bool}{rs:List Int}(h:insE L i ref sz bad rs=0):i.Is∧(ref=ID.zero∨ref.Is)∧sz≠0∧bad=false∧i.t+rs.length-1≤2147483647∧ref.lt i∧(ref=ID.zero∨ref∈ids L)∧¬hasAny L i rs.length:=by
 unfold insE at h
 split at h
 ·simp at h
 next h1 =>
 split at h
 ·simp at h
 next h2 =>
 split at h
 ·simp at h
 next h3 =>
 split at h
 ·simp at h
 next h4 =>
 split at h
 ·simp at h
 next h5 =>
 split at h
 ·simp at h
 next h6 =>
 refine⟨Decidable.byContradiction fun hh=>h1 (.inl hh),?_,fun hh=>h2 (.inl hh),?_,by omega,Decidable.byContradiction fun hh=>h4 hh,?_,h6⟩
 ·by_cases hz:ref=ID.zero
  ·exact .inl hz
  ·exact .inr (Decidable.byContradiction fun hh=>h1 (.inr ⟨hz,hh⟩))
 ·cases bad
  ·rfl
  ·exact absurd (.inr rfl) h2
 ·by_cases hz:ref=ID.zero
  ·exact .inl hz
  ·exact .inr (Decidable.byContradiction fun hh=>h5 ⟨hz,hh⟩)
theorem ins_puts {L:List Nd}(h:Doc L){i ref:ID}(hi:i.Is){r:Int}{rs:List Int}(hn:¬hasAny L i (rs.length+1)) :
  puts L (freshL i ref (r::rs))=L.take (placeP L i ref)++freshL i ref (r::rs)++L.drop (placeP L i ref):=by
 have hz:∀y∈freshL i ref (r::rs),y.id≠ID.zero∧y.id∉ids L:=fun y hy=>by
  obtain⟨k,hk,e⟩:=(freshL_id i ref (r::rs) y.id).1 (List.mem_map.2 ⟨y,hy,rfl⟩)
  refine⟨fun e2=>?_,fun h2=>hn ⟨k,by simpa using hk,by rw [←e];exact h2⟩⟩
  rw [e2] at e
  have:=congrArg ID.t e
  have h3:(0:Int)=i.t+(k:Int):=this
  unfold ID.Is at hi
  omega
 exact puts_text h (x:=⟨i,ref,r,1⟩) (xs:=freshL ⟨i.t+1,i.s⟩ i rs) (freshL_chain i ref (r::rs)) hz (freshL_nodup i ref (r::rs))
end Go.Proofs.YtjohljmpcblpjaaGreatDoor.Tr
namespace Go.Proofs.YtjohljmpcblpjaaGreatDoor
open Go.RowKit
def Grow1 (w w':World) (v v':Value):Prop:=(v'.ownBlock=v.ownBlock∧Kept (fun b=>v.ownBlock=some b) w w')∨(v'.ownBlock=some w.heap.size∧Kept (fun _=>False) w w')
theorem run_append_keeps {P:Program}{α:Type}(E:Enc α){w:World}(t ty e:TypeId) (base:Nat) (z:Value) (bytes:Nat) (ht:P.underlying t=some (.slice e))
  (hinfo:(P.info? e).map (fun i=>(i.zero,i.size,i.bytes))=some (some z,E.k,bytes)) (hzs:z.cells.size=E.k) (hb4:bytes≤4096) {v:Value} {D:List α} {x:α}
  (hown:w.ownsRow base e E.k v D.length (E.flat D)) {ad:Addr} {c:Nat} (hL:SlAt E w (.slice (some ad) 1 c) [x]) (h63:D.length≤1000000) (hbase:base≤w.heap.size) :
  ∃v' w',(Builtin.append_ #[t,t] ty #[v,.slice (some ad) 1 c]).run P w=.ok v' w'∧w'.ownsRow base e E.k v' (D.length+1) (E.flat (D++[x]))∧Grow1 w w' v v':=by
 obtain⟨i,hi,hz,hsize,hby⟩:=info_parts hinfo
 obtain⟨_,hn⟩:=hL.at_
 have hbb:(D.length+1) * bytes≤140737488355328:=by
  have : (D.length+1) * bytes≤1000001 * 4096:=Nat.mul_le_mul (by omega) hb4
  omega
 have hm1:D.length+1≤maxLen:=by unfold maxLen;omega
 obtain⟨v',w',hr,h2,h3,_,h5⟩:=run_append_own_at (P:=P) w base t ty e i z E.k bytes ht hi hz hsize hby hzs E.pos v D.length (E.flat D) hown ad 1 c (E.flat [x]) (E.flat_len [x]) hn (E.flat_one_cell [x]) hm1 hbb hbase
 refine⟨v',w',hr,by rw [E.flat_append];exact h2,?_⟩
 rcases h5 with h5|h5
 ·exact .inl ⟨h5,Kept.grown (Kept.refl _ _) h3 (fun k e _=>e)⟩
 ·right
  refine⟨h5,?_⟩
  have hs:Src P i.size t (.slice (some ad) 1 c) 1 (E.flat [x]) w:=by
   rw [hsize]
   exact Src.ofSlice w ht ad 1 c (E.flat [x]) (E.flat_len [x]) hn (E.flat_one_cell [x])
  have hcap:∀old,old<D.length+1→Builtin.nextslicecap (D.length+1) old * i.bytes≤281474976710656:=fun old h=>by
   have h1:=nextslicecap_le h
   rw [hby]
   have : Builtin.nextslicecap (D.length+1) old * bytes≤4000000 * 4096:=Nat.mul_le_mul (by omega) hb4
   omega
  rcases hown.2 with ⟨rfl,hxs⟩|⟨g,cap,cur,rfl,hbg,hg,hnc,hcm,hcs,htake⟩
  ·have hD:D.length=0:=by assumption
   rw [hD] at hcap
   have hrun:=run_append_grow_src (P:=P) (w:=w) t t ty e i z ht hi hz none 0 0 [] (run_firstCells_none _ _ _ _ _) (.slice (some ad) 1 c) 1 (E.flat [x]) hs (by omega) (by omega) (hcap 0 (by omega))
   rw [hr] at hrun
   injection hrun with e1 e2
   rw [e2]
   exact ((Kept.refl _ _).drew).alloc _
  ·by_cases hroom:D.length+1≤cap
   ·exfalso
    have hblk:Blk w g e cur:=hg
    have hsz:(D.length+1) * E.k≤cap * E.k:=Nat.mul_le_mul_right _ hroom
    have hl1:(E.flat [x]).length=E.k:=by rw [E.flat_len];simp
    have hrun:=run_append_room_src (P:=P) (w:=w) t t ty e i ht hi g 0 D.length cap (.slice (some ad) 1 c) 1 (E.flat [x]) hs hroom (fun j hj=>by
     rw [hblk.cell,hsize]
     rw [hl1] at hj
     rw [Nat.add_mul] at hsz
     rw [Array.getElem?_eq_getElem (show 0+D.length * E.k+j<cur.size by omega)]
     rfl) (fun j _=>hblk.frozen _)
    rw [hr] at hrun
    injection hrun with e1 e2
    rw [e1] at h5
    have hlt:=hblk.lt
    have hgs:g=w.heap.size:=by simpa [Value.ownBlock] using h5
    omega
   ·have hold:(Builtin.firstCells i.size D.length (.slice (some ⟨g,0,none⟩) D.length cap)).run P w.drew=.ok (E.flat D).toArray w.drew:=by
     rw [hsize]
     refine run_firstCells_some _ E.k D.length ⟨g,0,none⟩ D.length cap (E.flat D) hown.1 (fun j u hu=>?_)
     rw [Addr.add_lit,Nat.zero_add]
     show w.cell? ⟨g,j,none⟩=some u
     have hblk:Blk w g e cur:=hg
     rw [hblk.cell]
     rw [←htake,List.getElem?_take] at hu
     split at hu
     ·simpa using hu
     ·cases hu
    have hrun:=run_append_grow_src (P:=P) (w:=w) t t ty e i z ht hi hz (some ⟨g,0,none⟩) D.length cap (E.flat D) hold (.slice (some ad) 1 c) 1 (E.flat [x]) hs (by omega) (by omega) (hcap cap (by omega))
    rw [hr] at hrun
    injection hrun with e1 e2
    rw [e2]
    exact ((Kept.refl _ _).drew).alloc _
theorem wpList_append_keeps {P:Program}{α:Type}(E:Enc α){w:World}{ops:Array Oper}{rest:List Oper}{o:Oper}{a:Act}{Q:Exit→Act→World→Prop}(hgd:o.guard=none) (s y:Operand) (t:TypeId)
  (ho:o.op=.call { callee:=.builtin .append,args:=#[s,y],argTypes:=#[t,t] }) (base:Nat) (e:TypeId) (z:Value) (bytes:Nat) (ht:P.underlying t=some (.slice e))
  (hinfo:(P.info? e).map (fun i=>(i.zero,i.size,i.bytes))=some (some z,E.k,bytes)) (hzs:z.cells.size=E.k) (hb4:bytes≤4096) {v:Value} {D:List α} {x:α} {ad:Addr} {c:Nat} (hs:a.eval s=v) (hx:a.eval y=.slice (some ad) 1 c)
  (hown:w.ownsRow base e E.k v D.length (E.flat D)) (hL:SlAt E w (.slice (some ad) 1 c) [x]) (h63:D.length≤1000000) (hbase:base≤w.heap.size)
  (h:∀v' w',w'.ownsRow base e E.k v' (D.length+1) (E.flat (D++[x]))→Grow1 w w' v v'→wpList P ops Q rest (a.put o.dst v') w'):wpList P ops Q (o::rest) a w:=by
 refine wpList_plain hgd fun K hK=>?_
 obtain⟨v',w',hr,h2,h3⟩:=run_append_keeps (P:=P) E t o.type e base z bytes ht hinfo hzs hb4 hown hL h63 hbase
 unfold Oper.wp execOp
 simp only [ho,resolve,invoke,builtin,Sem.run_bind,Sem.run_pure,Result.andThen_ok,List.map_toArray,List.map_cons,List.map_nil,hs,hx,hr]
 exact hK _ _ (h v' w' h2 h3)
end Go.Proofs.YtjohljmpcblpjaaGreatDoor
namespace Go.Proofs.YtjohljmpcblpjaaGreatDoor.Tr
open Go.RowKit Go.Proofs.YtjohljmpcblpjaaGreatDoor.St
structure Rw where
 a:Option Addr
 n:Nat
 c:Nat
def Rw.v (s:Rw):Value:=.slice s.a s.n s.c
def rowE:Enc Rw:=⟨1,fun s=>[s.v],fun _=>rfl,by decide,fun s u hu=>by rw [List.mem_singleton.1 hu];rfl⟩
def ptrE:Enc Nat:=⟨1,fun b=>[.pointer (some ⟨b,0,none⟩)],fun _=>rfl,by decide,fun s u hu=>by rw [List.mem_singleton.1 hu];rfl⟩
def ndC (n:Nd):List Value:=[.int .i64 n.id.t,.int .i64 n.id.s,.int .i64 n.ref.t,.int .i64 n.ref.s,.int .i32 n.rune,.int .i64 n.st]
def nodeE:Enc Nd:=⟨6,ndC,fun _=>rfl,by decide,fun n u hu=>by
 simp [ndC] at hu
 rcases hu with rfl|rfl|rfl|rfl|rfl|rfl <;> rfl⟩
structure Shape (w:World) (g:Nat) (L:List Nd) (A:ID→Nat) (S:ID→Rw):Prop where
 root:w.cell? ⟨g,0,none⟩=some (S ID.zero).v
 beh:∀n∈L,w.cell? ⟨A n.id,6,none⟩=some (S n.id).v
 row:∀r,r=ID.zero∨r∈ids L→SlAt ptrE w (S r).v ((kids L r).map (fun n=>A n.id))
theorem ex_least {P:Nat→Prop}:∀n,P n→∃m,P m∧∀k,P k→m≤k:=by
 intro n
 induction n using Nat.strongRecOn with
 | ind n ih =>
  intro hn
  by_cases h:∃k,k<n∧P k
  ·obtain⟨k,hk,hP⟩:=h
   exact ih k hk hP
  ·exact⟨n,hn,fun k hk=>Nat.le_of_not_lt fun hl=>h ⟨k,hl,hk⟩⟩
open Classical in
noncomputable def least (P:Nat→Prop):Nat:=if h:∃m,P m∧∀k,P k→m≤k then h.choose else 0
theorem least_spec {P:Nat→Prop}(h:∃n,P n):P (least P):=by
 obtain⟨n,hn⟩:=h
 have h2:=ex_least n hn
 unfold least
 rw [dif_pos h2]
 exact h2.choose_spec.1
theorem least_le {P:Nat→Prop}{n:Nat}(h:P n):least P≤n:=by
 have h2:=ex_least n h
 unfold least
 rw [dif_pos h2]
 exact h2.choose_spec.2 n h
theorem SlAt.rest {w:World}{b o n c:Nat}{x:Nat}{L:List Nat}(h:SlAt ptrE w (.slice (some ⟨b,o,none⟩) (n+1) c) (x::L)){o':Nat}(ho:L=[]∨o'=o+1):SlAt ptrE w (.slice (some ⟨b,o',none⟩) n (c-1)) L:=by
 rcases h with ⟨h,_⟩|⟨y,d,h,h1,h2,h3,h4⟩
 ·cases h
 ·injection h with e1 e2 e3
  injection e1 with e1
  subst e1 e3
  have hn:n=L.length:=by simpa using e2
  refine .inr ⟨⟨b,o',none⟩,c-1,by rw [hn],by rw [List.length_cons] at h1;omega,by omega,fun _=>rfl,fun i z hz j u hu=>?_⟩
  rcases ho with rfl|rfl
  ·simp at hz
  ·have h5:=h4 (i+1) z (by simpa using hz) j u hu
   have hk:ptrE.k=1:=rfl
   rw [hk] at h5 ⊢
   show w.cell? ⟨b,o+1+(i * 1+j),none⟩=some u
   rw [show o+1+(i * 1+j)=o+((i+1) * 1+j) by omega]
   exact h5
end Go.Proofs.YtjohljmpcblpjaaGreatDoor.Tr
namespace Go.Proofs.YtjohljmpcblpjaaGreatDoor.Tr
open Go.RowKit Go.Proofs.YtjohljmpcblpjaaGreatDoor.St
theorem eqIn_id (x y:ID) (w:World):(Op.equal 59 (idV x) (idV y)).run Tryz.prog w=.ok (decide (x=y)) w:=by
 have h:decide (x=y)=(x.t == y.t && x.s == y.s):=by
  rw [Bool.eq_iff_iff]
  simp [ID.ext_iff]
 rw [h]
 obtain⟨a,b⟩:=x
 obtain⟨c,d⟩:=y
 show (Op.equalIn 10000 59 (.agg #[.int .i64 a,.int .i64 b]) (.agg #[.int .i64 c,.int .i64 d])).run Tryz.prog w=_
 go_simp
 by_cases h1:a=c
 ·by_cases h2:b=d
  ·simp [h1,h2]
  ·simp [h1,h2]
 ·simp [h1]
def keyI:KeyE Tryz.prog 59 ID where
 enc:=idV
 check:=fun _ _ _=>by kernel_rfl
 now:=fun k x d hd=>.inl (by
  have e:Tryz.prog.underlying 59=some d:=hd
  rw [Tryz.underlying59] at e
  cases e
  rfl)
 ask:=eqIn_id
 bits:=fun k=>by simp [idV,Instr.sameBits]
 und:=⟨_,Tryz.underlying59⟩
def RowAt (w:World) (s:Rw) (D:List Nat):Prop :=
 (s=⟨none,0,0⟩∧D=[])∨∃b cap,s=⟨some ⟨b,0,none⟩,D.length,cap⟩∧OwnAt ptrE w 160 b cap D
def Rw.blk (s:Rw):Option Nat:=s.a.map (·.block)
def Ref (L:List Nd) (r:ID):Prop:=r=ID.zero∨r∈ids L
structure TAt (w:World) (g:Nat) (L:List Nd) (A:ID→Nat) (S:ID→Rw) (mp:Option Nat):Prop where
 top:Blk w g 187 #[(S ID.zero).v,.map mp]
 elt:∀n∈L,Blk w (A n.id) 163 (ndC n++[(S n.id).v]).toArray
 row:∀r,Ref L r→RowAt w (S r) ((kids L r).map (fun n=>A n.id))
 by_:(mp=none∧L=[])∨∃b kvs,mp=some b∧MapK keyI w b kvs∧KeysOk kvs∧kvs.length=L.length∧∀x,getK kvs x=if x∈ids L then some (.pointer (some ⟨A x,0,none⟩)) else none
 one:∀x∈ids L,∀y∈ids L,A x=A y→x=y
 far:∀x y,Ref L x→Ref L y→∀b,(S x).blk=some b→(S y).blk=some b→x=y
def foot (g:Nat) (L:List Nd) (A:ID→Nat) (S:ID→Rw) (mp:Option Nat) (b:Nat):Prop :=
 b=g∨mp=some b∨(∃x∈ids L,b=A x)∨∃r,Ref L r∧(S r).blk=some b
variable {w w':World} {g:Nat} {L:List Nd} {A:ID→Nat} {S:ID→Rw} {mp:Option Nat}
theorem RowAt.keep {X:Nat→Prop}{s:Rw}{D:List Nat}(h:RowAt w s D) (hk:Kept X w w') (hs:∀b,s.blk=some b→¬X b):RowAt w' s D:=by
 rcases h with h|⟨b,cap,rfl,h⟩
 ·exact .inl h
 ·exact .inr ⟨b,cap,rfl,h.keep hk (hs b rfl)⟩
theorem RowAt.sl {s:Rw}{D:List Nat}(h:RowAt w s D):SlAt ptrE w s.v D:=by
 rcases h with ⟨rfl,rfl⟩|⟨b,cap,rfl,h⟩
 ·exact .inl ⟨rfl,rfl⟩
 ·exact h.slAt
theorem RowAt.lt {s:Rw}{D:List Nat}(h:RowAt w s D){b:Nat}(hb:s.blk=some b):b<w.heap.size:=by
 rcases h with ⟨rfl,rfl⟩|⟨b',cap,rfl,h⟩
 ·cases hb
 ·cases hb;exact h.lt
theorem TAt.keep {X:Nat→Prop}(h:TAt w g L A S mp) (hk:Kept X w w') (hs:∀b,foot g L A S mp b→¬X b):TAt w' g L A S mp where
 top:=hk.blk (hs g (.inl rfl)) h.top
 elt:=fun n hn=>hk.blk (hs _ (.inr (.inr (.inl ⟨n.id,List.mem_map.2 ⟨n,hn,rfl⟩,rfl⟩)))) (h.elt n hn)
 row:=fun r hr=>(h.row r hr).keep hk fun b hb=>hs b (.inr (.inr (.inr ⟨r,hr,hb⟩)))
 by_:=by
  rcases h.by_ with h1|⟨b,kvs,rfl,h1,h2⟩
  ·exact .inl h1
  ·exact .inr ⟨b,kvs,rfl,h1.keep hk (hs b (.inr (.inl rfl))),h2⟩
 one:=h.one
 far:=h.far
theorem TAt.lt (h:TAt w g L A S mp):∀b,foot g L A S mp b→b<w.heap.size:=by
 rintro b (rfl | rfl | ⟨x,hx,rfl⟩ | ⟨r,hr,hb⟩)
 ·exact h.top.lt
 ·rcases h.by_ with ⟨h1,_⟩ | ⟨b',kvs,h1,h2,_⟩
  ·cases h1
  ·cases h1;exact h2.lt
 ·obtain⟨n,hn,rfl⟩:=List.mem_map.1 hx
  exact (h.elt n hn).lt
 ·exact (h.row r hr).lt hb
theorem TAt.still (h:TAt w g L A S mp) (hk:Kept (fun _=>False) w w'):TAt w' g L A S mp:=h.keep hk fun _ _ h=>h
theorem TAt.shape (h:TAt w g L A S mp):Shape w g L A S where
 root:=h.top.cell' rfl
 beh:=fun n hn=>(h.elt n hn).cell' (by simp [ndC])
 row:=fun r hr=>(h.row r hr).sl
theorem TAt.found (h:TAt w g L A S mp){x:ID}(hx:x∈ids L):∃b kvs,mp=some b∧MapK keyI w b kvs∧getK kvs x=some (.pointer (some ⟨A x,0,none⟩)):=by
 rcases h.by_ with ⟨_,h1⟩|⟨b,kvs,rfl,h1,_,_,h2⟩
 ·rw [h1] at hx;cases hx
 ·exact⟨b,kvs,rfl,h1,by rw [h2 x,if_pos hx]⟩
end Go.Proofs.YtjohljmpcblpjaaGreatDoor.Tr
