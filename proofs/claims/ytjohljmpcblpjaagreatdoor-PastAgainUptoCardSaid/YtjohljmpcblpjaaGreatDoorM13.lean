/- Where an element comes: plainly. -/
import Derived.Test.YtjohljmpcblpjaaGreatDoorM12
namespace Go.Proofs.YtjohljmpcblpjaaGreatDoor.Tr
open Go.Proofs.YtjohljmpcblpjaaGreatDoor.St
def endGo:List Nd→List ID→Nat
 | [],_=>0
 | m::R,U=>if m.ref∈U then endGo R (U++[m.id])+1 else 0
theorem endGo_in:∀(X C:List Nd) (U:List ID),(∀P Q m,X=P++m::Q→m.ref∈U++ids P)→endGo (X++C) U=X.length+endGo C (U++ids X)
 | [],C,U,_=>by simp
 | m::X,C,U,h=>by
  show (if m.ref∈U then endGo (X++C) (U++[m.id])+1 else 0)=_
  have h0:=h [] X m rfl
  rw [show U++ids ([]:List Nd)=U by simp] at h0
  rw [if_pos h0,endGo_in X C (U++[m.id]) (fun P Q y e=>by
   have:=h (m::P) Q y (by rw [e];rfl)
   simpa using this)]
  have e:U++[m.id]++ids X=U++ids (m::X):=by simp
  rw [e,List.length_cons]
  omega
theorem endGo_out {C:List Nd}{U:List ID}(h:∀m,C.head?=some m→m.ref∉U):endGo C U=0:=by
 cases C with
 | nil=>rfl
 | cons m C=>show (if m.ref∈U then _ else 0)=0;rw [if_neg (h m rfl)]
def endP (L:List Nd) (i:Nat):Nat:=match L[i]? with
 | none=>i
 | some n=>i+1+endGo (L.drop (i+1)) [n.id]
theorem end_sub {r:ID}{t:T}(h:WF r t){A C:List Nd}(hC:∀m,C.head?=some m→m.ref∉ids (flat t)):endP (A++(flat t++C)) A.length=A.length+(flat t).length:=by
 have h1:(A++(flat t++C))[A.length]?=some t.n:=by rw [List.getElem?_append_right (Nat.le_refl _)];simp [flat_eq]
 unfold endP
 rw [h1]
 simp only
 have h2:(A++(flat t++C)).drop (A.length+1)=flats t.ks++C:=by
  rw [←List.drop_drop,List.drop_left,flat_eq];rfl
 rw [h2,endGo_in (flats t.ks) C [t.n.id] (fun P Q m e=>by
  rcases WFs.ahead t.ks (WF.eq.1 h).2.2 P Q m e with h3|h3
  ·simp [h3]
  ·exact List.mem_append.2 (.inr h3)),endGo_out (fun m hm=>by have:=hC m hm;rw [flat_eq] at this;simpa using this),flat_eq]
 simp
 omega
def placeGo:Nat→List Nd→ID→ID→Nat→Nat
 | 0,_,_,_,i=>i
 | f+1,L,ref,id,i=>match L[i]? with
  | none=>i
  | some n=>if n.ref=ref∧id.lt n.id then placeGo f L ref id (endP L i) else i
def above (id:ID) (ks:List T):List T:=ks.takeWhile fun t=>decide (id.lt t.n.id)
theorem place_kids {r id:ID}:∀(ks:List T) (A B:List Nd) (f:Nat),WFs r ks→ks.length≤f→(∀m,B.head?=some m→m.ref≠r∧m.ref∉ids (flats ks)) →
  placeGo f (A++(flats ks++B)) r id A.length=A.length+(flats (above id ks)).length
 | [],A,B,f,_,_,hB=>by
  cases f with
  | zero=>rfl
  | succ f =>
   unfold placeGo
   rw [List.getElem?_append_right (Nat.le_refl _),Nat.sub_self]
   show (match (flats []++B)[0]? with | none=>A.length | some n=>_)=_
   cases B with
   | nil=>rfl
   | cons m B =>
    show (if m.ref=r∧id.lt m.id then _ else A.length)=_
    rw [if_neg (fun h=>(hB m rfl).1 h.1)]
    rfl
 | t::ts,A,B,f,h,hf,hB=>by
  cases f with
  | zero=>simp at hf
  | succ f =>
   have e:A++(flats (t::ts)++B)=A++(flat t++(flats ts++B)):=by show A++((flat t++flats ts)++B)=_;rw [List.append_assoc]
   have h1:(A++(flats (t::ts)++B))[A.length]?=some t.n:=by rw [e,List.getElem?_append_right (Nat.le_refl _)];simp [flat_eq]
   have h0:=WF.eq.1 h.1
   unfold placeGo
   rw [h1]
   simp only
   by_cases hlt:id.lt t.n.id
   ·rw [if_pos ⟨h0.1,hlt⟩]
    have hend:endP (A++(flats (t::ts)++B)) A.length=A.length+(flat t).length:=by
     rw [e]
     refine end_sub h.1 (fun m hm e1=>?_)
     cases ts with
     | nil =>
      have hm:B.head?=some m:=hm
      refine (hB m hm).2 ?_
      show m.ref∈ids (flat t++flats [])
      rw [show flats []=[] from rfl,List.append_nil]
      exact e1
     | cons u us =>
      have hm2:m=u.n:=by
       have h5:((flat u++flats us)++B).head?=some m:=hm
       rw [flat_eq] at h5
       simpa using h5.symm
      have hu:u.n.ref=r:=(WF.eq.1 h.2.2.1).1
      rw [hm2,hu] at e1
      obtain⟨y,hy,hy2⟩:=List.mem_map.1 e1
      have:=WF.gt t h.1 y hy
      rw [hy2] at this
      exact ID.lt_irrefl _ this
    rw [hend]
    have h4:=place_kids (id:=id) ts (A++flat t) B f h.2.2 (by simp at hf;omega) (fun m hm=>⟨(hB m hm).1,fun e1=>(hB m hm).2 (by
     show m.ref∈ids (flat t++flats ts)
     unfold ids at *
     rw [List.map_append]
     exact List.mem_append.2 (.inr e1))⟩)
    rw [List.length_append,List.append_assoc] at h4
    rw [e,h4]
    have : above id (t::ts)=t::above id ts:=by unfold above;rw [List.takeWhile_cons_of_pos (by simpa using hlt)]
    rw [this]
    show _=A.length+(flat t++flats (above id ts)).length
    rw [List.length_append]
    omega
   ·rw [if_neg (fun h=>hlt h.2)]
    have : above id (t::ts)=[]:=by unfold above;rw [List.takeWhile_cons_of_neg (by simpa using hlt)]
    rw [this]
    rfl
def insK (x:Nd) (ks:List T):List T:=above x.id ks++T.mk x []::ks.drop (above x.id ks).length
theorem above_split (id:ID) (ks:List T):ks=above id ks++ks.drop (above id ks).length:=by
 unfold above
 have:=(List.takeWhile_append_dropWhile (p:=fun t:T=>decide (id.lt t.n.id)) (l:=ks))
 conv=>lhs;rw [←this]
 congr 1
 rw [←List.drop_left (l₁:=List.takeWhile (fun t:T=>decide (id.lt t.n.id)) ks) (l₂:=List.dropWhile (fun t:T=>decide (id.lt t.n.id)) ks),this]
theorem insK_wf {r:ID}{x:Nd}(hx:x.ref=r) (hr:r.lt x.id):∀ {ks:List T},WFs r ks→x.id∉ids (flats ks)→WFs r (insK x ks)
 | [],_,_=>⟨⟨hx,hr,trivial⟩,fun u hu=>by simp at hu,trivial⟩
 | t::ts,h,hn=>by
  have hm:t.n∈flats (t::ts):=List.mem_append.2 (.inl (by rw [flat_eq];exact List.mem_cons_self))
  by_cases hlt:x.id.lt t.n.id
  ·have e:above x.id (t::ts)=t::above x.id ts:=by unfold above;rw [List.takeWhile_cons_of_pos (by simpa using hlt)]
   have e2:insK x (t::ts)=t::insK x ts:=by unfold insK;rw [e];rfl
   rw [e2]
   refine⟨h.1,fun u hu=>?_,insK_wf hx hr h.2.2 (fun h1=>hn ?_)⟩
   ·unfold insK at hu
    rcases List.mem_append.1 hu with hu|hu
    ·exact h.2.1 u ((List.takeWhile_sublist _).subset hu)
    ·rcases List.mem_cons.1 hu with rfl | hu
     ·exact hlt
     ·exact h.2.1 u (List.mem_of_mem_drop hu)
   ·show x.id∈ids (flat t++flats ts)
    unfold ids at *
    rw [List.map_append]
    exact List.mem_append.2 (.inr h1)
  ·have e:above x.id (t::ts)=[]:=by unfold above;rw [List.takeWhile_cons_of_neg (by simpa using hlt)]
   have e2:insK x (t::ts)=T.mk x []::t::ts:=by unfold insK;rw [e];rfl
   have hne:t.n.id.lt x.id:=by
    rcases ID.lt_or t.n.id x.id with h1|h1|h1
    ·exact h1
    ·exact absurd (List.mem_map.2 ⟨t.n,hm,h1⟩) hn
    ·exact absurd h1 hlt
   rw [e2]
   refine⟨⟨hx,hr,trivial⟩,fun u hu=>?_,h⟩
   rcases List.mem_cons.1 hu with rfl|hu
   ·exact hne
   ·exact ID.lt_trans (h.2.1 u hu) hne
theorem insK_flats (x:Nd) (ks:List T):flats (insK x ks)=(flats ks).take (flats (above x.id ks)).length++x::(flats ks).drop (flats (above x.id ks)).length:=by
 have e:flats ks=flats (above x.id ks)++flats (ks.drop (above x.id ks).length):=by conv=>lhs;rw [above_split x.id ks];rw [flats_append]
 unfold insK
 rw [flats_append,e,List.take_left,List.drop_left]
 show _++(x::flats []++_)=_
 rfl
theorem insK_head {x:Nd}{ks:List T}:(insK x ks).map T.n=(ks.map T.n).take (above x.id ks).length++x::(ks.map T.n).drop (above x.id ks).length:=by
 unfold insK
 rw [List.map_append,List.map_cons,←List.map_take,←List.map_drop]
 congr 2
 exact List.prefix_iff_eq_take.1 (List.takeWhile_prefix _)
mutual
def insT (x:Nd):T→T | .mk n ks=>if n.id=x.ref then .mk n (insK x ks) else .mk n (insF x ks)
def insF (x:Nd):List T→List T | []=>[] | t::ts=>insT x t::insF x ts
end
theorem insT_n (x:Nd) (t:T):(insT x t).n=t.n:=by cases t;unfold insT;split <;> rfl
theorem insF_ns (x:Nd):∀F:List T,(insF x F).map T.n=F.map T.n
 | []=>rfl
 | t::ts=>by show (insT x t).n::(insF x ts).map T.n=t.n::ts.map T.n;rw [insT_n,insF_ns x ts]
mutual
theorem insT_same {x:Nd}:∀(t:T),x.ref∉ids (flat t)→insT x t=t
 | .mk n ks,h=>by
  have h1:n.id≠x.ref∧x.ref∉ids (flats ks):=by
   constructor
   ·intro e;exact h (List.mem_map.2 ⟨n,List.mem_cons_self,e⟩)
   ·intro e;exact h (List.mem_cons_of_mem _ e)
  unfold insT
  rw [if_neg h1.1,insF_same ks h1.2]
theorem insF_same {x:Nd}:∀(F:List T),x.ref∉ids (flats F)→insF x F=F
 | [],_=>rfl
 | t::ts,h=>by
  have h1:x.ref∉ids (flat t)∧x.ref∉ids (flats ts):=by
   constructor
   ·intro e;exact h (by show x.ref∈ids (flat t++flats ts);unfold ids at *;rw [List.map_append];exact List.mem_append.2 (.inl e))
   ·intro e;exact h (by show x.ref∈ids (flat t++flats ts);unfold ids at *;rw [List.map_append];exact List.mem_append.2 (.inr e))
  show insT x t::insF x ts=t::ts
  rw [insT_same t h1.1,insF_same ts h1.2]
end
theorem ids_append (A B:List Nd):ids (A++B)=ids A++ids B:=List.map_append ..
mutual
theorem insT_spec {r:ID}{x:Nd}{u:T}(hu1:u.n.id=x.ref) (hr:x.ref.lt x.id):∀(t:T),WF r t→(ids (flat t)).Nodup→x.id∉ids (flat t)→u∈subs t →
  WF r (insT x t)∧∃A B,flat t=A++(u.n::flats u.ks++B)∧flat (insT x t)=A++(u.n::flats (insK x u.ks)++B)
 | .mk n ks,h,hnd,hx,hu=>by
  have hnd2:(n.id::ids (flats ks)).Nodup:=hnd
  obtain⟨hn1,hn2⟩:=List.nodup_cons.1 hnd2
  have hx2:x.id∉ids (flats ks):=fun e=>hx (List.mem_cons_of_mem _ e)
  rcases List.mem_cons.1 hu with rfl|hu
  ·have e:insT x (.mk n ks)=.mk n (insK x ks):=by unfold insT;rw [if_pos (show n.id=x.ref from hu1)]
   rw [e]
   refine⟨⟨h.1,h.2.1,?_⟩,[],[],by simp [flat,T.n,T.ks],by simp [flat,T.n,T.ks]⟩
   have hu1':n.id=x.ref:=hu1
   rw [hu1']
   have h3:=h.2.2
   rw [hu1'] at h3
   exact insK_wf rfl hr h3 hx2
  ·have hm:u.n∈flats ks:=by rw [←subss_flat];exact List.mem_map.2 ⟨u,hu,rfl⟩
   have hne:¬n.id=x.ref:=fun e=>hn1 (by rw [e,←hu1];exact List.mem_map.2 ⟨u.n,hm,rfl⟩)
   have e:insT x (.mk n ks)=.mk n (insF x ks):=by unfold insT;rw [if_neg hne]
   rw [e]
   obtain⟨h1,A,B,h2,h3⟩:=insF_spec hu1 hr ks h.2.2 hn2 hx2 hu
   exact⟨⟨h.1,h.2.1,h1⟩,n::A,B,by show n::flats ks=_;rw [h2];rfl,by show n::flats (insF x ks)=_;rw [h3];rfl⟩
theorem insF_spec {r:ID}{x:Nd}{u:T}(hu1:u.n.id=x.ref) (hr:x.ref.lt x.id):∀(F:List T),WFs r F→(ids (flats F)).Nodup→x.id∉ids (flats F)→u∈subss F →
  WFs r (insF x F)∧∃A B,flats F=A++(u.n::flats u.ks++B)∧flats (insF x F)=A++(u.n::flats (insK x u.ks)++B)
 | [],_,_,_,hu=>by simp [subss] at hu
 | t::ts,h,hnd,hx,hu=>by
  have hnd2:(ids (flat t)++ids (flats ts)).Nodup:=by rw [←ids_append];exact hnd
  obtain⟨n1,n2,n3⟩:=List.nodup_append.1 hnd2
  have hxx:x.id∉ids (flat t)∧x.id∉ids (flats ts):=by
   have h1:x.id∉ids (flat t++flats ts):=hx
   rw [ids_append] at h1
   exact⟨fun e=>h1 (List.mem_append.2 (.inl e)),fun e=>h1 (List.mem_append.2 (.inr e))⟩
  have hlt:∀v∈insF x ts,v.n.id.lt (insT x t).n.id:=fun v hv=>by
   rw [insT_n]
   have h1:v.n∈(insF x ts).map T.n:=List.mem_map.2 ⟨v,hv,rfl⟩
   rw [insF_ns] at h1
   obtain⟨y,hy,hy2⟩:=List.mem_map.1 h1
   rw [←hy2]
   exact h.2.1 y hy
  rcases List.mem_append.1 hu with hu|hu
  ·have hm:u.n∈flat t:=by rw [←subs_flat];exact List.mem_map.2 ⟨u,hu,rfl⟩
   have hs:insF x ts=ts:=insF_same ts (fun e=>n3 _ (List.mem_map.2 ⟨u.n,hm,rfl⟩) _ e hu1)
   obtain⟨h1,A,B,h2,h3⟩:=insT_spec hu1 hr t h.1 n1 hxx.1 hu
   refine⟨⟨h1,hlt,by rw [hs];exact h.2.2⟩,A,B++flats ts,?_,?_⟩
   ·show flat t++flats ts=_
    rw [h2];simp
   ·show flat (insT x t)++flats (insF x ts)=_
    rw [h3,hs];simp
  ·have hm:u.n∈flats ts:=by rw [←subss_flat];exact List.mem_map.2 ⟨u,hu,rfl⟩
   have hs:insT x t=t:=insT_same t (fun e=>n3 _ e _ (List.mem_map.2 ⟨u.n,hm,rfl⟩) hu1.symm)
   obtain⟨h1,A,B,h2,h3⟩:=insF_spec hu1 hr ts h.2.2 n2 hxx.2 hu
   refine⟨⟨by rw [hs];exact h.1,hlt,h1⟩,flat t++A,B,?_,?_⟩
   ·show flat t++flats ts=_
    rw [h2];simp
   ·show flat (insT x t)++flats (insF x ts)=_
    rw [h3,hs];simp
end
def placeP (L:List Nd) (id ref:ID):Nat:=placeGo L.length L ref id (if ref=ID.zero then 0 else L.findIdx (fun n=>decide (n.id=ref))+1)
def put (L:List Nd) (p:Nat) (x:Nd):List Nd:=L.take p++x::L.drop p
theorem flats_len {F:List T}:F.length≤(flats F).length:=by
 induction F with
 | nil=>exact Nat.le_refl _
 | cons t F ih =>
  show F.length+1≤(flat t++flats F).length
  rw [List.length_append,flat_eq,List.length_cons]
  omega
theorem put_mid (A M B:List Nd) (k:Nat) (x:Nd) (hk:k≤M.length):put (A++(M++B)) (A.length+k) x=A++(M.take k++x::M.drop k++B):=by
 unfold put
 rw [List.take_append_of_le_length (l₁:=A++M) (l₂:=B) (by simp;omega) |> fun h=>(by rw [←List.append_assoc];exact h:(A++(M++B)).take (A.length+k)=(A++M).take (A.length+k))]
 rw [show (A++M).take (A.length+k)=A++M.take k by rw [List.take_length_add_append]]
 rw [show (A++(M++B)).drop (A.length+k)=M.drop k++B by rw [List.drop_length_add_append,List.drop_append_of_le_length hk]]
 simp
theorem Doc.put {L:List Nd}(h:Doc L){x:Nd}(href:x.ref=ID.zero∨x.ref∈ids L) (hr:x.ref.lt x.id) (hx:x.id∉ids L) :
  Doc (put L (placeP L x.id x.ref) x)∧placeP L x.id x.ref≤L.length∧∃j,j≤(kids L x.ref).length∧kids (put L (placeP L x.id x.ref) x) x.ref=(kids L x.ref).take j++x::(kids L x.ref).drop j∧(∀i y,(kids L x.ref)[i]?=some y→(i<j↔x.id.lt y.id)):=by
 obtain⟨F,rfl,hw,hnd⟩:=h
 have hj:∀(ks:List T),WFs x.ref ks→x.id∉ids (flats ks)→(∀i y,(ks.map T.n)[i]?=some y→(i<(above x.id ks).length↔x.id.lt y.id)):=by
  intro ks
  induction ks with
  | nil=>intro _ _ i y hy;simp at hy
  | cons t ts ih =>
   intro hks hxx i y hy
   by_cases hlt:x.id.lt t.n.id
   ·have e:above x.id (t::ts)=t::above x.id ts:=by unfold above;rw [List.takeWhile_cons_of_pos (by simpa using hlt)]
    rw [e,List.length_cons]
    cases i with
    | zero =>
     have : t.n=y:=by simpa using hy
     subst this
     exact⟨fun _=>hlt,fun _=>by omega⟩
    | succ i =>
     have hy2:(ts.map T.n)[i]?=some y:=by simpa using hy
     have:=ih hks.2.2 (fun e=>hxx (by show x.id∈ids (flat t++flats ts);rw [ids_append];exact List.mem_append.2 (.inr e))) i y hy2
     rw [Nat.add_lt_add_iff_right]
     exact this
   ·have e:above x.id (t::ts)=[]:=by unfold above;rw [List.takeWhile_cons_of_neg (by simpa using hlt)]
    rw [e]
    refine⟨fun h=>by simp at h,fun h=>?_⟩
    cases i with
    | zero =>
     have : t.n=y:=by simpa using hy
     subst this
     exact absurd h hlt
    | succ i =>
     have hy2:(ts.map T.n)[i]?=some y:=by simpa using hy
     obtain⟨v,hv,rfl⟩:=List.mem_map.1 (List.mem_of_getElem? hy2)
     exact absurd (ID.lt_trans h (hks.2.1 v hv)) hlt
 by_cases h0:x.ref=ID.zero
 ·have hpl:placeP (flats F) x.id x.ref=(flats (above x.id F)).length:=by
   unfold placeP
   rw [if_pos h0]
   have:=place_kids (r:=x.ref) (id:=x.id) F [] [] (flats F).length (by rw [h0];exact hw) flats_len (fun m hm=>by simp at hm)
   simpa using this
  have hle:(flats (above x.id F)).length≤(flats F).length:=by
   conv=>rhs;rw [above_split x.id F]
   rw [flats_append,List.length_append];omega
  have hw2:WFs x.ref F:=by rw [h0];exact hw
  have hput:Tr.put (flats F) (placeP (flats F) x.id x.ref) x=flats (insK x F):=by rw [hpl,insK_flats];rfl
  have hnd2:(ids (flats (insK x F))).Nodup:=by
   rw [←hput]
   unfold Tr.put
   rw [ids_append]
   show (ids _++x.id::ids _).Nodup
   rw [List.perm_middle.nodup_iff,←ids_append,List.take_append_drop]
   exact List.nodup_cons.2 ⟨hx,hnd⟩
  rw [hput]
  refine⟨⟨_,rfl,by rw [←h0];exact insK_wf rfl hr hw2 hx,hnd2⟩,by rw [hpl];exact hle,(above x.id F).length,?_,?_,?_⟩
  ·rw [kids_root hw2,List.length_map];exact (List.takeWhile_sublist _).length_le
  ·rw [kids_root hw2,kids_root (insK_wf rfl hr hw2 hx),insK_head]
  ·rw [kids_root hw2];exact hj F hw2 hx
 ·have hmem:x.ref∈ids (flats F):=href.resolve_left h0
  obtain⟨m,hm,hm2⟩:=List.mem_map.1 hmem
  have hm3:=hm
  rw [←subss_flat] at hm3
  obtain⟨u,hu,hun⟩:=List.mem_map.1 hm3
  have hu1:u.n.id=x.ref:=by rw [hun];exact hm2
  obtain⟨hw',A,B,e1,e2⟩:=insF_spec hu1 hr F hw hnd hx hu
  obtain⟨r',hwu⟩:=WFs.sub F hw u hu
  have hwk:WFs x.ref u.ks:=by have:=(WF.eq.1 hwu).2.2;rwa [hu1] at this
  have hxk:x.id∉ids (flats u.ks):=fun e=>hx (by rw [e1];simp only [ids_append];exact List.mem_append.2 (.inr (List.mem_append.2 (.inl (List.mem_cons_of_mem _ e)))))
  have hidx:(flats F).findIdx (fun n=>decide (n.id=x.ref))=A.length:=by
   have hA:∀y∈A,¬y.id=x.ref:=fun y hy e=>by
    rw [e1,ids_append] at hnd
    have:=(List.nodup_append.1 hnd).2.2 y.id (List.mem_map.2 ⟨y,hy,rfl⟩) u.n.id (by rw [ids_append];exact List.mem_append.2 (.inl List.mem_cons_self))
    exact this (e.trans hu1.symm)
   rw [e1,List.findIdx_append,if_neg]
   ·rw [show (u.n::flats u.ks++B)=u.n::(flats u.ks++B) from rfl,List.findIdx_cons]
    simp [hu1]
   ·intro h
    rw [List.findIdx_lt_length] at h
    obtain⟨y,hy,hy2⟩:=h
    exact hA y hy (by simpa using hy2)
  have hB:∀y,B.head?=some y→y.ref≠x.ref∧y.ref∉ids (flats u.ks):=by
   intro y hy
   have hyB:y∈B:=List.mem_of_mem_head? hy
   have hkey:y.ref∉ids (flat u):=fun e=>by
    obtain⟨v,hv,hv2⟩:=List.mem_map.1 e
    rw [←subs_flat] at hv
    obtain⟨t,ht,rfl⟩:=List.mem_map.1 hv
    have ht2:=subss_trans F hu ht
    have hk:=kids_subs F hw hnd t ht2
    have hyF:y∈flats F:=by rw [e1];simp [hyB]
    have h1:y∈kids (flats F) t.n.id:=List.mem_filter.2 ⟨hyF,by simpa using hv2.symm⟩
    rw [hk] at h1
    obtain⟨z,hz,hz2⟩:=List.mem_map.1 h1
    have h2:y∈flats u.ks:=by
     have h3:z∈subs t:=by rw [subs_eq];exact List.mem_cons_of_mem _ (mem_subss hz)
     have h4:z∈subs u:=subs_trans u ht h3
     rw [subs_eq] at h4
     rcases List.mem_cons.1 h4 with rfl|h4
     ·exfalso
      have h5:z.n.ref=t.n.id:=by rw [hz2];exact hv2.symm
      have h6:t.n∈flat z:=by rw [←subs_flat];exact List.mem_map.2 ⟨t,ht,rfl⟩
      have h7:=WF.gt z hwu t.n h6
      rw [←(WF.eq.1 hwu).1,h5] at h7
      exact ID.lt_irrefl _ h7
     ·rw [←hz2,←subss_flat];exact List.mem_map.2 ⟨z,h4,rfl⟩
    rw [e1,ids_append,ids_append] at hnd
    have h3:=(List.nodup_append.1 (List.nodup_append.1 hnd).2.1).2.2 y.id (List.mem_cons_of_mem _ (List.mem_map.2 ⟨y,h2,rfl⟩)) y.id (List.mem_map.2 ⟨y,hyB,rfl⟩)
    exact h3 rfl
   rw [flat_eq] at hkey
   exact⟨fun e=>hkey (by rw [e,←hu1];exact List.mem_cons_self),fun e=>hkey (List.mem_cons_of_mem _ e)⟩
  have hle:(flats (above x.id u.ks)).length≤(flats u.ks).length:=by
   conv=>rhs;rw [above_split x.id u.ks]
   rw [flats_append,List.length_append];omega
  have hpl:placeP (flats F) x.id x.ref=(A++[u.n]).length+(flats (above x.id u.ks)).length:=by
   unfold placeP
   rw [if_neg h0,hidx]
   have:=place_kids (id:=x.id) u.ks (A++[u.n]) B (flats F).length hwk (Nat.le_trans flats_len (by rw [e1];simp;omega)) hB
   rw [←this,e1]
   simp
  have e3:flats F=(A++[u.n])++(flats u.ks++B):=by rw [e1];simp
  have hput:Tr.put (flats F) (placeP (flats F) x.id x.ref) x=flats (insF x F):=by
   rw [hpl,e3,put_mid _ _ _ _ _ hle,e2,insK_flats]
   simp
  have hnd2:(ids (flats (insF x F))).Nodup:=by
   rw [←hput]
   unfold Tr.put
   rw [ids_append]
   show (ids _++x.id::ids _).Nodup
   rw [List.perm_middle.nodup_iff,←ids_append,List.take_append_drop]
   exact List.nodup_cons.2 ⟨hx,hnd⟩
  have hkL:kids (flats F) x.ref=u.ks.map T.n:=by have:=kids_subs F hw hnd u hu;rwa [hu1] at this
  have hkN:kids (flats (insF x F)) x.ref=(insK x u.ks).map T.n:=by
   have hA:kids A x.ref++(kids [u.n] x.ref++kids (flats u.ks) x.ref++kids B x.ref)=u.ks.map T.n:=by
    rw [←hkL,e1,kids_append,kids_append]
    rw [show u.n::flats u.ks=[u.n]++flats u.ks from rfl,kids_append]
   have hK:kids (flats u.ks) x.ref=u.ks.map T.n:=kids_root hwk
   have hlen:=congrArg List.length hA
   rw [hK] at hlen
   simp only [List.length_append,List.length_map] at hlen
   have z1:kids A x.ref=[]:=List.eq_nil_of_length_eq_zero (by omega)
   have z2:kids [u.n] x.ref=[]:=List.eq_nil_of_length_eq_zero (by omega)
   have z3:kids B x.ref=[]:=List.eq_nil_of_length_eq_zero (by omega)
   rw [e2,kids_append,kids_append,show u.n::flats (insK x u.ks)=[u.n]++flats (insK x u.ks) from rfl,kids_append,z1,z2,z3,kids_root (insK_wf rfl hr hwk hxk)]
   simp
  rw [hput]
  refine⟨⟨_,rfl,hw',hnd2⟩,by rw [hpl,e3];simp;omega,(above x.id u.ks).length,?_,?_,?_⟩
  ·rw [hkL,List.length_map];exact (List.takeWhile_sublist _).length_le
  ·rw [hkL,hkN,insK_head]
  ·rw [hkL];exact hj u.ks hwk hxk
theorem kids_put {L:List Nd}{p:Nat}{x:Nd}{r:ID}(h:x.ref≠r):kids (put L p x) r=kids L r:=by
 unfold put
 rw [kids_append,show x::L.drop p=[x]++L.drop p from rfl,kids_append,kids_none (L:=[x]) (fun m hm=>by rw [List.mem_singleton.1 hm];exact h),List.nil_append,←kids_append,List.take_append_drop]
end Go.Proofs.YtjohljmpcblpjaaGreatDoor.Tr
