/- The row of a closed set: what has gone, and that it ends; plainly. A closed set: what its vectors name is there; plainly. Parts of the proof. -/
import Derived.Test.YtjohljmpcblpjaaGreatDoorM1
import Derived.Test.YtjohljmpcblpjaaGreatDoorChecked
import Derived.BigQuiet
import Derived.Deep.QuietTactic
import Derived.Deep.RegionHeld3
import Derived.WalkSpells
import Derived.Lib.Hide
import Derived.Lib.SliceRun
import Derived.Laws.AppendOwn
import Derived.OwnWalk
namespace Go.Proofs.YtjohljmpcblpjaaGreatDoor.St
theorem pSays_vecOf {g:Nat→Int}(hb:∀i,0≤g i∧g i≤2147483647) (ho:∀i,¬(1≤i∧i≤16)→g i=0) (i:Nat):∀n,n≤17→says (vecOf g n) i=if i<n then g i else 0
 | 0,_=>by simp [vecOf,says]
 | n+1,hn=>by
  have ih:=pSays_vecOf hb ho i n (by omega)
  rw [vecOf_succ]
  by_cases hp:0<g n
  ·rw [if_pos hp,says_snoc]
   have hr:1≤n∧n≤16:=by
    by_cases h:1≤n∧n≤16
    ·exact h
    ·have:=ho n h;omega
   have hok:(⟨(n:Int),g n⟩:Dot).Ok:=by
    have:=hb n
    unfold Dot.Ok
    simp only
    omega
   unfold sayS
   by_cases hi:n=i
   ·subst hi
    rw [if_pos ⟨hok,rfl⟩,ih,if_neg (Nat.lt_irrefl _),if_pos (show (0:Int)<(⟨(n:Int),g n⟩:Dot).seq from hp),if_pos (Nat.lt_succ_self _)]
   ·rw [if_neg (fun h=>hi (by have:=h.2;simp only at this;omega)),ih]
    by_cases h1:i<n
    ·rw [if_pos h1,if_pos (by omega)]
    ·rw [if_neg h1,if_neg (by omega)]
  ·rw [if_neg hp,ih]
   by_cases hi:i<n
   ·rw [if_pos hi,if_pos (by omega)]
   ·rw [if_neg hi]
    by_cases h2:i=n
    ·subst h2
     have:=(hb i).1
     rw [if_pos (by omega)]
     omega
    ·rw [if_neg (by omega)]
theorem pSays_add {V:List Dot}{d:Dot}(hd:d.Ok) (i:Nat):says (addV V d) i=if (i:Int)=d.site then d.seq else says V i:=by
 unfold Dot.Ok at hd
 unfold addV
 rw [pSays_vecOf (g:=fun i:Nat=>if (i:Int)=d.site then d.seq else says V i) (fun i=>?_) (fun i hi=>?_) i 17 (Nat.le_refl _)]
 ·by_cases h:i<17
  ·rw [if_pos h]
  ·rw [if_neg h,if_neg (by omega),says_out V i (by omega)]
 ·have:=says_bd V i
  split <;> omega
 ·rw [if_neg (by omega)]
  exact says_out V i hi
theorem addV_max {V:List Dot}{d:Dot}(hd:d.Ok) (hs:d.seq=says V d.site.toNat+1):vecOf (maxV V [d]) 17=addV V d:=by
 unfold addV
 congr 1
 funext i
 unfold maxV
 have h1:says [d] i=if d.site=(i:Int) then d.seq else 0:=by
  show sayS (fun _=>0) d i=_
  unfold sayS
  by_cases h:d.site=(i:Int)
  ·rw [if_pos ⟨hd,h⟩,if_pos h,if_pos (show (0:Int)<d.seq by unfold Dot.Ok at hd;omega)]
  ·rw [if_neg (fun e=>h e.2),if_neg h]
 rw [h1]
 have hb:=says_bd V i
 unfold Dot.Ok at hd
 by_cases h:d.site=(i:Int)
 ·have : d.site.toNat=i:=by omega
  rw [if_pos h,if_pos h.symm,if_pos (by rw [this] at hs;omega)]
 ·rw [if_neg h,if_neg (show ¬says V i<0 by omega),if_neg (show ¬(i:Int)=d.site from fun e=>h e.symm)]
section
variable {α:Type} {f:α→Dot} {D:α→List Dot}
structure GoneP (f:α→Dot) (D:α→List Dot) (l R:List α) (V:List Dot):Prop where
 went:∀e∈l,wentP V (f e)↔f e∈R.map f
 sub:∀e∈R,e∈l
 nd:(R.map f).Nodup
theorem GoneP.nil {l:List α}(h:ClosedP f D l):GoneP f D l [] []:=by
 refine⟨fun e he=>?_,fun e he=>by simp at he,List.nodup_nil⟩
 have hok:=(h.ok e he).1
 unfold Dot.Ok at hok
 have h0:says [] (f e).site.toNat=0:=rfl
 unfold wentP
 rw [h0]
 simp
 omega
theorem went_add {V:List Dot}{d x:Dot}(hd:d.Ok) (hs:d.seq=says V d.site.toNat+1) (hx:x.Ok):wentP (addV V d) x↔wentP V x∨x=d:=by
 unfold wentP
 rw [pSays_add hd]
 unfold Dot.Ok at hd hx
 by_cases h:x.site=d.site
 ·have hn:x.site.toNat=d.site.toNat:=by rw [h]
  rw [if_pos (show (x.site.toNat:Int)=d.site by omega),hn]
  constructor
  ·intro h1
   by_cases h2:x.seq=d.seq
   ·exact .inr (Dot.ext h h2)
   ·exact .inl (by omega)
  ·rintro (h1 | rfl)
   ·omega
   ·exact Int.le_refl _
 ·rw [if_neg (by omega)]
  constructor
  ·exact .inl
  ·rintro (h1 | rfl)
   ·exact h1
   ·exact absurd rfl h
theorem GoneP.step {l R:List α}{V:List Dot}(hl:ClosedP f D l) (h:GoneP f D l R V){e:α}(he:nextP f D l V=some e):GoneP f D l (R++[e]) (addV V (f e))∧R.length<l.length:=by
 obtain⟨h1,h2,_,h4⟩:=nextP_some he
 have hne:f e∉R.map f:=fun h9=>h2 ((h.went e h1).2 h9)
 refine⟨⟨fun x hx=>?_,fun x hx=>?_,?_⟩,?_⟩
 ·rw [went_add (hl.ok e h1).1 h4 (hl.ok x hx).1,h.went x hx,List.map_append,List.mem_append]
  simp
 ·rcases List.mem_append.1 hx with hx | hx
  ·exact h.sub x hx
  ·rw [List.mem_singleton.1 hx];exact h1
 ·rw [List.map_append,List.map_singleton]
  exact List.nodup_append.2 ⟨h.nd,by simp,fun a ha b hb e2=>by rw [List.mem_singleton.1 hb] at e2;exact hne (e2 ▸ ha)⟩
 ·have hs:((R++[e]).map f).Nodup:=by
   rw [List.map_append,List.map_singleton]
   exact List.nodup_append.2 ⟨h.nd,by simp,fun a ha b hb e2=>by rw [List.mem_singleton.1 hb] at e2;exact hne (e2 ▸ ha)⟩
  have key:∀ {A B:List Dot},A.Nodup→(∀x∈A,x∈B)→A.length≤B.length:=by
   intro A
   induction A with
   | nil=>intro B _ _;exact Nat.zero_le _
   | cons x S ih =>
    intro B hn hsb
    obtain⟨k1,k2⟩:=List.nodup_cons.1 hn
    have hm:=hsb x (List.mem_cons_self ..)
    have h3:=ih (B:=B.erase x) k2 (fun y hy=>(List.mem_erase_of_ne (fun e=>k1 (by rw [←e];exact hy))).2 (hsb y (List.mem_cons_of_mem _ hy)))
    rw [List.length_erase_of_mem hm] at h3
    have:=List.length_pos_of_mem hm
    simp only [List.length_cons]
    omega
  have h5:=key (B:=l.map f) hs fun x hx=>by
   obtain⟨y,hy,rfl⟩:=List.mem_map.1 hx
   rcases List.mem_append.1 hy with hy|hy
   ·exact List.mem_map_of_mem (h.sub y hy)
   ·rw [List.mem_singleton.1 hy];exact List.mem_map_of_mem h1
  simp only [List.length_map,List.length_append,List.length_singleton] at h5
  omega
def rowA (f:α→Dot) (D:α→List Dot) (l:List α):List α:=rowP f D l l.length []
theorem row_next {l:List α}{n:Nat}{V:List Dot}:rowP f D l (n+1) V=(match nextP f D l V with | none=>[] | some e=>e::rowP f D l n (addV V (f e))):=rfl
theorem row_some {l:List α}{n:Nat}{V:List Dot}{e:α}(h:nextP f D l V=some e):rowP f D l (n+1) V=e::rowP f D l n (addV V (f e)):=by rw [row_next,h]
theorem row_none {l:List α}{n:Nat}{V:List Dot}(h:nextP f D l V=none):rowP f D l n V=[]:=by
 cases n with
 | zero=>rfl
 | succ n=>rw [row_next,h]
theorem GoneP.full {l R:List α}{V:List Dot}(hl:ClosedP f D l) (h:GoneP f D l R V) (hn:l.length≤R.length):nextP f D l V=none:=by
 cases he:nextP f D l V with
 | none=>rfl
 | some e=>have:=(h.step hl he).2;omega
theorem row_sub (l:List α):∀(n:Nat) (V:List Dot),∀e∈rowP f D l n V,e∈l
 | 0,_,e,he=>by simp [rowP] at he
 | n+1,V,e,he=>by
  rw [row_next] at he
  split at he
  ·simp at he
  ·next x hx =>
   rcases List.mem_cons.1 he with rfl|he
   ·exact (nextP_some hx).1
   ·exact row_sub l n _ e he
end
end Go.Proofs.YtjohljmpcblpjaaGreatDoor.St
namespace Go.Proofs.YtjohljmpcblpjaaGreatDoor.St
theorem nodup_le {A B:List Dot}:A.Nodup→(∀x∈A,x∈B)→A.length≤B.length:=by
 induction A generalizing B with
 | nil=>intro _ _;exact Nat.zero_le _
 | cons x S ih =>
  intro hn hsb
  obtain⟨k1,k2⟩:=List.nodup_cons.1 hn
  have hm:=hsb x (List.mem_cons_self ..)
  have h3:=ih (B:=B.erase x) k2 (fun y hy=>(List.mem_erase_of_ne (fun e=>k1 (by rw [←e];exact hy))).2 (hsb y (List.mem_cons_of_mem _ hy)))
  rw [List.length_erase_of_mem hm] at h3
  have:=List.length_pos_of_mem hm
  simp only [List.length_cons]
  omega
theorem whole_le {K:List Dot}{s:Int}{n:Nat}(h:∀k:Int,1≤k→k≤n→(⟨s,k⟩:Dot)∈K):n≤K.length:=by
 have h1:((List.range n).map fun i:Nat=>(⟨s,(i:Int)+1⟩:Dot)).Nodup:=by
  refine List.Pairwise.map _ (fun a b hab e=>?_) List.nodup_range
  injection e with _ e2
  exact hab (by omega)
 have h2:=nodup_le (B:=K) h1 fun x hx=>by
  obtain⟨i,hi,rfl⟩:=List.mem_map.1 hx
  have:=List.mem_range.1 hi
  exact h _ (by omega) (by omega)
 simpa using h2
theorem wholeP.le {K D:List Dot}(h:wholeP K D){d:Dot}(hd:d∈D):d.seq≤K.length:=by
 by_cases hs:d.seq≤0
 ·omega
 ·have h1:=whole_le (K:=K) (s:=d.site) (n:=d.seq.toNat) fun k h1 h2=>h d hd k h1 (by omega)
  omega
theorem chkV_ok:∀ {A:List Dot}{last:Int},chkV last A=0→0≤last→∀d∈A,d.Ok∧last<d.site
 | [],_,_,_,d,hd=>by simp at hd
 | x::r,last,h,hl,d,hd=>by
  unfold chkV at h
  split at h
  ·cases h
  next h1 =>
  split at h
  ·cases h
  next h2 =>
  split at h
  ·cases h
  next h3 =>
  have hx:isSite x.site:=Decidable.not_not.1 h1
  unfold isSite at hx
  have hok:x.Ok:=by unfold Dot.Ok;omega
  rcases List.mem_cons.1 hd with rfl|hd
  ·exact⟨hok,by omega⟩
  ·have:=chkV_ok h (by omega) d hd
   exact⟨this.1,by omega⟩
theorem says_in:∀(A:List Dot) (g:Nat→Int) (u:Nat),A.foldl sayS g u=g u∨∃d∈A,d.site=(u:Int)∧d.seq=A.foldl sayS g u
 | [],_,_=>.inl rfl
 | x::r,g,u=>by
  rcases says_in r (sayS g x) u with h|⟨d,hd,h1,h2⟩
  ·rw [List.foldl_cons,h]
   unfold sayS
   by_cases hx:x.Ok∧x.site=(u:Int)
   ·rw [if_pos hx]
    by_cases hlt:g u<x.seq
    ·rw [if_pos hlt]
     exact .inr ⟨x,List.mem_cons_self ..,hx.2,rfl⟩
    ·rw [if_neg hlt]
     exact .inl rfl
   ·rw [if_neg hx]
    exact .inl rfl
  ·exact .inr ⟨d,List.mem_cons_of_mem _ hd,h1,by rw [List.foldl_cons];exact h2⟩
theorem says_ge:∀(A:List Dot) (g:Nat→Int) (u:Nat),g u≤A.foldl sayS g u∧∀d∈A,d.Ok→d.site=(u:Int)→d.seq≤A.foldl sayS g u
 | [],_,_=>⟨Int.le_refl _,fun d hd=>by simp at hd⟩
 | x::r,g,u=>by
  obtain⟨h1,h2⟩:=says_ge r (sayS g x) u
  have h3:g u≤sayS g x u:=by
   unfold sayS
   split
   ·split <;> omega
   ·exact Int.le_refl _
  refine⟨by rw [List.foldl_cons];omega,fun d hd hok hs=>?_⟩
  rw [List.foldl_cons]
  rcases List.mem_cons.1 hd with rfl|hd
  ·have h4:d.seq≤sayS g d u:=by
    unfold sayS
    rw [if_pos ⟨hok,hs⟩]
    split <;> omega
   omega
  ·exact h2 d hd hok hs
theorem says_mem {A:List Dot}{u:Nat}(h:1≤says A u):∃d∈A,d.site=(u:Int)∧d.seq=says A u:=by
 rcases says_in A (fun _=>0) u with h1|h1
 ·have : says A u=0:=h1
  omega
 ·exact h1
section
variable {α:Type} {f:α→Dot} {D:α→List Dot} {l:List α}
theorem ClosedP.below (h:ClosedP f D l) (hw:∀e∈l,wholeP (l.map f) (D e)){e:α}(he:e∈l){k:Int}(h1:1≤k) (h2:k≤(f e).seq):(⟨(f e).site,k⟩:Dot)∈l.map f:=by
 by_cases hk:k=(f e).seq
 ·rw [hk]
  exact List.mem_map_of_mem he
 ·obtain⟨hok,hown⟩:=h.ok e he
  obtain⟨d,hd,e1,e2⟩:=says_mem (A:=D e) (u:=(f e).site.toNat) (by omega)
  have hs:d.site=(f e).site:=by unfold Dot.Ok at hok;omega
  have:=hw e he d hd k h1 (by omega)
  rw [hs] at this
  exact this
def allV (f:α→Dot) (l:List α):List Dot:=l.foldl (fun V e=>vecOf (maxV V [f e]) 17) []
theorem says_max {V:List Dot}{d:Dot}(hd:d.Ok) (u:Nat):says (vecOf (maxV V [d]) 17) u=if d.site=(u:Int)∧says V u<d.seq then d.seq else says V u:=by
 have h1:∀i:Nat,says [d] i=if d.site=(i:Int) then d.seq else 0:=fun i=>by
  show sayS (fun _=>0) d i=_
  unfold sayS
  by_cases h:d.site=(i:Int)
  ·rw [if_pos ⟨hd,h⟩,if_pos h,if_pos (show (0:Int)<d.seq by unfold Dot.Ok at hd;omega)]
  ·rw [if_neg (fun e=>h e.2),if_neg h]
 have hb:=says_bd V
 have hm:∀i:Nat,maxV V [d] i=if d.site=(i:Int)∧says V i<d.seq then d.seq else says V i:=fun i=>by
  unfold maxV
  rw [h1]
  have:=hb i
  unfold Dot.Ok at hd
  by_cases h:d.site=(i:Int)
  ·rw [if_pos h]
   by_cases h2:says V i<d.seq
   ·rw [if_pos h2,if_pos ⟨h,h2⟩]
   ·rw [if_neg h2,if_neg (fun e=>h2 e.2)]
  ·rw [if_neg h,if_neg (show ¬says V i<0 by omega),if_neg (fun e=>h e.1)]
 rw [pSays_vecOf (g:=maxV V [d]) (fun i=>?_) (fun i hi=>?_) u 17 (Nat.le_refl _),hm]
 ·by_cases h:u<17
  ·rw [if_pos h]
  ·rw [if_neg h,if_neg (fun e=>by unfold Dot.Ok at hd;omega),says_out V u (by omega)]
 ·rw [hm]
  have:=hb i
  unfold Dot.Ok at hd
  split <;> omega
 ·rw [hm,if_neg (fun e=>by unfold Dot.Ok at hd;omega)]
  exact says_out V i hi
theorem all_ge:∀(l:List α) (V:List Dot) (u:Nat),(∀e∈l,(f e).Ok)→says V u≤says (l.foldl (fun V e=>vecOf (maxV V [f e]) 17) V) u∧(∀e∈l,(f e).site=(u:Int)→(f e).seq≤says (l.foldl (fun V e=>vecOf (maxV V [f e]) 17) V) u)∧(says (l.foldl (fun V e=>vecOf (maxV V [f e]) 17) V) u=says V u∨∃e∈l,(f e).site=(u:Int)∧(f e).seq=says (l.foldl (fun V e=>vecOf (maxV V [f e]) 17) V) u)
 | [],_,_,_=>⟨Int.le_refl _,fun e he=>by simp at he,.inl rfl⟩
 | x::r,V,u,h=>by
  obtain⟨h1,h2,h3⟩:=all_ge r (vecOf (maxV V [f x]) 17) u fun e he=>h e (List.mem_cons_of_mem _ he)
  have hx:=says_max (V:=V) (h x (List.mem_cons_self ..)) u
  rw [List.foldl_cons]
  refine⟨?_,fun e he hs=>?_,?_⟩
  ·rw [hx] at h1
   split at h1 <;> omega
  ·rcases List.mem_cons.1 he with rfl | he
   ·rw [hx] at h1
    split at h1
    ·exact h1
    ·next hn=>have : ¬says V u<(f e).seq:=fun h9=>hn ⟨hs,h9⟩
              omega
   ·exact h2 e he hs
  ·rcases h3 with h3 | ⟨e,he,e1,e2⟩
   ·rw [h3,hx]
    by_cases hc:(f x).site=(u:Int)∧says V u<(f x).seq
    ·rw [if_pos hc]
     exact .inr ⟨x,List.mem_cons_self ..,hc.1,rfl⟩
    ·rw [if_neg hc]
     exact .inl rfl
   ·exact .inr ⟨e,List.mem_cons_of_mem _ he,e1,e2⟩
theorem ClosedP.covers (h:ClosedP f D l) (hw:∀e∈l,wholeP (l.map f) (D e)){B:List Dot}(hB:chkV 0 B=0):wholeP (l.map f) B↔coversV (allV f l) B:=by
 have hok:∀e∈l,(f e).Ok:=fun e he=>(h.ok e he).1
 have hBok:=chkV_ok hB (Int.le_refl 0)
 constructor
 ·intro hh u hu
  by_cases h1:1≤says B u
  ·obtain⟨d,hd,e1,e2⟩:=says_mem h1
   obtain⟨e,he,e3⟩:=List.mem_map.1 (hh d hd d.seq (by omega) (Int.le_refl _))
   have:=(all_ge (f:=f) l [] u hok).2.1 e he (by rw [e3];exact e1)
   rw [e3] at this
   have h9:d.seq≤says (allV f l) u:=this
   omega
  ·have:=says_bd (allV f l) u
   omega
 ·intro hh d hd k h1 h2
  have hd9:=(hBok d hd).1
  have hu:(d.site.toNat:Int)=d.site:=by unfold Dot.Ok at hd9;omega
  have h3:=hh d.site.toNat (by unfold Dot.Ok at hd9;omega)
  have h4:d.seq≤says B d.site.toNat:=(says_ge B (fun _=>0) d.site.toNat).2 d hd hd9 hu.symm
  rcases (all_ge (f:=f) l [] d.site.toNat hok).2.2 with h5|⟨e,he,e1,e2⟩
  ·have h6:says (allV f l) d.site.toNat=0:=h5
   omega
  ·have h6:(f e).seq=says (allV f l) d.site.toNat:=e2
   have:=h.below hw he h1 (by omega)
   rw [e1,hu] at this
   exact this
end
end Go.Proofs.YtjohljmpcblpjaaGreatDoor.St
namespace Go.Proofs.YtjohljmpcblpjaaGreatDoor.St
theorem inj_nodup {α β:Type}{f:α→β}:∀ {l:List α},(l.map f).Nodup→∀a∈l,∀b∈l,f a=f b→a=b
 | [],_,a,ha,_,_,_=>by simp at ha
 | x::r,h,a,ha,b,hb,e=>by
  rw [List.map_cons] at h
  obtain⟨h1,h2⟩:=List.nodup_cons.1 h
  rcases List.mem_cons.1 ha with e1|ha'
  ·rcases List.mem_cons.1 hb with e2 | hb'
   ·rw [e1,e2]
   ·exact absurd (show f x∈r.map f by rw [←e1,e];exact List.mem_map_of_mem hb') h1
  ·rcases List.mem_cons.1 hb with e2 | hb'
   ·exact absurd (show f x∈r.map f by rw [←e2,←e];exact List.mem_map_of_mem ha') h1
   ·exact inj_nodup h2 a ha' b hb' e
section
variable {α:Type} {f:α→Dot} {D:α→List Dot} {l m:List α}
theorem whole_perm (hp:l.Perm m) (B:List Dot):wholeP (l.map f) B↔wholeP (m.map f) B:=by
 unfold wholeP
 constructor
 ·intro h d hd k h1 h2
  exact (hp.map f).mem_iff.1 (h d hd k h1 h2)
 ·intro h d hd k h1 h2
  exact (hp.map f).mem_iff.2 (h d hd k h1 h2)
open Classical in
noncomputable def closedC (bad:α→Prop) (f:α→Dot) (D:α→List Dot) (l:List α):Int :=
 if ∃e∈l,bad e then 10 else if ¬(l.map f).Nodup then 12 else if ∃e∈l,¬wholeP (l.map f) (D e) then 20 else 0
theorem closed_perm {bad:α→Prop}(hp:l.Perm m):closedC bad f D l=closedC bad f D m:=by
 have h1:(∃e∈l,bad e)↔∃e∈m,bad e:=⟨fun⟨e,he,hb⟩=>⟨e,hp.mem_iff.1 he,hb⟩,fun⟨e,he,hb⟩=>⟨e,hp.mem_iff.2 he,hb⟩⟩
 have h2:(l.map f).Nodup↔(m.map f).Nodup:=(hp.map f).nodup_iff
 have h3:(∃e∈l,¬wholeP (l.map f) (D e))↔∃e∈m,¬wholeP (m.map f) (D e):=⟨fun⟨e,he,hb⟩=>⟨e,hp.mem_iff.1 he,fun h=>hb ((whole_perm hp _).2 h)⟩,fun⟨e,he,hb⟩=>⟨e,hp.mem_iff.2 he,fun h=>hb ((whole_perm hp _).1 h)⟩⟩
 unfold closedC
 by_cases k1:∃e∈l,bad e
 ·rw [if_pos k1,if_pos (h1.1 k1)]
 ·rw [if_neg k1,if_neg (fun h=>k1 (h1.2 h))]
  by_cases k2:(l.map f).Nodup
  ·rw [if_neg (show ¬ ¬(l.map f).Nodup from fun h=>h k2),if_neg (show ¬ ¬(m.map f).Nodup from fun h=>h (h2.1 k2))]
   by_cases k3:∃e∈l,¬wholeP (l.map f) (D e)
   ·rw [if_pos k3,if_pos (h3.1 k3)]
   ·rw [if_neg k3,if_neg (fun h=>k3 (h3.2 h))]
  ·rw [if_pos k2,if_pos (fun h=>k2 (h2.2 h))]
theorem closedC_ok {bad:α→Prop}(h:closedC bad f D l=0):(∀e∈l,¬bad e)∧(l.map f).Nodup∧∀e∈l,wholeP (l.map f) (D e):=by
 unfold closedC at h
 split at h
 ·cases h
 next h1 =>
 split at h
 ·cases h
 next h2 =>
 split at h
 ·cases h
 next h3 =>
 exact⟨fun e he hb=>h1 ⟨e,he,hb⟩,Classical.not_not.1 h2,fun e he=>Classical.byContradiction fun hn=>h3 ⟨e,he,hn⟩⟩
theorem closedC_is {bad:α→Prop}(h1:∀e∈l,¬bad e) (h2:(l.map f).Nodup) (h3:∀e∈l,wholeP (l.map f) (D e)):closedC bad f D l=0:=by
 unfold closedC
 rw [if_neg (fun⟨e,he,hb⟩=>h1 e he hb),if_neg (fun h=>h h2),if_neg (fun⟨e,he,hb⟩=>hb (h3 e he))]
end
end Go.Proofs.YtjohljmpcblpjaaGreatDoor.St
namespace Go.Proofs.YtjohljmpcblpjaaGreatDoor.St
end Go.Proofs.YtjohljmpcblpjaaGreatDoor.St
namespace Go.Proofs.YtjohljmpcblpjaaGreatDoor.St
open Go.RowKit
theorem nan_any (x:Int) (w:World):Calls Tryz.prog 190 #[.int .i64 x] w fun e w'=>e=.returned (.bool false)∧w=w':=by
 go_enter Tryz.func190,Tryz.ntmps190
 go_wp2
 go_ret
 exact⟨by simp,rfl⟩
theorem ccmp_any (x y:Int) (w:World):Calls Tryz.prog 182 #[.int .i64 x,.int .i64 y] w fun e w'=>e=.returned (.int .i64 (cmpI x y))∧w=w':=by
 by_cases h:x<y
 ·have e:cmpI x y=-1:=by unfold cmpI;rw [if_pos h]
  rw [e]
  go_enter Tryz.func182,Tryz.ntmps182
  go_wp2_with (go_at_call 190;refine (nan_any _ _).mono ?_;rintro e w' ⟨rfl,rfl⟩)
  go_ret
  exact⟨rfl,rfl⟩
 ·by_cases h2:y<x
  ·have e:cmpI x y=1:=by unfold cmpI;rw [if_neg h,if_pos h2]
   rw [e]
   go_enter Tryz.func182,Tryz.ntmps182
   go_wp2_with (go_at_call 190;refine (nan_any _ _).mono ?_;rintro e w' ⟨rfl,rfl⟩)
   go_ret
   exact⟨rfl,rfl⟩
  ·have e:cmpI x y=0:=by unfold cmpI;rw [if_neg h,if_neg h2]
   rw [e]
   go_enter Tryz.func182,Tryz.ntmps182
   go_wp2_with (go_at_call 190;refine (nan_any _ _).mono ?_;rintro e w' ⟨rfl,rfl⟩)
   go_ret
   exact⟨rfl,rfl⟩
theorem or2 (g:Nat) (x y:Int) (w:World) (h0:w.cell? ⟨g,0,none⟩=some (.int .i64 x)) (h1:w.cell? ⟨g,1,none⟩=some (.int .i64 y)) :
  Calls Tryz.prog 181 #[.slice (some ⟨g,0,none⟩) 2 2] w fun e w'=>e=.returned (.int .i64 (orL [x,y]))∧w=w':=by
 go_enter Tryz.func181,Tryz.ntmps181
 go_wp2
 go_loop [8] (fun i=>∃k:Nat,k≤2∧i=.int .i64 k∧orL [x,y]=orL ([x,y].drop k)) (fun i=>2-(intOf i).toNat)
 case atStart=>exact⟨0,by omega,rfl,rfl⟩
 case round =>
  obtain⟨k,hk,rfl,he⟩:=hrel
  have E:=Lib.hid he
  clear he
  rcases (show k=0∨k=1∨k=2 by omega) with rfl|rfl|rfl
  ·by_cases hx:x=0
   ·subst hx
    go_wp2
    go_round
    case rel=>exact⟨1,by omega,rfl,rfl⟩
    case measure=>simp [intOf]
   ·have hxb:(x != 0)=true:=by simpa using hx
    go_wp2
    go_ret
    exact⟨by simp [orL,hx],rfl⟩
  ·by_cases hy:y=0
   ·subst hy
    go_wp2
    go_round
    case rel=>exact⟨2,by omega,rfl,E.out.trans (by simp [orL])⟩
    case measure=>simp [intOf]
   ·have hyb:(y != 0)=true:=by simpa using hy
    go_wp2
    go_ret
    exact⟨by rw [E.out];simp [orL,hy],rfl⟩
  ·go_wp2
   go_ret
   exact⟨by rw [E.out];rfl,rfl⟩
def idV (a:ID):Value:=.agg #[.int .i64 a.t,.int .i64 a.s]
def runV (r:Run):Value:=.agg #[.int .i64 r.id.t,.int .i64 r.id.s,.int .i64 r.c]
theorem compare_any (a b:ID) (w:World):Calls Tryz.prog 155 #[idV a,idV b] w fun e w'=>e=.returned (.int .i64 (a.cmp b))∧Grew w w':=by
 obtain⟨at_,as_⟩:=a
 obtain⟨bt,bs⟩:=b
 show Calls _ _ #[.agg #[.int .i64 at_,.int .i64 as_],.agg #[.int .i64 bt,.int .i64 bs]] _ _
 unfold ID.cmp
 have b1:=Blk.alloc (Blk.new w 59 #[.int .i64 at_,.int .i64 as_]) (.cells #[.int .i64 bt,.int .i64 bs] 59)
 have b2:=Blk.new (w.alloc (.cells #[.int .i64 at_,.int .i64 as_] 59)) 59 #[.int .i64 bt,.int .i64 bs]
 have c1:_=some (Value.int .i64 at_):=b1.cell' (i:=0) rfl
 have c2:_=some (Value.int .i64 as_):=b1.cell' (i:=1) rfl
 have c3:_=some (Value.int .i64 bt):=b2.cell' (i:=0) rfl
 have c4:_=some (Value.int .i64 bs):=b2.cell' (i:=1) rfl
 have hg:=Grew.alloc (Grew.alloc (Grew.refl w) (.cells #[.int .i64 at_,.int .i64 as_] 59)) (.cells #[.int .i64 bt,.int .i64 bs] 59)
 rw [World.size_alloc] at c3 c4
 clear b1 b2
 go_enter Tryz.func155,Tryz.ntmps155
 go_wp2_with fail
 obtain⟨W,hW,hz⟩:∃W,((w.alloc (.cells #[.int .i64 at_,.int .i64 as_] 59)).alloc (.cells #[.int .i64 bt,.int .i64 bs] 59))=W∧W.heap.size=w.heap.size+2:=⟨_,rfl,by simp⟩
 rw [hW] at c1 c2 c3 c4 hg ⊢
 clear hW
 have Z:=Lib.hid hz
 clear hz
 go_region_held3 (fun w'=>w'.cell? ⟨w.heap.size,0,none⟩=some (.int .i64 at_)∧w'.cell? ⟨w.heap.size,1,none⟩=some (.int .i64 as_)∧w'.cell? ⟨w.heap.size+1,0,none⟩=some (.int .i64 bt)∧w'.cell? ⟨w.heap.size+1,1,none⟩=some (.int .i64 bs)) (first | exact⟨c1,c2,c3,c4⟩ | exact⟨Lib.cell?_alloc_some _ c1,Lib.cell?_alloc_some _ c2,Lib.cell?_alloc_some _ c3,Lib.cell?_alloc_some _ c4⟩)
  (first
   | (go_simp;go_at_call 182;refine (ccmp_any _ _ _).mono ?_;rintro e w' ⟨rfl,rfl⟩)
   | (go_simp;go_at_call 181;refine (or2 W.heap.size (cmpI at_ bt) (cmpI as_ bs) (W.alloc (.cells #[.int .i64 (cmpI at_ bt),.int .i64 (cmpI as_ bs)] 3)).drew ((Blk.new W 3 #[.int .i64 (cmpI at_ bt),.int .i64 (cmpI as_ bs)]).cell' (i:=0) rfl) ((Blk.new W 3 #[.int .i64 (cmpI at_ bt),.int .i64 (cmpI as_ bs)]).cell' (i:=1) rfl)).mono ?_;rintro e w' ⟨rfl,rfl⟩))
 go_wp2
 go_ret
 exact⟨rfl,(hg.alloc _).drew⟩
/-! ### is,IsID,After -/
theorem is_core (t s:Int) (w:World):Calls Tryz.prog 156 #[.agg #[.int .i64 t,.int .i64 s]] w fun e w'=>e=.returned (.bool (isB ⟨t,s⟩))∧Grew w w':=by
 by_cases h1:1≤t
 ·by_cases h2:t≤2147483647
  ·by_cases h3:1≤s
   ·by_cases h4:s≤16
    ·have e:isB ⟨t,s⟩=true:=by simp [isB,ID.Is,h1,h2,h3,h4]
     rw [e]
     go_enter Tryz.func156,Tryz.ntmps156
     go_wp2
     go_ret
     exact⟨rfl,(Grew.refl w).alloc _⟩
    ·have e:isB ⟨t,s⟩=false:=by simp [isB,ID.Is,h4]
     rw [e]
     go_enter Tryz.func156,Tryz.ntmps156
     go_wp2
     go_ret
     exact⟨rfl,(Grew.refl w).alloc _⟩
   ·have e:isB ⟨t,s⟩=false:=by simp [isB,ID.Is,h3]
    rw [e]
    go_enter Tryz.func156,Tryz.ntmps156
    go_wp2
    go_ret
    exact⟨rfl,(Grew.refl w).alloc _⟩
  ·have e:isB ⟨t,s⟩=false:=by simp [isB,ID.Is,h2]
   rw [e]
   go_enter Tryz.func156,Tryz.ntmps156
   go_wp2
   go_ret
   exact⟨rfl,(Grew.refl w).alloc _⟩
 ·have e:isB ⟨t,s⟩=false:=by simp [isB,ID.Is,h1]
  rw [e]
  go_enter Tryz.func156,Tryz.ntmps156
  go_wp2
  go_ret
  exact⟨rfl,(Grew.refl w).alloc _⟩
theorem isid_core (t s:Int) (w:World):Calls Tryz.prog 122 #[.agg #[.int .i64 t,.int .i64 s]] w fun e w'=>e=.returned (.bool (isB ⟨t,s⟩))∧Grew w w':=by
 by_cases h1:1≤t
 ·skip
  by_cases h2:t≤2147483647
  ·skip
   by_cases h3:1≤s
   ·skip
    by_cases h4:s≤16
    ·skip
     have e:isB ⟨t,s⟩=true:=by simp [isB,ID.Is,h1,h2,h3,h4]
     rw [e]
     go_enter Tryz.func122,Tryz.ntmps122
     go_wp2
     go_ret
     exact⟨rfl,(Grew.refl w).alloc _⟩
    ·skip
     have e:isB ⟨t,s⟩=false:=by simp [isB,ID.Is,h4]
     rw [e]
     go_enter Tryz.func122,Tryz.ntmps122
     go_wp2
     go_ret
     exact⟨rfl,(Grew.refl w).alloc _⟩
   ·skip
    have e:isB ⟨t,s⟩=false:=by simp [isB,ID.Is,h3]
    rw [e]
    go_enter Tryz.func122,Tryz.ntmps122
    go_wp2
    go_ret
    exact⟨rfl,(Grew.refl w).alloc _⟩
  ·skip
   have e:isB ⟨t,s⟩=false:=by simp [isB,ID.Is,h2]
   rw [e]
   go_enter Tryz.func122,Tryz.ntmps122
   go_wp2
   go_ret
   exact⟨rfl,(Grew.refl w).alloc _⟩
 ·skip
  have e:isB ⟨t,s⟩=false:=by simp [isB,ID.Is,h1]
  rw [e]
  go_enter Tryz.func122,Tryz.ntmps122
  go_wp2
  go_ret
  exact⟨rfl,(Grew.refl w).alloc _⟩
theorem isB_true {a:ID}(h:isB a=true):a.Is:=by simpa [isB] using h
theorem after_core (t s n:Int) (hn:-9223372036854775808≤n) (hn2:n≤9223372036854775807) (w:World):Calls Tryz.prog 129 #[.agg #[.int .i64 t,.int .i64 s],.int .i64 n] w fun e w'=>e=.returned (idV (ID.after ⟨t,s⟩ n))∧Grew w w':=by
 have hg:=Grew.alloc (Grew.alloc (Grew.refl w) (.cells #[.int .i64 t,.int .i64 s] 59)) (.cells #[.int .i64 0,.int .i64 0] 59)
 have hb0:=Blk.alloc (Blk.new w 59 #[.int .i64 t,.int .i64 s]) (.cells #[.int .i64 0,.int .i64 0] 59)
 have hb1:=Blk.new (w.alloc (.cells #[.int .i64 t,.int .i64 s] 59)) 59 #[.int .i64 0,.int .i64 0]
 rw [World.size_alloc] at hb1
 have hc:=is_core t s ((w.alloc (.cells #[.int .i64 t,.int .i64 s] 59)).alloc (.cells #[.int .i64 0,.int .i64 0] 59))
 have H0:=Lib.hid hb0
 have H1:=Lib.hid hb1
 clear hb0 hb1
 cases hb:isB ⟨t,s⟩
 ·have e:ID.after ⟨t,s⟩ n=ID.zero:=by unfold ID.after;rw [if_neg];intro h;simp [isB,h.1] at hb
  rw [e]
  rw [hb] at hc
  clear hb e
  go_enter Tryz.func129,Tryz.ntmps129
  go_wp2_with fail
  refine hc.mono ?_
  rintro e w' ⟨rfl,hg2⟩
  have hb1:=hg2.box H1.out
  have c0:_=some (Value.int .i64 0):=hb1.cell' (i:=0) rfl
  have c1:_=some (Value.int .i64 0):=hb1.cell' (i:=1) rfl
  have f0:=hb1.frozen 0
  have f1:=hb1.frozen 1
  have G:=Lib.hid (hg.trans hg2)
  clear hg hg2 hb1 hc
  go_wp2_with fail
  refine bodyPost_ret (v:=.agg #[.int .i64 0,.int .i64 0]) (by simp [results,Tryz.results129,go_sem,c0,c1]) rfl ⟨rfl,(G.out.setCell (by simp) _).setCell (by simp) _⟩
 ·have hI:=isB_true hb
  unfold ID.Is at hI
  obtain⟨i1,i2,i3,i4⟩:=hI
  simp only at i1 i2 i3 i4
  have hIs:=Lib.hid (isB_true hb)
  rw [hb] at hc
  clear hb
  by_cases hx:0≤n∧n≤2147483647-t
  ·obtain⟨x1,x2⟩:=hx
   have e:ID.after ⟨t,s⟩ n=⟨t+n,s⟩:=by unfold ID.after;rw [if_pos ⟨hIs.out,x1,x2⟩]
   rw [e]
   clear e
   go_enter Tryz.func129,Tryz.ntmps129
   go_wp2_with fail
   refine hc.mono ?_
   rintro e w' ⟨rfl,hg2⟩
   have hb0:=hg2.box H0.out
   have hb1:=hg2.box H1.out
   have d0:_=some (Value.int .i64 t):=hb0.cell' (i:=0) rfl
   have d1:_=some (Value.int .i64 s):=hb0.cell' (i:=1) rfl
   have e0:=hb0.frozen 0
   have e1:=hb0.frozen 1
   have c0:_=some (Value.int .i64 0):=hb1.cell' (i:=0) rfl
   have c1:_=some (Value.int .i64 0):=hb1.cell' (i:=1) rfl
   have f0:=hb1.frozen 0
   have f1:=hb1.frozen 1
   have G:=Lib.hid (hg.trans hg2)
   clear hg hg2 hb1 hb0 hc
   go_wp2_with fail
   refine bodyPost_ret (v:=.agg #[.int .i64 (t+n),.int .i64 s]) (by simp [results,Tryz.results129,go_sem,c0,c1]) rfl ⟨rfl,((G.out.setCell (by simp) _).setCell (by simp) _).setCell (by simp) _⟩
  ·have e:ID.after ⟨t,s⟩ n=ID.zero:=by unfold ID.after;rw [if_neg];intro h;exact hx ⟨h.2.1,h.2.2⟩
   rw [e]
   clear e
   rcases (show n<0∨(0≤n∧2147483647-t<n) by omega) with x1|⟨x1,x2⟩
   all_goals
    go_enter Tryz.func129,Tryz.ntmps129
    go_wp2_with fail
    refine hc.mono ?_
    rintro e w' ⟨rfl,hg2⟩
    have hb0:=hg2.box H0.out
    have hb1:=hg2.box H1.out
    have d0:_=some (Value.int .i64 t):=hb0.cell' (i:=0) rfl
    have c0:_=some (Value.int .i64 0):=hb1.cell' (i:=0) rfl
    have c1:_=some (Value.int .i64 0):=hb1.cell' (i:=1) rfl
    have f0:=hb1.frozen 0
    have f1:=hb1.frozen 1
    have G:=Lib.hid (hg.trans hg2)
    clear hg hg2 hb1 hb0 hc
    go_wp2_with fail
    refine bodyPost_ret (v:=.agg #[.int .i64 0,.int .i64 0]) (by simp [results,Tryz.results129,go_sem,c0,c1]) rfl ⟨rfl,(G.out.setCell (by simp) _).setCell (by simp) _⟩
theorem after_any (a:ID) (n:Int) (hn:-9223372036854775808≤n) (hn2:n≤9223372036854775807) (w:World):Calls Tryz.prog 129 #[idV a,.int .i64 n] w fun e w'=>e=.returned (idV (a.after n))∧Grew w w':=after_core a.t a.s n hn hn2 w
end Go.Proofs.YtjohljmpcblpjaaGreatDoor.St
namespace Go.Proofs.YtjohljmpcblpjaaGreatDoor
open Go.RowKit
structure Enc (α:Type) where
 k:Nat
 enc:α→List Value
 len:∀x,(enc x).length=k
 pos:0<k
 one:∀x,∀u∈enc x,u.oneCell'=true
section
variable {α:Type} (E:Enc α)
def Enc.flat (L:List α):List Value:=L.flatMap E.enc
theorem Enc.flat_len:∀L:List α,(E.flat L).length=L.length * E.k
 | []=>by simp [Enc.flat]
 | x::L=>by
  have:=Enc.flat_len L
  unfold Enc.flat at this ⊢
  rw [List.flatMap_cons,List.length_append,E.len,this,List.length_cons,Nat.add_mul,Nat.one_mul,Nat.add_comm]
theorem Enc.flat_append (L M:List α):E.flat (L++M)=E.flat L++E.flat M:=by simp [Enc.flat]
theorem Enc.flat_get:∀ {L:List α}{i j:Nat}{x:α}{u:Value},L[i]?=some x→(E.enc x)[j]?=some u→(E.flat L)[i * E.k+j]?=some u
 | [],i,j,x,u,h,_=>by simp at h
 | y::L,0,j,x,u,h,hu=>by
  simp at h
  subst h
  have hj:j<(E.enc y).length:=(List.getElem?_eq_some_iff.1 hu).1
  unfold Enc.flat
  rw [List.flatMap_cons,Nat.zero_mul,Nat.zero_add,List.getElem?_append_left hj]
  exact hu
 | y::L,i+1,j,x,u,h,hu=>by
  have ih:=Enc.flat_get (L:=L) (i:=i) (j:=j) (x:=x) (u:=u) (by simpa using h) hu
  unfold Enc.flat at ih ⊢
  rw [List.flatMap_cons,List.getElem?_append_right (by rw [E.len,Nat.add_mul];omega),E.len,show (i+1) * E.k+j-E.k=i * E.k+j by rw [Nat.add_mul];omega]
  exact ih
theorem Enc.flat_inv:∀ {L:List α}{m:Nat}{u:Value},(E.flat L)[m]?=some u→∃i j x,m=i * E.k+j∧L[i]?=some x∧(E.enc x)[j]?=some u
 | [],m,u,h=>by simp [Enc.flat] at h
 | y::L,m,u,h=>by
  unfold Enc.flat at h
  rw [List.flatMap_cons] at h
  by_cases hm:m<(E.enc y).length
  ·rw [List.getElem?_append_left hm] at h
   exact⟨0,m,y,by omega,by simp,h⟩
  ·rw [List.getElem?_append_right (by omega),E.len] at h
   rw [E.len] at hm
   obtain⟨i,j,x,h1,h2,h3⟩:=Enc.flat_inv (L:=L) (m:=m-E.k) (u:=u) h
   exact⟨i+1,j,x,by rw [Nat.add_mul];omega,by simpa using h2,h3⟩
theorem Enc.flat_one_cell (L:List α):∀u∈E.flat L,u.oneCell'=true:=by
 intro u hu
 unfold Enc.flat at hu
 obtain⟨x,_,hx⟩:=List.mem_flatMap.1 hu
 exact E.one x u hx
def Enc.Row (cs:Array Value) (D:List α):Prop:=∀(i:Nat) (x:α),D[i]?=some x→∀(j:Nat) (u:Value),(E.enc x)[j]?=some u→cs[i * E.k+j]?=some u
variable {E}
theorem Enc.Row.take {cs:Array Value}{D:List α}(h:E.Row cs D) (n:Nat):E.Row cs (D.take n):=fun i x hx j u hu=>by
 rw [List.getElem?_take] at hx
 split at hx
 ·exact h i x hx j u hu
 ·cases hx
theorem Enc.Row.flat {cs:Array Value}{D:List α}(h:E.Row cs D):cs.toList.take (D.length * E.k)=E.flat D:=by
 apply List.ext_getElem?
 intro m
 rw [List.getElem?_take]
 split
 ·rename_i hm
  have hml:m<(E.flat D).length:=by rw [E.flat_len];exact hm
  obtain⟨u,hu⟩:∃u,(E.flat D)[m]?=some u:=⟨_,List.getElem?_eq_getElem hml⟩
  obtain⟨i,j,x,h1,h2,h3⟩:=E.flat_inv hu
  rw [hu,Array.getElem?_toList,h1]
  exact h i x h2 j u h3
 ·rename_i hm
  rw [List.getElem?_eq_none]
  rw [E.flat_len];omega
theorem Enc.Row.of_flat {cs:Array Value}{D:List α}(h:cs.toList.take (D.length * E.k)=E.flat D):E.Row cs D:=fun i x hx j u hu=>by
 have h1:=E.flat_get hx hu
 rw [←h,List.getElem?_take] at h1
 split at h1
 ·simpa using h1
 ·cases h1
theorem owns_sl {w:World}{base:Nat}{t:TypeId}{k n:Nat}{v:Value}{xs:List Value}(h:w.ownsRow base t k v n xs):∃a c,v=.slice a n c:=by
 rcases h.2 with ⟨rfl,rfl⟩|⟨g,cap,cur,rfl,_⟩
 ·exact⟨_,_,rfl⟩
 ·exact⟨_,_,rfl⟩
theorem owns_keep {S:Nat→Prop}{w w':World}{base n size:Nat}{e:TypeId}{v:Value}{xs:List Value}(h:w.ownsRow base e size v n xs) (hk:Kept S w w') (hs:∀b,v.ownBlock=some b→¬S b):w'.ownsRow base e size v n xs:=by
 refine⟨h.1,?_⟩
 rcases h.2 with h' | ⟨g,cap,cur,rfl,hb,hg,r⟩
 ·exact .inl h'
 ·exact .inr ⟨g,cap,cur,rfl,hb,hk.blk (t:=e) (cs:=cur) (hs g rfl) hg,r⟩
/-! ### read -/
variable (E) in
def SlAt (w:World) (v:Value) (L:List α):Prop :=
 (v=.slice none 0 0∧L=[])∨∃x c,v=.slice (some x) L.length c∧L.length≤c∧c≤maxLen∧(L≠[]→x.spot=none) ∧
  ∀(i:Nat) (y:α),L[i]?=some y→∀(j:Nat) (u:Value),(E.enc y)[j]?=some u→w.cell? ⟨x.block,x.off+(i * E.k+j),none⟩=some u
variable {w w':World} {v:Value} {L:List α}
theorem SlAt.sl (h:SlAt E w v L):∃a c,v=.slice a L.length c∧L.length≤c∧c≤maxLen:=by
 rcases h with ⟨rfl,rfl⟩|⟨x,c,rfl,h1,h2,_⟩
 ·exact⟨none,0,rfl,Nat.le_refl _,Nat.zero_le _⟩
 ·exact⟨_,_,rfl,h1,h2⟩
theorem SlAt.one (h:SlAt E w v L) (hn:0<L.length):∃g o c,v=.slice (some ⟨g,o,none⟩) L.length c∧L.length≤c∧c≤maxLen∧g<w.heap.size ∧
  ∀(i:Nat) (y:α),L[i]?=some y→∀(j:Nat) (u:Value),(E.enc y)[j]?=some u→w.cell? ⟨g,o+(i * E.k+j),none⟩=some u:=by
 rcases h with ⟨rfl,rfl⟩|⟨x,c,rfl,h1,h2,h3,h4⟩
 ·simp at hn
 ·obtain⟨g,o,s⟩:=x
  obtain rfl:s=none:=h3 (by intro e;rw [e] at hn;simp at hn)
  refine⟨g,o,c,rfl,h1,h2,?_,h4⟩
  obtain⟨y,r,rfl⟩:∃y r,L=y::r:=by cases L with | nil=>simp at hn | cons y r=>exact⟨y,r,rfl⟩
  have hl:0<(E.enc y).length:=by rw [E.len];exact E.pos
  exact World.block_lt_of_cell? w _ (h4 0 y rfl 0 _ (List.getElem?_eq_getElem hl))
theorem SlAt.keep {S:Nat→Prop}(h:SlAt E w v L) (hk:Kept S w w') (hs:∀b,v.ownBlock=some b→b<w.heap.size→¬S b):SlAt E w' v L:=by
 rcases h with h|⟨x,c,rfl,h1,h2,h3,h4⟩
 ·exact .inl h
 ·refine .inr ⟨x,c,rfl,h1,h2,h3,fun i y hy j u hu=>?_⟩
  have hc:=h4 i y hy j u hu
  have hlt:x.block<w.heap.size:=World.block_lt_of_cell? w ⟨x.block,x.off+(i * E.k+j),none⟩ hc
  exact (World.cell?_of_block (a:=⟨x.block,x.off+(i * E.k+j),none⟩) (hk.block x.block hlt (hs x.block rfl hlt))).trans hc
theorem SlAt.kept (h:SlAt E w v L) (hk:Kept (fun _=>False) w w'):SlAt E w' v L:=h.keep hk fun _ _ _ h=>h
theorem SlAt.at_ {x:Addr}{n c:Nat}(h:SlAt E w (.slice (some x) n c) L):n=L.length∧∀j u,(E.flat L)[j]?=some u→w.cell? (x.add j)=some u:=by
 rcases h with ⟨h,_⟩|⟨y,d,h,h1,h2,h3,h4⟩
 ·cases h
 ·injection h with e1 e2 e3
  injection e1 with e1
  subst e1
  refine⟨e2,fun m u hu=>?_⟩
  obtain⟨i,j,z,rfl,g2,g3⟩:=E.flat_inv hu
  have hs:=h3 (by rintro rfl;simp at g2)
  obtain⟨g,o,s⟩:=x
  obtain rfl:s=none:=hs
  rw [Addr.add_lit]
  exact h4 i z g2 j u g3
theorem SlAt.none_ {n c:Nat}(h:SlAt E w (.slice none n c) L):L=[]∧n=0∧c=0:=by
 rcases h with ⟨h,e⟩|⟨y,d,h,_⟩
 ·injection h with e1 e2 e3
  exact⟨e,e2,e3⟩
 ·cases h
/-! ### owned -/
variable (E) in
def OwnAt (w:World) (t:TypeId) (g cap:Nat) (D:List α):Prop:=∃cs,Blk w g t cs∧cs.size=cap * E.k∧D.length≤cap∧cap≤maxLen∧E.Row cs D
variable {t:TypeId} {g cap:Nat} {D:List α}
theorem OwnAt.lt (h:OwnAt E w t g cap D):g<w.heap.size:=by obtain⟨cs,h1,_⟩:=h;exact h1.lt
theorem OwnAt.le (h:OwnAt E w t g cap D):D.length≤cap∧cap≤maxLen:=by obtain⟨cs,_,_,h1,h2,_⟩:=h;exact⟨h1,h2⟩
theorem OwnAt.frozen (h:OwnAt E w t g cap D) (i:Nat):w.frozen? ⟨g,i,none⟩=false:=by obtain⟨cs,h1,_⟩:=h;exact h1.frozen i
theorem OwnAt.cell (h:OwnAt E w t g cap D){i j:Nat}{x:α}{u:Value}(hx:D[i]?=some x) (hu:(E.enc x)[j]?=some u):w.cell? ⟨g,i * E.k+j,none⟩=some u:=by
 obtain⟨cs,h1,_,_,_,h2⟩:=h
 exact h1.cell' (h2 i x hx j u hu)
theorem OwnAt.keep {S:Nat→Prop}(h:OwnAt E w t g cap D) (hk:Kept S w w') (hs:¬S g):OwnAt E w' t g cap D:=by
 obtain⟨cs,h1,h2⟩:=h
 exact⟨cs,hk.blk hs h1,h2⟩
theorem OwnAt.take (h:OwnAt E w t g cap D) (n:Nat):OwnAt E w t g cap (D.take n):=by
 obtain⟨cs,h1,h2,h3,h4,h5⟩:=h
 exact⟨cs,h1,h2,by rw [List.length_take];omega,h4,h5.take n⟩
theorem OwnAt.slAt (h:OwnAt E w t g cap D):SlAt E w (.slice (some ⟨g,0,none⟩) D.length cap) D :=
 .inr ⟨⟨g,0,none⟩,cap,rfl,h.le.1,h.le.2,fun _=>rfl,fun i y hy j u hu=>by rw [Nat.zero_add];exact h.cell hy hu⟩
theorem OwnAt.owns (h:OwnAt E w t g cap D){base:Nat}(hb:base≤g):w.ownsRow base t E.k (.slice (some ⟨g,0,none⟩) D.length cap) D.length (E.flat D):=by
 obtain⟨cs,h1,h2,h3,h4,h5⟩:=h
 exact⟨E.flat_len D,.inr ⟨g,cap,cs,rfl,hb,h1,h3,h4,h2,h5.flat⟩⟩
theorem own_of {base n:Nat}(h:w.ownsRow base t E.k v n (E.flat D)):D.length=n∧((v=.slice none 0 0∧D=[])∨∃g cap,v=.slice (some ⟨g,0,none⟩) n cap∧base≤g∧OwnAt E w t g cap D):=by
 have hl:D.length=n:=by
  have:=h.1
  rw [E.flat_len] at this
  exact Nat.eq_of_mul_eq_mul_right E.pos this
 refine⟨hl,?_⟩
 rcases h.2 with ⟨rfl,rfl⟩|⟨g,cap,cur,rfl,hb,hg,h1,h2,h3,h4⟩
 ·exact .inl ⟨rfl,List.length_eq_zero_iff.1 hl⟩
 ·exact .inr ⟨g,cap,rfl,hb,cur,hg,h3,by omega,h2,Enc.Row.of_flat (by rw [hl];exact h4)⟩
theorem owns_slAt {base n:Nat}(h:w.ownsRow base t E.k v n (E.flat D)):SlAt E w v D:=by
 obtain⟨hl,hv⟩:=own_of h
 rcases hv with h|⟨g,cap,rfl,_,ho⟩
 ·exact .inl h
 ·subst hl;exact ho.slAt
theorem OwnAt.set1of3 (h:OwnAt E w t g cap D){i m:Nat}{x y:α}(hi:D[i]?=some x){b:Value}(hm:m<E.k) (hy:E.enc y=(E.enc x).set m b) :
  OwnAt E (w.setCell ⟨g,i * E.k+m,none⟩ b) t g cap (D.set i y):=by
 obtain⟨cs,h1,h2,h3,h4,h5⟩:=h
 have hil:i<D.length:=(List.getElem?_eq_some_iff.1 hi).1
 refine⟨_,h1.set_ (i * E.k+m) b,by simp [h2],by simpa using h3,h4,fun n z hz j u hu=>?_⟩
 have hj:j<E.k:=by rw [←E.len z];exact (List.getElem?_eq_some_iff.1 hu).1
 have hsz:i * E.k+m<cs.size:=by
  rw [h2]
  have:=Nat.mul_le_mul_right E.k (show i+1≤cap by omega)
  rw [Nat.add_mul] at this
  omega
 by_cases hn:i=n
 ·subst hn
  simp [hil] at hz
  subst hz
  rw [hy,List.getElem?_set] at hu
  by_cases hjm:m=j
  ·subst hjm
   simp [E.len,hm] at hu
   subst hu
   rw [Array.getElem?_setIfInBounds_self_of_lt hsz]
  ·rw [if_neg hjm] at hu
   rw [Array.getElem?_setIfInBounds_ne (by omega)]
   exact h5 i x hi j u hu
 ·rw [List.getElem?_set_ne hn] at hz
  have hne:i * E.k+m≠n * E.k+j:=by
   intro e
   have e1:(i * E.k+m) / E.k=i:=by rw [Nat.mul_comm,Nat.mul_add_div E.pos,Nat.div_eq_of_lt hm,Nat.add_zero]
   have e2:(n * E.k+j) / E.k=n:=by rw [Nat.mul_comm,Nat.mul_add_div E.pos,Nat.div_eq_of_lt hj,Nat.add_zero]
   rw [e,e2] at e1
   exact hn e1.symm
  rw [Array.getElem?_setIfInBounds_ne hne]
  exact h5 n z hz j u hu
end
end Go.Proofs.YtjohljmpcblpjaaGreatDoor
