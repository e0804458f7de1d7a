/- (*causal.Queue).may. causal.far. slices.IndexFunc and slices.DeleteFunc of the identifiers that are none, on a row of the call's own. Parts of the proof. -/
import Derived.Test.YtjohljmpcblpjaaGreatDoorM4
import Derived.Shelf.SlSortCmp.QuietGrown
import Derived.Laws.IdiomCopy
import Derived.Shelf.Abstract
import Derived.Laws.CopyRow
import Derived.Deep.RegionLaw
import Derived.Deep.Slices
import Derived.Deep.Fields
import Derived.ChangeSame
import Derived.Lib.SmallJoins
import Derived.OpenShut
set_option maxRecDepth 100000
namespace Go.Proofs.YtjohljmpcblpjaaGreatDoor
open Go.RowKit Go.Proofs.YtjohljmpcblpjaaGreatDoor.St
open Go.Sort (grow)
theorem Grew.grown {w:World}(n:Nat) (os:Array Obj):Grew w (grow (w.drewN n) os):=⟨n,os,rfl⟩
theorem grown_call {f:FuncId}{args:Array Value}{w:World}{v:Value}(h:∀w',Grew w w'→Calls Tryz.prog f args w' fun e w''=>e=.returned v∧Grew w' w'') (n:Nat) (os:Array Obj) :
  Calls Tryz.prog f args (grow (w.drewN n) os) fun e w''=>e=.returned v∧∃p:GrownBy,w''=grow (w.drewN p.n) p.os :=
 Calls.grown_of ((h _ (Grew.grown n os)).mono fun _ _ ⟨he,q,os',hq⟩=>⟨he,q,os',hq⟩)
end Go.Proofs.YtjohljmpcblpjaaGreatDoor
namespace Go.Proofs.YtjohljmpcblpjaaGreatDoor
open Go.RowKit Go.Proofs.YtjohljmpcblpjaaGreatDoor.St
end Go.Proofs.YtjohljmpcblpjaaGreatDoor
namespace Go.Proofs.YtjohljmpcblpjaaGreatDoor
open Go.RowKit
section
variable {α:Type} {E:Enc α} {w:World} {t:TypeId} {g cap:Nat} {D:List α}
theorem Blk.setCells:∀(vs:List Value) (o:Nat){w:World}{cs:Array Value},Blk w g t cs→∃cs',Blk (w.setCells g o vs) g t cs'∧cs'.size=cs.size∧∀m,m<o→cs'[m]?=cs[m]?
 | [],o,w,cs,h=>⟨cs,h,rfl,fun _ _=>rfl⟩
 | v::r,o,w,cs,h=>by
  obtain⟨cs',h1,h2,h3⟩:=Blk.setCells r (o+1) (h.set_ o v)
  refine⟨cs',h1,by simpa using h2,fun m hm=>?_⟩
  rw [h3 m (by omega),Array.getElem?_setIfInBounds_ne (by omega)]
theorem Kept.setCells (g:Nat):∀(vs:List Value) (o:Nat){w0 w:World},Kept (·=g) w0 w→Kept (·=g) w0 (w.setCells g o vs)
 | [],_,_,_,h=>h
 | v::r,o,_,_,h=>Kept.setCells g r (o+1) (h.setCell (p:=⟨g,o,none⟩) (fun _=>rfl) v)
theorem run_clear_own {P:Program}(h:OwnAt E w t g cap D){T e:TypeId}(ty:TypeId) (ht:P.underlying T=some (.slice e)){z:Value}(hv:∀w,(zeroValue e).run P w=.ok z w) (hz:z.cells.size=E.k) (hz1:∀u∈z.cells.toList,u.oneCell'=true)
  {i n c:Nat} (hn:i+n≤cap):∃w',(Builtin.clear_ #[T] ty #[.slice (some ⟨g,i * E.k,none⟩) n c]).run P w=.ok (.tuple #[]) w'∧OwnAt E w' t g cap (D.take i)∧Kept (·=g) w w':=by
 rcases n with _|m
 ·refine⟨w,?_,h.take i,Kept.refl _ _⟩
  simp [Builtin.clear_,run_underlying ht]
 ·have hsz:(Builtin.zeroCells z.cells (m+1)).toList.length=(m+1) * E.k:=by simp [Builtin.zeroCells,hz]
  have hone:∀u∈(Builtin.zeroCells z.cells (m+1)).toList,u.oneCell'=true:=by
   intro u hu
   simp only [Builtin.zeroCells,Array.toList_map,List.mem_map] at hu
   obtain⟨k,_,rfl⟩:=hu
   refine hz1 _ ?_
   have hk:k % z.cells.size<z.cells.size:=Nat.mod_lt _ (by rw [hz];exact E.pos)
   rw [getElem!_pos z.cells _ hk]
   exact Array.getElem_mem_toList hk
  have hO:=h
  obtain⟨cs,h1,h2,h3,h4,h5⟩:=h
  have hin:∀j,j<(m+1) * E.k→i * E.k+j<cs.size:=fun j hj=>by
   have:=Nat.mul_le_mul_right E.k hn
   rw [Nat.add_mul] at this
   omega
  have hst:=run_storeCells_cells (P:=P) g (i * E.k) (Builtin.zeroCells z.cells (m+1)).toList 0 w (fun j hj=>by rw [Nat.add_zero,h1.cell];simp [hin j (by omega)]) (fun j hj=>h1.frozen _) hone
  obtain⟨cs',g1,g2,g3⟩:=Blk.setCells (Builtin.zeroCells z.cells (m+1)).toList (i * E.k) h1
  refine⟨w.setCells g (i * E.k) (Builtin.zeroCells z.cells (m+1)).toList,?_,⟨cs',g1,by omega,by rw [List.length_take];omega,h4,?_⟩,Kept.setCells g _ _ (Kept.refl _ _)⟩
  ·simp only [Nat.add_zero] at hst
   simp [Builtin.clear_,run_underlying ht,hv,hst]
  ·intro a x hx j u hu
   rw [List.getElem?_take] at hx
   split at hx
   ·rename_i ha
    have hj:j<E.k:=by rw [←E.len x];exact (List.getElem?_eq_some_iff.1 hu).1
    have:=Nat.mul_le_mul_right E.k (show a+1≤i by omega)
    rw [Nat.add_mul] at this
    rw [g3 _ (by omega)]
    exact h5 a x hx j u hu
   ·cases hx
end
namespace St
end St
end Go.Proofs.YtjohljmpcblpjaaGreatDoor
namespace Go.Proofs.YtjohljmpcblpjaaGreatDoor
open Go.RowKit
section
variable {P:Program} {α:Type} {E:Enc α} {w:World} {t:TypeId} {g cap:Nat} {D:List α}
theorem run_copy_rowK (w:World) (dT sT ty elem:TypeId) (g o dLen dCap:Nat) (a:Addr) (sLen sCap:Nat) (cur:Array Value) (t:TypeId) (cs:List Value){k n:Nat}
  (hu:P.underlying dT=some (.slice elem)) (hs:(P.info? elem).map (·.size)=some k)
  (hg:w.heap[g]?=some (.cells cur t (0,0))) (hn:n=Nat.min sLen dLen) (hcs:cs.length=n * k)
  (hsrc:∀j v,cs[j]?=some v→w.cell? (a.add j)=some v) (hfit:o+cs.length≤cur.size) (h1:∀v∈cs,v.oneCell'=true) :
  (Builtin.copy_ #[dT,sT] ty #[.slice (some ⟨g,o,none⟩) dLen dCap,.slice (some a) sLen sCap]).run P w =
   .ok (goInt n) (w.setRow g (cur.toList.take o++cs++cur.toList.drop (o+cs.length)).toArray):=by
 have hl:=run_loadCells_list (P:=P) w a cs hsrc
 have hst:=run_storeCells_at P g o t cs 0 cur w hg (by simpa using hfit) h1
 cases hq:P.info? elem with
 | none=>simp [hq] at hs
 | some i =>
  have hi:i.size=k:=by simpa [hq] using hs
  rw [hcs] at hl
  simp [Builtin.copy_,run_underlying hu,Builtin.lenOf,Builtin.firstCells,sizeOf,typeInfo,hq,hi,←hn,hl,hst]
theorem run_copy_erase (h:OwnAt E w t g cap D) (dT sT ty elem:TypeId) (hu:P.underlying dT=some (.slice elem)) (hs:(P.info? elem).map (·.size)=some E.k){i:Nat}(hi:i+1<D.length) (c1 c2:Nat) :
  ∃w',(Builtin.copy_ #[dT,sT] ty #[.slice (some ⟨g,i * E.k,none⟩) (D.length-i) c1,.slice (some ⟨g,(i+1) * E.k,none⟩) (D.length-(i+1)) c2]).run P w=.ok (goInt ((D.length-(i+1):Nat):Int)) w' ∧
   OwnAt E w' t g cap (D.eraseIdx i)∧Kept (·=g) w w':=by
 obtain⟨cs,h1,h2,h3,h4,h5⟩:=h
 have hf:=Enc.Row.flat h5
 have hlen:(E.flat (D.drop (i+1))).length=(D.length-(i+1)) * E.k:=by rw [E.flat_len,List.length_drop]
 have hmul:D.length * E.k≤cap * E.k:=Nat.mul_le_mul_right _ h3
 have hsplit:D.length * E.k=(i+1) * E.k+(D.length-(i+1)) * E.k:=by rw [←Nat.add_mul];congr 1;omega
 have hi1:(i+1) * E.k=i * E.k+E.k:=Nat.succ_mul _ _
 refine⟨_,run_copy_rowK w dT sT ty elem g (i * E.k) (D.length-i) c1 ⟨g,(i+1) * E.k,none⟩ (D.length-(i+1)) c2 cs t (E.flat (D.drop (i+1))) (k:=E.k) (n:=D.length-(i+1)) hu hs h1 (by
  rw [show Nat.min (D.length-(i+1)) (D.length-i)=D.length-(i+1) from Nat.min_eq_left (by omega)]) hlen (fun j v hv=>?_) (by rw [hlen];omega) (E.flat_one_cell _),⟨_,Blk.row h1 _,?_,?_,h4,?_⟩,(Kept.refl (fun x=>x=g) w).setRow (g:=g) (fun _=>rfl) _⟩
 ·have hadd:(⟨g,(i+1) * E.k,none⟩:Addr).add j=⟨g,(i+1) * E.k+j,none⟩:=by unfold Addr.add;split <;> simp_all
  obtain⟨i',j',x,hj,hx,hu'⟩:=E.flat_inv hv
  rw [List.getElem?_drop] at hx
  have:=h5 (i+1+i') x hx j' v hu'
  rw [hadd,h1.cell,hj,show (i+1) * E.k+(i' * E.k+j')=(i+1+i') * E.k+j' by rw [Nat.add_mul (i+1)];omega]
  exact this
 ·have : cs.toList.length=cap * E.k:=by simpa using h2
  simp [hlen]
  omega
 ·rw [List.length_eraseIdx];split <;> omega
 ·refine Enc.Row.of_flat ?_
  have hel:(D.eraseIdx i).length=D.length-1:=by rw [List.length_eraseIdx,if_pos (by omega)]
  have he:D.eraseIdx i=D.take i++D.drop (i+1):=List.eraseIdx_eq_take_drop_succ ..
  have ht:cs.toList.take (i * E.k)=E.flat (D.take i):=by
   have:=Enc.Row.flat (Enc.Row.take h5 i)
   rwa [List.length_take,Nat.min_eq_left (by omega)] at this
  rw [hel,he,E.flat_append,ht]
  have hfl:(E.flat (D.take i)).length=i * E.k:=by rw [E.flat_len,List.length_take,Nat.min_eq_left (by omega)]
  have hm1:(D.length-1) * E.k=i * E.k+(D.length-(i+1)) * E.k:=by rw [←Nat.add_mul];congr 1;omega
  rw [List.take_append_of_le_length (by simp [hfl,hlen];omega),List.take_of_length_le (by simp [hfl,hlen];omega)]
theorem run_copy_noneK (w:World) (dT sT ty elem:TypeId) (d a:Option Addr) (dLen dCap sLen sCap:Nat){k:Nat}(hu:P.underlying dT=some (.slice elem)) (hs:(P.info? elem).map (·.size)=some k) (hn:Nat.min sLen dLen=0) :
  (Builtin.copy_ #[dT,sT] ty #[.slice d dLen dCap,.slice a sLen sCap]).run P w=.ok (goInt 0) w:=by
 cases hq:P.info? elem with
 | none=>simp [hq] at hs
 | some i =>
  have hl:∀(x:Addr),(loadCells x 0).run P w=.ok #[] w:=fun x=>by simpa using run_loadCells_list (P:=P) w x [] (by simp)
  cases d <;> cases a <;> simp [Builtin.copy_,run_underlying hu,Builtin.lenOf,Builtin.firstCells,sizeOf,typeInfo,hq,hn,storeCells,hl]
end
end Go.Proofs.YtjohljmpcblpjaaGreatDoor
namespace Go.Proofs.YtjohljmpcblpjaaGreatDoor
open Go.RowKit Go.Proofs.YtjohljmpcblpjaaGreatDoor.St
abbrev zeroOp:Array Value:=#[.int .i64 0,.int .i64 0,.slice none 0 0,.int .i64 0,.int .i64 0,.int .i64 0,.int .i64 0,.int .i64 0,.string ⟨#[]⟩,.slice none 0 0,.int .i64 0]
theorem zero_op:∀w,(zeroValue 62).run Tryz.prog w=.ok (.agg zeroOp) w:=fun _=>by kernel_rfl
theorem size_op:(Tryz.prog.info? 62).map (·.size)=some 11:=by kernel_rfl
end Go.Proofs.YtjohljmpcblpjaaGreatDoor
namespace Go.Proofs.YtjohljmpcblpjaaGreatDoor
open Go.RowKit
section
variable {P:Program} {α:Type} {E:Enc α} {w w':World}
theorem run_storeCells_el (g:Nat) (t:TypeId) (o:Nat):∀(vs:List Value) (i:Nat) (cur:Array Value) (w:World),w.heap[g]?=some (.cells cur t (0,0))→o+i+vs.length≤cur.size→(∀v∈vs,v.oneCell'=true) →
  ∃cur':Array Value,(storeCells ⟨g,o,none⟩ vs i).run P w=.ok () (w.setRow g cur')∧cur'.size=cur.size∧(∀j,j<vs.length→cur'[o+i+j]?=vs[j]?)∧(∀m,(m<o+i∨o+i+vs.length≤m)→cur'[m]?=cur[m]?)
 | [],i,cur,w,hg,hl,_=>by
  refine⟨cur,?_,rfl,fun j hj=>by simp at hj,fun _ _=>rfl⟩
  have hv:w.heap[g]?=some (.cells cur t (0,0)):=hg
  simp only [storeCells]
  show Result.ok () w=_
  congr 1
  unfold World.setRow
  cases w with
  | mk heap tape drawn os output =>
   congr 1
   apply Array.ext
   ·simp
   ·intro k h1 h2
    simp only [Array.getElem_modify]
    split
    ·rename_i hk
     subst hk
     simp only [Array.getElem?_eq_getElem h1,Option.some.injEq] at hv
     rw [hv]
    ·rfl
 | v::rest,i,cur,w,hg,hl,h1=>by
  have hi:o+i<cur.size:=by simp at hl;omega
  have hcell:w.cell? ⟨g,o+i,none⟩=some cur[o+i]:=by simp [World.cell?,hg,hi]
  have hfro:w.frozen? ⟨g,o+i,none⟩=false:=by simp [World.frozen?,hg]
  have hst:(store ((⟨g,o,none⟩:Addr).add i) v).run P w=.ok () (w.setRow g (cur.setIfInBounds (o+i) v)):=by
   rw [Addr.add_lit,run_store P w _ v _ (h1 v (by simp)),hcell]
   simp [hfro,setCell_eq_setRow w g (o+i) cur t (0,0) v hg]
  obtain⟨cur',h2,h3,h4,h5⟩:=run_storeCells_el g t o rest (i+1) (cur.setIfInBounds (o+i) v) (w.setRow g (cur.setIfInBounds (o+i) v)) (setRow_heap w g cur _ t _ hg) (by simp at hl ⊢;omega) (fun x hx=>h1 x (by simp [hx]))
  refine⟨cur',?_,by rw [h3];simp,fun j hj=>?_,fun m hm=>?_⟩
  ·simp only [storeCells,Sem.run_bind,hst,Result.andThen_ok,h2,setRow_setRow]
  ·cases j with
   | zero =>
    rw [Nat.add_zero,h5 (o+i) (.inl (by omega)),Array.getElem?_setIfInBounds_self_of_lt hi]
    rfl
   | succ j =>
    rw [show o+i+(j+1)=o+(i+1)+j by omega,h4 j (by simpa using hj)]
    rfl
  ·rw [h5 m (by simp at hm;omega),Array.getElem?_setIfInBounds_ne (by simp at hm;omega)]
theorem run_storeVar_elem {t ty:TypeId}{g cap i:Nat}{D:List α}{z:α}(hO:OwnAt E w t g cap D) (hi:i<D.length) (hinfo:(P.info? ty).map (·.size)=some E.k) :
  ∃w',(storeVar ty ⟨g,i * E.k,none⟩ (.agg (E.enc z).toArray)).run P w=.ok () w'∧OwnAt E w' t g cap (D.set i z)∧Kept (fun b=>b=g) w w':=by
 obtain⟨cs,h1,h2,h3,h4,h5⟩:=hO
 have hm:=Nat.mul_le_mul_right E.k (show i+1≤cap by omega)
 rw [Nat.add_mul,Nat.one_mul] at hm
 obtain⟨cur',r1,r2,r3,r4⟩:=run_storeCells_el (P:=P) g t (i * E.k) (E.enc z) 0 cs w h1 (by rw [E.len];omega) (E.one z)
 rw [Nat.add_zero] at r3 r4
 refine⟨w.setRow g cur',?_,⟨cur',Blk.row h1 cur',by omega,by simpa using h3,h4,fun n y hy j u hu=>?_⟩,Kept.setRow (Kept.refl (fun b=>b=g) w) (fun _=>rfl) cur'⟩
 ·cases hq:P.info? ty with
  | none=>simp [hq] at hinfo
  | some q =>
   have hs:(E.enc z).length=q.size:=by simp [hq] at hinfo;rw [E.len];omega
   simp [storeVar,sizeOf,typeInfo,hq,Value.cells,hs,r1]
 ·have hj:j<E.k:=by rw [←E.len y];exact (List.getElem?_eq_some_iff.1 hu).1
  by_cases hn:i=n
  ·subst hn
   simp [hi] at hy
   subst hy
   rw [r3 j (by rw [E.len];exact hj)]
   exact hu
  ·rw [List.getElem?_set_ne hn] at hy
   have ho:n * E.k+j<i * E.k∨i * E.k+(E.enc z).length≤n * E.k+j:=by
    rw [E.len]
    rcases Nat.lt_or_gt_of_ne hn with h|h
    ·right
     have:=Nat.mul_le_mul_right E.k (show i+1≤n by omega)
     rw [Nat.add_mul,Nat.one_mul] at this
     omega
    ·left
     have:=Nat.mul_le_mul_right E.k (show n+1≤i by omega)
     rw [Nat.add_mul,Nat.one_mul] at this
     omega
   rw [r4 _ ho]
   exact h5 n y hy j u hu
theorem wpList_store_elem {ops:Array Oper}{rest:List Oper}{o:Oper}{a:Act}{Q:Exit→Act→World→Prop}(hgd:o.guard=none) (ty:TypeId) (x y:Operand) (ho:o.op=.store ty x y){t:TypeId}{g cap i:Nat}{D:List α}(z:α)
  (hx:a.eval x=.pointer (some ⟨g,i * E.k,none⟩)) (hy:a.eval y=.agg (E.enc z).toArray) (hO:OwnAt E w t g cap D) (hi:i<D.length) (hinfo:(P.info? ty).map (·.size)=some E.k)
  (h:∀w',OwnAt E w' t g cap (D.set i z)→Kept (fun b=>b=g) w w'→wpList P ops Q rest (a.put o.dst undef) w'):wpList P ops Q (o::rest) a w :=
 wpList_plain hgd fun _ hK=>by
  obtain⟨w',r1,r2,r3⟩:=run_storeVar_elem (P:=P) (ty:=ty) (z:=z) hO hi hinfo
  unfold Oper.wp execOp
  simp only [ho,hx,hy,Instr.storeAt,Instr.sureAddr,Sem.run_bind,Sem.run_pure,Result.andThen_ok,r1]
  exact hK _ _ (h w' r2 r3)
end
end Go.Proofs.YtjohljmpcblpjaaGreatDoor
namespace Go.Proofs.YtjohljmpcblpjaaGreatDoor
open Go.RowKit Go.Proofs.YtjohljmpcblpjaaGreatDoor.St
structure StV where
 e:Ent
 no:Bool
 tk:Int
def bigP (x:OpV):Prop:=3000<x.deps.n∨3000<x.gone.n∨3000<x.text.size
instance (x:OpV):Decidable (bigP x):=by unfold bigP;infer_instance
def muchP (L:List StV):Prop:=300<L.length∨∃s∈L,bigP s.e.v
instance (L:List StV):Decidable (muchP L):=by unfold muchP;infer_instance
section
open Go.ChangeShapes Go.WideShapes Go.Deep
variable {H:Type} {enc:TypeId × Value→H} {w:World} {base b0:Nat} {spare:Nat→Bool} {held:Bool} {P:Program}
theorem list_of_all {α:Type}:∀(n:Nat) (P:Nat→α→Prop),(∀i,i<n→∃s,P i s)→∃L:List α,L.length=n∧∀(i:Nat) (s:α),L[i]?=some s→P i s
 | 0,_,_=>⟨[],rfl,fun i s hs=>by simp at hs⟩
 | n+1,P,h=>by
  obtain⟨L,hL,hP⟩:=list_of_all n P (fun i hi=>h i (by omega))
  obtain⟨s,hs⟩:=h n (by omega)
  refine⟨L++[s],by simp [hL],fun i t ht=>?_⟩
  by_cases hi:i<L.length
  ·rw [List.getElem?_append_left hi] at ht;exact hP i t ht
  ·rw [List.getElem?_append_right (by omega)] at ht
   have : i-L.length=0:=by have:=(List.getElem?_eq_some_iff.1 ht).1;simp at this;omega
   rw [this] at ht
   simp at ht
   subst ht
   have : i=n:=by omega
   subst this
   exact hs
theorem open_rows {α:Type}(E:Enc α){Q:α→Prop}{t e:TypeId}(ht:P.underlying t=some (.slice e)) (hC:P.cellsOf e=E.k)
  (hel:∀n cs d,DataW.trod enc P w base spare held n e cs=some d→∃x,cs=E.enc x∧Q x) {r:Reach} {v:Value} {d:DataW H} {ps:List MemPlace} (hv:Value.okWide P w r b0 t v)
  (h:DataW.Trod enc P w base spare held t v d ps):∃L,SlAt E w v L∧∀x∈L,Q x:=by
 obtain⟨a,len,cap,rfl⟩:=okWide_slice ht hv
 obtain⟨fuel,hf⟩:=h
 rcases open_slice ht hf with ⟨hcs,_⟩|⟨x,l,c,m,n,D,Pl,hcs,_,hl,hm,hmm,_,hi⟩
 ·simp [Value.cells] at hcs
  obtain⟨rfl,rfl,rfl⟩:=hcs
  exact⟨[],.inl ⟨rfl,rfl⟩,fun x hx=>by simp at hx⟩
 ·simp [Value.cells] at hcs
  obtain⟨rfl,rfl,rfl⟩:=hcs
  have hml:len≤m:=by rw [hmm];split <;> omega
  have hall:∀i,i<len→∃y:α,Q y∧∀(j:Nat) (u:Value),(E.enc y)[j]?=some u→w.cell? (x.add (i * E.k+j))=some u:=by
   intro i hil
   obtain⟨cs,hc,hd⟩:=hi i (by omega)
   obtain⟨y,rfl,hq⟩:=hel _ _ _ hd
   obtain⟨_,_,hat⟩:=World.cells?_some hc
   refine⟨y,hq,fun j u hu=>?_⟩
   have hj:j<P.cellsOf e:=by rw [hC,←E.len y];exact (List.getElem?_eq_some_iff.1 hu).1
   have:=hat j hj
   rw [Go.Deep.add_add,hC] at this
   rw [this,hu]
  obtain⟨L,hL,hS⟩:=list_of_all len _ hall
  subst hL
  have hsp:L≠[]→x.spot=none:=fun hne=>by
   obtain⟨y,r,rfl⟩:∃y r,L=y::r:=by cases L with | nil=>exact absurd rfl hne | cons y r=>exact⟨y,r,rfl⟩
   obtain⟨_,h0⟩:=hS 0 y rfl
   have hlt:0<(E.enc y).length:=by rw [E.len];exact E.pos
   have:=h0 0 _ (List.getElem?_eq_getElem hlt)
   rw [Nat.zero_mul,Nat.zero_add,Addr.add_zero'] at this
   exact World.cell?_spot this
  refine⟨L,.inr ⟨x,cap,rfl,hl,hm,hsp,fun i y hy j u hu=>?_⟩,fun y hy=>?_⟩
  ·have h1:=(hS i y hy).2 j u hu
   have hs:=hsp (by rintro rfl;simp at hy)
   obtain⟨g,o,s⟩:=x
   obtain rfl:s=none:=hs
   rw [Addr.add_lit] at h1
   exact h1
  ·obtain⟨i,hi⟩:=List.getElem?_of_mem hy
   exact (hS i y hi).1
theorem open_part {α:Type}(E:Enc α){Q:α→Prop}{t e:TypeId}(ht:P.underlying t=some (.slice e)) (hC:P.cellsOf e=E.k)
  (hel:∀n cs d,DataW.trod enc P w base spare held n e cs=some d→∃x,cs=E.enc x∧Q x) {n:Nat} {cs:List Value} {d:DataW H × List MemPlace}
  (h:DataW.trod enc P w base spare held n t cs=some d):∃a len cap L,cs=[.slice a len cap]∧SlAt E w (.slice a len cap) L∧∀x∈L,Q x:=by
 rcases open_slice ht h with ⟨rfl,_⟩|⟨x,len,cap,m,n,D,Pl,rfl,_,hl,hm,hmm,_,hi⟩
 ·exact⟨none,0,0,[],rfl,.inl ⟨rfl,rfl⟩,fun x hx=>by simp at hx⟩
 ·have hml:len≤m:=by rw [hmm];split <;> omega
  have hall:∀i,i<len→∃y:α,Q y∧∀(j:Nat) (u:Value),(E.enc y)[j]?=some u→w.cell? (x.add (i * E.k+j))=some u:=by
   intro i hil
   obtain⟨cs,hc,hd⟩:=hi i (by omega)
   obtain⟨y,rfl,hq⟩:=hel _ _ _ hd
   obtain⟨_,_,hat⟩:=World.cells?_some hc
   refine⟨y,hq,fun j u hu=>?_⟩
   have hj:j<P.cellsOf e:=by rw [hC,←E.len y];exact (List.getElem?_eq_some_iff.1 hu).1
   have:=hat j hj
   rw [Go.Deep.add_add,hC] at this
   rw [this,hu]
  obtain⟨L,hL,hS⟩:=list_of_all len _ hall
  subst hL
  have hsp:L≠[]→x.spot=none:=fun hne=>by
   obtain⟨y,r,rfl⟩:∃y r,L=y::r:=by cases L with | nil=>exact absurd rfl hne | cons y r=>exact⟨y,r,rfl⟩
   obtain⟨_,h0⟩:=hS 0 y rfl
   have hlt:0<(E.enc y).length:=by rw [E.len];exact E.pos
   have:=h0 0 _ (List.getElem?_eq_getElem hlt)
   rw [Nat.zero_mul,Nat.zero_add,Addr.add_zero'] at this
   exact World.cell?_spot this
  refine⟨some x,L.length,cap,L,rfl,.inr ⟨x,cap,rfl,hl,hm,hsp,fun i y hy j u hu=>?_⟩,fun y hy=>?_⟩
  ·have h1:=(hS i y hy).2 j u hu
   have hs:=hsp (by rintro rfl;simp at hy)
   obtain⟨g,o,s⟩:=x
   obtain rfl:s=none:=hs
   rw [Addr.add_lit] at h1
   exact h1
  ·obtain⟨i,hi⟩:=List.getElem?_of_mem hy
   exact (hS i y hi).1
end
section
open Go.ChangeShapes Go.WideShapes Go.Deep
variable {H:Type} {enc:TypeId × Value→H} {w:World} {base b0:Nat} {spare:Nat→Bool} {held:Bool}
theorem fields_dot2:∃f0 f1:Field,Tryz.prog.underlying 29=some (.struct #[f0,f1])∧f0.offset=0∧f1.offset=1∧f0.type=3∧f1.type=3 :=
 ⟨_,_,Tryz.underlying29,rfl,rfl,rfl,rfl⟩
theorem fields_id2:∃f0 f1:Field,Tryz.prog.underlying 59=some (.struct #[f0,f1])∧f0.offset=0∧f1.offset=1∧f0.type=3∧f1.type=3 :=
 ⟨_,_,Tryz.underlying59,rfl,rfl,rfl,rfl⟩
theorem fields_run2:∃f0 f1:Field,Tryz.prog.underlying 89=some (.struct #[f0,f1])∧f0.offset=0∧f1.offset=2∧f0.type=59∧f1.type=3 :=
 ⟨_,_,Tryz.underlying89,rfl,rfl,rfl,rfl⟩
theorem fields_op2:∃f0 f1 f2 f3 f4 f5 f6 f7:Field,Tryz.prog.underlying 62=some (.struct #[f0,f1,f2,f3,f4,f5,f6,f7])∧(f0.offset=0∧f1.offset=2∧f2.offset=3∧f3.offset=4∧f4.offset=6∧f5.offset=8∧f6.offset=9∧f7.offset=10) ∧
  f0.type=29∧f1.type=24∧f2.type=3∧f3.type=59∧f4.type=59∧f5.type=9∧f6.type=60∧f7.type=3 :=
 ⟨_,_,_,_,_,_,_,_,Tryz.underlying62,⟨rfl,rfl,rfl,rfl,rfl,rfl,rfl,rfl⟩,rfl,rfl,rfl,rfl,rfl,rfl,rfl,rfl⟩
theorem cells_int:Tryz.prog.cellsOf 3=1:=by kernel_rfl
theorem cells_string:Tryz.prog.cellsOf 9=1:=by kernel_rfl
theorem cells_id:Tryz.prog.cellsOf 59=2:=by kernel_rfl
theorem cells_dot:Tryz.prog.cellsOf 29=2:=by kernel_rfl
theorem cells_run:Tryz.prog.cellsOf 89=3:=by kernel_rfl
theorem cells_op:Tryz.prog.cellsOf 62=11:=by kernel_rfl
theorem cells_vec:Tryz.prog.cellsOf 24=1:=by kernel_rfl
theorem cells_runs:Tryz.prog.cellsOf 60=1:=by kernel_rfl
theorem elem_dot2 (n:Nat) (cs:List Value) (d:DataW H × List MemPlace) (h:DataW.trod enc Tryz.prog w base spare held n 29 cs=some d):∃x:Dot,cs=dotE.enc x∧I64 x.site∧I64 x.seq:=by
 obtain⟨f0,f1,hs,o0,o1,e0,e1⟩:=fields_dot2
 obtain⟨ys,n',_,_,hlen,hyl,hg⟩:=DataW.trod_struct hs h
 rw [cells_dot] at hlen
 match cs,hlen with
 | [c0,c1],_ =>
  match ys,hyl with
  | [y0,y1],_ =>
   have g0:=hg 0 f0 rfl
   have g1:=hg 1 f1 rfl
   rw [o0,e0,cells_int] at g0
   rw [o1,e1,cells_int] at g1
   obtain⟨n0,z0,_,w0⟩:=DataW.trod_int Tryz.underlying3 g0
   obtain⟨n1,z1,_,w1⟩:=DataW.trod_int Tryz.underlying3 g1
   simp at z0 z1
   subst z0 z1
   exact⟨⟨n0,n1⟩,rfl,bounds_i64 w0,bounds_i64 w1⟩
theorem elem_id2 (n:Nat) (cs:List Value) (d:DataW H × List MemPlace) (h:DataW.trod enc Tryz.prog w base spare held n 59 cs=some d):∃x:ID,cs=idE.enc x∧I64 x.t∧I64 x.s:=by
 obtain⟨f0,f1,hs,o0,o1,e0,e1⟩:=fields_id2
 obtain⟨ys,n',_,_,hlen,hyl,hg⟩:=DataW.trod_struct hs h
 rw [cells_id] at hlen
 match cs,hlen with
 | [c0,c1],_ =>
  match ys,hyl with
  | [y0,y1],_ =>
   have g0:=hg 0 f0 rfl
   have g1:=hg 1 f1 rfl
   rw [o0,e0,cells_int] at g0
   rw [o1,e1,cells_int] at g1
   obtain⟨n0,z0,_,w0⟩:=DataW.trod_int Tryz.underlying3 g0
   obtain⟨n1,z1,_,w1⟩:=DataW.trod_int Tryz.underlying3 g1
   simp at z0 z1
   subst z0 z1
   exact⟨⟨n0,n1⟩,rfl,bounds_i64 w0,bounds_i64 w1⟩
theorem elem_run2 (n:Nat) (cs:List Value) (d:DataW H × List MemPlace) (h:DataW.trod enc Tryz.prog w base spare held n 89 cs=some d):∃x:Run,cs=runE.enc x∧x.In:=by
 obtain⟨f0,f1,hs,o0,o1,e0,e1⟩:=fields_run2
 obtain⟨ys,n',_,_,hlen,hyl,hg⟩:=DataW.trod_struct hs h
 rw [cells_run] at hlen
 match cs,hlen with
 | [c0,c1,c2],_ =>
  match ys,hyl with
  | [y0,y1],_ =>
   have g0:=hg 0 f0 rfl
   have g1:=hg 1 f1 rfl
   rw [o0,e0,cells_id] at g0
   rw [o1,e1,cells_int] at g1
   obtain⟨x,hx,hi⟩:=elem_id2 _ _ _ g0
   obtain⟨n1,z1,_,w1⟩:=DataW.trod_int Tryz.underlying3 g1
   simp at z1
   subst z1
   simp [idE] at hx
   obtain⟨rfl,rfl⟩:=hx
   exact⟨⟨x,n1⟩,rfl,hi.1,hi.2,bounds_i64 w1⟩
structure OpIn (w:World) (e:Ent):Prop where
 at_:e.At w
 runs:∀r∈e.G,r.In
 text:e.v.text.size≤maxLen
 dots:∀d∈e.D,I64 d.site∧I64 d.seq
 nums:I64 e.v.dot.site∧I64 e.v.dot.seq∧I64 e.v.kind∧I64 e.v.site
 ids:(I64 e.v.id.t∧I64 e.v.id.s)∧I64 e.v.ref.t∧I64 e.v.ref.s
theorem elem_op2 (n:Nat) (cs:List Value) (d:DataW H × List MemPlace) (h:DataW.trod enc Tryz.prog w base spare held n 62 cs=some d):∃e:Ent,cs=entE.enc e∧OpIn w e:=by
 obtain⟨f0,f1,f2,f3,f4,f5,f6,f7,hs,⟨o0,o1,o2,o3,o4,o5,o6,o7⟩,e0,e1,e2,e3,e4,e5,e6,e7⟩:=fields_op2
 obtain⟨ys,n',_,_,hlen,hyl,hg⟩:=DataW.trod_struct hs h
 rw [cells_op] at hlen
 match cs,hlen with
 | [c0,c1,c2,c3,c4,c5,c6,c7,c8,c9,c10],_ =>
  match ys,hyl with
  | [y0,y1,y2,y3,y4,y5,y6,y7],_ =>
   have g0:=hg 0 f0 rfl
   have g1:=hg 1 f1 rfl
   have g2:=hg 2 f2 rfl
   have g3:=hg 3 f3 rfl
   have g4:=hg 4 f4 rfl
   have g5:=hg 5 f5 rfl
   have g6:=hg 6 f6 rfl
   have g7:=hg 7 f7 rfl
   rw [o0,e0,cells_dot] at g0
   rw [o1,e1,cells_vec] at g1
   rw [o2,e2,cells_int] at g2
   rw [o3,e3,cells_id] at g3
   rw [o4,e4,cells_id] at g4
   rw [o5,e5,cells_string] at g5
   rw [o6,e6,cells_runs] at g6
   rw [o7,e7,cells_int] at g7
   obtain⟨x0,z0,hx0⟩:=elem_dot2 _ _ _ g0
   obtain⟨a1,l1,k1,L1,z1,hs1,hx1⟩:=open_part dotE Tryz.underlying24 cells_dot elem_dot2 g1
   obtain⟨n2,z2,_,w2⟩:=DataW.trod_int Tryz.underlying3 g2
   obtain⟨x3,z3,hx3⟩:=elem_id2 _ _ _ g3
   obtain⟨x4,z4,hx4⟩:=elem_id2 _ _ _ g4
   obtain⟨s5,z5,_,w5⟩:=DataW.trod_string Tryz.underlying9 g5
   obtain⟨a6,l6,k6,L6,z6,hs6,hx6⟩:=open_part runE Tryz.underlying60 cells_run elem_run2 g6
   obtain⟨n7,z7,_,w7⟩:=DataW.trod_int Tryz.underlying3 g7
   simp [dotE] at z0
   simp at z1 z2 z5 z6 z7
   simp [idE] at z3 z4
   obtain⟨rfl,rfl⟩:=z0
   obtain⟨rfl,rfl⟩:=z3
   obtain⟨rfl,rfl⟩:=z4
   subst z1 z2 z5 z6 z7
   exact⟨⟨⟨x0,⟨a1,l1,k1⟩,n2,x3,x4,s5,⟨a6,l6,k6⟩,n7⟩,L1,L6⟩,rfl,⟨⟨hs1,hs6⟩,hx6,w5,hx1,⟨hx0.1,hx0.2,bounds_i64 w2,bounds_i64 w7⟩,hx3,hx4⟩⟩
end
end Go.Proofs.YtjohljmpcblpjaaGreatDoor
