/- Words for memory: a block known whole; what a step keeps; maps keyed by numbers. They speak of no program of their own. Parts of the proof. -/
import Derived.WalkKit
import Derived.Deep.Draws
import Derived.Sort.Grow
import Derived.Laws.StructEq
import Derived.Maps.RangeRun
namespace Go.Proofs.YtjohljmpcblpjaaGreatDoor
open Go.RowKit
def Blk (w:World) (g:Nat) (t:TypeId) (cs:Array Value):Prop:=w.heap[g]?=some (.cells cs t (0,0))
section
variable {w w':World} {g:Nat} {t:TypeId} {cs:Array Value}
theorem Blk.lt (h:Blk w g t cs):g<w.heap.size:=by
 rcases Nat.lt_or_ge g w.heap.size with hlt|hge
 ·exact hlt
 ·unfold Blk at h;rw [Array.getElem?_eq_none hge] at h;cases h
theorem Blk.cell (h:Blk w g t cs) (i:Nat):w.cell? ⟨g,i,none⟩=cs[i]?:=cell_of_row w g i cs t (0,0) h
theorem Blk.cell' (h:Blk w g t cs){i:Nat}{v:Value}(hv:cs[i]?=some v):w.cell? ⟨g,i,none⟩=some v:=(h.cell i).trans hv
theorem Blk.frozen (h:Blk w g t cs) (i:Nat):w.frozen? ⟨g,i,none⟩=false:=by
 unfold Blk at h
 simp [World.frozen?,h]
theorem Blk.new (w:World) (t:TypeId) (cs:Array Value):Blk (w.alloc (.cells cs t)) w.heap.size t cs:=heap_alloc_new w _
theorem Blk.drewN (h:Blk w g t cs) (n:Nat):Blk (w.drewN n) g t cs:=h
theorem Blk.alloc (h:Blk w g t cs) (o:Obj):Blk (w.alloc o) g t cs:=(Below.heap_alloc w o g h.lt).trans h
theorem Blk.set_ (h:Blk w g t cs) (i:Nat) (u:Value):Blk (w.setCell ⟨g,i,none⟩ u) g t (cs.setIfInBounds i u):=by
 unfold Blk at h ⊢
 simp [World.setCell,Array.getElem?_modify,h]
theorem Blk.far (h:Blk w g t cs){p:Addr}(hp:g≠p.block) (u:Value):Blk (w.setCell p u) g t cs:=(Below.heap_setCell w p u g hp).trans h
theorem Blk.ne_ {g':Nat}{t':TypeId}{cs':Array Value}(h:Blk w g t cs) (h':Blk w g' t' cs') (hne:t≠t'):g≠g':=by
 rintro rfl
 unfold Blk at h h'
 rw [h] at h'
 injection h' with h'
 injection h' with _ ht
 exact hne ht
end
theorem own_blk_ne {w:World}{g:Nat}{t:TypeId}{cs:Array Value}{base:Nat}{e:TypeId}{size n:Nat}{v:Value}{xs:List Value}(h:w.ownsRow base e size v n xs) (hg:Blk w g t cs) (hne:e≠t):v.ownBlock≠some g:=by
 rcases h.2 with ⟨rfl,_⟩|⟨g',cap,cur,rfl,_,hh,_⟩
 ·simp [Value.ownBlock]
 ·intro he
  have : g'=g:=by simpa [Value.ownBlock] using he
  subst this
  exact Blk.ne_ (t:=e) hh hg hne rfl
theorem Blk.grown {w w':World}{g:Nat}{t:TypeId}{cs:Array Value}{row:Option Nat}(h:Blk w g t cs) (hb:w.grownBy w' row) (hg:row≠some g):Blk w' g t cs:=(hb.block g h.lt (fun e=>hg e.symm)).trans h
structure Kept (S:Nat→Prop) (w w':World):Prop where
 os:w'.os=w.os
 tape:w'.tape=w.tape
 output:w'.output=w.output
 size:w.heap.size≤w'.heap.size
 block:∀k,k<w.heap.size→¬S k→w'.heap[k]?=w.heap[k]?
section
variable {S S':Nat→Prop} {w w' w'':World}
theorem Kept.refl (S:Nat→Prop) (w:World):Kept S w w:=⟨rfl,rfl,rfl,Nat.le_refl _,fun _ _ _=>rfl⟩
theorem Kept.trans (h:Kept S w w') (k:Kept S' w' w'') (hs:∀i,i<w.heap.size→S' i→S i):Kept S w w'' :=
 ⟨k.os.trans h.os,k.tape.trans h.tape,k.output.trans h.output,Nat.le_trans h.size k.size,
  fun i hi hn=>(k.block i (Nat.lt_of_lt_of_le hi h.size) fun x=>hn (hs i hi x)).trans (h.block i hi hn)⟩
theorem Kept.mono (h:Kept S w w') (hs:∀i,i<w.heap.size→S i→S' i):Kept S' w w' :=
 ⟨h.os,h.tape,h.output,h.size,fun i hi hn=>h.block i hi fun x=>hn (hs i hi x)⟩
theorem Kept.drewN (h:Kept S w w') (n:Nat):Kept S w (w'.drewN n):=⟨h.os,h.tape,h.output,h.size,h.block⟩
theorem Kept.drew (h:Kept S w w'):Kept S w w'.drew:=⟨h.os,h.tape,h.output,h.size,h.block⟩
theorem Kept.alloc (h:Kept S w w') (o:Obj):Kept S w (w'.alloc o) :=
 ⟨h.os,h.tape,h.output,Nat.le_trans h.size (by simp),fun i hi hn=>(Below.heap_alloc w' o i (Nat.lt_of_lt_of_le hi h.size)).trans (h.block i hi hn)⟩
theorem Kept.setCell (h:Kept S w w'){p:Addr}(hp:p.block<w.heap.size→S p.block) (u:Value):Kept S w (w'.setCell p u) :=
 ⟨h.os,h.tape,h.output,by simpa [World.setCell] using h.size,fun i hi hn=>(Below.heap_setCell w' p u i (by rintro rfl;exact hn (hp hi))).trans (h.block i hi hn)⟩
theorem Kept.grown {row:Option Nat}(h:Kept S w w') (hg:w'.grownBy w'' row) (hr:∀k,row=some k→k<w.heap.size→S k):Kept S w w'' :=
 ⟨hg.os.trans h.os,hg.tape.trans h.tape,hg.output.trans h.output,Nat.le_trans h.size hg.size,
  fun i hi hn=>(hg.block i (Nat.lt_of_lt_of_le hi h.size) (fun e=>hn (hr i e.symm hi))).trans (h.block i hi hn)⟩
theorem Kept.blk {g:Nat}{t:TypeId}{cs:Array Value}(h:Kept S w w') (hg:¬S g) (hb:Blk w g t cs):Blk w' g t cs:=(h.block g hb.lt hg).trans hb
theorem Kept.below {B:Nat}(h:Kept S w w') (hB:B≤w.heap.size) (hs:∀i,i<B→¬S i):Below B w w' :=
 ⟨h.os,h.tape,h.output,h.size,fun k hk=>h.block k (by omega) (hs k hk)⟩
end
/-! ### maps keyed by int -/
section
variable {P:Program} {w:World} {T kt et:TypeId} {b:Nat} {kvs:List (Int × Value)} {k:Int}
end
end Go.Proofs.YtjohljmpcblpjaaGreatDoor
namespace Go.Proofs.YtjohljmpcblpjaaGreatDoor
open Go.RowKit
/-! ### growth -/
theorem Kept.of_grow {w:World}(q:Nat) (os:Array Obj):Kept (fun _=>False) w (Sort.grow (w.drewN q) os) :=
 ⟨rfl,rfl,rfl,by simp [Sort.grow,World.drewN],fun k hk _=>by simp [Sort.grow,World.drewN,Array.getElem?_append,hk]⟩
theorem grow_alloc (w:World) (o:Obj):w.alloc o=Sort.grow w #[o]:=by
 show ({ w with heap:=w.heap.push o }:World)={ w with heap:=w.heap++#[o] }
 rw [Array.push_eq_append]
def Grew (w w':World):Prop:=∃q os,w'=Sort.grow (w.drewN q) os
section
variable {w w' w'':World}
theorem Grew.refl (w:World):Grew w w:=⟨0,#[],by rw [Sort.grow_empty];rfl⟩
theorem Grew.kept (h:Grew w w'):Kept (fun _=>False) w w':=by obtain⟨q,os,rfl⟩:=h;exact Kept.of_grow q os
theorem Grew.box (h:Grew w w'){g:Nat}{t:TypeId}{cs:Array Value}(hb:Blk w g t cs):Blk w' g t cs:=h.kept.blk (fun h=>h) hb
theorem Grew.size (h:Grew w w'):w.heap.size≤w'.heap.size:=h.kept.size
theorem Grew.drewN (h:Grew w w') (n:Nat):Grew w (w'.drewN n):=by
 obtain⟨q,os,rfl⟩:=h
 exact⟨q+n,os,by simp [Sort.grow,World.drewN,Nat.add_assoc]⟩
theorem Grew.drew (h:Grew w w'):Grew w w'.drew:=h.drewN 1
theorem Grew.alloc (h:Grew w w') (o:Obj):Grew w (w'.alloc o):=by
 obtain⟨q,os,rfl⟩:=h
 exact⟨q,os++#[o],by rw [grow_alloc,Sort.grow_grow]⟩
theorem Grew.setCell (h:Grew w w'){p:Addr}(hp:w.heap.size≤p.block) (u:Value):Grew w (w'.setCell p u):=by
 obtain⟨q,os,rfl⟩:=h
 have hh:((Sort.grow (w.drewN q) os).setCell p u).heap=w.heap++((Sort.grow (w.drewN q) os).setCell p u).heap.extract w.heap.size ((Sort.grow (w.drewN q) os).setCell p u).heap.size:=by
  have hs:((Sort.grow (w.drewN q) os).setCell p u).heap.size=w.heap.size+os.size:=by simp [World.setCell,Sort.grow,World.drewN]
  apply Array.ext
  ·simp [hs]
  ·intro i h1 h2
   rw [Array.getElem_append]
   split
   ·rename_i hi
    simp only [World.setCell,Sort.grow,World.drewN,Array.getElem_modify]
    rw [if_neg (by omega),Array.getElem_append_left hi]
   ·rename_i hi
    rw [Array.getElem_extract]
    congr 1
    omega
 obtain⟨os',hh⟩:∃os',((Sort.grow (w.drewN q) os).setCell p u).heap=w.heap++os':=⟨_,hh⟩
 refine⟨q,os',?_⟩
 have e:(Sort.grow (w.drewN q) os).setCell p u={ w.drewN q with heap:=((Sort.grow (w.drewN q) os).setCell p u).heap }:=rfl
 rw [e,hh]
 rfl
theorem Grew.trans (h:Grew w w') (k:Grew w' w''):Grew w w'':=by
 obtain⟨q,os,rfl⟩:=k
 obtain⟨q2,os2,h2⟩:=h.drewN q
 exact⟨q2,os2++os,by rw [h2,Sort.grow_grow]⟩
end
end Go.Proofs.YtjohljmpcblpjaaGreatDoor
namespace Go.Proofs.YtjohljmpcblpjaaGreatDoor
open Go.RowKit
structure KeyE (P:Program) (kt:TypeId) (κ:Type) [DecidableEq κ] where
 enc:κ→Value
 check:∀(e:Bool) (k:κ) (w:World),(Instr.checkKey e 10000 kt (enc k)).run P w=.ok () w
 now:∀(k x:κ) (d:TypeDesc),P.underlying kt=some d→Instr.sameNow d (enc k) (enc x)=none∨Instr.sameNow d (enc k) (enc x)=some (decide (k=x))
 ask:∀(k x:κ) (w:World),(Op.equal kt (enc k) (enc x)).run P w=.ok (decide (k=x)) w
 bits:∀k,Instr.sameBits 10000 (enc k) (enc k)=true
 und:∃d,P.underlying kt=some d
section
variable {κ:Type} [DecidableEq κ]
def getK (kvs:List (κ × Value)) (k:κ):Option Value:=(kvs.find? fun x=>decide (x.1=k)).map (·.2)
def putK:List (κ × Value)→κ→Value→List (κ × Value)
 | [],k,v=>[(k,v)]
 | x::r,k,v=>if x.1=k then (k,v)::r else x::putK r k v
def delK:List (κ × Value)→κ→List (κ × Value)
 | [],_=>[]
 | x::r,k=>if x.1=k then r else x::delK r k
def findK:List (κ × Value)→κ→Nat→Option (Nat × Value)
 | [],_,_=>none
 | x::r,k,i=>if x.1=k then some (i,x.2) else findK r k (i+1)
theorem findK_get (kvs:List (κ × Value)) (k:κ):∀i,(findK kvs k i).map (·.2)=getK kvs k:=by
 induction kvs with
 | nil=>intro i;rfl
 | cons x r ih =>
  intro i
  by_cases h:x.1=k
  ·simp [findK,getK,h]
  ·have:=ih (i+1)
   simp only [getK] at this
   simp [findK,getK,h,this]
theorem findK_spec (kvs:List (κ × Value)) (k:κ):∀i n v,findK kvs k i=some (n,v)→i≤n∧∃x,kvs[n-i]?=some x∧x.1=k∧x.2=v:=by
 induction kvs with
 | nil=>intro i n v h;simp [findK] at h
 | cons x r ih =>
  intro i n v h
  by_cases hx:x.1=k
  ·simp [findK,hx] at h
   obtain⟨rfl,rfl⟩:=h
   exact⟨Nat.le_refl _,x,by simp,hx,rfl⟩
  ·simp [findK,hx] at h
   obtain⟨h1,y,h2,h3,h4⟩:=ih _ _ _ h
   exact⟨by omega,y,by rw [show n-i=(n-(i+1))+1 by omega];simpa using h2,h3,h4⟩
theorem putK_found (kvs:List (κ × Value)) (k:κ) (v:Value):∀i n u,findK kvs k i=some (n,u)→putK kvs k v=kvs.set (n-i) (k,v):=by
 induction kvs with
 | nil=>intro i n u h;simp [findK] at h
 | cons x r ih =>
  intro i n u h
  by_cases hx:x.1=k
  ·simp [findK,hx] at h
   obtain⟨rfl,_⟩:=h
   simp [putK,hx]
  ·simp [findK,hx] at h
   have:=findK_spec r k _ _ _ h
   rw [show n-i=(n-(i+1))+1 by omega]
   simp [putK,hx,ih _ _ _ h]
theorem putK_none (kvs:List (κ × Value)) (k:κ) (v:Value):∀i,findK kvs k i=none→putK kvs k v=kvs++[(k,v)]:=by
 induction kvs with
 | nil=>intro i h;rfl
 | cons x r ih =>
  intro i h
  by_cases hx:x.1=k
  ·simp [findK,hx] at h
  ·simp [findK,hx] at h
   simp [putK,hx,ih _ h]
theorem delK_found (kvs:List (κ × Value)) (k:κ):∀i n u,findK kvs k i=some (n,u)→delK kvs k=kvs.eraseIdx (n-i):=by
 induction kvs with
 | nil=>intro i n u h;simp [findK] at h
 | cons x r ih =>
  intro i n u h
  by_cases hx:x.1=k
  ·simp [findK,hx] at h
   obtain⟨rfl,_⟩:=h
   simp [delK,hx]
  ·simp [findK,hx] at h
   have:=findK_spec r k _ _ _ h
   rw [show n-i=(n-(i+1))+1 by omega]
   simp [delK,hx,ih _ _ _ h]
theorem delK_none (kvs:List (κ × Value)) (k:κ):∀i,findK kvs k i=none→delK kvs k=kvs:=by
 induction kvs with
 | nil=>intro i h;rfl
 | cons x r ih =>
  intro i h
  by_cases hx:x.1=k
  ·simp [findK,hx] at h
  ·simp [findK,hx] at h
   simp [delK,hx,ih _ h]
theorem findK_none_iff (kvs:List (κ × Value)) (k:κ) (i:Nat):findK kvs k i=none↔getK kvs k=none:=by
 rw [←findK_get kvs k i];cases findK kvs k i <;> simp
theorem getK_put (kvs:List (κ × Value)) (k x:κ) (v:Value):getK (putK kvs k v) x=if k=x then some v else getK kvs x:=by
 induction kvs with
 | nil=>by_cases h:k=x <;> simp [putK,getK,h]
 | cons y r ih =>
  unfold putK
  by_cases hy:y.1=k
  ·rw [if_pos hy]
   by_cases h:k=x
   ·simp [getK,h]
   ·have : ¬y.1=x:=fun e=>h (hy.symm.trans e)
    simp [getK,h,this]
  ·rw [if_neg hy]
   by_cases hyx:y.1=x
   ·have : ¬k=x:=fun e=>hy (hyx.trans e.symm)
    simp [getK,hyx,this]
   ·unfold getK at ih ⊢
    rw [List.find?_cons_of_neg (by simpa using hyx),ih,List.find?_cons_of_neg (by simpa using hyx)]
def KeysOk (kvs:List (κ × Value)):Prop:=(kvs.map (·.1)).Nodup
theorem getK_none {kvs:List (κ × Value)}{x:κ}:getK kvs x=none↔x∉kvs.map (·.1):=by
 induction kvs with
 | nil=>simp [getK]
 | cons y r ih =>
  by_cases h:y.1=x
  ·simp [getK,h]
  ·unfold getK at ih ⊢
   rw [List.find?_cons_of_neg (by simpa using h),ih]
   simp only [List.map_cons,List.mem_cons,not_or]
   exact⟨fun h1=>⟨fun e=>h e.symm,h1⟩,fun h1=>h1.2⟩
theorem KeysOk.put {kvs:List (κ × Value)}(h:KeysOk kvs) (k:κ) (v:Value):KeysOk (putK kvs k v):=by
 unfold KeysOk at h ⊢
 induction kvs with
 | nil=>simp [putK]
 | cons y r ih =>
  simp only [List.map_cons,List.nodup_cons] at h
  unfold putK
  by_cases hy:y.1=k
  ·rw [if_pos hy];simp only [List.map_cons,List.nodup_cons];rw [←hy];exact h
  ·rw [if_neg hy]
   simp only [List.map_cons,List.nodup_cons]
   refine⟨?_,ih h.2⟩
   rw [←getK_none,getK_put,if_neg (fun e=>hy e.symm),getK_none]
   exact h.1
theorem getK_del {kvs:List (κ × Value)}(h:KeysOk kvs) (k x:κ):getK (delK kvs k) x=if k=x then none else getK kvs x:=by
 unfold KeysOk at h
 induction kvs with
 | nil=>simp [delK,getK]
 | cons y r ih =>
  simp only [List.map_cons,List.nodup_cons] at h
  unfold delK
  by_cases hy:y.1=k
  ·rw [if_pos hy]
   by_cases hx:k=x
   ·rw [if_pos hx,getK_none,←hx,←hy];exact h.1
   ·rw [if_neg hx]
    have : ¬y.1=x:=fun e=>hx (hy.symm.trans e)
    unfold getK
    rw [List.find?_cons_of_neg (by simpa using this)]
  ·rw [if_neg hy]
   by_cases hyx:y.1=x
   ·have : ¬k=x:=fun e=>hy (hyx.trans e.symm)
    simp [getK,hyx,this]
   ·have:=ih h.2
    unfold getK at this ⊢
    rw [List.find?_cons_of_neg (by simpa using hyx),this,List.find?_cons_of_neg (by simpa using hyx)]
theorem KeysOk.del {kvs:List (κ × Value)}(h:KeysOk kvs) (k:κ):KeysOk (delK kvs k):=by
 unfold KeysOk at h ⊢
 have : (delK kvs k).map (·.1) |>.Sublist (kvs.map (·.1)):=by
  refine List.Sublist.map _ ?_
  clear h
  induction kvs with
  | nil=>exact List.Sublist.refl _
  | cons y r ih =>
   unfold delK
   split
   ·exact List.sublist_cons_self _ _
   ·exact ih.cons_cons _
 exact this.nodup h
def MapK {P:Program}{kt:TypeId}(K:KeyE P kt κ) (w:World) (b:Nat) (kvs:List (κ × Value)):Prop :=
 ∃es clk,w.heap[b]?=some (.map es clk)∧es.toList.map (fun e=>(e.key,e.val))=kvs.map (fun x=>(K.enc x.1,x.2))
variable {P:Program} {w:World} {T kt et:TypeId} {K:KeyE P kt κ} {b:Nat} {kvs:List (κ × Value)} {k:κ}
theorem run_findAsking:∀(l:List MapEntry) (kvs:List (κ × Value)) (i:Nat),l.map (fun e=>(e.key,e.val))=kvs.map (fun x=>(K.enc x.1,x.2))→(Instr.findAsking kt (K.enc k) l i).run P w=.ok (findK kvs k i) w:=by
 intro l
 induction l with
 | nil=>intro kvs i h;cases kvs with | nil=>simp [Instr.findAsking,findK] | cons x r=>simp at h
 | cons e l ih =>
  intro kvs i h
  cases kvs with
  | nil=>simp at h
  | cons x r =>
   simp only [List.map_cons,List.cons.injEq,Prod.mk.injEq] at h
   obtain⟨⟨h1,h2⟩,h3⟩:=h
   have ha:=K.ask k x.1 w
   rw [←h1] at ha
   by_cases hx:x.1=k
   ·simp [Instr.findAsking,ha,hx,findK,h2]
   ·have hx':¬k=x.1:=fun e=>hx e.symm
    simp [Instr.findAsking,ha,hx,hx',findK,ih r (i+1) h3]
theorem findNow_any {d:TypeDesc}(hd:P.underlying kt=some d):∀(l:List MapEntry) (kvs:List (κ × Value)) (i:Nat),l.map (fun e=>(e.key,e.val))=kvs.map (fun x=>(K.enc x.1,x.2)) →
  Instr.findNow d (K.enc k) l i=none∨Instr.findNow d (K.enc k) l i=some (findK kvs k i):=by
 intro l
 induction l with
 | nil=>intro kvs i h;cases kvs with | nil=>exact .inr rfl | cons x r=>simp at h
 | cons e l ih =>
  intro kvs i h
  cases kvs with
  | nil=>simp at h
  | cons x r =>
   simp only [List.map_cons,List.cons.injEq,Prod.mk.injEq] at h
   obtain⟨⟨h1,h2⟩,h3⟩:=h
   have hn:=K.now k x.1 d hd
   rw [←h1] at hn
   rcases hn with hn|hn
   ·left;simp [Instr.findNow,hn]
   ·by_cases hx:x.1=k
    ·right;simp [Instr.findNow,hn,hx,findK,h2]
    ·have hx':¬k=x.1:=fun e=>hx e.symm
     rcases ih r (i+1) h3 with h4|h4
     ·left;simp [Instr.findNow,hn,hx',h4]
     ·right;simp [Instr.findNow,hn,hx,hx',findK,h4]
theorem run_findKey_any {es:List MapEntry}(he:es.map (fun e=>(e.key,e.val))=kvs.map (fun x=>(K.enc x.1,x.2))):(Instr.findKey kt (K.enc k) es).run P w=.ok (findK kvs k 0) w:=by
 obtain⟨d,hd⟩:=K.und
 rcases findNow_any (k:=k) hd es kvs 0 he with h|h
 ·simp [Instr.findKey,run_underlying hd,h,run_findAsking es kvs 0 he]
 ·simp [Instr.findKey,run_underlying hd,h]
theorem run_lookupK_ok (ht:P.underlying T=some (.map kt et)) (hm:MapK K w b kvs){v:Value}(hv:getK kvs k=some v) :
  (Instr.lookup T (.map (some b)) (K.enc k) true).run P w=.ok (.tuple #[v,.bool true]) w:=by
 obtain⟨es,clk,hb,he⟩:=hm
 have hg:=findK_get kvs k 0
 rw [hv] at hg
 obtain⟨⟨n,u⟩,hf,rfl⟩:∃x,findK kvs k 0=some x∧x.2=v:=by cases h:findK kvs k 0 <;> simp_all
 simp [Instr.lookup,run_underlying ht,MapKept.run_getObj_map hb,Result.andThen,K.check,run_findKey_any he,hf]
theorem run_lookupK_none_ok (ht:P.underlying T=some (.map kt et)) (hm:MapK K w b kvs) (hv:getK kvs k=none){z:Value}(hz:(zeroValue et).run P w=.ok z w) :
  (Instr.lookup T (.map (some b)) (K.enc k) true).run P w=.ok (.tuple #[z,.bool false]) w:=by
 obtain⟨es,clk,hb,he⟩:=hm
 simp [Instr.lookup,run_underlying ht,MapKept.run_getObj_map hb,Result.andThen,K.check,run_findKey_any he,(findK_none_iff kvs k 0).2 hv,hz]
theorem run_lookupK (ht:P.underlying T=some (.map kt et)) (hm:MapK K w b kvs){v:Value}(hv:getK kvs k=some v) :
  (Instr.lookup T (.map (some b)) (K.enc k) false).run P w=.ok v w:=by
 obtain⟨es,clk,hb,he⟩:=hm
 have hg:=findK_get kvs k 0
 rw [hv] at hg
 obtain⟨⟨n,u⟩,hf,rfl⟩:∃x,findK kvs k 0=some x∧x.2=v:=by cases h:findK kvs k 0 <;> simp_all
 simp [Instr.lookup,run_underlying ht,MapKept.run_getObj_map hb,Result.andThen,K.check,run_findKey_any he,hf]
theorem run_lookupK_none (ht:P.underlying T=some (.map kt et)) (hm:MapK K w b kvs) (hv:getK kvs k=none){z:Value}(hz:(zeroValue et).run P w=.ok z w) :
  (Instr.lookup T (.map (some b)) (K.enc k) false).run P w=.ok z w:=by
 obtain⟨es,clk,hb,he⟩:=hm
 simp [Instr.lookup,run_underlying ht,MapKept.run_getObj_map hb,Result.andThen,K.check,run_findKey_any he,(findK_none_iff kvs k 0).2 hv,hz]
theorem MapK.lt (h:MapK K w b kvs):b<w.heap.size:=by
 obtain⟨es,clk,h1,h2⟩:=h
 rcases Nat.lt_or_ge b w.heap.size with h|h
 ·exact h
 ·simp [Array.getElem?_eq_none h] at h1
theorem MapK.keep {S:Nat→Prop}{w':World}(h:MapK K w b kvs) (hk:Kept S w w') (hb:¬S b):MapK K w' b kvs:=by
 have hlt:=h.lt
 obtain⟨es,clk,h1,h2⟩:=h
 exact⟨es,clk,by rw [hk.block b hlt hb];exact h1,h2⟩
theorem MapK.ne_blk {g:Nat}{t:TypeId}{cs:Array Value}(h:MapK K w b kvs) (hb:Blk w g t cs):g≠b:=by
 rintro rfl
 obtain⟨es,clk,h1,h2⟩:=h
 unfold Blk at hb
 rw [hb] at h1
 cases h1
theorem MapK.made (w:World):MapK K (w.alloc (.map #[] 0)) w.heap.size []:=⟨#[],0,heap_alloc_new w _,rfl⟩
theorem kept_obj (w:World) (b:Nat) (o:Obj):Kept (·=b) w { w with heap:=w.heap.setIfInBounds b o }:=⟨rfl,rfl,rfl,by simp,fun i _ hn=>by
 show (w.heap.setIfInBounds b o)[i]?=_
 rw [Array.getElem?_setIfInBounds_ne (fun e=>hn e.symm)]⟩
theorem run_updateK (ht:P.underlying T=some (.map kt et)) (hm:MapK K w b kvs) (v:Value) :
  ∃w',(Instr.mapUpdate T (.map (some b)) (K.enc k) v).run P w=.ok () w'∧MapK K w' b (putK kvs k v)∧Kept (·=b) w w':=by
 have hlt:=hm.lt
 obtain⟨es,clk,hb,he⟩:=hm
 cases hf:findK kvs k 0 with
 | none =>
  refine⟨{ w with heap:=w.heap.setIfInBounds b (.map (es.push { key:=K.enc k,val:=v,born:=clk }) (clk+1)) },?_,⟨es.push { key:=K.enc k,val:=v,born:=clk },clk+1,?_,?_⟩,kept_obj _ _ _⟩
  ·simp [Instr.mapUpdate,run_underlying ht,MapKept.run_getObj_map hb,Result.andThen,K.check,run_findKey_any he,hf,MapKept.run_setObj_map _ hb]
  ·simp [hlt]
  ·rw [putK_none kvs k v 0 hf];simp [he]
 | some x =>
  obtain⟨n,u⟩:=x
  obtain⟨-,x,hx,rfl,rfl⟩:=findK_spec kvs k 0 n u hf
  have hn:n<kvs.length:=by
   rcases Nat.lt_or_ge n kvs.length with h|h
   ·exact h
   ·rw [List.getElem?_eq_none (by omega)] at hx;cases hx
  have hlen:es.size=kvs.length:=by have:=congrArg List.length he;simpa using this
  have hkey:es[n].key=K.enc x.1:=by
   have h0:=congrArg (·[n]?) he
   simp only [List.getElem?_map] at h0
   rw [Nat.sub_zero] at hx
   rw [hx] at h0
   simp [Array.getElem?_eq_getElem (show n<es.size by omega)] at h0
   exact h0.1
  refine⟨{ w with heap:=w.heap.setIfInBounds b (.map (es.modify n fun e=>{ e with key:=K.enc x.1,val:=v }) clk) },?_,⟨es.modify n fun e=>{ e with key:=K.enc x.1,val:=v },clk,?_,?_⟩,kept_obj _ _ _⟩
  ·simp [Instr.mapUpdate,run_underlying ht,MapKept.run_getObj_map hb,Result.andThen,K.check,run_findKey_any he,hf,MapKept.run_setObj_map _ hb,Array.getElem?_eq_getElem (show n<es.size by omega),hkey,Instr.keyThatStays,K.bits]
  ·simp [hlt]
  ·rw [putK_found kvs x.1 v 0 n _ hf]
   apply List.ext_getElem?
   intro i
   have h0:=congrArg (·[i]?) he
   simp only [List.getElem?_map] at h0 ⊢
   rw [Nat.sub_zero,Array.getElem?_toList,Array.getElem?_modify,List.getElem?_set]
   rw [Array.getElem?_toList] at h0
   by_cases hi:n=i
   ·subst hi
    simp [hn,Array.getElem?_eq_getElem (show n<es.size by omega)]
   ·simp [hi,h0]
theorem run_deleteK (ht:P.underlying T=some (.map kt et)) (ty:TypeId) (hm:MapK K w b kvs) :
  ∃w',(Builtin.delete_ #[T,kt] ty #[.map (some b),K.enc k]).run P w=.ok (.tuple #[]) w'∧MapK K w' b (delK kvs k)∧Kept (·=b) w w':=by
 have hlt:=hm.lt
 obtain⟨es,clk,hb,he⟩:=hm
 cases hf:findK kvs k 0 with
 | none =>
  refine⟨{ w with heap:=w.heap.setIfInBounds b (.map es clk) },?_,⟨es,clk,?_,?_⟩,kept_obj _ _ _⟩
  ·simp [Builtin.delete_,run_underlying ht,MapKept.run_getObj_map hb,Result.andThen,K.check,run_findKey_any he,hf,MapKept.run_setObj_map _ hb]
  ·simp [hlt]
  ·rw [delK_none kvs k 0 hf];exact he
 | some x =>
  obtain⟨n,u⟩:=x
  refine⟨{ w with heap:=w.heap.setIfInBounds b (.map (es.eraseIdxIfInBounds n) clk) },?_,⟨es.eraseIdxIfInBounds n,clk,?_,?_⟩,kept_obj _ _ _⟩
  ·simp [Builtin.delete_,run_underlying ht,MapKept.run_getObj_map hb,Result.andThen,K.check,run_findKey_any he,hf,MapKept.run_setObj_map _ hb]
  ·simp [hlt]
  ·rw [delK_found kvs k 0 n _ hf,Array.toList_eraseIdxIfInBounds,Nat.sub_zero,Go.ChangeMaps.map_eraseIdx,he,←Go.ChangeMaps.map_eraseIdx]
end
end Go.Proofs.YtjohljmpcblpjaaGreatDoor
namespace Go.Proofs.YtjohljmpcblpjaaGreatDoor
open Go.RowKit
open Go.ChangeMaps (setBlock)
section
variable {κ:Type} [DecidableEq κ] {P:Program} {w:World} {T kt et:TypeId} {K:KeyE P kt κ} {b r:Nat} {kvs left:List (κ × Value)} {k:κ}
def MapR (K:KeyE P kt κ) (w:World) (b:Nat) (kvs:List (κ × Value)):Prop :=
 ∃es clk,w.heap[b]?=some (.map es clk)∧es.toList.map (fun e=>(e.key,e.val))=kvs.map (fun x=>(K.enc x.1,x.2))∧(∀x∈es.toList,x.born<clk)∧(es.toList.map (·.born)).Nodup
theorem MapR.mapK (h:MapR K w b kvs):MapK K w b kvs:=by
 obtain⟨es,clk,h1,h2,_⟩:=h
 exact⟨es,clk,h1,h2⟩
theorem MapR.keep {S:Nat→Prop}{w':World}(h:MapR K w b kvs) (hk:Kept S w w') (hb:¬S b):MapR K w' b kvs:=by
 have hlt:=h.mapK.lt
 obtain⟨es,clk,h1,h2⟩:=h
 exact⟨es,clk,by rw [hk.block b hlt hb];exact h1,h2⟩
theorem MapR.made (w:World):MapR K (w.alloc (.map #[] 0)) w.heap.size []:=⟨#[],0,heap_alloc_new w _,rfl,fun x hx=>by simp at hx,by simp⟩
theorem run_updateR (ht:P.underlying T=some (.map kt et)) (hm:MapR K w b kvs) (v:Value) :
  ∃w',(Instr.mapUpdate T (.map (some b)) (K.enc k) v).run P w=.ok () w'∧MapR K w' b (putK kvs k v)∧Kept (·=b) w w':=by
 have hlt:=hm.mapK.lt
 obtain⟨es,clk,hb,he,hold,hnd⟩:=hm
 cases hf:findK kvs k 0 with
 | none =>
  refine⟨{ w with heap:=w.heap.setIfInBounds b (.map (es.push { key:=K.enc k,val:=v,born:=clk }) (clk+1)) },?_,⟨es.push { key:=K.enc k,val:=v,born:=clk },clk+1,?_,?_,?_,?_⟩,kept_obj _ _ _⟩
  ·simp [Instr.mapUpdate,run_underlying ht,MapKept.run_getObj_map hb,Result.andThen,K.check,run_findKey_any he,hf,MapKept.run_setObj_map _ hb]
  ·simp [hlt]
  ·rw [putK_none kvs k v 0 hf];simp [he]
  ·intro x hx
   rw [Array.toList_push] at hx
   rcases List.mem_append.1 hx with hx|hx
   ·have:=hold x hx;omega
   ·rw [List.mem_singleton.1 hx];exact Nat.lt_succ_self _
  ·rw [Array.toList_push,List.map_append]
   refine List.nodup_append.2 ⟨hnd,by simp,fun a ha c hc e=>?_⟩
   obtain⟨x,hx,rfl⟩:=List.mem_map.1 ha
   simp at hc
   have:=hold x hx
   omega
 | some x =>
  obtain⟨n,u⟩:=x
  obtain⟨-,x,hx,rfl,rfl⟩:=findK_spec kvs k 0 n u hf
  have hn:n<kvs.length:=by
   rcases Nat.lt_or_ge n kvs.length with h|h
   ·exact h
   ·rw [List.getElem?_eq_none (by omega)] at hx;cases hx
  have hlen:es.size=kvs.length:=by have:=congrArg List.length he;simpa using this
  have hkey:es[n].key=K.enc x.1:=by
   have h0:=congrArg (·[n]?) he
   simp only [List.getElem?_map] at h0
   rw [Nat.sub_zero] at hx
   rw [hx] at h0
   simp [Array.getElem?_eq_getElem (show n<es.size by omega)] at h0
   exact h0.1
  have hbn:(es.modify n fun e=>{ e with key:=K.enc x.1,val:=v }).toList.map (·.born)=es.toList.map (·.born):=by
   apply List.ext_getElem?
   intro i
   simp only [List.getElem?_map,Array.getElem?_toList,Array.getElem?_modify]
   by_cases hi:n=i
   ·subst hi
    simp [Array.getElem?_eq_getElem (show n<es.size by omega)]
   ·simp [hi]
  refine⟨{ w with heap:=w.heap.setIfInBounds b (.map (es.modify n fun e=>{ e with key:=K.enc x.1,val:=v }) clk) },?_,⟨es.modify n fun e=>{ e with key:=K.enc x.1,val:=v },clk,?_,?_,?_,?_⟩,kept_obj _ _ _⟩
  ·simp [Instr.mapUpdate,run_underlying ht,MapKept.run_getObj_map hb,Result.andThen,K.check,run_findKey_any he,hf,MapKept.run_setObj_map _ hb,Array.getElem?_eq_getElem (show n<es.size by omega),hkey,Instr.keyThatStays,K.bits]
  ·simp [hlt]
  ·rw [putK_found kvs x.1 v 0 n _ hf]
   apply List.ext_getElem?
   intro i
   have h0:=congrArg (·[i]?) he
   simp only [List.getElem?_map] at h0 ⊢
   rw [Nat.sub_zero,Array.getElem?_toList,Array.getElem?_modify,List.getElem?_set]
   rw [Array.getElem?_toList] at h0
   by_cases hi:n=i
   ·subst hi
    simp [hn,Array.getElem?_eq_getElem (show n<es.size by omega)]
   ·simp [hi,h0]
  ·intro y hy
   have h1:y.born∈es.toList.map (·.born):=by rw [←hbn];exact List.mem_map_of_mem hy
   obtain⟨z,hz,e⟩:=List.mem_map.1 h1
   rw [←e]
   exact hold z hz
  ·rw [hbn];exact hnd
theorem run_deleteR (ht:P.underlying T=some (.map kt et)) (ty:TypeId) (hm:MapR K w b kvs) :
  ∃w',(Builtin.delete_ #[T,kt] ty #[.map (some b),K.enc k]).run P w=.ok (.tuple #[]) w'∧MapR K w' b (delK kvs k)∧Kept (·=b) w w':=by
 have hlt:=hm.mapK.lt
 obtain⟨es,clk,hb,he,hold,hnd⟩:=hm
 cases hf:findK kvs k 0 with
 | none =>
  refine⟨{ w with heap:=w.heap.setIfInBounds b (.map es clk) },?_,⟨es,clk,?_,?_,hold,hnd⟩,kept_obj _ _ _⟩
  ·simp [Builtin.delete_,run_underlying ht,MapKept.run_getObj_map hb,Result.andThen,K.check,run_findKey_any he,hf,MapKept.run_setObj_map _ hb]
  ·simp [hlt]
  ·rw [delK_none kvs k 0 hf];exact he
 | some x =>
  obtain⟨n,u⟩:=x
  have hsub:(es.eraseIdxIfInBounds n).toList.Sublist es.toList:=by
   rw [Array.toList_eraseIdxIfInBounds]
   exact List.eraseIdx_sublist ..
  refine⟨{ w with heap:=w.heap.setIfInBounds b (.map (es.eraseIdxIfInBounds n) clk) },?_,⟨es.eraseIdxIfInBounds n,clk,?_,?_,fun y hy=>hold y (hsub.subset hy),hnd.sublist (hsub.map _)⟩,kept_obj _ _ _⟩
  ·simp [Builtin.delete_,run_underlying ht,MapKept.run_getObj_map hb,Result.andThen,K.check,run_findKey_any he,hf,MapKept.run_setObj_map _ hb]
  ·simp [hlt]
  ·rw [delK_found kvs k 0 n _ hf,Array.toList_eraseIdxIfInBounds,Nat.sub_zero,Go.ChangeMaps.map_eraseIdx,he,←Go.ChangeMaps.map_eraseIdx]
def RangeR (K:KeyE P kt κ) (w:World) (r b:Nat) (kvs left:List (κ × Value)):Prop :=
 ∃es clk since seen c0,w.heap[r]?=some (.mapIter (some b) since seen c0)∧w.heap[b]?=some (.map es clk)∧es.toList.map (fun e=>(e.key,e.val))=kvs.map (fun x=>(K.enc x.1,x.2))∧(∀x∈es.toList,x.born<clk)∧(es.toList.map (·.born)).Nodup∧(∀x∈es.toList,x.born<since)∧since≤c0∧since≤clk ∧
  (leftOf es seen).toList.map (fun e=>(e.key,e.val))=left.map (fun x=>(K.enc x.1,x.2))
theorem RangeR.mapR (h:RangeR K w r b kvs left):MapR K w b kvs:=by
 obtain⟨es,clk,since,seen,c0,_,h2,h3,h4,h5,_⟩:=h
 exact⟨es,clk,h2,h3,h4,h5⟩
theorem RangeR.lt (h:RangeR K w r b kvs left):r<w.heap.size:=by
 obtain⟨es,clk,since,seen,c0,h1,_⟩:=h
 rcases Nat.lt_or_ge r w.heap.size with h|h
 ·exact h
 ·simp [Array.getElem?_eq_none h] at h1
theorem RangeR.keep {S:Nat→Prop}{w':World}(h:RangeR K w r b kvs left) (hk:Kept S w w') (hr:¬S r) (hb:¬S b):RangeR K w' r b kvs left:=by
 have h1:=h.lt
 have h2:=h.mapR.mapK.lt
 obtain⟨es,clk,since,seen,c0,a1,a2,a3⟩:=h
 exact⟨es,clk,since,seen,c0,by rw [hk.block r h1 hr];exact a1,by rw [hk.block b h2 hb];exact a2,a3⟩
theorem run_rangeR (ht:P.underlying T=some (.map kt et)) (hm:MapR K w b kvs) :
  ∃w',(Instr.range T (.map (some b))).run P w=.ok (.pointer (some ⟨w.heap.size,0,none⟩)) w'∧RangeR K w' w.heap.size b kvs kvs∧Kept (fun _=>False) w w':=by
 have hlt:=hm.mapK.lt
 obtain⟨es,clk,hb,he,hold,hnd⟩:=hm
 have hl:leftOf es #[]=es:=by
  unfold leftOf
  exact Array.filter_eq_self.2 fun x _=>by simp
 exact⟨_,run_range_map w T kt et b es clk ht hb,⟨es,clk,clk,#[],clk,heap_alloc_new w _,by rw [heap_alloc_old w _ hlt];exact hb,he,hold,hnd,hold,Nat.le_refl _,Nat.le_refl _,by rw [hl];exact he⟩,(Kept.refl _ _).alloc _⟩
theorem filter_erase {l:List MapEntry}:∀ {j:Nat}{e:MapEntry},(l.map (·.born)).Nodup→l[j]?=some e→l.filter (fun x=>x.born != e.born)=l.eraseIdx j:=by
 induction l with
 | nil=>intro j e _ h;simp at h
 | cons x l ih =>
  intro j e hn h
  rw [List.map_cons] at hn
  obtain⟨h1,h2⟩:=List.nodup_cons.1 hn
  cases j with
  | zero =>
   have e1:x=e:=by simpa using h
   subst e1
   rw [List.filter_cons_of_neg (by simp),List.eraseIdx_zero,List.tail_cons]
   refine List.filter_eq_self.2 fun y hy=>?_
   have : y.born≠x.born:=fun e2=>h1 (e2 ▸ List.mem_map_of_mem hy)
   simpa using this
  | succ j =>
   have e1:l[j]?=some e:=by simpa using h
   have hne:x.born≠e.born:=fun e2=>h1 (e2 ▸ List.mem_map_of_mem (List.mem_of_getElem? e1))
   rw [List.filter_cons_of_pos (by simpa using hne),List.eraseIdx_cons_succ,ih h2 e1]
def CurR (K:KeyE P kt κ) (w:World) (r b:Nat) (x:κ × Value):Prop :=
 ∃(es:Array MapEntry) (clk since:Nat) (seen:Array Nat) (e:MapEntry),w.heap[r]?=some (.mapIter (some b) since (seen.push e.born) clk)∧w.heap[b]?=some (.map es clk)∧e∈es.toList∧(es.toList.map (·.born)).Nodup∧e.key=K.enc x.1∧e.val=x.2
theorem run_entryR {x:κ × Value}(h:CurR K w r b x):(Instr.entry (.pointer (some ⟨r,0,none⟩))).run P w=.ok (.tuple #[K.enc x.1,x.2]) w:=by
 obtain⟨es,clk,since,seen,e,a1,a2,a3,a4,a5,a6⟩:=h
 rw [←a5,←a6]
 exact run_entry_at w r b since seen es clk e a1 a2 a3 a4
theorem run_nextR (ty:TypeId) (h:RangeR K w r b kvs left) :
  (left=[]∧(Instr.next (.pointer (some ⟨r,0,none⟩)) false ty).run P w=.ok (.tuple #[.bool false]) w) ∨
  ∃(j:Nat) (x:κ × Value) (w':World),left[j]?=some x∧(Instr.next (.pointer (some ⟨r,0,none⟩)) false ty).run P w=.ok (.tuple #[.bool true,K.enc x.1,x.2]) w'∧RangeR K w' r b kvs (left.eraseIdx j)∧CurR K w' r b x∧Kept (·=r) w w':=by
 have hrlt:=h.lt
 obtain⟨es,clk,since,seen,c0,a1,a2,a3,a4,a5,a6,a7,a8,a9⟩:=h
 rcases run_next_at (P:=P) w ty r b since c0 seen es clk a1 a2 a6 a7 with ⟨h0,hrun⟩|⟨e,he,w1,hal,hrun⟩
 ·left
  have h1:=congrArg List.length a9
  simp only [List.length_map,Array.length_toList] at h1
  exact⟨List.eq_nil_of_length_eq_zero (by omega),hrun⟩
 ·right
  obtain⟨j,hj⟩:=List.getElem?_of_mem he
  have h1:=congrArg (·[j]?) a9
  simp only [List.getElem?_map,hj,Option.map_some] at h1
  obtain⟨x,hx,hxe⟩:∃x,left[j]?=some x∧(K.enc x.1,x.2)=(e.key,e.val):=by
   cases hl:left[j]? with
   | none=>rw [hl] at h1;cases h1
   | some x=>rw [hl] at h1;exact⟨x,rfl,(Option.some.inj h1).symm⟩
  injection hxe with hx1 hx2
  have hleft:leftOf es (seen.push e.born)=(leftOf es seen).filter fun y=>y.born != e.born:=by
   unfold leftOf
   rw [Array.filter_filter]
   congr 1
   funext y
   rw [Array.contains_push]
   simp only [Bool.not_or,bne]
   rw [Bool.and_comm]
  have hsub:((leftOf es seen).toList.map (·.born)).Nodup:=by
   unfold leftOf
   rw [Array.toList_filter]
   exact a5.sublist (List.filter_sublist.map _)
  have hw1:w1.heap=w.heap:=by rcases hal with rfl | rfl <;> rfl
  have hne:r≠b:=by
   rintro rfl
   rw [a1] at a2
   cases a2
  refine⟨j,x,_,hx,by rw [hx1,hx2];exact hrun,⟨es,clk,since,seen.push e.born,clk,?_,?_,a3,a4,a5,a6,a8,a8,?_⟩,⟨es,clk,since,seen,e,?_,?_,?_,a5,hx1.symm,hx2.symm⟩,?_⟩
  ·show (w1.heap.setIfInBounds r _)[r]?=_
   rw [hw1]
   simp [hrlt]
  ·show (w1.heap.setIfInBounds r _)[b]?=_
   rw [hw1,Array.getElem?_setIfInBounds_ne hne]
   exact a2
  ·rw [hleft,Array.toList_filter,filter_erase hsub hj,Go.ChangeMaps.map_eraseIdx,a9,←Go.ChangeMaps.map_eraseIdx]
  ·show (w1.heap.setIfInBounds r _)[r]?=_
   rw [hw1]
   simp [hrlt]
  ·show (w1.heap.setIfInBounds r _)[b]?=_
   rw [hw1,Array.getElem?_setIfInBounds_ne hne]
   exact a2
  ·unfold leftOf at he
   rw [Array.toList_filter] at he
   exact (List.mem_filter.1 he).1
  ·rcases hal with rfl | rfl
   ·exact⟨rfl,rfl,rfl,by simp [setBlock],fun i _ hn=>by
     show (w1.heap.setIfInBounds r _)[i]?=_
     rw [Array.getElem?_setIfInBounds_ne (fun e=>hn e.symm)]⟩
   ·exact⟨rfl,rfl,rfl,by show w.heap.size≤(w.heap.setIfInBounds r _).size;simp,fun i _ hn=>by
     show (w.heap.setIfInBounds r _)[i]?=_
     rw [Array.getElem?_setIfInBounds_ne (fun e=>hn e.symm)]⟩
end
end Go.Proofs.YtjohljmpcblpjaaGreatDoor
namespace Go.Proofs.YtjohljmpcblpjaaGreatDoor.St
def cmpI (a b:Int):Int:=if a<b then -1 else if b<a then 1 else 0
def orL:List Int→Int
 | []=>0
 | x::r=>if x=0 then orL r else x
@[ext] structure ID where
 t:Int
 s:Int
deriving DecidableEq,Inhabited
@[ext] structure Run where
 id:ID
 c:Int
deriving DecidableEq,Inhabited
def ID.zero:ID:=⟨0,0⟩
def ID.cmp (a b:ID):Int:=orL [cmpI a.t b.t,cmpI a.s b.s]
def ID.lt (a b:ID):Prop:=a.t<b.t∨a.t=b.t∧a.s<b.s
def ID.Is (a:ID):Prop:=1≤a.t∧a.t≤2147483647∧1≤a.s∧a.s≤16
instance (a:ID):Decidable a.Is:=by unfold ID.Is;infer_instance
instance (a b:ID):Decidable (a.lt b):=by unfold ID.lt;infer_instance
def isB (a:ID):Bool:=decide a.Is
def ID.after (a:ID) (n:Int):ID:=if a.Is∧0≤n∧n≤2147483647-a.t then ⟨a.t+n,a.s⟩ else ID.zero
theorem ID.lt_irrefl (a:ID):¬a.lt a:=by unfold ID.lt;omega
theorem ID.lt_trans {a b c:ID}(h:a.lt b) (h':b.lt c):a.lt c:=by unfold ID.lt at *;omega
theorem ID.lt_or (a b:ID):a.lt b∨a=b∨b.lt a:=by
 unfold ID.lt
 rw [ID.ext_iff]
 omega
theorem cmp_eq (a b:ID):a.cmp b=if a.lt b then -1 else if b.lt a then 1 else 0:=by
 unfold ID.cmp orL cmpI orL orL ID.lt
 by_cases h1:a.t<b.t
 ·simp [h1]
 ·by_cases h2:b.t<a.t
  ·have : ¬(a.t=b.t∧a.s<b.s):=by omega
   simp [h1,h2,this]
  ·have h3:a.t=b.t:=by omega
   by_cases h4:a.s<b.s
   ·simp [h3,h4]
   ·by_cases h5:b.s<a.s
    ·simp [h3,h4,h5]
    ·simp [h3,h4,h5]
theorem cmp_lt {a b:ID}:a.cmp b<0↔a.lt b:=by
 rw [cmp_eq]
 by_cases h1:a.lt b
 ·simp [h1]
 ·by_cases h2:b.lt a <;> simp [h1,h2]
theorem cmp_gt {a b:ID}:0<a.cmp b↔b.lt a:=by
 rw [cmp_eq]
 by_cases h1:a.lt b
 ·have : ¬b.lt a:=fun h=>a.lt_irrefl (ID.lt_trans h1 h)
  simp [h1,this]
 ·by_cases h2:b.lt a <;> simp [h1,h2]
theorem cmp_zero {a b:ID}:a.cmp b=0↔a=b:=by
 rw [cmp_eq]
 constructor
 ·intro h
  rcases a.lt_or b with h1|h1|h1
  ·simp [h1] at h
  ·exact h1
  ·have : ¬a.lt b:=fun h=>a.lt_irrefl (ID.lt_trans h h1)
   simp [h1,this] at h
 ·rintro rfl
  simp [ID.lt_irrefl]
theorem cmp_bd (a b:ID):-1≤a.cmp b∧a.cmp b≤1:=by
 rw [cmp_eq];split <;> (try split) <;> omega
/-! ### rising lists -/
/-! ### runs -/
def Run.next (r:Run):ID:=⟨r.id.t+r.c,r.id.s⟩
def Run.fin (r:Run):ID:=⟨r.id.t+r.c-1,r.id.s⟩
def Run.up (r:Run):Run:=⟨r.id,r.c+1⟩
theorem get_of_lt {α:Type}{l:List α}{i:Nat}(h:i<l.length):∃x,l[i]?=some x:=⟨_,List.getElem?_eq_getElem h⟩
def I64 (n:Int):Prop:=-9223372036854775808≤n∧n≤9223372036854775807
def Run.In (r:Run):Prop:=I64 r.id.t∧I64 r.id.s∧I64 r.c
end Go.Proofs.YtjohljmpcblpjaaGreatDoor.St
namespace Go.Proofs.YtjohljmpcblpjaaGreatDoor.St
@[ext] structure Dot where
 site:Int
 seq:Int
deriving DecidableEq,Inhabited
def isSite (n:Int):Prop:=1≤n∧n≤16
instance (n:Int):Decidable (isSite n):=by unfold isSite;infer_instance
def Dot.Ok (d:Dot):Prop:=1≤d.site∧d.site≤16∧1≤d.seq∧d.seq≤2147483647
instance (d:Dot):Decidable d.Ok:=by unfold Dot.Ok;infer_instance
def sayS (f:Nat→Int) (d:Dot):Nat→Int:=fun i=>if d.Ok∧d.site=i then (if f i<d.seq then d.seq else f i) else f i
def says (L:List Dot):Nat→Int:=L.foldl sayS fun _=>0
theorem says_snoc (L:List Dot) (d:Dot):says (L++[d])=sayS (says L) d:=by unfold says;rw [List.foldl_append];rfl
theorem says_take {L:List Dot}{n:Nat}{d:Dot}(h:L[n]?=some d):says (L.take (n+1))=sayS (says (L.take n)) d:=by
 rw [←says_snoc]
 congr 1
 obtain⟨h1,rfl⟩:=List.getElem?_eq_some_iff.1 h
 exact List.take_succ_eq_append_getElem h1
theorem foldl_bd:∀(L:List Dot) (f:Nat→Int) (i:Nat),0≤f i∧f i≤2147483647→0≤L.foldl sayS f i∧L.foldl sayS f i≤2147483647
 | [],_,_,h=>h
 | d::r,f,i,h=>by
  refine foldl_bd r (sayS f d) i ?_
  unfold sayS
  split
  ·rename_i h1
   have:=h1.1
   unfold Dot.Ok at this
   split <;> omega
  ·exact h
theorem says_bd (L:List Dot) (i:Nat):0≤says L i∧says L i≤2147483647:=foldl_bd L _ i (by decide)
theorem foldl_out:∀(L:List Dot) (f:Nat→Int) (i:Nat),¬(1≤i∧i≤16)→L.foldl sayS f i=f i
 | [],_,_,_=>rfl
 | d::r,f,i,h=>by
  rw [List.foldl_cons,foldl_out r _ i h]
  unfold sayS
  rw [if_neg]
  intro ⟨h1,h2⟩
  unfold Dot.Ok at h1
  omega
theorem says_out (L:List Dot) (i:Nat) (h:¬(1≤i∧i≤16)):says L i=0:=foldl_out L _ i h
def vecOf (f:Nat→Int) (n:Nat):List Dot:=(List.range n).filterMap fun i=>if 0<f i then some ⟨i,f i⟩ else none
theorem vecOf_succ (f:Nat→Int) (n:Nat):vecOf f (n+1)=if 0<f n then vecOf f n++[⟨n,f n⟩] else vecOf f n:=by
 unfold vecOf
 rw [List.range_succ,List.filterMap_append]
 by_cases h:0<f n <;> simp [h]
theorem vecOf_len (f:Nat→Int) (n:Nat):(vecOf f n).length≤n:=by
 unfold vecOf
 have:=List.length_filterMap_le (fun i:Nat=>if 0<f i then some (⟨i,f i⟩:Dot) else none) (List.range n)
 simpa using this
def getV (L:List Dot) (s:Int):Int:=if isSite s then says L s.toNat else 0
def hasV (L:List Dot) (d:Dot):Prop:=1≤d.seq∧d.seq≤getV L d.site
instance (L:List Dot) (d:Dot):Decidable (hasV L d):=by unfold hasV;infer_instance
def coversV (A B:List Dot):Prop:=∀i,i<17→says B i≤says A i
instance (A B:List Dot):Decidable (coversV A B):=by unfold coversV;infer_instance
def chkV:Int→List Dot→Int
 | _,[]=>0
 | last,d::r=>if ¬isSite d.site then 1 else if d.seq<1∨2147483647<d.seq then 6 else if d.site≤last then 9 else chkV d.site r
def addV (L:List Dot) (d:Dot):List Dot:=vecOf (fun i=>if (i:Int)=d.site then d.seq else says L i) 17
def whyAdd (L:List Dot) (d:Dot):Int:=if ¬isSite d.site∨d.seq<1 then 1 else if 2147483647<d.seq then 17 else if d.seq≠getV L d.site+1 then 9 else 0
def maxV (A B:List Dot):Nat→Int:=fun i=>if says A i<says B i then says B i else says A i
end Go.Proofs.YtjohljmpcblpjaaGreatDoor.St
namespace Go.Proofs.YtjohljmpcblpjaaGreatDoor.St
def wholeP (K:List Dot) (D:List Dot):Prop:=∀d∈D,∀k:Int,1≤k→k≤d.seq→(⟨d.site,k⟩:Dot)∈K
section
variable {α:Type} (f:α→Dot) (D:α→List Dot)
structure ClosedP (l:List α):Prop where
 ok:∀e∈l,(f e).Ok∧says (D e) (f e).site.toNat=(f e).seq-1
 nd:(l.map f).Nodup
def candP (l:List α) (V:List Dot) (s:Nat):Option α:=l.find? fun e=>decide (f e=⟨s,says V s+1⟩∧coversV V (D e))
def firstP (l:List α) (V:List Dot):List Nat→Option α
 | []=>none
 | s::r=>(candP f D l V s).or (firstP l V r)
def sites16:List Nat:=(List.range 16).map (· + 1)
def nextP (l:List α) (V:List Dot):Option α:=firstP f D l V sites16
def rowP (l:List α):Nat→List Dot→List α
 | 0,_=>[]
 | n+1,V=>match nextP f D l V with
  | none=>[]
  | some e=>e::rowP l n (addV V (f e))
def wentP (V:List Dot) (d:Dot):Prop:=d.seq≤says V d.site.toNat
instance (V:List Dot) (d:Dot):Decidable (wentP V d):=by unfold wentP;infer_instance
variable {f D}
theorem candP_some {l:List α}{V:List Dot}{s:Nat}{e:α}(h:candP f D l V s=some e):e∈l∧f e=⟨s,says V s+1⟩∧coversV V (D e):=by
 unfold candP at h
 have h1:=List.find?_some h
 have h2:=List.mem_of_find?_eq_some h
 exact⟨h2,by simpa using h1⟩
theorem candP_none {l:List α}{V:List Dot}{s:Nat}(h:candP f D l V s=none):∀e∈l,¬(f e=⟨s,says V s+1⟩∧coversV V (D e)):=by
 unfold candP at h
 intro e he hc
 have:=List.find?_eq_none.1 h e he
 simp at this
 exact this hc.1 hc.2
theorem firstP_some {l:List α}{V:List Dot}:∀ {ss:List Nat}{e:α},firstP f D l V ss=some e→∃s∈ss,candP f D l V s=some e
 | [],_,h=>by simp [firstP] at h
 | s::r,e,h=>by
  unfold firstP at h
  cases hc:candP f D l V s with
  | none =>
   rw [hc,Option.none_or] at h
   obtain⟨t,ht,h9⟩:=firstP_some h
   exact⟨t,List.mem_cons_of_mem _ ht,h9⟩
  | some x =>
   rw [hc,Option.some_or] at h
   exact⟨s,List.mem_cons_self ..,by rw [hc,←h]⟩
theorem firstP_none {l:List α}{V:List Dot}:∀ {ss:List Nat},firstP f D l V ss=none→∀s∈ss,candP f D l V s=none
 | [],_,s,hs=>by simp at hs
 | t::r,h,s,hs=>by
  unfold firstP at h
  cases hc:candP f D l V t with
  | none =>
   rw [hc,Option.none_or] at h
   rcases List.mem_cons.1 hs with rfl|hs
   ·exact hc
   ·exact firstP_none h s hs
  | some x=>rw [hc,Option.some_or] at h;cases h
theorem mem_sites16 {s:Nat}:s∈sites16↔1≤s∧s≤16:=by
 unfold sites16
 rw [List.mem_map]
 constructor
 ·rintro⟨a,ha,rfl⟩
  have:=List.mem_range.1 ha
  omega
 ·intro h
  exact⟨s-1,List.mem_range.2 (by omega),by omega⟩
theorem ClosedP.next {l:List α}(h:ClosedP f D l){V:List Dot}{e:α}(he:e∈l) (hn:¬wentP V (f e)) (hc:coversV V (D e)):f e=⟨(f e).site.toNat,says V (f e).site.toNat+1⟩:=by
 obtain⟨hok,hown⟩:=h.ok e he
 have h1:=hc (f e).site.toNat (by unfold Dot.Ok at hok;omega)
 unfold wentP at hn
 have h2:(f e).seq=says V (f e).site.toNat+1:=by omega
 have h3:(f e).site=((f e).site.toNat:Nat):=by unfold Dot.Ok at hok;omega
 exact Dot.ext h3 h2
theorem nextP_some {l:List α}{V:List Dot}{e:α}(h:nextP f D l V=some e):e∈l∧¬wentP V (f e)∧coversV V (D e)∧(f e).seq=says V (f e).site.toNat+1:=by
 obtain⟨s,_,hc⟩:=firstP_some h
 obtain⟨h1,h2,h3⟩:=candP_some hc
 have e1:(f e).site=s:=by rw [h2]
 have e2:(f e).seq=says V s+1:=by rw [h2]
 have e3:(f e).site.toNat=s:=by omega
 refine⟨h1,?_,h3,by rw [e3];exact e2⟩
 unfold wentP
 rw [e3]
 omega
theorem nextP_none {l:List α}(hl:ClosedP f D l){V:List Dot}(h:nextP f D l V=none):∀e∈l,¬(¬wentP V (f e)∧coversV V (D e)):=by
 rintro e he ⟨h1,h2⟩
 have h3:=hl.next he h1 h2
 have hok:=(hl.ok e he).1
 unfold Dot.Ok at hok
 exact candP_none (firstP_none h (f e).site.toNat (mem_sites16.2 (by omega))) e he ⟨h3,h2⟩
theorem firstP_least {l:List α}{V:List Dot}:∀ {ss:List Nat}{e:α},ss.Pairwise (· < ·)→firstP f D l V ss=some e→∀s∈ss,(s:Int)<(f e).site→candP f D l V s=none
 | [],_,_,h,_,_,_=>by simp [firstP] at h
 | t::r,e,hp,h,s,hs,hlt=>by
  unfold firstP at h
  cases hc:candP f D l V t with
  | none =>
   rw [hc,Option.none_or] at h
   rcases List.mem_cons.1 hs with rfl|hs
   ·exact hc
   ·exact firstP_least (List.pairwise_cons.1 hp).2 h s hs hlt
  | some x =>
   rw [hc,Option.some_or] at h
   cases h
   have h2:=(candP_some hc).2.1
   rw [h2] at hlt
   dsimp only at hlt
   rcases List.mem_cons.1 hs with rfl|hs
   ·omega
   ·have:=(List.pairwise_cons.1 hp).1 s hs
    omega
theorem sites16_up:sites16.Pairwise (· < ·):=by decide
theorem nextP_least {l:List α}(hl:ClosedP f D l){V:List Dot}{e:α}(h:nextP f D l V=some e){x:α}(hx:x∈l) (hn:¬wentP V (f x)) (hc:coversV V (D x)) (hne:f x≠f e):(f e).site<(f x).site:=by
 have h3:=hl.next hx hn hc
 have hok:=(hl.ok x hx).1
 unfold Dot.Ok at hok
 obtain⟨_,_,_,h5⟩:=nextP_some h
 rcases Int.lt_trichotomy (f e).site (f x).site with h9|h9|h9
 ·exact h9
 ·refine absurd (Dot.ext h9.symm ?_) hne
  rw [h5,h9]
  exact congrArg Dot.seq h3
 ·have:=firstP_least sites16_up h (f x).site.toNat (mem_sites16.2 (by omega)) (by omega)
  exact absurd ⟨h3,hc⟩ (candP_none this x hx)
end
end Go.Proofs.YtjohljmpcblpjaaGreatDoor.St
