/- An iterator's contract for a range over a function: the iterator may keep cells of its own. Parts of the proof. -/
import Derived.Test.YtjohljmpcblpjaaGreatDoorM15
import Derived.RangeFuncBound
import Derived.Stop.RegionWithIn
set_option maxRecDepth 100000
set_option maxHeartbeats 8000000
namespace Go.Proofs.YtjohljmpcblpjaaGreatDoor.Tr
open Go.RowKit Go.Proofs.YtjohljmpcblpjaaGreatDoor.St Go.Shelf
def IterOk (F:Fence) (n:Nat) (P:Program) (gf:FuncId) (lb:Array Value) (N:Nat) (enc:Nat→Array Value) (Rd:World→Prop):Prop :=
 ∀(l:Nat) (I:Nat→(Nat→Prop)→World→Prop) (Z:(Nat→Prop)→World→Prop) (X0:Nat→Prop) (W:World),(∀i X w,I i X w→Rd w) →
  (∀i X w w',I i X w→Kept X w w'→I i (fun b=>X b∨(w.heap.size≤b∧b<w'.heap.size)) w') →
  (∀X w w',Z X w→Kept X w w'→Z (fun b=>X b∨(w.heap.size≤b∧b<w'.heap.size)) w') →
  (∀i X w,i<N→I i X w→YieldAt F (n-1) P l (enc i) w fun e w'=>∃b,e=.returned (.bool b)∧(∀x,X x→w'.heap[x]?=w.heap[x]?)∧w.heap.size≤w'.heap.size∧(b=true→I (i+1) X w')∧(b=false→Z X w')) →
  I 0 X0 W→CallsIn F n P gf (#[.func (.yield l) #[] #[]]++lb) W fun e w'=>(∃v,e=.returned v)∧((∃X,I N X w')∨∃X,Z X w')
def nth (L:List Nd) (i:Nat):Nd:=L[i]?.getD default
theorem nth_some {L:List Nd}{i:Nat}{m:Nd}(h:L[i]?=some m):nth L i=m:=by unfold nth;rw [h];rfl
theorem nth_lt {L:List Nd}{i:Nat}(h:i<L.length):L[i]?=some (nth L i):=by unfold nth;rw [List.getElem?_eq_getElem h];rfl
def allEnc (L:List Nd) (A:ID→Nat) (i:Nat):Array Value:=#[.pointer (some ⟨A (nth L i).id,0,none⟩)]
theorem all1_iter {F:Fence}{n:Nat}(h62:F.fn 140) (hro:F.round=none) (h1:1≤n){L:List Nd}{A:ID→Nat}{S:ID→Rw}{pl g:Nat}(hdoc:Doc L) (hlen:L.length≤900000) :
  IterOk F n Tryz.prog 140 #[.pointer (some ⟨pl,0,none⟩)] L.length (allEnc L A) (fun w=>w.cell? ⟨pl,0,none⟩=some (.pointer (some ⟨g,0,none⟩))∧Shape w g L A S) :=
 fun l I Z X0 W hrd hgr _ hy h0=>by
  have h:=all1_in h62 hro h1 (w:=W) (pl:=pl) (g:=g) (A:=A) (S:=S) hdoc hlen l I (fun w=>∃X,Z X w) hrd hgr (fun i X m w hm hI=>by
   have h2:=hy i X w (List.getElem?_eq_some_iff.1 hm).1 hI
   unfold allEnc at h2
   rw [nth_some hm] at h2
   exact YieldAt.mono h2 fun e w' ⟨b,k1,k2,k3,k4,k5⟩=>⟨b,k1,k2,k3,k4,fun hb=>⟨X,k5 hb⟩⟩) h0
  exact h.mono fun e w' ⟨he,hz⟩=>⟨⟨_,he⟩,hz⟩
def iterPost (B:Nat) (J:Nat→(Nat→Prop)→World→Prop) (Jx:Code→(Nat→Prop)→World→Prop) (i:Nat) (X:Nat→Prop) (W:World) (e:Exit) (_:Act) (W':World):Prop :=
 (∀x,X x∨x=B∨x=B+1→W'.heap[x]?=W.heap[x]?)∧W.heap.size≤W'.heap.size∧match e with
 | .normal=>J (i+1) X W'
 | .ret=>Jx .ret X W'
 | .exit id=>Jx (.exit id) X W'
 | .goto t=>Jx (.goto t) X W'
 | .panic _=>False
 | .outgrown=>False
theorem wpIn_iter {F:Fence}{n:Nat}{P:Program}{g:Operand}{ps:Array Tmp}{assign body:Code}{Q:Exit→Act→World→Prop}{a:Act}{w:World}(hro:F.round=none) (h1:1≤n)
  {gf:Nat} {lb:Array Value} (hg:a.eval g=.func (.func gf) #[] lb) (hFg:F.fn gf) (eg:∀args w,(callFunc gf args).run P w=.ok (.enter gf args) w)
  {N:Nat} {enc:Nat→Array Value} {Rd:World→Prop} (hit:IterOk F (n-1) P gf lb N enc Rd) (hps:∀i,i<N→(enc i).size=ps.size)
  (B:Nat) (hB:w.heap.size=B) (J:Nat→(Nat→Prop)→World→Prop) (Jx:Code→(Nat→Prop)→World→Prop) (hrd:∀i X W,J i X W→Rd W)
  (hgr:∀i X W W',J i X W→Kept X W W'→J i (fun b=>X b∨(W.heap.size≤b∧b<W'.heap.size)) W')
  (hgx:∀c X W W',Jx c X W→Kept X W W'→Jx c (fun b=>X b∨(W.heap.size≤b∧b<W'.heap.size)) W')
  (hob:∀i X W o',J i X W→J i X (W.putObj (B+1) o')) (hox:∀c X W o',Jx c X W→Jx c X (W.putObj (B+1) o'))
  (h0:∀o1 o2,J 0 (fun _=>False) ((w.alloc o1).alloc o2))
  (hround:∀(i:Nat) (W:World) (K:Act→World→Prop),i<N→(∀a1,(∀X W2,B+1<W2.heap.size→J i X W2→body.wpIn (F.inRound (B+1)) (n-1-1) P (iterPost B J Jx i X W2) a1 W2)→K a1 W)→assign.wpIn (F.inRound (B+1)) (n-1-1) P (Exit.then K (fun _ _ _=>False)) { tmps:=(ps.zip (enc i)).foldl (fun t (p,v)=>t.setIfInBounds p v) a.tmps,defers:=[] } W)
  (hdone:∀(X:Nat→Prop) (W:World),J N X W→W.heap[B]?=some (.deferred (some []))→Q .normal { a with defers:={ target:=.collected B,args:=#[] }::a.defers } W)
  (hstop:∀(c:Code) (X:Nat→Prop) (W:World),Jx c X W→W.heap[B]?=some (.deferred (some []))→c.wpIn F n P Q { a with defers:={ target:=.collected B,args:=#[] }::a.defers } W) :
  (Code.rangeFunc g ps assign body).wpIn F n P Q a w:=by
 subst hB
 refine wpIn_rangeFunc ?_
 intro fn hfn
 rw [hro]
 obtain⟨rec,hrec⟩:∃rec:LoopState→Option Code→Loop,rec=fun st pe=>{ state:=st,pending:=pe,fn,tmps:=a.tmps,params:=ps,assign,body,defers:=w.heap.size }:=⟨_,rfl⟩
 obtain⟨W1,hW1⟩:∃W1,(w.alloc (.deferred (some []))).alloc (.loop (rec .ready none))=W1:=⟨_,rfl⟩
 have hL1:W1.heap[w.heap.size+1]?=some (.loop (rec .ready none)):=by
  rw [←hW1];have:=World.alloc_heap_new (w.alloc (.deferred (some []))) (.loop (rec .ready none));rwa [World.size_alloc] at this
 have hD1:W1.heap[w.heap.size]?=some (.deferred (some [])):=by
  rw [←hW1];exact (Below.heap_alloc _ _ _ (by simp)).trans (World.alloc_heap_new w _)
 have hJ1:J 0 (fun _=>False) W1:=by rw [←hW1];exact h0 _ _
 refine⟨w.heap.size+1,[{ target:=.collected w.heap.size,args:=#[] }],W1,{ target:=.fn (.func gf) lb,args:=#[.func (.yield (w.heap.size+1)) #[] #[]] },W1,gf,#[.func (.yield (w.heap.size+1)) #[] #[]]++lb,W1,?_,?_,?_,?_,fun _=>h1,?_⟩
 ·rw [←hW1,hrec];exact run_enterLoop_outer _ _ _ _ _
 ·simp only [resolve,hg]
  simp [go_sem]
 ·intro f' hf';simp [Target.leads] at hf';subst hf';exact hFg
 ·simp [invoke,go_sem,eg]
 refine (hit (w.heap.size+1)
  (fun i X W=>J i X W∧¬X (w.heap.size+1)∧¬X w.heap.size∧W.heap[w.heap.size+1]?=some (.loop (rec .ready none))∧W.heap[w.heap.size]?=some (.deferred (some [])))
  (fun X W=>∃c,Jx c X W∧¬X (w.heap.size+1)∧¬X w.heap.size∧W.heap[w.heap.size+1]?=some (.loop (rec .done (some c)))∧W.heap[w.heap.size]?=some (.deferred (some [])))
  (fun _=>False) W1 (fun i X W h=>hrd i X W h.1) ?_ ?_ ?_ ⟨hJ1,fun h=>h,fun h=>h,hL1,hD1⟩).mono ?_
 ·rintro i X W W' ⟨hj,x1,x2,hl,hd⟩ hk
  have l1:=(Array.getElem?_eq_some_iff.1 hl).1
  have l2:=(Array.getElem?_eq_some_iff.1 hd).1
  exact⟨hgr i X W W' hj hk,fun h=>by rcases h with h | h;exact x1 h;omega,fun h=>by rcases h with h | h;exact x2 h;omega,(hk.block _ l1 x1).trans hl,(hk.block _ l2 x2).trans hd⟩
 ·rintro X W W' ⟨c,hj,x1,x2,hl,hd⟩ hk
  have l1:=(Array.getElem?_eq_some_iff.1 hl).1
  have l2:=(Array.getElem?_eq_some_iff.1 hd).1
  exact⟨c,hgx c X W W' hj hk,fun h=>by rcases h with h | h;exact x1 h;omega,fun h=>by rcases h with h | h;exact x2 h;omega,(hk.block _ l1 x1).trans hl,(hk.block _ l2 x2).trans hd⟩
 ·rintro i X W hi ⟨hj,x1,x2,hl,hd⟩
  have hlt:=(Array.getElem?_eq_some_iff.1 hl).1
  have hy:=run_yield (P:=P) (args:=enc i) hl (by rw [hrec];exact (hps i hi).symm ▸ rfl)
  rw [hrec] at hy
  refine⟨fn,_,assign,body,hy,roundIn_of_wpIn hfn (hround i W _ hi fun a1 h9=>?_)⟩
  ·refine⟨_,run_beginRound hl (by rw [hrec]),?_⟩
   obtain⟨busy,hbz⟩:∃b:Loop,b={ rec .ready none with state:=.busy }:=⟨_,rfl⟩
   rw [←hbz]
   have hl2:(W.putObj (w.heap.size+1) (.loop busy)).heap[w.heap.size+1]?=some (.loop busy):=World.putObj_heap_same hlt
   have hd2:(W.putObj (w.heap.size+1) (.loop busy)).heap[w.heap.size]?=some (.deferred (some [])):=(World.putObj_heap_other (by omega)).trans hd
   refine wpIn_mono (h9 X _ (by simpa using hlt) (hob _ _ _ _ hj)) ?_
   have fin:∀(jump:Option Code) (W3:World),(∀x,X x∨x=w.heap.size∨x=w.heap.size+1→W3.heap[x]?=(W.putObj (w.heap.size+1) (.loop busy)).heap[x]?) →
     (Instr.endRound (w.heap.size+1) jump).run P W3=.ok (.bool jump.isNone) (W3.putObj (w.heap.size+1) (.loop (rec (if jump.isNone then .ready else .done) jump)))∧W3.heap[w.heap.size+1]?=some (.loop busy) ∧
     (W3.putObj (w.heap.size+1) (.loop (rec (if jump.isNone then .ready else .done) jump))).heap[w.heap.size+1]?=some (.loop (rec (if jump.isNone then .ready else .done) jump)) ∧
     (W3.putObj (w.heap.size+1) (.loop (rec (if jump.isNone then .ready else .done) jump))).heap[w.heap.size]?=some (.deferred (some [])) ∧
     (∀x,X x→(W3.putObj (w.heap.size+1) (.loop (rec (if jump.isNone then .ready else .done) jump))).heap[x]?=W.heap[x]?):=fun jump W3 hk3=>by
    have hl3:=(hk3 _ (.inr (.inr rfl))).trans hl2
    have h9:=run_endRound (P:=P) jump hl3
    rw [hbz,hrec] at h9
    rw [hrec]
    refine⟨h9,hl3,World.putObj_heap_same (Array.getElem?_eq_some_iff.1 hl3).1,(World.putObj_heap_other (by omega)).trans ((hk3 _ (.inr (.inl rfl))).trans hd2),fun x hx=>?_⟩
    have hne:x≠w.heap.size+1:=fun e=>x1 (e ▸ hx)
    exact (World.putObj_heap_other hne).trans ((hk3 x (.inl hx)).trans (World.putObj_heap_other hne))
   rintro e a3 W3 ⟨hkx,hs,hp⟩
   have hs3:W.heap.size≤W3.heap.size:=by simpa using hs
   cases e with
   | normal =>
    obtain⟨hr,hl3,hl4,hd4,hx4⟩:=fin none W3 hkx
    exact⟨_,_,hr,true,rfl,hx4,by simpa using hs3,fun _=>⟨hob _ _ _ _ hp,x1,x2,hl4,hd4⟩,fun h=>by cases h⟩
   | ret =>
    obtain⟨hr,hl3,hl4,hd4,hx4⟩:=fin (some .ret) W3 hkx
    exact⟨_,_,hr,false,rfl,hx4,by simpa using hs3,(fun h=>by cases h),fun _=>⟨.ret,hox _ _ _ _ hp,x1,x2,hl4,hd4⟩⟩
   | exit id =>
    obtain⟨hr,hl3,hl4,hd4,hx4⟩:=fin (some (.exit id)) W3 hkx
    exact⟨_,_,hr,false,rfl,hx4,by simpa using hs3,(fun h=>by cases h),fun _=>⟨(.exit id),hox _ _ _ _ hp,x1,x2,hl4,hd4⟩⟩
   | goto t =>
    obtain⟨hr,hl3,hl4,hd4,hx4⟩:=fin (some (.goto t)) W3 hkx
    exact⟨_,_,hr,false,rfl,hx4,by simpa using hs3,(fun h=>by cases h),fun _=>⟨(.goto t),hox _ _ _ _ hp,x1,x2,hl4,hd4⟩⟩
   | panic _=>exact hp.elim
   | outgrown=>exact hp.elim
 ·rintro e W3 ⟨⟨v,rfl⟩,h⟩
  rcases h with ⟨X,hj,_,_,hl,hd⟩|⟨X,c,hj,_,_,hl,hd⟩
  ·have h9:=run_endLoop (P:=P) hl (by rw [hrec];simp)
   refine⟨_,_,h9,?_⟩
   rw [hrec]
   exact hdone X _ (hob _ _ _ _ hj) ((World.putObj_heap_other (by omega)).trans hd)
  ·have h9:=run_endLoop (P:=P) hl (by rw [hrec];simp)
   refine⟨_,_,h9,?_⟩
   rw [hrec]
   exact hstop c X _ (hox _ _ _ _ hj) ((World.putObj_heap_other (by omega)).trans hd)
abbrev Box:=Nat × TypeId × Array Value
structure CJ (w:World) (B:Nat) (M:Nat→Prop) (bs:List Box) (g:Nat) (L:List Nd) (A:ID→Nat) (S:ID→Rw) (mp:Option Nat) (X:Nat→Prop) (W:World):Prop where
 box:∀x∈bs,(w.heap.size≤x.1∧x.1<B)∧Blk W x.1 x.2.1 x.2.2
 tree:TAt W g L A S mp
 low:∀b,foot g L A S mp b→b<w.heap.size
 far:∀b,X b→B≤b∧b<W.heap.size
 size:w.heap.size≤B∧B≤W.heap.size
 kept:Kept M w W
variable {w W W':World} {B:Nat} {M:Nat→Prop} {bs:List Box} {g:Nat} {L:List Nd} {A:ID→Nat} {S:ID→Rw} {mp:Option Nat} {X:Nat→Prop}
theorem CJ.start (h:TAt w g L A S mp):CJ w w.heap.size M [] g L A S mp (fun _=>False) w :=
 {box:=fun x hx=>by simp at hx
  tree:=h
  low:=h.lt
  far:=fun _ h=>h.elim
  size:=⟨Nat.le_refl _,Nat.le_refl _⟩
  kept:=Kept.refl _ _ }
theorem CJ.boxed (h:CJ w W.heap.size M bs g L A S mp (fun _=>False) W) (vs:Array Value) (T:TypeId):CJ w (W.alloc (.cells vs T)).heap.size M (bs++[(W.heap.size,T,vs)]) g L A S mp (fun _=>False) (W.alloc (.cells vs T)) :=
 {box:=fun x hx=>by
   have hs:(W.alloc (.cells vs T)).heap.size=W.heap.size+1:=World.size_alloc _ _
   rcases List.mem_append.1 hx with hx|hx
   ·exact⟨⟨(h.box x hx).1.1,by have:=(h.box x hx).1.2;omega⟩,(h.box x hx).2.alloc _⟩
   ·rw [List.mem_singleton.1 hx]
    exact⟨⟨h.size.1,by show W.heap.size<_;omega⟩,Blk.new _ _ _⟩
  tree:=h.tree.keep ((Kept.refl (fun _=>False) W).alloc _) fun _ _ h=>h
  low:=h.low
  far:=fun _ h=>h.elim
  size:=⟨by have:=h.size.1;simp;omega,Nat.le_refl _⟩
  kept:=h.kept.alloc _ }
theorem CJ.drew (h:CJ w B M bs g L A S mp X W):CJ w B M bs g L A S mp X W.drew:=by
 have hk:Kept (fun _=>False) W W.drew:=(Kept.refl _ _).drew
 exact { box:=fun x hx=>⟨(h.box x hx).1,hk.blk (fun h=>h) (h.box x hx).2⟩
         tree:=h.tree.still hk
         low:=h.low
         far:=h.far
         size:=h.size
         kept:=h.kept.drew }
theorem CJ.step {Y:Nat→Prop}(h:CJ w B M bs g L A S mp X W) (hk:Kept Y W W') (hY:∀b,Y b→B≤b):CJ w B M bs g L A S mp X W' where
 box:=fun x hx=>⟨(h.box x hx).1,hk.blk (fun hy=>by have:=hY _ hy;have:=(h.box x hx).1;omega) (h.box x hx).2⟩
 tree:=h.tree.keep hk fun b hb hy=>by have:=hY _ hy;have:=h.low b hb;have:=h.size.1;omega
 low:=h.low
 far:=fun b hb=>⟨(h.far b hb).1,Nat.lt_of_lt_of_le (h.far b hb).2 hk.size⟩
 size:=⟨h.size.1,Nat.le_trans h.size.2 hk.size⟩
 kept:=h.kept.trans hk fun b hb hy=>by have:=hY _ hy;have:=h.size.1;omega
theorem CJ.grow (h:CJ w B M bs g L A S mp X W) (hk:Kept X W W'):CJ w B M bs g L A S mp (fun b=>X b∨(W.heap.size≤b∧b<W'.heap.size)) W' :=
 {h.step hk fun b hb=>(h.far b hb).1 with far:=fun b hb=>hb.elim (fun h1=>⟨(h.far b h1).1,Nat.lt_of_lt_of_le (h.far b h1).2 hk.size⟩) fun h2=>⟨Nat.le_trans h.size.2 h2.1,h2.2⟩ }
theorem CJ.alloc (h:CJ w B M bs g L A S mp X W) (o:Obj):CJ w B M bs g L A S mp X (W.alloc o) :=
 h.step (Y:=fun _=>False) ((Kept.refl _ _).alloc o) fun _ h=>h.elim
theorem kept_put (W:World) (l:Nat) (o:Obj):Kept (·=l) W (W.putObj l o):=kept_obj W l o
theorem CJ.put (h:CJ w B M bs g L A S mp X W){l:Nat}(hl:B≤l) (o:Obj):CJ w B M bs g L A S mp X (W.putObj l o) :=
 h.step (kept_put W l o) fun b hb=>by rw [hb];exact hl
theorem CJ.at_ (h:CJ w B M bs g L A S mp X W) (j:Nat){z:Nat}{T:TypeId}{us:Array Value}(hj:bs[j]?=some (z,T,us)):Blk W z T us:=(h.box _ (List.mem_of_getElem? hj)).2
theorem CJ.cell (h:CJ w B M bs g L A S mp X W) (j:Nat){z:Nat}{T:TypeId}{us:Array Value}(hj:bs[j]?=some (z,T,us)) (i:Nat){u:Value}(hu:us[i]?=some u):W.cell? ⟨z,i,none⟩=some u:=(h.at_ j hj).cell' hu
theorem CJ.frozen (h:CJ w B M bs g L A S mp X W) (j:Nat){z:Nat}{T:TypeId}{us:Array Value}(hj:bs[j]?=some (z,T,us)) (i:Nat):W.frozen? ⟨z,i,none⟩=false:=(h.at_ j hj).frozen i
theorem CJ.seti (h:CJ w B M bs g L A S mp X W) (j:Nat){z:Nat}{T:TypeId}{us:Array Value}(o:Nat) (v:Value) (hj:bs[j]?=some (z,T,us)) (hnd:(bs.map (·.1)).Nodup):CJ w B M (bs.set j (z,T,us.setIfInBounds o v)) g L A S mp X (W.setCell ⟨z,o,none⟩ v):=by
 have hjl:=(List.getElem?_eq_some_iff.1 hj).1
 have hzb:=h.box _ (List.mem_of_getElem? hj)
 have hk:Kept (·=z) W (W.setCell ⟨z,o,none⟩ v):=(Kept.refl (·=z) W).setCell (p:=⟨z,o,none⟩) (fun _=>rfl) v
 refine { box:=fun x hx=>?_,tree:=h.tree.keep hk fun b hb e=>?_,low:=h.low,far:=fun b hb=>⟨(h.far b hb).1,by rw [World.size_setCell];exact (h.far b hb).2⟩,size:=⟨h.size.1,by rw [World.size_setCell];exact h.size.2⟩,kept:=h.kept.trans hk fun b hb e=>?_ }
 ·obtain⟨i,hi,hx⟩:=List.mem_iff_getElem.1 hx
  by_cases e:j=i
  ·subst e
   rw [List.getElem_set_self] at hx
   subst hx
   exact⟨hzb.1,by have h9:=Blk.set_ (g:=z) (t:=T) (cs:=us) hzb.2 o v;exact h9⟩
  ·rw [List.getElem_set_ne e] at hx
   have hx2:x∈bs:=by rw [←hx];exact List.getElem_mem _
   refine⟨(h.box x hx2).1,hk.blk (fun hz=>e ?_) (h.box x hx2).2⟩
   rw [List.length_set] at hi
   have h2:(bs.map (·.1))[j]'(by simpa using hjl)=(bs.map (·.1))[i]'(by simpa using hi):=by
    rw [List.getElem_map,List.getElem_map,hx,hz,(List.getElem?_eq_some_iff.1 hj).2]
   rcases Nat.lt_or_gt_of_ne e with hlt|hlt
   ·exact absurd h2 ((List.pairwise_iff_getElem.1 hnd) j i _ _ hlt)
   ·exact absurd h2.symm ((List.pairwise_iff_getElem.1 hnd) i j _ _ hlt)
 ·have:=h.low b hb;have:=hzb.1.1;omega
 ·have:=hzb.1.1;omega
theorem CJ.set (h:CJ w B M bs g L A S mp X W) (j:Nat){z:Nat}{T:TypeId}{u:Value}(v:Value) (hj:bs[j]?=some (z,T,#[u])) (hnd:(bs.map (·.1)).Nodup):CJ w B M (bs.set j (z,T,#[v])) g L A S mp X (W.setCell ⟨z,0,none⟩ v) :=
 h.seti j 0 v hj hnd
theorem region_cut {F:Fence}{n:Nat}{P:Program}{c:Code}{Q:Exit→Act→World→Prop}{a:Act}{W:World}(R:World→Prop) (h:∃A,c.wpIn F n P (fun e a' W'=>e=.normal∧a'=A∧R W') a W∧∀W',R W'→Q .normal A W'):c.wpIn F n P Q a W:=by
 obtain⟨A,h1,h2⟩:=h
 exact wpIn_mono h1 fun e a' W' ⟨h3,h4,h5⟩=>by subst h3 h4;exact h2 W' h5
theorem region_any {F:Fence}{n:Nat}{P:Program}{c:Code}{Q:Exit→Act→World→Prop}{a:Act}{W:World}(R:Act→World→Prop) (h:c.wpIn F n P (fun e a' W'=>e=.normal∧R a' W') a W) (h2:∀a' W',R a' W'→Q .normal a' W'):c.wpIn F n P Q a W :=
 wpIn_mono h fun e a' W' ⟨h3,h5⟩=>by subst h3;exact h2 a' W' h5
theorem kept_cell (W:World) (z:Nat) (v:Value):Kept (·=z) W (W.setCell ⟨z,0,none⟩ v):=(Kept.refl (·=z) W).setCell (p:=⟨z,0,none⟩) (fun _=>rfl) v
theorem CJ.off {Y:Nat→Prop}(h:CJ w B M bs g L A S mp X W) (h2:B+1<W.heap.size) (hk:Kept Y W W') (hY:∀b,Y b→b<B):(∀x,X x∨x=B∨x=B+1→W'.heap[x]?=W.heap[x]?)∧W.heap.size≤W'.heap.size :=
 ⟨fun x hx=>hk.block x (by rcases hx with hx | rfl | rfl;exact (h.far x hx).2;omega;omega) fun hy=>by
  have:=hY x hy
  rcases hx with hx|rfl|rfl
  ·have:=(h.far x hx).1;omega
  ·omega
  ·omega,hk.size⟩
theorem ret_range {F:Fence}{n:Nat}{P:Program}{fn:Func}{R:Ending→World→Prop}{tmps:Array Value}{v:Value}(hK:W.heap[B]?=some (.deferred (some []))) (hr:(results fn tmps).run P (W.putObj B (.deferred none))=.ok v (W.putObj B (.deferred none)))
  (h:R (.returned v) (W.putObj B (.deferred none))):LeavesInM F n P fn tmps R [{ target:=.collected B,args:=#[] }] .returning W :=
 ⟨by simp,.inl ⟨_,_,rfl,run_takeDeferred hK,v,hr,h⟩⟩
theorem CJ.taken (h:CJ w B M bs g L A S mp X W) (o:Obj):CJ w B M bs g L A S mp X (W.putObj B o):=h.put (Nat.le_refl _) o
end Go.Proofs.YtjohljmpcblpjaaGreatDoor.Tr
namespace Go.Proofs.YtjohljmpcblpjaaGreatDoor.Tr
open Go.RowKit Go.Proofs.YtjohljmpcblpjaaGreatDoor.St Go.Shelf
abbrev key (n:Nd):ID × ID:=(n.id,n.ref)
theorem key_ids {L L':List Nd}(h:L'.map key=L.map key):ids L'=ids L:=by
 have:=congrArg (List.map Prod.fst) h
 rw [List.map_map,List.map_map] at this
 exact this
theorem key_kids {L L':List Nd}(h:L'.map key=L.map key) (r:ID) (A:ID→Nat):(kids L' r).map (fun n=>A n.id)=(kids L r).map (fun n=>A n.id):=by
 have e:∀M:List Nd,(kids M r).map (fun n=>A n.id)=((M.map key).filter (fun p=>decide (p.2=r))).map (fun p=>A p.1):=fun M=>by
  rw [List.filter_map,List.map_map];rfl
 rw [e,e,h]
theorem key_foot {L L':List Nd}(h:L'.map key=L.map key){g:Nat}{A:ID→Nat}{S:ID→Rw}{mp:Option Nat}{b:Nat}:foot g L' A S mp b↔foot g L A S mp b:=by
 unfold foot Ref;rw [key_ids h]
theorem Shape.key {w:World}{g:Nat}{L L':List Nd}{A:ID→Nat}{S:ID→Rw}(hs:Shape w g L A S) (h:L'.map key=L.map key):Shape w g L' A S where
 root:=hs.root
 beh:=fun n hn=>by
  have h1:n.id∈ids L:=by rw [←key_ids h];exact List.mem_map.2 ⟨n,hn,rfl⟩
  obtain⟨m,hm,e⟩:=List.mem_map.1 h1
  have:=hs.beh m hm
  rwa [e] at this
 row:=fun r hr=>by
  rw [key_ids h] at hr
  rw [key_kids h]
  exact hs.row r hr
theorem RowAt.ne {w:World}{s:Rw}{D:List Nat}(h:RowAt w s D){g:Nat}{cs:Array Value}{t:TypeId}(hb:Blk w g t cs) (ht:t≠160):∀b,s.blk=some b→¬b=g:=by
 rintro b hs rfl
 rcases h with ⟨rfl,_⟩|⟨b',cap,rfl,cs',h1,_⟩
 ·cases hs
 ·cases hs
  exact Blk.ne_ hb h1 ht rfl
theorem TAt.state {w:World}{g:Nat}{P Q:List Nd}{m:Nd}{A:ID→Nat}{S:ID→Rw}{mp:Option Nat}(h:TAt w g (P++m::Q) A S mp) (hnd:(ids (P++m::Q)).Nodup) (st:Int) :
  TAt (w.setCell ⟨A m.id,5,none⟩ (.int .i64 st)) g (P++{ m with st:=st }::Q) A S mp:=by
 have hk:Kept (·=A m.id) w (w.setCell ⟨A m.id,5,none⟩ (.int .i64 st)):=(Kept.refl (·=A m.id) w).setCell (p:=⟨A m.id,5,none⟩) (fun _=>rfl) _
 have hm:m∈P++m::Q:=by simp
 have hmi:m.id∈ids (P++m::Q):=List.mem_map.2 ⟨m,hm,rfl⟩
 have he:=h.elt m hm
 have hkey:(P++{ m with st:=st }::Q).map key=(P++m::Q).map key:=by simp [key]
 have hids:=key_ids hkey
 have hne:∀n∈P++Q,n.id≠m.id:=fun n hn e=>by
  rw [ids_append] at hnd
  obtain⟨n1,n2,n3⟩:=List.nodup_append.1 hnd
  rcases List.mem_append.1 hn with hn|hn
  ·exact n3 _ (List.mem_map.2 ⟨n,hn,rfl⟩) m.id List.mem_cons_self e
  ·exact (List.nodup_cons.1 n2).1 (List.mem_map.2 ⟨n,hn,e⟩)
 refine { top:=hk.blk (fun e=>?_) h.top,elt:=fun n hn=>?_,row:=fun r hr=>?_,by_:=?_,one:=by rw [hids];exact h.one,far:=fun x y hx hy=>?_ }
 ·exact Blk.ne_ h.top he (by decide) e
 ·have hn2:n={ m with st:=st }∨n∈P++Q:=by
   rcases List.mem_append.1 hn with hn|hn
   ·exact .inr (List.mem_append_left _ hn)
   ·rcases List.mem_cons.1 hn with hn | hn
    ·exact .inl hn
    ·exact .inr (List.mem_append_right _ hn)
  rcases hn2 with rfl|hn2
  ·exact he.set_ 5 (.int .i64 st)
  ·have hn3:n∈P++m::Q:=by rcases List.mem_append.1 hn2 with h1 | h1;exact List.mem_append_left _ h1;exact List.mem_append_right _ (List.mem_cons_of_mem _ h1)
   exact hk.blk (fun e=>hne n hn2 (h.one _ (List.mem_map.2 ⟨n,hn3,rfl⟩) _ hmi e)) (h.elt n hn3)
 ·have hr2:Ref (P++m::Q) r:=by unfold Ref at hr ⊢;rwa [hids] at hr
  rw [key_kids hkey]
  exact (h.row r hr2).keep hk ((h.row r hr2).ne he (by decide))
 ·rcases h.by_ with ⟨h1,h2⟩ | ⟨b,kvs,h1,h2,h3,h4,h5⟩
  ·simp at h2
  ·refine .inr ⟨b,kvs,h1,h2.keep hk fun e=>h2.ne_blk he e.symm,h3,by rw [h4];simp,fun x=>by rw [h5 x,hids]⟩
 ·unfold Ref at hx hy
  rw [hids] at hx hy
  exact h.far x y hx hy
variable {w W W':World} {B:Nat} {M:Nat→Prop} {bs:List Box} {g:Nat} {L:List Nd} {A:ID→Nat} {S:ID→Rw} {mp:Option Nat} {X:Nat→Prop}
theorem CJ.state {P Q:List Nd}{m:Nd}(h:CJ w B M bs g (P++m::Q) A S mp X W) (hnd:(ids (P++m::Q)).Nodup) (hM:M (A m.id)) (st:Int):CJ w B M bs g (P++{ m with st:=st }::Q) A S mp X (W.setCell ⟨A m.id,5,none⟩ (.int .i64 st)):=by
 have hk:Kept (·=A m.id) W (W.setCell ⟨A m.id,5,none⟩ (.int .i64 st)):=(Kept.refl (·=A m.id) W).setCell (p:=⟨A m.id,5,none⟩) (fun _=>rfl) _
 have hl:A m.id<w.heap.size:=h.low _ (.inr (.inr (.inl ⟨m.id,List.mem_map.2 ⟨m,by simp,rfl⟩,rfl⟩)))
 have hkey:(P++{ m with st:=st }::Q).map key=(P++m::Q).map key:=by simp [key]
 exact { box:=fun x hx=>⟨(h.box x hx).1,hk.blk (fun e=>by have:=(h.box x hx).1.1;have e:x.1=A m.id:=e;omega) (h.box x hx).2⟩
         tree:=h.tree.state hnd st
         low:=fun b hb=>h.low b ((key_foot hkey).1 hb)
         far:=fun b hb=>⟨(h.far b hb).1,by rw [World.size_setCell];exact (h.far b hb).2⟩
         size:=⟨h.size.1,by rw [World.size_setCell];exact h.size.2⟩
         kept:=h.kept.trans hk fun b _ e=>by rw [e];exact hM }
theorem CJ.grew (h:CJ w B M bs g L A S mp X W) (hg:Kept (fun _=>False) W W'):CJ w B M bs g L A S mp X W':=h.step hg fun _ h=>h.elim
end Go.Proofs.YtjohljmpcblpjaaGreatDoor.Tr
namespace Go.Proofs.YtjohljmpcblpjaaGreatDoor.Tr
open Go.RowKit Go.Proofs.YtjohljmpcblpjaaGreatDoor.St Go.Shelf
attribute [local go_sem] Oper.semAt_some
def Gro {α:Type}(E:Enc α) (t:TypeId) (w:World) (B:Nat) (M:Nat→Prop) (f:Value→List Box) (g:Nat) (L:List Nd) (A:ID→Nat) (S:ID→Rw) (mp:Option Nat) (D:List α) (X:Nat→Prop) (W:World):Prop :=
 ∃v,CJ w B M (f v) g L A S mp X W∧W.ownsRow (B+2) t E.k v D.length (E.flat D)∧∀b,v.ownBlock=some b→¬X b
variable {α:Type} {E:Enc α} {t:TypeId} {w W W':World} {B:Nat} {M:Nat→Prop} {f:Value→List Box} {g:Nat} {L:List Nd} {A:ID→Nat} {S:ID→Rw} {mp:Option Nat} {D:List α} {X:Nat→Prop}
theorem owns_lt {w:World}{base n size:Nat}{e:TypeId}{v:Value}{xs:List Value}(h:w.ownsRow base e size v n xs):∀b,v.ownBlock=some b→base≤b∧b<w.heap.size:=fun b hb=>by
 rcases h.2 with ⟨rfl,_⟩|⟨g,cap,cur,rfl,hbg,hg,_⟩
 ·cases hb
 ·cases hb;exact⟨hbg,Blk.lt (t:=e) (cs:=cur) hg⟩
theorem Gro.grow (h:Gro E t w B M f g L A S mp D X W) (hk:Kept X W W'):Gro E t w B M f g L A S mp D (fun b=>X b∨(W.heap.size≤b∧b<W'.heap.size)) W':=by
 obtain⟨v,hJ,hO,hX⟩:=h
 refine⟨v,hJ.grow hk,owns_keep hO hk hX,fun b hb=>?_⟩
 have:=(owns_lt hO b hb).2
 rintro (h1 | h1)
 ·exact hX b hb h1
 ·omega
theorem Gro.step {Y:Nat→Prop}(h:Gro E t w B M f g L A S mp D X W) (hk:Kept Y W W') (hY:∀b,Y b→B≤b∧b<B+2):Gro E t w B M f g L A S mp D X W':=by
 obtain⟨v,hJ,hO,hX⟩:=h
 exact⟨v,hJ.step hk fun b hb=>(hY b hb).1,owns_keep hO hk fun b hb hy=>by have:=(owns_lt hO b hb).1;have:=(hY b hy).2;omega,hX⟩
theorem Gro.put (h:Gro E t w B M f g L A S mp D X W) (o:Obj):Gro E t w B M f g L A S mp D X (W.putObj (B+1) o) :=
 h.step (kept_put W (B+1) o) fun b hb=>by rw [hb];omega
theorem Gro.alloc (h:Gro E t w B M f g L A S mp D X W) (o:Obj):Gro E t w B M f g L A S mp D X (W.alloc o) :=
 h.step ((Kept.refl (fun _=>False) W).alloc o) fun _ h=>h.elim
theorem Gro.after {v v2:Value}{W1 w2:World}(hJ:CJ w B M (f v) g L A S mp X W) (hO:W.ownsRow (B+2) t E.k v D.length (E.flat D))
  (hk:Kept (fun _=>False) W W1) (hg:Grow1 W1 w2 v v2):CJ w B M (f v) g L A S mp X w2:=by
 have hg2:Kept (fun b=>v.ownBlock=some b) W1 w2:=by
  rcases hg with ⟨_,h⟩|⟨_,h⟩
  ·exact h
  ·exact h.mono fun _ _ h=>h.elim
 exact hJ.step ((hk.mono fun _ _ h=>h.elim).trans hg2 fun _ _ h=>h) fun b hb=>by have:=(owns_lt hO b hb).1;omega
theorem Gro.appended {v v2:Value}{x:α}{W1 w2:World}(hJ:CJ w B M (f v) g L A S mp X W) (hO:W.ownsRow (B+2) t E.k v D.length (E.flat D)) (hX:∀b,v.ownBlock=some b→¬X b) (h2:B+1<W.heap.size)
  (hk:Kept (fun _=>False) W W1) (hg:Grow1 W1 w2 v v2) {n:Nat} (hn:n=D.length+1) (ho:w2.ownsRow (B+2) t E.k v2 n (E.flat (D++[x]))) (j:Nat) {z:Nat} {T:TypeId} (hj:(f v)[j]?=some (z,T,#[v])) (hnd:((f v).map (·.1)).Nodup) (hf:f v2=(f v).set j (z,T,#[v2])) :
  ((∀x,X x∨x=B∨x=B+1→(w2.setCell ⟨z,0,none⟩ v2).heap[x]?=W.heap[x]?)∧W.heap.size≤(w2.setCell ⟨z,0,none⟩ v2).heap.size)∧Gro E t w B M f g L A S mp (D++[x]) X (w2.setCell ⟨z,0,none⟩ v2):=by
 subst hn
 have hzb:=hJ.box _ (List.mem_of_getElem? hj)
 have hz1:w.heap.size≤z:=hzb.1.1
 have hz2:z<B:=hzb.1.2
 have hsW:=hk.size
 have hg2:Kept (fun b=>v.ownBlock=some b) W1 w2:=by
  rcases hg with ⟨_,h⟩|⟨_,h⟩
  ·exact h
  ·exact h.mono fun _ _ h=>h.elim
 have hkk:Kept (fun b=>v.ownBlock=some b) W w2:=(hk.mono fun _ _ h=>h.elim).trans hg2 fun _ _ h=>h
 have hJ2:CJ w B M (f v) g L A S mp X w2:=hJ.step hkk fun b hb=>by have:=(owns_lt hO b hb).1;omega
 have hJ3:=hJ2.set j v2 hj hnd
 rw [←hf] at hJ3
 have hc:=kept_cell w2 z v2
 have hk3:Kept (fun b=>b=z∨v.ownBlock=some b) W (w2.setCell ⟨z,0,none⟩ v2):=(hkk.mono fun _ _ h=>.inr h).trans hc fun _ _ h=>.inl h
 refine⟨⟨fun x hx=>hk3.block x ?_ ?_,hk3.size⟩,v2,hJ3,?_,fun b hb hXb=>?_⟩
 ·rcases hx with hx | rfl | rfl
  ·exact (hJ.far x hx).2
  ·omega
  ·omega
 ·rintro (rfl | hb)
  ·rcases hx with hx | hx | hx
   ·have:=(hJ.far _ hx).1;omega
   ·omega
   ·omega
  ·rcases hx with hx | hx | hx
   ·exact hX x hb hx
   ·have:=(owns_lt hO x hb).1;omega
   ·have:=(owns_lt hO x hb).1;omega
 ·have hl:(D++[x]).length=D.length+1:=by simp
  rw [hl]
  exact owns_keep ho hc fun b hb e=>by have:=(owns_lt ho b hb).1;omega
 ·have hXl:=(hJ.far b hXb).2
  rcases hg with ⟨h1,_⟩|⟨h1,_⟩
  ·rw [h1] at hb;exact hX b hb hXb
  ·rw [h1] at hb
   injection hb with hb
   omega
def GroR {α:Type}(E:Enc α) (t:TypeId) (w:World) (B:Nat) (M:Nat→Prop) (f:Value→List Box) (g:Nat) (L:List Nd) (A:ID→Nat) (S:ID→Rw) (mp:Option Nat) (D:List α) (X:Nat→Prop) (W:World) (_:Act) (W':World):Prop :=
 ((∀x,X x∨x=B∨x=B+1→W'.heap[x]?=W.heap[x]?)∧W.heap.size≤W'.heap.size)∧Gro E t w B M f g L A S mp D X W'
theorem step_append_in {F:Fence}{n:Nat}{P:Program}{α:Type}(E:Enc α){o:Oper}{a:Act}{w:World}{K:Act→World→Prop}{Q:Exit→Act→World→Prop}{R:Result Next}(s y:Operand) (t:TypeId)
  (hop:o.op=Op.call { callee:=Callee.builtin Builtin.append,args:=#[s,y],argTypes:=#[t,t] }) (base:Nat) (e:TypeId) (z:Value) (bytes:Nat) (ht:P.underlying t=some (.slice e))
  (hinfo:(P.info? e).map (fun i=>(i.zero,i.size,i.bytes))=some (some z,E.k,bytes)) (hzs:z.cells.size=E.k) (hb4:bytes≤4096) {v:Value} {D:List α} {x:α} {ad:Addr} {c:Nat} (hs:a.eval s=v) (hx:a.eval y=.slice (some ad) 1 c)
  (himp:o.uponIn F n P a K Q ((execOp a.eval o).run P w)→o.uponIn F n P a K Q R)
  (hown:w.ownsRow base e E.k v D.length (E.flat D)) (hL:SlAt E w (.slice (some ad) 1 c) [x]) (h63:D.length≤1000000) (hbase:base≤w.heap.size)
  (hK:∀v' w',w'.ownsRow base e E.k v' (D.length+1) (E.flat (D++[x]))→Grow1 w w' v v'→K (a.put o.dst v') w'):o.uponIn F n P a K Q R:=by
 refine himp ?_
 obtain⟨v',w',hr,h2,h3⟩:=run_append_keeps (P:=P) E t o.type e base z bytes ht hinfo hzs hb4 hown hL h63 hbase
 simp only [hop,execOp,resolve,invoke,builtin,Sem.run_bind,Sem.run_pure,Result.andThen_ok,List.map_toArray,List.map_cons,List.map_nil,hs,hx,hr]
 exact hK v' w' h2 h3
end Go.Proofs.YtjohljmpcblpjaaGreatDoor.Tr
namespace Go.Proofs.YtjohljmpcblpjaaGreatDoor.Tr
open Go.RowKit Go.Proofs.YtjohljmpcblpjaaGreatDoor.St Go.Shelf
attribute [local go_sem] Oper.semAt_some
theorem info_node:(Tryz.prog.info? 84).map (fun i=>(i.zero,i.size,i.bytes))=some (some (.agg #[.int .i64 0,.int .i64 0,.int .i64 0,.int .i64 0,.int .i32 0,.int .i64 0]),6,48):=by kernel_rfl
def nodesB (z g:Nat) (v:Value):List Box :=
 [(z,51,#[v]),(z+1,102,#[.pointer (some ⟨g,0,none⟩)])]
theorem nodesB_nodup (z g:Nat) (v:Value):((nodesB z g v).map (·.1)).Nodup:=by
 simp [nodesB]
def nodesJ (w:World) (B g:Nat) (L:List Nd) (A:ID→Nat) (S:ID→Rw) (mp:Option Nat) (i:Nat) (X:Nat→Prop) (W:World):Prop :=
 Gro nodeE 84 w B (fun _=>False) (nodesB w.heap.size g) g L A S mp (L.take i) X W
def ClipAt {α:Type}(E:Enc α) (t:TypeId) (base:Nat) (w:World) (v:Value) (D:List α):Prop :=
 (v=.slice none 0 0∧D=[])∨∃b cap,v=.slice (some ⟨b,0,none⟩) D.length D.length∧base≤b∧OwnAt E w t b cap D
theorem clip_any (a:Option Addr) (n c:Nat) (h:n≤c) (w:World):Calls Tryz.prog 100 #[.slice a n c] w fun e w'=>e=.returned (.slice a n n)∧w'=w:=by
 go_enter Tryz.func100,Tryz.ntmps100
 go_wp2
 go_ret
 exact⟨rfl,rfl⟩
theorem nodes_any {w:World}{g:Nat}{L:List Nd}{A:ID→Nat}{S:ID→Rw}{mp:Option Nat}(h:TAt w g L A S mp) (hdoc:Doc L) (hlen:L.length≤900000) :
  Calls Tryz.prog 57 #[.pointer (some ⟨g,0,none⟩)] w fun e w'=>(∃v,e=.returned v∧ClipAt nodeE 84 w.heap.size w' v L)∧Kept (fun _=>False) w w':=by
 refine (callsIn_wide (n:=6)).1 ?_
 refine callsIn_of_wp_marks Tryz.func57 rfl trivial ?_ rfl
 simp only [Tryz.ntmps57,List.size_toArray,List.length_cons,List.length_nil,Nat.reduceAdd,Nat.reduceSub,Array.replicate_succ,Array.replicate_zero,List.push_toArray,List.append_toArray,List.nil_append,List.cons_append]
 gi_wp2_with (refine⟨trivial,?_⟩;gi_at_call 99;refine (callsIn_wide.2 (all_any g _)).mono ?_;rintro e w' ⟨rfl,rfl⟩)
 obtain⟨W0,hW0⟩:∃W0,((w.alloc (.cells #[.slice none 0 0] 51)).alloc (.cells #[.pointer (some ⟨g,0,none⟩)] 102))=W0:=⟨_,rfl⟩
 have hC:CJ w W0.heap.size (fun _=>False) (nodesB w.heap.size g (.slice none 0 0)) g L A S mp (fun _=>False) W0:=by
  rw [←hW0]
  have h9:=(((CJ.start (M:=fun _=>False) h).boxed #[.slice none 0 0] 51)).boxed #[.pointer (some ⟨g,0,none⟩)] 102
  simp only [World.size_alloc] at h9 ⊢
  exact h9
 rw [hW0]
 clear hW0
 refine wpIn_iter rfl (by decide) (gf:=140) (lb:=#[.pointer (some ⟨w.heap.size+1,0,none⟩)]) rfl trivial (enters_of Tryz.func140 (by kernel_rfl) rfl) (all1_iter (A:=A) (S:=S) (g:=g) trivial rfl (by decide) hdoc hlen) (fun _ _=>rfl) W0.heap.size rfl (nodesJ w W0.heap.size g L A S mp) (fun _ _ _=>False) ?hrd ?hgr ?hgx ?hob ?hox ?h0 ?round ?done ?stop
 case hrd=>rintro i X W ⟨v,hJ,_⟩;exact⟨hJ.cell 1 rfl 0 rfl,hJ.tree.shape⟩
 case hgr=>intro i X W W' hJ hk;exact Gro.grow hJ hk
 case hgx=>intro c X W W' h _;exact h
 case hob=>intro i X W o' hJ;exact Gro.put hJ o'
 case hox=>intro c X W o' hJ;exact hJ
 case h0 =>
  intro o1 o2
  have h9:Gro nodeE 84 w W0.heap.size (fun _=>False) (nodesB w.heap.size g) g L A S mp [] (fun _=>False) W0:=⟨_,hC,World.ownsRow_nil ..,fun b hb=>by cases hb⟩
  exact (h9.alloc o1).alloc o2
 case round =>
  intro i W K hi hK
  have hm:=nth_lt hi
  unfold allEnc
  generalize nth L i=m at hm ⊢
  gi_wp2
  rintro X W h2 ⟨v,hJ,hO,hX⟩
  have he:=hJ.tree.elt m (List.mem_of_getElem? hm)
  have e0:W.cell? ⟨A m.id,0,none⟩=some (.int .i64 m.id.t):=he.cell' rfl
  have e1:W.cell? ⟨A m.id,1,none⟩=some (.int .i64 m.id.s):=he.cell' rfl
  have e2:W.cell? ⟨A m.id,2,none⟩=some (.int .i64 m.ref.t):=he.cell' rfl
  have e3:W.cell? ⟨A m.id,3,none⟩=some (.int .i64 m.ref.s):=he.cell' rfl
  have e4:W.cell? ⟨A m.id,4,none⟩=some (.int .i32 m.rune):=he.cell' rfl
  have e5:W.cell? ⟨A m.id,5,none⟩=some (.int .i64 m.st):=he.cell' rfl
  obtain⟨va,vc,rfl⟩:=owns_sl hO
  have f0:=hJ.frozen 0 rfl 0
  have hlen2:(L.take i).length≤1000000:=by have:=List.length_take_le i L;omega
  have hli:(L.take i).length=i:=by rw [List.length_take];omega
  have n1:¬A m.id=w.heap.size:=by have:=hJ.low (A m.id) (.inr (.inr (.inl ⟨m.id,List.mem_map.2 ⟨m,List.mem_of_getElem? hm,rfl⟩,rfl⟩)));omega
  have hzl:w.heap.size<W.heap.size:=(hJ.at_ 0 rfl).lt
  have hlit:SlAt nodeE (W.drew.alloc (.cells #[.int .i64 m.id.t,.int .i64 m.id.s,.int .i64 m.ref.t,.int .i64 m.ref.s,.int .i32 m.rune,.int .i64 m.st] 84)) (.slice (some ⟨W.heap.size,0,none⟩) 1 1) [m]:=SlAt.lit [m] _ (by simp [Enc.flat,nodeE,ndC]) (by unfold maxLen;simp)
  have hk1:Kept (fun _=>False) W (W.drew.alloc (.cells #[.int .i64 m.id.t,.int .i64 m.id.s,.int .i64 m.ref.t,.int .i64 m.ref.s,.int .i32 m.rune,.int .i64 m.st] 84)):=((Kept.refl _ _).drew).alloc _
  have hown:=owns_keep hO hk1 (fun _ _ h=>h)
  rw [show Value.slice va (L.take i).length vc=.slice va i vc by rw [hli]] at hown hO hJ hX
  have HOWN:=Lib.hid hown
  have HK1:=Lib.hid hk1
  have HB:=Lib.hid (show W0.heap.size+2≤(W.drew.alloc (.cells #[.int .i64 m.id.t,.int .i64 m.id.s,.int .i64 m.ref.t,.int .i64 m.ref.s,.int .i32 m.rune,.int .i64 m.st] 84)).heap.size by simp;omega)
  clear hown hk1
  have c0:W.cell? ⟨w.heap.size,0,none⟩=some (.slice va i vc):=hJ.cell 0 rfl 0 rfl
  have HJ:=Lib.hid hJ
  have HO:=Lib.hid hO
  have HX:=Lib.hid hX
  have H2:=Lib.hid h2
  have HM:=Lib.hid hm
  have HLIT:=Lib.hid hlit
  have HL2:=Lib.hid hlen2
  have HLI:=Lib.hid hli
  clear hJ hO hX h2 hm hlit hlen2 hli he
  gi_wp2
  refine region_any (GroR nodeE 84 w W0.heap.size (fun _=>False) (nodesB w.heap.size g) g L A S mp (L.take i++[m]) X W) ?_ ?_
  focus
   gi_region_with ((refine step_append_in (w:=W.drew.alloc (.cells #[.int .i64 m.id.t,.int .i64 m.id.s,.int .i64 m.ref.t,.int .i64 m.ref.s,.int .i32 m.rune,.int .i64 m.st] 84)) nodeE (.tmp 8) (.tmp 13) 51 rfl (W0.heap.size+2) 84 (.agg #[.int .i64 0,.int .i64 0,.int .i64 0,.int .i64 0,.int .i32 0,.int .i64 0]) 48 Tryz.underlying51 info_node rfl (by decide) rfl rfl (by go_simp) HOWN.out HLIT.out HL2.out HB.out ?_;rintro v2 w2 ho2 hg2;have hJ2:=Gro.after HJ.out HO.out HK1.out hg2;rw [HLI.out] at ho2;obtain⟨va2,vc2,rfl⟩:=owns_sl ho2;have d0:w2.cell? ⟨w.heap.size,0,none⟩=some (.slice va i vc):=hJ2.cell 0 rfl 0 rfl;have g0:=hJ2.frozen 0 rfl 0;clear hJ2))
   all_goals exact⟨rfl,Gro.appended HJ.out HO.out HX.out H2.out HK1.out hg2 (by rw [HLI.out]) ho2 0 rfl (nodesB_nodup ..) rfl⟩
  rintro a' W' ⟨ho,hG⟩
  gi_wp2
  refine⟨ho.1,ho.2,?_⟩
  show Gro _ _ _ _ _ _ _ _ _ _ _ _ _ _
  rw [List.take_add_one,HM.out]
  exact hG
 case done =>
  rintro X W hJ0 hK
  obtain⟨v,hJ,hO,hX⟩:=hJ0
  rw [List.take_length] at hO
  have hO2:=hO
  obtain⟨va,vc,rfl⟩:=owns_sl hO
  have c0:W.cell? ⟨w.heap.size,0,none⟩=some (.slice va L.length vc):=hJ.cell 0 rfl 0 rfl
  have hle:L.length≤vc∧vc≤maxLen:=by
   rcases (own_of hO).2 with ⟨h1,h2⟩|⟨b,cap,h1,_,h3⟩
   ·injection h1 with _ h4 h5;exact⟨by omega,by unfold maxLen;omega⟩
   ·injection h1 with _ _ h5;subst h5;exact h3.le
  have hcl:=clip_any va L.length vc hle.1 W
  have HJ:=Lib.hid hJ
  have HO:=Lib.hid hO
  have HK:=Lib.hid hK
  clear hJ hO hX hK hO2 hle
  gi_wp2_with (refine⟨trivial,?_⟩;gi_at_call 100;refine (callsIn_wide.2 hcl).mono ?_;rintro e w' ⟨rfl,rfl⟩)
  have hC2:=HJ.out.taken (.deferred none)
  refine ret_range HK.out (results_tmp rfl _ _ _) ⟨⟨.slice va L.length L.length,rfl,?_⟩,hC2.kept⟩
  have hO3:=owns_keep HO.out (kept_put w' W0.heap.size (.deferred none)) fun b hb e=>by have:=(owns_lt HO.out b hb).1;omega
  have hs0:=HJ.out.size.1
  rcases (own_of hO3).2 with ⟨h1,h2⟩|⟨b,cap,h1,h2,h3⟩
  ·injection h1 with h4 h5 h6
   exact .inl ⟨by rw [h4,h5],h2⟩
  ·injection h1 with h4 h5 h6
   exact .inr ⟨b,cap,by rw [h4],by omega,h3⟩
 case stop =>
  rintro c X W h _
  exact h.elim
end Go.Proofs.YtjohljmpcblpjaaGreatDoor.Tr
