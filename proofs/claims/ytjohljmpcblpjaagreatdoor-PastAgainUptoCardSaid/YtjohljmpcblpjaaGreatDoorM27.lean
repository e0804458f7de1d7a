/- The law for a range over a function whose variable is a block of its own (the assignment lays it): outermost. Parts of the proof. -/
import Derived.Test.YtjohljmpcblpjaaGreatDoorM26
set_option maxRecDepth 100000
set_option maxHeartbeats 1000000
namespace Go.Proofs.YtjohljmpcblpjaaGreatDoor.Tr
open Go.RowKit Go.Proofs.YtjohljmpcblpjaaGreatDoor.St Go.Shelf
def IterOkS (F:Fence) (n:Nat) (P:Program) (gf:FuncId) (lb:Array Value) (N:Nat) (enc:Nat→Array Value) (Rd:World→Prop) (St:(Nat→Prop)→World→Prop):Prop :=
 ∀(l:Nat) (I:Nat→(Nat→Prop)→World→Prop) (Z:(Nat→Prop)→World→Prop) (X0:Nat→Prop) (W:World),(∀i X w,I i X w→Rd w) →
  (∀i X w w',I i X w→Kept X w w'→I i (fun b=>X b∨(w.heap.size≤b∧b<w'.heap.size)) w') →
  (∀X w w',Z X w→Kept X w w'→Z (fun b=>X b∨(w.heap.size≤b∧b<w'.heap.size)) w') →
  (∀i X w,i<N→I i X w→YieldAt F (n-1) P l (enc i) w fun e w'=>∃b,e=.returned (.bool b)∧(∀x,X x→w'.heap[x]?=w.heap[x]?)∧w.heap.size≤w'.heap.size∧(b=true→I (i+1) X w')∧(b=false→Z X w')) →
  St X0 W→I 0 X0 W→CallsIn F n P gf (#[.func (.yield l) #[] #[]]++lb) W fun e w'=>(∃v,e=.returned v)∧((∃X,I N X w')∨∃X,Z X w')
theorem wpIn_iterS {F:Fence}{n:Nat}{P:Program}{g:Operand}{ps:Array Tmp}{assign body:Code}{Q:Exit→Act→World→Prop}{a:Act}{w:World}(hro:F.round=none) (h1:1≤n)
  {gf:Nat} {lb:Array Value} (hg:a.eval g=.func (.func gf) #[] lb) (hFg:F.fn gf) (eg:∀args w,(callFunc gf args).run P w=.ok (.enter gf args) w)
  {N:Nat} {enc:Nat→Array Value} {Rd:World→Prop} {St:(Nat→Prop)→World→Prop} (hit:IterOkS F (n-1) P gf lb N enc Rd St) (X0:Nat→Prop) (hps:∀i,i<N→(enc i).size=ps.size)
  (B:Nat) (hB:w.heap.size=B) (hX0:∀b,X0 b→b<B) (hst:∀o1 o2,St X0 ((w.alloc o1).alloc o2)) (J:Nat→(Nat→Prop)→World→Prop) (Jx:Code→(Nat→Prop)→World→Prop) (hrd:∀i X W,J i X W→Rd W)
  (hgr:∀i X W W',J i X W→Kept X W W'→J i (fun b=>X b∨(W.heap.size≤b∧b<W'.heap.size)) W')
  (hgx:∀c X W W',Jx c X W→Kept X W W'→Jx c (fun b=>X b∨(W.heap.size≤b∧b<W'.heap.size)) W')
  (hob:∀i X W o',J i X W→J i X (W.putObj (B+1) o')) (hox:∀c X W o',Jx c X W→Jx c X (W.putObj (B+1) o'))
  (h0:∀o1 o2,J 0 X0 ((w.alloc o1).alloc o2))
  (hxl:∀i X W,J i X W→∀x,X x→x<W.heap.size)
  (hround:∀(i:Nat) (X:Nat→Prop) (W:World),i<N→B+1<W.heap.size→J i X W→assign.wpIn (F.inRound (B+1)) (n-1-1) P (Exit.then (fun a1 W1=>Kept (fun _=>False) W W1∧∀o',body.wpIn (F.inRound (B+1)) (n-1-1) P (iterPost B J Jx i X (W1.putObj (B+1) o')) a1 (W1.putObj (B+1) o')) (fun _ _ _=>False)) { tmps:=(ps.zip (enc i)).foldl (fun t (p,v)=>t.setIfInBounds p v) a.tmps,defers:=[] } W)
  (hdone:∀(X:Nat→Prop) (W:World),J N X W→W.heap[B]?=some (.deferred (some []))→Q .normal { a with defers:={ target:=.collected B,args:=#[] }::a.defers } W)
  (hstop:∀(c:Code) (X:Nat→Prop) (W:World),Jx c X W→W.heap[B]?=some (.deferred (some []))→c.wpIn F n P Q { a with defers:={ target:=.collected B,args:=#[] }::a.defers } W) :
  (Code.rangeFunc g ps assign body).wpIn F n P Q a w:=by
 subst hB
 refine wpIn_rangeFunc ?_
 intro fn hfn
 rw [hro]
 obtain⟨rec,hrec⟩:∃rec:LoopState→Option Code→Loop,rec=fun st pe=>{ state:=st,pending:=pe,fn,tmps:=a.tmps,params:=ps,assign,body,defers:=w.heap.size }:=⟨_,rfl⟩
 obtain⟨W1,hW1⟩:∃W1,(w.alloc (.deferred (some []))).alloc (.loop (rec .ready none))=W1:=⟨_,rfl⟩
 have hL1:W1.heap[w.heap.size+1]?=some (.loop (rec .ready none)):=by
  rw [←hW1];have:=World.alloc_heap_new (w.alloc (.deferred (some []))) (.loop (rec .ready none));rwa [World.size_alloc] at this
 have hD1:W1.heap[w.heap.size]?=some (.deferred (some [])):=by
  rw [←hW1];exact (Below.heap_alloc _ _ _ (by simp)).trans (World.alloc_heap_new w _)
 have hJ1:J 0 X0 W1:=by rw [←hW1];exact h0 _ _
 have hS1:St X0 W1:=by rw [←hW1];exact hst _ _
 refine⟨w.heap.size+1,[{ target:=.collected w.heap.size,args:=#[] }],W1,{ target:=.fn (.func gf) lb,args:=#[.func (.yield (w.heap.size+1)) #[] #[]] },W1,gf,#[.func (.yield (w.heap.size+1)) #[] #[]]++lb,W1,?_,?_,?_,?_,fun _=>h1,?_⟩
 ·rw [←hW1,hrec];exact run_enterLoop_outer _ _ _ _ _
 ·simp only [resolve,hg]
  simp [go_sem]
 ·intro f' hf';simp [Target.leads] at hf';subst hf';exact hFg
 ·simp [invoke,go_sem,eg]
 refine (hit (w.heap.size+1)
  (fun i X W=>J i X W∧¬X (w.heap.size+1)∧¬X w.heap.size∧W.heap[w.heap.size+1]?=some (.loop (rec .ready none))∧W.heap[w.heap.size]?=some (.deferred (some [])))
  (fun X W=>∃c,Jx c X W∧¬X (w.heap.size+1)∧¬X w.heap.size∧W.heap[w.heap.size+1]?=some (.loop (rec .done (some c)))∧W.heap[w.heap.size]?=some (.deferred (some [])))
  X0 W1 (fun i X W h=>hrd i X W h.1) ?_ ?_ ?_ hS1 ⟨hJ1,fun h=>by have:=hX0 _ h;omega,fun h=>by have:=hX0 _ h;omega,hL1,hD1⟩).mono ?_
 ·rintro i X W W' ⟨hj,x1,x2,hl,hd⟩ hk
  have l1:=(Array.getElem?_eq_some_iff.1 hl).1
  have l2:=(Array.getElem?_eq_some_iff.1 hd).1
  exact⟨hgr i X W W' hj hk,fun h=>by rcases h with h | h;exact x1 h;omega,fun h=>by rcases h with h | h;exact x2 h;omega,(hk.block _ l1 x1).trans hl,(hk.block _ l2 x2).trans hd⟩
 ·rintro X W W' ⟨c,hj,x1,x2,hl,hd⟩ hk
  have l1:=(Array.getElem?_eq_some_iff.1 hl).1
  have l2:=(Array.getElem?_eq_some_iff.1 hd).1
  exact⟨c,hgx c X W W' hj hk,fun h=>by rcases h with h | h;exact x1 h;omega,fun h=>by rcases h with h | h;exact x2 h;omega,(hk.block _ l1 x1).trans hl,(hk.block _ l2 x2).trans hd⟩
 ·rintro i X W hi ⟨hj,x1,x2,hl,hd⟩
  have hlt:=(Array.getElem?_eq_some_iff.1 hl).1
  have hy:=run_yield (P:=P) (args:=enc i) hl (by rw [hrec];exact (hps i hi).symm ▸ rfl)
  rw [hrec] at hy
  refine⟨fn,_,assign,body,hy,roundIn_of_wpIn hfn (wpIn_mono (hround i X W hi hlt hj) ?_)⟩
  intro e a1 W1 h9
  cases e with
  | normal =>
   obtain⟨hk1,hb⟩:=h9
   have hltd:=(Array.getElem?_eq_some_iff.1 hd).1
   have hl1:W1.heap[w.heap.size+1]?=some (.loop (rec .ready none)):=(hk1.block _ hlt (fun h=>h)).trans hl
   have hlt1:=(Array.getElem?_eq_some_iff.1 hl1).1
   refine⟨_,run_beginRound hl1 (by rw [hrec]),?_⟩
   obtain⟨busy,hbz⟩:∃b:Loop,b={ rec .ready none with state:=.busy }:=⟨_,rfl⟩
   rw [←hbz]
   have hl2:(W1.putObj (w.heap.size+1) (.loop busy)).heap[w.heap.size+1]?=some (.loop busy):=World.putObj_heap_same hlt1
   have hd2:(W1.putObj (w.heap.size+1) (.loop busy)).heap[w.heap.size]?=some (.deferred (some [])):=(World.putObj_heap_other (by omega)).trans ((hk1.block _ hltd (fun h=>h)).trans hd)
   have hxx:∀x,X x→W1.heap[x]?=W.heap[x]?:=fun x hx=>hk1.block x (hxl i X W hj x hx) (fun h=>h)
   refine wpIn_mono (hb (.loop busy)) ?_
   have fin:∀(jump:Option Code) (W3:World),(∀x,X x∨x=w.heap.size∨x=w.heap.size+1→W3.heap[x]?=(W1.putObj (w.heap.size+1) (.loop busy)).heap[x]?) →
     (Instr.endRound (w.heap.size+1) jump).run P W3=.ok (.bool jump.isNone) (W3.putObj (w.heap.size+1) (.loop (rec (if jump.isNone then .ready else .done) jump)))∧W3.heap[w.heap.size+1]?=some (.loop busy) ∧
     (W3.putObj (w.heap.size+1) (.loop (rec (if jump.isNone then .ready else .done) jump))).heap[w.heap.size+1]?=some (.loop (rec (if jump.isNone then .ready else .done) jump)) ∧
     (W3.putObj (w.heap.size+1) (.loop (rec (if jump.isNone then .ready else .done) jump))).heap[w.heap.size]?=some (.deferred (some [])) ∧
     (∀x,X x→(W3.putObj (w.heap.size+1) (.loop (rec (if jump.isNone then .ready else .done) jump))).heap[x]?=W.heap[x]?):=fun jump W3 hk3=>by
    have hl3:=(hk3 _ (.inr (.inr rfl))).trans hl2
    have h9:=run_endRound (P:=P) jump hl3
    rw [hbz,hrec] at h9
    rw [hrec]
    refine⟨h9,hl3,World.putObj_heap_same (Array.getElem?_eq_some_iff.1 hl3).1,(World.putObj_heap_other (by omega)).trans ((hk3 _ (.inr (.inl rfl))).trans hd2),fun x hx=>?_⟩
    have hne:x≠w.heap.size+1:=fun e=>x1 (e ▸ hx)
    exact (World.putObj_heap_other hne).trans ((hk3 x (.inl hx)).trans ((World.putObj_heap_other hne).trans (hxx x hx)))
   rintro e a3 W3 ⟨hkx,hs,hp⟩
   have hs3:W.heap.size≤W3.heap.size:=by have h8:=hk1.size;have h7:W1.heap.size≤W3.heap.size:=by simpa using hs
                                         omega
   cases e with
   | normal =>
    obtain⟨hr,hl3,hl4,hd4,hx4⟩:=fin none W3 hkx
    exact⟨_,_,hr,true,rfl,hx4,by simpa using hs3,fun _=>⟨hob _ _ _ _ hp,x1,x2,hl4,hd4⟩,fun h=>by cases h⟩
   | ret =>
    obtain⟨hr,hl3,hl4,hd4,hx4⟩:=fin (some .ret) W3 hkx
    exact⟨_,_,hr,false,rfl,hx4,by simpa using hs3,(fun h=>by cases h),fun _=>⟨.ret,hox _ _ _ _ hp,x1,x2,hl4,hd4⟩⟩
   | exit id =>
    obtain⟨hr,hl3,hl4,hd4,hx4⟩:=fin (some (.exit id)) W3 hkx
    exact⟨_,_,hr,false,rfl,hx4,by simpa using hs3,(fun h=>by cases h),fun _=>⟨(.exit id),hox _ _ _ _ hp,x1,x2,hl4,hd4⟩⟩
   | goto t =>
    obtain⟨hr,hl3,hl4,hd4,hx4⟩:=fin (some (.goto t)) W3 hkx
    exact⟨_,_,hr,false,rfl,hx4,by simpa using hs3,(fun h=>by cases h),fun _=>⟨(.goto t),hox _ _ _ _ hp,x1,x2,hl4,hd4⟩⟩
   | panic _=>exact hp.elim
   | outgrown=>exact hp.elim
  | ret=>exact h9.elim
  | exit id=>exact h9.elim
  | goto t=>exact h9.elim
  | panic _=>exact h9.elim
  | outgrown=>exact h9.elim
 ·rintro e W3 ⟨⟨v,rfl⟩,h⟩
  rcases h with ⟨X,hj,_,_,hl,hd⟩|⟨X,c,hj,_,_,hl,hd⟩
  ·have h9:=run_endLoop (P:=P) hl (by rw [hrec];simp)
   refine⟨_,_,h9,?_⟩
   rw [hrec]
   exact hdone X _ (hob _ _ _ _ hj) ((World.putObj_heap_other (by omega)).trans hd)
  ·have h9:=run_endLoop (P:=P) hl (by rw [hrec];simp)
   refine⟨_,_,h9,?_⟩
   rw [hrec]
   exact hstop c X _ (hox _ _ _ _ hj) ((World.putObj_heap_other (by omega)).trans hd)
theorem wpIn_iterA {F:Fence}{n:Nat}{P:Program}{g:Operand}{ps:Array Tmp}{assign body:Code}{Q:Exit→Act→World→Prop}{a:Act}{w:World}(hro:F.round=none) (h1:1≤n)
  {gf:Nat} {lb:Array Value} (hg:a.eval g=.func (.func gf) #[] lb) (hFg:F.fn gf) (eg:∀args w,(callFunc gf args).run P w=.ok (.enter gf args) w)
  {N:Nat} {enc:Nat→Array Value} {Rd:World→Prop} (hit:IterOk F (n-1) P gf lb N enc Rd) (hps:∀i,i<N→(enc i).size=ps.size)
  (B:Nat) (hB:w.heap.size=B) (J:Nat→(Nat→Prop)→World→Prop) (Jx:Code→(Nat→Prop)→World→Prop) (hrd:∀i X W,J i X W→Rd W)
  (hgr:∀i X W W',J i X W→Kept X W W'→J i (fun b=>X b∨(W.heap.size≤b∧b<W'.heap.size)) W')
  (hgx:∀c X W W',Jx c X W→Kept X W W'→Jx c (fun b=>X b∨(W.heap.size≤b∧b<W'.heap.size)) W')
  (hob:∀i X W o',J i X W→J i X (W.putObj (B+1) o')) (hox:∀c X W o',Jx c X W→Jx c X (W.putObj (B+1) o'))
  (h0:∀o1 o2,J 0 (fun _=>False) ((w.alloc o1).alloc o2))
  (hxl:∀i X W,J i X W→∀x,X x→x<W.heap.size)
  (hround:∀(i:Nat) (X:Nat→Prop) (W:World),i<N→B+1<W.heap.size→J i X W→assign.wpIn (F.inRound (B+1)) (n-1-1) P (Exit.then (fun a1 W1=>Kept (fun _=>False) W W1∧∀o',body.wpIn (F.inRound (B+1)) (n-1-1) P (iterPost B J Jx i X (W1.putObj (B+1) o')) a1 (W1.putObj (B+1) o')) (fun _ _ _=>False)) { tmps:=(ps.zip (enc i)).foldl (fun t (p,v)=>t.setIfInBounds p v) a.tmps,defers:=[] } W)
  (hdone:∀(X:Nat→Prop) (W:World),J N X W→W.heap[B]?=some (.deferred (some []))→Q .normal { a with defers:={ target:=.collected B,args:=#[] }::a.defers } W)
  (hstop:∀(c:Code) (X:Nat→Prop) (W:World),Jx c X W→W.heap[B]?=some (.deferred (some []))→c.wpIn F n P Q { a with defers:={ target:=.collected B,args:=#[] }::a.defers } W) :
  (Code.rangeFunc g ps assign body).wpIn F n P Q a w :=
 wpIn_iterS hro h1 hg hFg eg (St:=fun _ _=>True) (fun l I Z X0 W a1 a2 a3 a4 _ a5=>hit l I Z X0 W a1 a2 a3 a4 a5) (fun _=>False) hps B hB (fun _ h=>h.elim) (fun _ _=>trivial) J Jx hrd hgr hgx hob hox h0 hxl hround hdone hstop
end Go.Proofs.YtjohljmpcblpjaaGreatDoor.Tr
namespace Go.Proofs.YtjohljmpcblpjaaGreatDoor.Pa
open Go.RowKit Go.Proofs.YtjohljmpcblpjaaGreatDoor.St Go.Proofs.YtjohljmpcblpjaaGreatDoor Go.Proofs.YtjohljmpcblpjaaGreatDoor.Tr Go.Shelf
theorem row_any (mb:Nat) (w:World):Calls Tryz.prog 59 #[.map (some mb)] w fun e w'=>e=.returned (.func (.func 101) #[] #[.pointer (some ⟨w.heap.size,0,none⟩)])∧w'=w.alloc (.cells #[.map (some mb)] 91):=by
 go_enter Tryz.func59,Tryz.ntmps59
 go_wp2
 go_ret
 exact⟨rfl,rfl⟩
theorem doIns_any {w:World}{g tx:Nat}{L:List Nd}{F:Nat→Prop}(hb:w.cell? ⟨tx,0,none⟩=some (.pointer (some ⟨g,0,none⟩))) (hT:TBox w g L F) (v:OpV) (hs:v.text.size≤maxLen) (hlen:L.length+Gl.countR v.text≤900000) :
  Calls Tryz.prog 87 #[.agg (opA v),.pointer (some ⟨tx,0,none⟩)] w fun e w'=>(∃u,e=.returned u)∧TBox w' g (insL L v.id v.ref v.text.size (badB v.text) (runesL v.text 0)) (grown F w w')∧Kept F w w':=by
 have hk:Kept (fun _=>False) w (w.alloc (.cells (opA v) 62)):=(Kept.refl _ _).alloc _
 have hB:=Blk.new w 62 (opA v)
 have hI:=Lib.hid ((hT.still hk).insert v.id v.ref v.text hs hlen)
 have hb1:=hk.cell hb
 have HK:=Lib.hid hk
 obtain⟨z,hz⟩:∃z,w.heap.size=z:=⟨_,rfl⟩
 have HZ:=Lib.hid hz
 obtain⟨⟨xs,xq⟩,⟨xa,xn,xc⟩,xk,⟨xt,xi⟩,⟨xrt,xri⟩,xtx,⟨ga,gn,gc⟩,xsite⟩:=v
 have hB2:Blk (w.alloc (.cells (opA ⟨⟨xs,xq⟩,⟨xa,xn,xc⟩,xk,⟨xt,xi⟩,⟨xrt,xri⟩,xtx,⟨ga,gn,gc⟩,xsite⟩) 62)) w.heap.size 62 #[.int .i64 xs,.int .i64 xq,.slice xa xn xc,.int .i64 xk,.int .i64 xt,.int .i64 xi,.int .i64 xrt,.int .i64 xri,.string xtx,.slice ga gn gc,.int .i64 xsite]:=hB
 obtain⟨w1,hw1⟩:∃w1,w.alloc (.cells (opA ⟨⟨xs,xq⟩,⟨xa,xn,xc⟩,xk,⟨xt,xi⟩,⟨xrt,xri⟩,xtx,⟨ga,gn,gc⟩,xsite⟩) 62)=w1:=⟨_,rfl⟩
 rw [hw1] at hB2 hI hb1 HK
 rw [hz] at hB2
 have c4:w1.cell? ⟨z,4,none⟩=some (.int .i64 xt):=hB2.cell' rfl
 have c5:w1.cell? ⟨z,5,none⟩=some (.int .i64 xi):=hB2.cell' rfl
 have c6:w1.cell? ⟨z,6,none⟩=some (.int .i64 xrt):=hB2.cell' rfl
 have c7:w1.cell? ⟨z,7,none⟩=some (.int .i64 xri):=hB2.cell' rfl
 have c8:w1.cell? ⟨z,8,none⟩=some (.string xtx):=hB2.cell' rfl
 have hw2:w.alloc (.cells #[.int .i64 xs,.int .i64 xq,.slice xa xn xc,.int .i64 xk,.int .i64 xt,.int .i64 xi,.int .i64 xrt,.int .i64 xri,.string xtx,.slice ga gn gc,.int .i64 xsite] 62)=w1:=hw1
 have hop:(opA ⟨⟨xs,xq⟩,⟨xa,xn,xc⟩,xk,⟨xt,xi⟩,⟨xrt,xri⟩,xtx,⟨ga,gn,gc⟩,xsite⟩)=#[.int .i64 xs,.int .i64 xq,.slice xa xn xc,.int .i64 xk,.int .i64 xt,.int .i64 xi,.int .i64 xrt,.int .i64 xri,.string xtx,.slice ga gn gc,.int .i64 xsite]:=rfl
 rw [hop]
 clear hB hB2 hk hw1 hop hs hlen hT hb
 go_enter Tryz.func87,Tryz.ntmps87
 go_wp2_with (go_at_call 88;refine hI.out.mono ?_;rintro e w2 ⟨rfl,hT2,hk2⟩)
 go_end0
 refine⟨⟨_,rfl⟩,hT2.mono fun b hb=>?_,(HK.out.mono (S':=F) fun _ _ h=>h.elim).trans hk2 (fun _ _ h=>h)⟩
 rcases hb with hb|hb
 ·exact .inl hb
 ·exact .inr ⟨by have:=HK.out.size;omega,hb.2⟩
theorem doDel_any {w:World}{g tx:Nat}{L:List Nd}{F:Nat→Prop}(hb:w.cell? ⟨tx,0,none⟩=some (.pointer (some ⟨g,0,none⟩))) (hT:TBox w g L F) (v:OpV){rs:List Run}(hlen:L.length≤900000) (hv:SlAt runE w v.gone.v rs) (hin:∀r∈rs,r.In) (hrl:rs.length≤1000000000) (hvb:∀b,v.gone.v.ownBlock=some b→rs≠[]→¬F b) :
  Calls Tryz.prog 89 #[.agg (opA v),.pointer (some ⟨tx,0,none⟩)] w fun e w'=>(∃u,e=.returned u)∧TBox w' g (L.map (turnF rs 1 2)) F∧Kept F w w':=by
 have hk:Kept (fun _=>False) w (w.alloc (.cells (opA v) 62)):=(Kept.refl _ _).alloc _
 have hB:=Blk.new w 62 (opA v)
 have hI:=Lib.hid ((hT.still hk).delete0 hlen (hv.kept hk) hin hrl fun b h1 _ h3=>hvb b h1 h3)
 have hb1:=hk.cell hb
 have HK:=Lib.hid hk
 obtain⟨z,hz⟩:∃z,w.heap.size=z:=⟨_,rfl⟩
 have HZ:=Lib.hid hz
 obtain⟨⟨xs,xq⟩,⟨xa,xn,xc⟩,xk,⟨xt,xi⟩,⟨xrt,xri⟩,xtx,⟨ga,gn,gc⟩,xsite⟩:=v
 have hB2:Blk (w.alloc (.cells (opA ⟨⟨xs,xq⟩,⟨xa,xn,xc⟩,xk,⟨xt,xi⟩,⟨xrt,xri⟩,xtx,⟨ga,gn,gc⟩,xsite⟩) 62)) w.heap.size 62 #[.int .i64 xs,.int .i64 xq,.slice xa xn xc,.int .i64 xk,.int .i64 xt,.int .i64 xi,.int .i64 xrt,.int .i64 xri,.string xtx,.slice ga gn gc,.int .i64 xsite]:=hB
 obtain⟨w1,hw1⟩:∃w1,w.alloc (.cells (opA ⟨⟨xs,xq⟩,⟨xa,xn,xc⟩,xk,⟨xt,xi⟩,⟨xrt,xri⟩,xtx,⟨ga,gn,gc⟩,xsite⟩) 62)=w1:=⟨_,rfl⟩
 rw [hw1] at hB2 hI hb1 HK
 rw [hz] at hB2
 have c9:w1.cell? ⟨z,9,none⟩=some (.slice ga gn gc):=hB2.cell' rfl
 have hw2:w.alloc (.cells #[.int .i64 xs,.int .i64 xq,.slice xa xn xc,.int .i64 xk,.int .i64 xt,.int .i64 xi,.int .i64 xrt,.int .i64 xri,.string xtx,.slice ga gn gc,.int .i64 xsite] 62)=w1:=hw1
 have hop:(opA ⟨⟨xs,xq⟩,⟨xa,xn,xc⟩,xk,⟨xt,xi⟩,⟨xrt,xri⟩,xtx,⟨ga,gn,gc⟩,xsite⟩)=#[.int .i64 xs,.int .i64 xq,.slice xa xn xc,.int .i64 xk,.int .i64 xt,.int .i64 xi,.int .i64 xrt,.int .i64 xri,.string xtx,.slice ga gn gc,.int .i64 xsite]:=rfl
 rw [hop]
 clear hB hB2 hk hw1 hop hv hvb hT hb
 go_enter Tryz.func89,Tryz.ntmps89
 go_wp2_with (go_at_call 90;refine hI.out.mono ?_;rintro e w2 ⟨rfl,hT2,hk2⟩)
 go_end0
 exact⟨⟨_,rfl⟩,hT2,(HK.out.mono (S':=F) fun _ _ h=>h.elim).trans hk2 (fun _ _ h=>h)⟩
end Go.Proofs.YtjohljmpcblpjaaGreatDoor.Pa
namespace Go.Proofs.YtjohljmpcblpjaaGreatDoor.Pa
open Go.RowKit Go.Proofs.YtjohljmpcblpjaaGreatDoor.St Go.Proofs.YtjohljmpcblpjaaGreatDoor Go.Proofs.YtjohljmpcblpjaaGreatDoor.Tr Go.Shelf
attribute [local go_sem] Oper.semAt_some
theorem closed_is {l:List Ent}(h:closedE l=0):ClosedP dotOf depOf l∧(∀e∈l,opOk e.v e.D e.G)∧∀e∈l,wholeP (l.map dotOf) e.D:=by
 obtain⟨h1,h2,h3⟩:=closedC_ok h
 have h4:∀e∈l,opOk e.v e.D e.G:=fun e he=>Classical.not_not.1 (h1 e he)
 refine⟨⟨fun e he=>?_,h2⟩,h4,h3⟩
 obtain⟨o1,_,o3,_⟩:=h4 e he
 refine⟨o1,?_⟩
 have h5:isSite e.v.dot.site:=by unfold Dot.Ok at o1;unfold isSite;omega
 unfold getV at o3
 rw [if_pos h5] at o3
 exact o3
theorem fn_neq (f:Nat) (a b:Array Value) (w:World):(binOp BinOp.neq 141 (.func (.func f) a b) .nilFunc).run Tryz.prog w=.ok (.bool true) w:=by kernel_rfl
theorem nil_neq (w:World):(binOp BinOp.neq 141 .nilFunc .nilFunc).run Tryz.prog w=.ok (.bool false) w:=by kernel_rfl
theorem zero_fn (w:World):(zeroValue 141).run Tryz.prog w=.ok .nilFunc w:=by kernel_rfl
theorem does_none {tx:Nat}{k:Int}(h1:¬k=1) (h2:¬k=2):getK (doesK tx) k=none:=by
 unfold doesK getK
 rw [List.find?_cons_of_neg (by simpa using fun e=>h1 e.symm),List.find?_cons_of_neg (by simpa using fun e=>h2 e.symm)]
 rfl
def DocPost (w:World) (l:List Ent) (e:Ending) (w':World):Prop :=
 ((closedE l≠0∧e=.returned (.tuple #[.pointer none,.int .i64 (closedE l)]))∨(closedE l=0∧∃g F,e=.returned (.tuple #[.pointer (some ⟨g,0,none⟩),.int .i64 0])∧TBox w' g (docP l) F∧∀b,F b→w.heap.size≤b))∧Kept (fun _=>False) w w'
theorem document_any {w:World}{lv:Value}{l:List Ent}(hl:SlAt entE w lv l) (hin:∀e∈l,OpIn w e) (hlen:l.length≤1000000) (hdl:∀e∈l,e.D.length≤1000000∧e.G.length≤1000000) (htx:textN l≤900000) :
  Calls Tryz.prog 53 #[lv] w (DocPost w l):=by
 refine (callsIn_wide (n:=6)).1 ?_
 have SET:=Lib.hid (set_any hl hin hlen hdl)
 have HIN:=Lib.hid hin
 have hmm:=@run_makeMap Tryz.prog
 clear hl hin
 refine callsIn_of_wp_marks Tryz.func53 rfl trivial ?_ rfl
 simp only [Tryz.ntmps53,List.size_toArray,List.length_cons,List.length_nil,Nat.reduceAdd,Nat.reduceSub,Array.replicate_succ,Array.replicate_zero,List.push_toArray,List.append_toArray,List.nil_append,List.cons_append]
 by_cases hc:closedE l=0
 case neg =>
  have hcn:Hid (closedE l≠0):=Lib.hid hc
  have SET2:Hid (Calls Tryz.prog 42 #[lv] w fun e w'=>e=.returned (.tuple #[.map none,.int .i64 (closedE l)])∧Kept (fun _=>False) w w'):=Lib.hid (SET.out.mono fun e w' ⟨h1,h2⟩=>⟨h1.elim (fun h=>h.2) (fun h=>absurd h.1 hc),h2⟩)
  clear SET hmm hdl
  gi_wp2_with (refine⟨trivial,?_⟩;gi_at_call 42;refine (callsIn_wide.2 SET2.out).mono ?_;rintro e w1 ⟨rfl,hk1⟩)
  exact⟨.tuple #[.pointer none,.int .i64 (closedE l)],by simp [results,Tryz.results53,go_sem],.inl ⟨hcn.out,rfl⟩,hk1⟩
 case pos =>
  have SET2:Hid (Calls Tryz.prog 42 #[lv] w fun e w'=>(∃b,e=.returned (.tuple #[.map (some b),.int .i64 0])∧w.heap.size≤b∧OpsM w' b (kvsOf l))∧Kept (fun _=>False) w w'):=Lib.hid (SET.out.mono fun e w' ⟨h1,h2⟩=>⟨h1.elim (fun h=>absurd hc h.1) (fun h=>h.2),h2⟩)
  have HC:=Lib.hid hc
  clear SET hc
  gi_upto_region 5 with (first
   | (refine⟨trivial,?_⟩;gi_at_call 42;refine (callsIn_wide.2 SET2.out).mono ?_;rintro e w1 ⟨⟨mb,rfl,hmb,hom⟩,hk1⟩)
   | (refine⟨trivial,?_⟩;gi_at_call 86;refine (callsIn_wide.2 (new_any _)).mono ?_;rintro e w2 ⟨rfl,hw2⟩))
  subst hw2
  have hmbl:=hom.map.mapK.lt
  obtain⟨s1,hs1⟩:∃s1,w1.heap.size=s1:=⟨_,rfl⟩
  have kt:Kept (fun _=>False) w1 ((w1.alloc (.cells #[.slice none 0 0,.map none] 187)).alloc (.cells #[.pointer (some ⟨w1.heap.size,0,none⟩)] 102)):=((Kept.refl _ _).alloc _).alloc _
  have hT3:=(TBox.made w1).still ((Kept.refl (fun _=>False) _).alloc (.cells #[.pointer (some ⟨w1.heap.size,0,none⟩)] 102))
  have hX3:Blk ((w1.alloc (.cells #[.slice none 0 0,.map none] 187)).alloc (.cells #[.pointer (some ⟨w1.heap.size,0,none⟩)] 102)) (w1.heap.size+1) 102 #[.pointer (some ⟨w1.heap.size,0,none⟩)]:=by have h9:=Blk.new (w1.alloc (.cells #[.slice none 0 0,.map none] 187)) 102 #[.pointer (some ⟨w1.heap.size,0,none⟩)];simp only [World.size_alloc] at h9;exact h9
  have hs3:((w1.alloc (.cells #[.slice none 0 0,.map none] 187)).alloc (.cells #[.pointer (some ⟨w1.heap.size,0,none⟩)] 102)).heap.size=w1.heap.size+2:=by simp
  obtain⟨W3,hW3⟩:∃W3,(w1.alloc (.cells #[.slice none 0 0,.map none] 187)).alloc (.cells #[.pointer (some ⟨w1.heap.size,0,none⟩)] 102)=W3:=⟨_,rfl⟩
  rw [hW3] at kt hT3 hX3 hs3 ⊢
  rw [hs1] at hT3 hX3 hs3 ⊢
  have hM4:MapR intK (W3.alloc (.map #[] 0)) W3.heap.size []:=MapR.made W3
  have k4:Kept (fun _=>False) W3 (W3.alloc (.map #[] 0)):=(Kept.refl _ _).alloc _
  have hmk:=hmm 142 W3
  have hs4:(W3.alloc (.map #[] 0)).heap.size=s1+3:=by simp;omega
  obtain⟨W4,hW4⟩:∃W4,W3.alloc (.map #[] 0)=W4:=⟨_,rfl⟩
  rw [hW4] at hM4 k4 hmk hs4
  rw [hs3] at hM4 hmk
  obtain⟨W5,hu5,hM5,hk5⟩:=run_updateR (P:=Tryz.prog) (K:=intK) (k:=1) Tryz.underlying142 hM4 (.func (.func 87) #[] #[.pointer (some ⟨s1+1,0,none⟩)])
  have hu5b:(Instr.mapUpdate 142 (.map (some (s1+2))) (.int .i64 1) (.func (.func 87) #[] #[.pointer (some ⟨s1+1,0,none⟩)])).run Tryz.prog W4=.ok () W5:=hu5
  obtain⟨W6,hu6,hM6,hk6⟩:=run_updateR (P:=Tryz.prog) (K:=intK) (k:=2) Tryz.underlying142 hM5 (.func (.func 89) #[] #[.pointer (some ⟨s1+1,0,none⟩)])
  have hu6b:(Instr.mapUpdate 142 (.map (some (s1+2))) (.int .i64 2) (.func (.func 89) #[] #[.pointer (some ⟨s1+1,0,none⟩)])).run Tryz.prog W5=.ok () W6:=hu6
  have hM6':MapR intK W6 (s1+2) (doesK (s1+1)):=hM6
  have K56:=Lib.hid (hk5.trans hk6 (fun _ _ h=>h))
  have KT:=Lib.hid kt
  have K4:=Lib.hid k4
  have HT3:=Lib.hid hT3
  have HX3:=Lib.hid hX3
  have HM6:=Lib.hid hM6'
  have HS:=Lib.hid (And.intro hs1 (And.intro hs3 hs4))
  have HOM:=Lib.hid hom
  have HMB:=Lib.hid (And.intro hmb hmbl)
  have HK1:=Lib.hid hk1
  clear kt hT3 hX3 hM4 k4 hu5 hu6 hM5 hM6 hM6' hk5 hk6 hmm hW3 hW4 hs1 hs3 hs4 hom hmb hmbl hk1
  gi_upto_region 6 with fail
  obtain⟨s6,hs6⟩:∃s6,W6.heap.size=s6:=⟨_,rfl⟩
  have k7:Kept (fun _=>False) W6 (W6.alloc (.cells #[.map (some (s1+2))] 142)):=(Kept.refl _ _).alloc _
  have b7:=Blk.new W6 142 #[.map (some (s1+2))]
  have hs7:(W6.alloc (.cells #[.map (some (s1+2))] 142)).heap.size=s6+1:=by simp;omega
  obtain⟨W7,hW7⟩:∃W7,W6.alloc (.cells #[.map (some (s1+2))] 142)=W7:=⟨_,rfl⟩
  rw [hW7] at k7 b7 hs7 ⊢
  rw [hs6] at b7 ⊢
  have HS6:=Lib.hid hs6
  have K7:=Lib.hid k7
  have B7:=Lib.hid b7
  have HS7:=Lib.hid hs7
  clear hW7 k7 b7 hs6
  gi_wp2_with (refine⟨trivial,?_⟩;gi_at_call 59;refine (callsIn_wide.2 (row_any mb _)).mono ?_;rintro e w8 ⟨rfl,hw8⟩)
  subst hw8
  have k8:Kept (fun _=>False) W7 (W7.alloc (.cells #[.map (some mb)] 91)):=(Kept.refl _ _).alloc _
  have b8:=Blk.new W7 91 #[.map (some mb)]
  have hs8:(W7.alloc (.cells #[.map (some mb)] 91)).heap.size=s6+2:=by simp;exact hs7
  obtain⟨W8,hW8⟩:∃W8,W7.alloc (.cells #[.map (some mb)] 91)=W8:=⟨_,rfl⟩
  rw [hW8] at k8 b8 hs8 ⊢
  rw [hs7] at b8
  clear hW8 hs7
  obtain⟨hcl,hok,hwh⟩:=closed_is HC.out
  have hle6:s1+3≤s6:=by have h1:=K56.out.size;have h2:=HS.out.2.2;have h3:=HS6.out;omega
  have hw1:w.heap.size≤s1:=by have h1:=HK1.out.size;have h2:=HS.out.1;omega
  have kw8:Kept (fun _=>False) w W8:=((((HK1.out.trans KT.out (fun _ _ h=>h)).trans K4.out (fun _ _ h=>h)).trans K56.out (fun i hi h=>by omega)).trans K7.out (fun _ _ h=>h)).trans k8 (fun _ _ h=>h)
  have k38:Kept (fun _=>False) w1 W4:=KT.out.trans K4.out (fun _ _ h=>h)
  have k68:Kept (fun _=>False) W6 W8:=K7.out.trans k8 (fun _ _ h=>h)
  have hmb1:mb<s1:=by have:=HMB.out.2;have:=HS.out.1;omega
  have HA:DocA w (s6+2) (s6+1) mb (s1+1) s6 (s1+2) s1:=⟨⟨hw1,by omega⟩,⟨by omega,by omega⟩,⟨by omega,by omega⟩,⟨by omega,by omega⟩,⟨by omega,by omega⟩,⟨by omega,by omega⟩⟩
  have J8:∀o1 o2,DocJ w (s6+2) (s6+1) mb (s1+1) s6 (s1+2) s1 l 0 (fun _=>False) ((W8.alloc o1).alloc o2):=fun o1 o2=>by
   have k9:Kept (fun _=>False) W8 ((W8.alloc o1).alloc o2):=((Kept.refl _ _).alloc _).alloc _
   have k69:=k68.trans k9 (fun _ _ h=>h)
   have hT:=((HT3.out.still K4.out).keep K56.out (fun b hb h=>by omega)).still k69
   have hs9:((W8.alloc o1).alloc o2).heap.size=s6+4:=by simp;omega
   exact { tc:=(k9.blk (fun h=>h) b8).cell' rfl,ops:=((HOM.out.keep k38 (fun h=>h)).keep K56.out (by omega)).keep k69 (fun h=>h),txb:=k69.blk (fun h=>h) (K56.out.blk (by omega) (K4.out.blk (fun h=>h) HX3.out)),dxb:=(k8.trans k9 (fun _ _ h=>h)).blk (fun h=>h) B7.out,dmm:=(HM6.out.keep k69 (fun h=>h)).mapK,tree:=⟨_,hT,fun b hb=>⟨.inl hb,fun h=>h,by omega⟩⟩,kept:=kw8.trans k9 (fun _ _ h=>h),xs:=fun _ h=>h.elim,sz:=by omega }
  have HJ8:=Lib.hid J8
  have HCL:=Lib.hid hcl
  have HHA:=Lib.hid HA
  have HHS:=Lib.hid hs8
  have HHL:=Lib.hid hle6
  clear J8 hcl HA hok hwh k8 b8 kw8 k38 k68 hmb1 hw1 hs8 hle6 hu5b hu6b hmk SET2
  refine wpIn_iterA rfl (by decide) (gf:=101) (lb:=#[.pointer (some ⟨s6+1,0,none⟩)]) rfl trivial (enters_of Tryz.func101 (by kernel_rfl) rfl) (row1_iter (tb:=s6+1) (mb:=mb) HCL.out (fun e he=>by have:=(hdl e he).1;omega) (by decide)) (fun _ _=>rfl) (s6+2) HHS.out (DocJ w (s6+2) (s6+1) mb (s1+1) s6 (s1+2) s1 l) (fun _ _ _=>False) ?hrd ?hgr ?hgx ?hob ?hox HJ8.out ?hxl ?hround ?hdone ?hstop
  case hrd=>exact fun i X W hJ=>⟨hJ.tc,hJ.ops,fun e he=>((HIN.out e he).at_.deps).kept hJ.kept⟩
  case hgr=>exact fun i X W W' hJ hk=>(hJ.far HHA.out hk fun _ h=>.inl h).2
  case hgx=>exact fun c X W W' h _=>h
  case hob=>exact fun i X W o' hJ=>(hJ.far HHA.out (kept_put W (s6+2+1) o') fun b h=>.inr (.inr h)).1
  case hox=>exact fun c X W o' h=>h
  case hxl=>exact fun i X W hJ x hx=>(hJ.xs x hx).2
  case hdone =>
   intro X W hJ hK
   obtain⟨F,hT,hF⟩:=hJ.tree
   rw [docL_all] at hT
   have t6:W.cell? ⟨s1+1,0,none⟩=some (.pointer (some ⟨s1,0,none⟩)):=hJ.txb.cell' (i:=0) rfl
   have kp:=kept_put W (s6+2) (.deferred none)
   have hsz:=hJ.sz
   have FIN:Hid (DocPost w l (.returned (.tuple #[.pointer (some ⟨s1,0,none⟩),.int .i64 0])) (W.putObj (s6+2) (.deferred none))):=Lib.hid ⟨.inr ⟨HC.out,s1,F,rfl,hT.keep kp (fun b hb h=>by have:=(hF b hb).1;have:=HHL.out;omega),fun b hb=>by have:=(hF b hb).1;have:=HHA.out.ag;omega⟩,hJ.kept.trans kp (fun i hi h=>by have:=HHA.out.ag;omega)⟩
   clear hT hF hJ kp hsz
   gi_wp2
   exact ret_range hK (by simp [results,Tryz.results53,go_sem]) FIN.out
  case hstop=>exact fun c X W h _=>h.elim
  case hround =>
   intro i X W hi hsz hJ
   obtain⟨e,he⟩:∃e,(rowL l)[i]?=some e:=⟨_,List.getElem?_eq_getElem hi⟩
   rw [rowEnc_some he]
   have ZB:=Lib.hid (Blk.new W 62 #[.int .i64 0,.int .i64 0,.slice none 0 0,.int .i64 0,.int .i64 0,.int .i64 0,.int .i64 0,.int .i64 0,.string ⟨#[]⟩,.slice none 0 0,.int .i64 0])
   have HE:=Lib.hid he
   have HJ:=Lib.hid hJ
   have HSZ:=Lib.hid hsz
   clear he hJ hsz
   gi_wp2_with (refine wpListIn_store_blk (by rfl) 62 _ _ rfl rfl rfl ZB.out (by rw [opA_size];exact size_op) (by rw [opA_size];rfl) (opA_one _) ?_)
   have K1:Kept (fun _=>False) W ((W.alloc (.cells #[.int .i64 0,.int .i64 0,.slice none 0 0,.int .i64 0,.int .i64 0,.int .i64 0,.int .i64 0,.int .i64 0,.string ⟨#[]⟩,.slice none 0 0,.int .i64 0] 62)).setRow W.heap.size (opA e.v)):=((Kept.refl (fun _=>False) W).alloc _).setRow (g:=W.heap.size) (fun h9=>by omega) _
   have B1:Blk ((W.alloc (.cells #[.int .i64 0,.int .i64 0,.slice none 0 0,.int .i64 0,.int .i64 0,.int .i64 0,.int .i64 0,.int .i64 0,.string ⟨#[]⟩,.slice none 0 0,.int .i64 0] 62)).setRow W.heap.size (opA e.v)) W.heap.size 62 (opA e.v):=ZB.out.row _
   refine⟨K1,fun o'=>?_⟩
   have kp:=kept_put ((W.alloc (.cells #[.int .i64 0,.int .i64 0,.slice none 0 0,.int .i64 0,.int .i64 0,.int .i64 0,.int .i64 0,.int .i64 0,.string ⟨#[]⟩,.slice none 0 0,.int .i64 0] 62)).setRow W.heap.size (opA e.v)) (s6+2+1) o'
   have J2:=((HJ.out.far HHA.out K1 fun _ h=>h.elim).1.far HHA.out kp fun b h=>.inr (.inr h)).1
   have B2:=kp.blk (by have:=HSZ.out;omega) B1
   have HXB:Hid (∀b,X b→b<W.heap.size):=Lib.hid fun b hb=>(HJ.out.xs b hb).2
   obtain⟨ob,hob⟩:∃ob,W.heap.size=ob:=⟨_,rfl⟩
   rw [hob] at kp J2 B2 ⊢
   obtain⟨W2,hW2⟩:∃W2,((W.alloc (.cells #[.int .i64 0,.int .i64 0,.slice none 0 0,.int .i64 0,.int .i64 0,.int .i64 0,.int .i64 0,.int .i64 0,.string ⟨#[]⟩,.slice none 0 0,.int .i64 0] 62)).setRow ob (opA e.v)).putObj (s6+2+1) o'=W2:=⟨_,rfl⟩
   rw [hW2] at J2 B2 ⊢
   have hei:=rowL_sub e (List.mem_of_getElem? HE.out)
   have OI:=Lib.hid (HIN.out e hei)
   have x2:W2.cell? ⟨s1+1,0,none⟩=some (.pointer (some ⟨s1,0,none⟩)):=J2.txb.cell' (i:=0) rfl
   have x7:W2.cell? ⟨s6,0,none⟩=some (.map (some (s1+2))):=J2.dxb.cell' (i:=0) rfl
   obtain⟨kd,hkd⟩:∃kd,e.v.kind=kd:=⟨_,rfl⟩
   have c3:W2.cell? ⟨ob,3,none⟩=some (.int .i64 kd):=by rw [←hkd];exact B2.cell' (i:=3) rfl
   have HJ2:=Lib.hid J2
   have HB2:=Lib.hid B2
   have HKD:=Lib.hid hkd
   have HROOM:=Lib.hid (docL_room HCL.out HE.out)
   have HNX:=Lib.hid (docL_next HE.out)
   have HGL:=Lib.hid (hdl e hei)
   clear K1 B1 kp J2 B2 hob hW2 hei hkd ZB
   by_cases h1:kd=1
   case pos =>
    subst h1
    have hlk:=run_lookupK (P:=Tryz.prog) (K:=intK) (k:=1) (v:=.func (.func 87) #[] #[.pointer (some ⟨s1+1,0,none⟩)]) Tryz.underlying142 HJ2.out.dmm rfl
    have hlk2:(Instr.lookup 142 (.map (some (s1+2))) (.int .i64 1) false).run Tryz.prog W2=.ok (.func (.func 87) #[] #[.pointer (some ⟨s1+1,0,none⟩)]) W2:=hlk
    have hfn:=fn_neq 87 #[] #[.pointer (some ⟨s1+1,0,none⟩)] W2
    obtain⟨F,hT,hF⟩:=HJ2.out.tree
    have HF:=Lib.hid hF
    have hst:stepD (docL l i) e=insL (docL l i) e.v.id e.v.ref e.v.text.size (badB e.v.text) (runesL e.v.text 0):=by unfold stepD;rw [if_pos HKD.out]
    have DO:=Lib.hid (doIns_any x2 hT e.v OI.out.text (by have:=HROOM.out;have:=Gl.countR_le e.v.text;omega))
    have HST:=Lib.hid (HNX.out.trans hst)
    clear hlk hT hF hst
    gi_wp2_with (first
     | (refine⟨trivial,?_⟩;gi_at_call 87;refine (CallsIn.inRound _ (callsIn_wide.2 DO.out)).mono ?_;rintro e9 W3 ⟨⟨u,rfl⟩,hT3,hk3⟩)
     | (refine wpListIn_load_blk (by rfl) 62 _ rfl rfl HB2.out Tryz.underlying62 rfl (by rw [opA_size];exact size_op) ?_))
    obtain⟨j1,j2,j3⟩:=HJ2.out.turn HHA.out hk3 (fun b hb=>⟨(HF.out b hb).1,(HF.out b hb).2.1⟩) (by rw [HST.out];exact hT3.low) (fun b hb=>by
     rcases hb.1 with h|h
     ·have h8:=HF.out b h;exact⟨h8.1,h8.2.1,hb.2⟩
     ·have h8:=HJ2.out.sz;exact⟨.inr (by omega),fun h9=>by have:=(HJ2.out.xs b h9).2;omega,hb.2⟩)
    exact⟨j2,j3,j1⟩
   case neg =>
    by_cases h2:kd=2
    case pos =>
     subst h2
     have hlk:=run_lookupK (P:=Tryz.prog) (K:=intK) (k:=2) (v:=.func (.func 89) #[] #[.pointer (some ⟨s1+1,0,none⟩)]) Tryz.underlying142 HJ2.out.dmm rfl
     have hlk2:(Instr.lookup 142 (.map (some (s1+2))) (.int .i64 2) false).run Tryz.prog W2=.ok (.func (.func 89) #[] #[.pointer (some ⟨s1+1,0,none⟩)]) W2:=hlk
     have hfn:=fn_neq 89 #[] #[.pointer (some ⟨s1+1,0,none⟩)] W2
     obtain⟨F,hT,hF⟩:=HJ2.out.tree
     have HF:=Lib.hid hF
     have hst:stepD (docL l i) e=(docL l i).map (turnF e.G 1 2):=by unfold stepD;rw [if_neg (fun h9=>by have:=HKD.out;omega),if_pos HKD.out]
     have DO:=Lib.hid (doDel_any x2 hT e.v (by have:=HROOM.out;omega) (OI.out.at_.gone.kept HJ2.out.kept) OI.out.runs (by have:=HGL.out.2;omega) (fun b hb hne hFb=>by
      obtain⟨g9,o9,c9,h8,_,_,hg9,_⟩:=OI.out.at_.gone.one (List.length_pos_iff.2 hne)
      rw [h8] at hb
      cases hb
      have h7:=(HF.out g9 hFb).1
      have:=HHA.out.ag
      omega))
     have HST:=Lib.hid (HNX.out.trans hst)
     clear hlk hT hF hst h1
     gi_wp2_with (first
      | (refine⟨trivial,?_⟩;gi_at_call 89;refine (CallsIn.inRound _ (callsIn_wide.2 DO.out)).mono ?_;rintro e9 W3 ⟨⟨u,rfl⟩,hT3,hk3⟩)
      | (refine wpListIn_load_blk (by rfl) 62 _ rfl rfl HB2.out Tryz.underlying62 rfl (by rw [opA_size];exact size_op) ?_))
     obtain⟨j1,j2,j3⟩:=HJ2.out.turn HHA.out hk3 (fun b hb=>⟨(HF.out b hb).1,(HF.out b hb).2.1⟩) (by rw [HST.out];exact hT3) (fun b hb=>by have h8:=HF.out b hb;exact⟨h8.1,h8.2.1,by have:=hk3.size;omega⟩)
     exact⟨j2,j3,j1⟩
    case neg =>
     have hlk:=run_lookupK_none (P:=Tryz.prog) (K:=intK) (k:=kd) (z:=.nilFunc) Tryz.underlying142 HJ2.out.dmm (does_none h1 h2) (zero_fn W2)
     have hlk2:(Instr.lookup 142 (.map (some (s1+2))) (.int .i64 kd) false).run Tryz.prog W2=.ok .nilFunc W2:=hlk
     have hfn:=nil_neq W2
     obtain⟨F,hT,hF⟩:=HJ2.out.tree
     have hst:stepD (docL l i) e=docL l i:=by unfold stepD;rw [if_neg (fun h9=>by have:=HKD.out;omega),if_neg (fun h9=>by have:=HKD.out;omega)]
     have FIN:=Lib.hid (HJ2.out.turn HHA.out (Kept.refl (fun _=>False) W2) (fun _ h=>h.elim) (by rw [HNX.out,hst];exact hT) hF)
     clear hlk hT hF hst h1 h2
     gi_wp2
     exact⟨fun _ _=>rfl,Nat.le_refl _,FIN.out.1⟩
end Go.Proofs.YtjohljmpcblpjaaGreatDoor.Pa
