/- A variable of several cells is loaded whole and stored whole in a region that draws its order. They speak of no program of their own. Parts of the proof. -/
import Derived.Deep.MidRow
import Derived.TacticsIn
import Derived.Laws.ResultCell
import Derived.Test.YtjohljmpcblpjaaGreatDoorM11
set_option maxRecDepth 100000
set_option maxHeartbeats 4000000
namespace Go.Proofs.YtjohljmpcblpjaaGreatDoor
open Go.RowKit
section
variable {P:Program}
theorem yieldsIf_load_blk {ops:Array Oper}{S:World→Prop}{op:Oper}{a:Act}(hw:Region.wanted op (yielded ops a.tmps)=true) (ty:TypeId) (x:Operand) (ho:op.op=.load ty x){g:Nat}{t:TypeId}{cs:Array Value}{d:TypeDesc}
  (hx:a.eval x=.pointer (some ⟨g,0,none⟩)) (hS:∀w,S w→Blk w g t cs) (hu:P.underlying ty=some d) (hd:(match d with | .struct _ | .array _ _=>true | _=>false)=true) (hi:(P.info? ty).map (·.size)=some cs.size):YieldsIf P ops S op (.agg cs) a :=
 .inl ⟨hw,fun w hw'=>by
  unfold execOp
  simp only [ho,hx,Instr.loadAt,Instr.sureAddr,Sem.run_bind,Sem.run_pure,Result.andThen_ok,run_loadVar_row w g t ty cs (0,0) d (hS w hw') hu hd hi]⟩
structure StepH (P:Program) (md:Region.Mode) (ops:Array Oper) (Q:Exit→Act→World→Prop) (S:World→Prop) (fuel:Nat) (listed:Array Bool) (a:Act) (w:World) (i:Nat):Prop where
 out:wpOp P ops Q i (fun a' w'=>S w'∧wpAnyH P md ops Q S fuel (listed.setIfInBounds i true) a' w') a w
section
variable {md:Region.Mode} {ops:Array Oper} {Q:Exit→Act→World→Prop} {S:World→Prop} {fuel:Nat} {listed:Array Bool} {a:Act} {w:World} {i:Nat} {o:Oper}
theorem wpAnyH_one (hr:Region.ready md ops listed=[i]) (h:StepH P md ops Q S fuel listed a w i):wpAnyH P md ops Q S (fuel+1) listed a w :=
 wpAnyH_all hr (by simp) fun _ hj=>by rw [List.mem_singleton.1 hj];exact h.out
theorem wpAnyH_two {j:Nat}(hr:Region.ready md ops listed=[i,j]) (h:StepH P md ops Q S fuel listed a w i) (h2:StepH P md ops Q S fuel listed a w j):wpAnyH P md ops Q S (fuel+1) listed a w :=
 wpAnyH_all hr (by simp) fun k hk=>by
  rcases List.mem_cons.1 hk with rfl|hk
  ·exact h.out
  ·rw [List.mem_singleton.1 hk];exact h2.out
theorem takeH {v:Value}(ho:ops[i]?=some o){d:Option Tmp}(hd:o.dst=d) (hs:Region.noSelect ops=true) (hf:Region.free md ops listed i=true) (hr:(Region.ready md ops listed).contains i=true)
  (hQ:∀c a w,Q (.panic c) (a.put d v) w→Q (.panic c) a w) (hy:YieldsIf P ops S o v a) (hS:S w)
  (h:wpAnyH P md ops Q S fuel (listed.setIfInBounds i true) (a.put d v) w):wpAnyH P md ops Q S (fuel+1) listed a w:=by
 subst hd
 exact wpAnyH_take ho hs hf hr hQ hy hS h
theorem StepH.value {v:Value}{w':World}(ho:ops[i]?=some o){d:Option Tmp}(hd:o.dst=d) (hw:Region.wanted o (yielded ops a.tmps)=true) (he:(execOp a.eval o).run P w=.ok (.value v) w') (hS:S w') (h:S w'→wpAnyH P md ops Q S fuel (listed.setIfInBounds i true) (a.put d v) w'):StepH P md ops Q S fuel listed a w i :=
 ⟨wpOp_step ho fun K' hK=>by
  subst hd
  rw [if_pos hw]
  unfold Oper.wp
  rw [he]
  exact hK _ _ ⟨hS,h hS⟩⟩
theorem StepH.skip {w':World}(ho:ops[i]?=some o){d:Option Tmp}(hd:o.dst=d) (hw:Region.wanted o (yielded ops a.tmps)=true) (he:(execOp a.eval o).run P w=.ok .skip w') (hS:S w') (h:S w'→wpAnyH P md ops Q S fuel (listed.setIfInBounds i true) (a.put d undef) w'):StepH P md ops Q S fuel listed a w i :=
 ⟨wpOp_step ho fun K' hK=>by
  subst hd
  rw [if_pos hw]
  unfold Oper.wp
  rw [he]
  exact hK _ _ ⟨hS,h hS⟩⟩
theorem StepH.call {f:FuncId}{args:Array Value}{w':World}(ho:ops[i]?=some o){d:Option Tmp}(hd:o.dst=d) (hw:Region.wanted o (yielded ops a.tmps)=true) (he:(execOp a.eval o).run P w=.ok (.enter f args) w')
  (h:Calls P f args w' fun e w''=>∃v,e=.returned v∧S w''∧(S w''→wpAnyH P md ops Q S fuel (listed.setIfInBounds i true) (a.put d v) w'')):StepH P md ops Q S fuel listed a w i :=
 ⟨wpOp_step ho fun K' hK=>by
  subst hd
  rw [if_pos hw]
  unfold Oper.wp
  rw [he]
  refine Calls.mono h ?_
  rintro e w'' ⟨v,rfl,hS,h⟩
  exact hK _ _ ⟨hS,h hS⟩⟩
theorem StepH.store (ho:ops[i]?=some o){d:Option Tmp}(hd:o.dst=d) (hw:Region.wanted o (yielded ops a.tmps)=true) (ty:TypeId) (x y:Operand) (hop:o.op=.store ty x y){g:Nat}{t:TypeId}{old cs:Array Value}
  (hx:a.eval x=.pointer (some ⟨g,0,none⟩)) (hy:a.eval y=.agg cs) (hB:Blk w g t old) (hi:(P.info? ty).map (·.size)=some cs.size) (hs:old.size=cs.size) (h1:cs.all (·.oneCell')=true)
  (hS:S (w.setRow g cs)) (h:S (w.setRow g cs)→wpAnyH P md ops Q S fuel (listed.setIfInBounds i true) (a.put d undef) (w.setRow g cs)):StepH P md ops Q S fuel listed a w i:=by
 have hst:(storeVar ty ⟨g,0,none⟩ (.agg cs)).run P w=.ok () (w.setRow g cs):=by
  cases hq:P.info? ty with
  | none=>simp [hq] at hi
  | some q =>
   have hz:q.size=cs.size:=by simpa [hq] using hi
   simp [storeVar,sizeOf,typeInfo,hq,Value.cells,hz,hB.stores (P:=P) hs h1]
 have hr:(execOp a.eval o).run P w=.ok .skip (w.setRow g cs):=by
  unfold execOp
  simp only [hop,hx,hy,Instr.storeAt,Instr.sureAddr,Sem.run_bind,Sem.run_pure,Result.andThen_ok,hst]
 exact .skip ho hd hw hr hS h
theorem StepH.alloc (ho:ops[i]?=some o){d:Option Tmp}(hd:o.dst=d) (hw:Region.wanted o (yielded ops a.tmps)=true){v:Value}{w':World}(he:(execOp a.eval o).run P w=.ok (.value v) w') (hS:S w') (h:S w'→wpAnyH P md ops Q S fuel (listed.setIfInBounds i true) (a.put d v) w'):StepH P md ops Q S fuel listed a w i:=.value ho hd hw he hS h
end
theorem Blk.resultC {w:World}{g:Nat}{t:TypeId}{cs:Array Value}{fn:Func}{p u:Tmp}{ty:TypeId}{d:TypeDesc}(hr:fn.results=#[.cell p ty,.tmp u]) (tmps:Array Value) (h:Blk w g t cs) (hp:tmps.getD p undef=.pointer (some ⟨g,0,none⟩))
  (hu:P.underlying ty=some d) (hd:(match d with | .struct _ | .array _ _=>true | _=>false)=true) (hi:(P.info? ty).map (·.size)=some cs.size):(results fn tmps).run P w=.ok (.tuple #[.agg cs,tmps.getD u undef]) w:=by
 rw [results_cell_tmp hr,hp]
 simp [asAddr,run_loadVar_row w g t ty cs (0,0) d h hu hd hi,Result.andThen]
theorem wpListIn_load_blk {F:Fence}{n:Nat}{ops:Array Oper}{rest:List Oper}{o:Oper}{a:Act}{w:World}{Q:Exit→Act→World→Prop}(hw:Region.wanted o (yielded ops a.tmps)=true) (ty:TypeId) (x:Operand) (ho:o.op=.load ty x){g:Nat}{t:TypeId}{cs:Array Value}{d:TypeDesc}
  (hx:a.eval x=.pointer (some ⟨g,0,none⟩)) (hB:Blk w g t cs) (hu:P.underlying ty=some d) (hd:(match d with | .struct _ | .array _ _=>true | _=>false)=true) (hi:(P.info? ty).map (·.size)=some cs.size)
  (h:wpListIn F n P ops Q rest (a.put o.dst (.agg cs)) w):wpListIn F n P ops Q (o::rest) a w :=
 wpListIn_step fun K hK=>by
  rw [if_pos hw]
  have hr:(execOp a.eval o).run P w=.ok (.value (.agg cs)) w:=by
   unfold execOp
   simp only [ho,hx,Instr.loadAt,Instr.sureAddr,Sem.run_bind,Sem.run_pure,Result.andThen_ok,run_loadVar_row w g t ty cs (0,0) d hB hu hd hi]
  unfold Oper.wpIn
  refine⟨by simp [Oper.about,ho],?_⟩
  rw [Oper.semAt_eq _ _ _ (by rw [ho];intro c hc;cases hc),hr]
  exact hK _ _ h
theorem wpListIn_store_blk {F:Fence}{n:Nat}{ops:Array Oper}{rest:List Oper}{o:Oper}{a:Act}{w:World}{Q:Exit→Act→World→Prop}(hw:Region.wanted o (yielded ops a.tmps)=true) (ty:TypeId) (x y:Operand) (ho:o.op=.store ty x y){g:Nat}{t:TypeId}{old cs:Array Value}
  (hx:a.eval x=.pointer (some ⟨g,0,none⟩)) (hy:a.eval y=.agg cs) (hB:Blk w g t old) (hi:(P.info? ty).map (·.size)=some cs.size) (hs:old.size=cs.size) (h1:cs.all (·.oneCell')=true)
  (h:wpListIn F n P ops Q rest (a.put o.dst undef) (w.setRow g cs)):wpListIn F n P ops Q (o::rest) a w :=
 wpListIn_step fun K hK=>by
  rw [if_pos hw]
  have hst:(storeVar ty ⟨g,0,none⟩ (.agg cs)).run P w=.ok () (w.setRow g cs):=by
   cases hq:P.info? ty with
   | none=>simp [hq] at hi
   | some q =>
    have hz:q.size=cs.size:=by simpa [hq] using hi
    simp [storeVar,sizeOf,typeInfo,hq,Value.cells,hz,hB.stores (P:=P) hs h1]
  have hr:(execOp a.eval o).run P w=.ok .skip (w.setRow g cs):=by
   unfold execOp
   simp only [ho,hx,hy,Instr.storeAt,Instr.sureAddr,Sem.run_bind,Sem.run_pure,Result.andThen_ok,hst]
  unfold Oper.wpIn
  refine⟨by simp [Oper.about,ho],?_⟩
  rw [Oper.semAt_eq _ _ _ (by rw [ho];intro c hc;cases hc),hr]
  exact hK _ _ h
end
end Go.Proofs.YtjohljmpcblpjaaGreatDoor
namespace Go.Proofs.YtjohljmpcblpjaaGreatDoor
open Go.RowKit
theorem zq1 {α:Type}{l:List α}{i:Nat}{a:α}:l.toArray.setIfInBounds i a=(l.set i a).toArray:=List.setIfInBounds_toArray ..
theorem zq2 {α:Type}{x:α}{l:List α}{a:α}:(x::l).set 0 a=a::l:=rfl
theorem zq3 {α:Type}{x:α}{l:List α}{n:Nat}{a:α}:(x::l).set (n+1) a=x::l.set n a:=rfl
section
variable {P:Program} {md:Region.Mode} {ops:Array Oper} {Q:Exit→Act→World→Prop} {S:World→Prop} {fuel:Nat} {listed:Array Bool} {a:Act} {w:World} {o:Oper}
theorem tU (i d:Nat) (h:wpAnyH P md ops Q S fuel (listed.setIfInBounds i true) (a.put (some d) undef) w) (ho:ops[i]?=some o:=by rfl) (hd:o.dst=some d:=by rfl)
  (hs:Region.noSelect ops=true:=by kernel_rfl) (hf:Region.free md ops listed i=true:=by kernel_rfl) (hr:(Region.ready md ops listed).contains i=true:=by kernel_rfl)
  (hQ:∀c a w,Q (.panic c) (a.put (some d) undef) w→Q (.panic c) a w:=by exact fun _ _ _ h=>h) (hw:Region.wanted o (yielded ops a.tmps)=false:=by rfl) (hS:S w:=by assumption) :
  wpAnyH P md ops Q S (fuel+1) listed a w:=takeH ho hd hs hf hr hQ (.inr ⟨hw,rfl⟩) hS h
theorem tV (i d:Nat){v:Value}(h:wpAnyH P md ops Q S fuel (listed.setIfInBounds i true) (a.put (some d) v) w) (ho:ops[i]?=some o:=by rfl) (hd:o.dst=some d:=by rfl)
  (hs:Region.noSelect ops=true:=by kernel_rfl) (hf:Region.free md ops listed i=true:=by kernel_rfl) (hr:(Region.ready md ops listed).contains i=true:=by kernel_rfl)
  (hQ:∀c a w,Q (.panic c) (a.put (some d) v) w→Q (.panic c) a w:=by exact fun _ _ _ h=>h) (hw:Region.wanted o (yielded ops a.tmps)=true:=by rfl)
  (hy:∀w,S w→(execOp a.eval o).run P w=.ok (.value v) w:=by intro w hSw;clear hSw;go_simp;first | done | with_reducible rfl) (hS:S w:=by assumption) :
  wpAnyH P md ops Q S (fuel+1) listed a w:=takeH ho hd hs hf hr hQ (.inl ⟨hw,hy⟩) hS h
end
end Go.Proofs.YtjohljmpcblpjaaGreatDoor
namespace Go.Proofs.YtjohljmpcblpjaaGreatDoor.Pa
open Go.RowKit Go.Proofs.YtjohljmpcblpjaaGreatDoor.St Go.Proofs.YtjohljmpcblpjaaGreatDoor
attribute [local go_sem] Oper.semAt_some
structure WaitS (w:World) (tb mb lb lm gb:Nat) (l:List Ent) (V:List Dot) (lk:List (Int × Value)):Prop where
 tc:w.cell? ⟨tb,0,none⟩=some (.map (some mb))
 ops:OpsM w mb (kvsOf l)
 rows:∀e∈l,SlAt dotE w e.v.deps.v e.D
 lc:w.cell? ⟨lb,0,none⟩=some (.map (some lm))
 left:MapK intK w lm lk
 gc:∃gv,w.cell? ⟨gb,0,none⟩=some gv∧SlAt dotE w gv V
theorem WaitS.still {w w':World}{tb mb lb lm gb:Nat}{l:List Ent}{V:List Dot}{lk:List (Int × Value)}(h:WaitS w tb mb lb lm gb l V lk) (hk:Kept (fun _=>False) w w'):WaitS w' tb mb lb lm gb l V lk:=by
 obtain⟨gv,g1,g2⟩:=h.gc
 exact⟨hk.cell h.tc,h.ops.keep hk (fun h=>h),fun e he=>(h.rows e he).kept hk,hk.cell h.lc,h.left.keep hk (fun h=>h),gv,hk.cell g1,g2.kept hk⟩
theorem WaitS.look {w:World}{tb mb lb lm gb:Nat}{l:List Ent}{V:List Dot}{lk:List (Int × Value)}(h:WaitS w tb mb lb lm gb l V lk) (hn:(l.map dotOf).Nodup) (s:Nat) :
  ∃(x:OpV) (b:Bool),(Instr.lookup 91 (.map (some mb)) (.agg #[.int .i64 (s:Int),.int .i64 (says V s+1)]) true).run Tryz.prog w=.ok (.tuple #[.agg (opA x),.bool b]) w ∧
   ((b=false∧candP dotOf depOf l V s=none)∨(b=true∧∃e∈l,x=e.v∧SlAt dotE w x.deps.v e.D∧candP dotOf depOf l V s=if coversV V e.D then some e else none)):=by
 obtain⟨x,h1,h2⟩:=h.ops.look ⟨(s:Int),says V s+1⟩
 rw [kvs_keys] at h1 h2
 by_cases hm:(⟨(s:Int),says V s+1⟩:Dot)∈l.map dotOf
 case neg =>
  rw [decide_eq_false hm] at h1
  refine⟨x,false,h1,.inl ⟨rfl,?_⟩⟩
  unfold candP
  refine List.find?_eq_none.2 fun e he=>?_
  simp only [decide_eq_true_eq]
  rintro⟨h3,_⟩
  exact hm (h3 ▸ List.mem_map_of_mem he)
 case pos =>
  rw [decide_eq_true hm] at h1
  have h3:=h2 hm
  obtain⟨p,hp,e1,e2⟩:=getK_mem h3
  unfold kvsOf at hp
  obtain⟨e,he,rfl⟩:=List.mem_map.1 hp
  have e3:opA e.v=opA x:=Value.agg.inj e2
  refine⟨e.v,true,by rw [e3];exact h1,.inr ⟨rfl,e,he,rfl,h.rows e he,?_⟩⟩
  have e4:dotOf e=⟨(s:Int),says V s+1⟩:=e1
  have hu:=inj_nodup hn
  unfold candP
  by_cases hc:coversV V e.D
  ·rw [if_pos hc]
   have h5:(l.find? fun e=>decide (dotOf e=⟨(s:Int),says V s+1⟩∧coversV V (depOf e)))≠none:=fun h9=>by
    have:=List.find?_eq_none.1 h9 e he
    simp only [decide_eq_true_eq] at this
    exact this ⟨e4,hc⟩
   cases hf:l.find? fun e=>decide (dotOf e=⟨(s:Int),says V s+1⟩∧coversV V (depOf e)) with
   | none=>exact absurd hf h5
   | some y =>
    have h6:=List.find?_some hf
    simp only [decide_eq_true_eq] at h6
    rw [hu y (List.mem_of_find?_eq_some hf) e he (h6.1.trans e4.symm)]
  ·rw [if_neg hc]
   refine List.find?_eq_none.2 fun y hy=>?_
   simp only [decide_eq_true_eq]
   rintro⟨h6,h7⟩
   rw [hu y hy e he (h6.trans e4.symm)] at h7
   exact hc h7
def WaitPost (o:Option Ent) (e:Ending):Prop:=∃x:OpV,e=.returned (.tuple #[.agg (opA x),.bool o.isSome])∧∀y,o=some y→x=y.v
def PaS (w2:World) (z0:Nat) (W:World):Prop:=Kept (·=z0) w2 W∧∃cs:Array Value,cs.size=11∧Blk W z0 62 cs
theorem waiting_any {w:World}{tb mb lb lm gb:Nat}{l:List Ent}{V:List Dot}{lk:List (Int × Value)}(h:WaitS w tb mb lb lm gb l V lk) (hn:(l.map dotOf).Nodup) (hdl:∀e∈l,e.D.length≤1000000000) (hV:V.length≤1000000000) (s:Nat) (hs:getK lk (s:Int)=some (.int .i64 (says V s+1))) :
  Calls Tryz.prog 102 #[.int .i64 (s:Int),.pointer (some ⟨tb,0,none⟩),.pointer (some ⟨lb,0,none⟩),.pointer (some ⟨gb,0,none⟩)] w fun e w'=>WaitPost (candP dotOf depOf l V s) e∧Kept (fun _=>False) w w':=by
 have H:=Lib.hid h
 obtain⟨w1,hw1⟩:∃w1,w.alloc (.cells #[.int .i64 0,.int .i64 0,.slice none 0 0,.int .i64 0,.int .i64 0,.int .i64 0,.int .i64 0,.int .i64 0,.string ⟨#[]⟩,.slice none 0 0,.int .i64 0] 62)=w1:=⟨_,rfl⟩
 obtain⟨gv,g10,g20⟩:=h.gc
 have hk1:Kept (fun _=>False) w w1:=by rw [←hw1];exact (Kept.refl _ _).alloc _
 have h1:=h.still hk1
 obtain⟨x,b,hlk,hcand⟩:=h1.look hn s
 have hll:=run_lookupK (K:=intK) (k:=(s:Int)) Tryz.underlying168 h1.left hs
 have g1:=hk1.cell g10
 have g2:=g20.kept hk1
 have b0:Blk w1 w.heap.size 62 #[.int .i64 0,.int .i64 0,.slice none 0 0,.int .i64 0,.int .i64 0,.int .i64 0,.int .i64 0,.int .i64 0,.string ⟨#[]⟩,.slice none 0 0,.int .i64 0]:=by rw [←hw1];exact Blk.new _ _ _
 have B0:=Lib.hid b0
 have K1:=Lib.hid hk1
 have HC:=Lib.hid hcand
 have H0:=Lib.hid g10
 have t1:=h1.tc
 have l1:=h1.lc
 have G2:=Lib.hid g2
 obtain⟨q,hq⟩:∃q,says V s+1=q:=⟨_,rfl⟩
 rw [hq] at hlk hll
 clear h hs hcand b0 g2 H h1 hk1 hq g10 g20
 obtain⟨⟨xs,xq⟩,⟨xa,xn,xc⟩,xk,⟨xt,xi⟩,⟨xrt,xri⟩,xtx,⟨ga,gn,gc⟩,xsite⟩:=x
 have hlk2:(Instr.lookup 91 (.map (some mb)) (.agg #[.int .i64 (s:Int),.int .i64 q]) true).run Tryz.prog w1=.ok (.tuple #[.agg #[.int .i64 xs,.int .i64 xq,.slice xa xn xc,.int .i64 xk,.int .i64 xt,.int .i64 xi,.int .i64 xrt,.int .i64 xri,.string xtx,.slice ga gn gc,.int .i64 xsite],.bool b]) w1:=hlk
 have hll2:(Instr.lookup 168 (.map (some lm)) (.int .i64 (s:Int)) false).run Tryz.prog w1=.ok (.int .i64 q) w1:=hll
 clear hlk hll
 go_enter Tryz.func102,Tryz.ntmps102
 go_upto_region 2 with fail
 obtain⟨w2,hw2⟩:∃w2,w1.alloc (.cells #[.int .i64 xs,.int .i64 xq,.slice xa xn xc,.int .i64 xk,.int .i64 xt,.int .i64 xi,.int .i64 xrt,.int .i64 xri,.string xtx,.slice ga gn gc,.int .i64 xsite] 62)=w2:=⟨_,rfl⟩
 have hk2:Kept (fun _=>False) w1 w2:=by rw [←hw2];exact (Kept.refl _ _).alloc _
 have b1:Blk w2 w1.heap.size 62 #[.int .i64 xs,.int .i64 xq,.slice xa xn xc,.int .i64 xk,.int .i64 xt,.int .i64 xi,.int .i64 xrt,.int .i64 xri,.string xtx,.slice ga gn gc,.int .i64 xsite]:=by rw [←hw2];exact Blk.new _ _ _
 have b0:=hk2.blk (fun h=>h) B0.out
 have hne:¬w1.heap.size=w.heap.size:=by have:=B0.out.lt;omega
 obtain⟨z,hz⟩:∃z,w1.heap.size=z:=⟨_,rfl⟩
 obtain⟨z0,hz0⟩:∃z0,w.heap.size=z0:=⟨_,rfl⟩
 rw [hw2,hz,hz0]
 rw [hz] at b1 hne
 rw [hz0] at b0 hne
 have hgb:¬gb=z0:=by rw [←hz0];exact fun h9=>by have:=World.block_lt_of_cell? w _ H0.out;simp only at this;omega
 have K2:=Lib.hid ((K1.out.trans hk2 fun _ _ h=>h))
 have G3:=Lib.hid (G2.out.kept hk2)
 have K2':=Lib.hid hk2
 obtain⟨da,dc,rfl,_,_⟩:=G3.out.sl
 have gc2:=hk2.cell g1
 have HX:Hid (∀W,PaS w2 z0 W→Blk W z 62 #[.int .i64 xs,.int .i64 xq,.slice xa xn xc,.int .i64 xk,.int .i64 xt,.int .i64 xi,.int .i64 xrt,.int .i64 xri,.string xtx,.slice ga gn gc,.int .i64 xsite]):=Lib.hid fun W hk=>hk.1.blk hne b1
 have HC2:Hid (∀W,PaS w2 z0 W→W.cell? ⟨z,2,none⟩=some (.slice xa xn xc)):=Lib.hid fun W hk=>(HX.out W hk).cell' (i:=2) rfl
 have HG:Hid (∀W,PaS w2 z0 W→W.cell? ⟨gb,0,none⟩=some (.slice da V.length dc)):=Lib.hid fun W hk=>by
  rw [World.cell?_of_block (a:=⟨gb,0,none⟩) (w:=w2) (hk.1.block gb (World.block_lt_of_cell? w2 _ gc2) hgb)]
  exact gc2
 have HS0:Hid (PaS w2 z0 w2.drew):=Lib.hid ⟨(Kept.refl _ _).drew,_,rfl,b0.drewN 1⟩
 have EZ:=Lib.hid hz0
 clear hk2 b1 b0 hne hw2 hz hz0 hgb hw1 hll2 hlk2 t1 l1 g1 gc2
 rcases HC.out with ⟨rfl,hcn⟩|⟨rfl,e,he,hex,hsd,hcn⟩
 case inl =>
  have HCN:=Lib.hid hcn
  clear hcn
  refine wp_region_held_drew (S:=PaS w2 z0) (by kernel_rfl) HS0.out (fun hHeld=>?_)
  refine takeH (i:=0) (d:=(some 19)) rfl rfl (by kernel_rfl) (by kernel_rfl) (by kernel_rfl) (fun _ _ _ h=>h) (yieldsIf_load_blk (by rfl) _ _ rfl rfl HX.out Tryz.underlying62 rfl size_op) (by assumption) ?_
  try simp only [Act.put,zq1,zq2,zq3]
  refine tV 1 20 ?_ (hy:=by intro w hSw;clear hSw;go_simp;try with_reducible rfl)
  try simp only [Act.put,zq1,zq2,zq3]
  refine tV 2 21 ?_ (hy:=by intro w hSw;clear hSw;go_simp;try with_reducible rfl)
  try simp only [Act.put,zq1,zq2,zq3]
  refine tU 3 22 ?_
  try simp only [Act.put,zq1,zq2,zq3]
  refine tU 4 23 ?_
  try simp only [Act.put,zq1,zq2,zq3]
  refine tU 5 24 ?_
  try simp only [Act.put,zq1,zq2,zq3]
  refine tU 6 25 ?_
  try simp only [Act.put,zq1,zq2,zq3]
  refine tV 7 26 ?_ (hy:=by intro w hSw;clear hSw;go_simp;try with_reducible rfl)
  try simp only [Act.put,zq1,zq2,zq3]
  refine wpAnyH_one (i:=8) (by kernel_rfl) ?_
  have HH:=hHeld
  obtain⟨k1,cs,c1,c2⟩:=HH
  refine StepH.store (d:=none) rfl rfl (by rfl) 62 _ _ rfl rfl rfl (c2) (size_op) (c1) (by simp [Value.oneCell']) ?_ (fun hHeld=>?_)
  focus (exact⟨k1.setRow (fun _=>rfl) _,_,rfl,c2.row _⟩)
  try simp only [Act.put]
  refine tV 9 6 ?_ (hy:=by intro w hSw;clear hSw;go_simp;try with_reducible rfl)
  try simp only [Act.put,zq1,zq2,zq3]
  refine wpAnyH_done (by kernel_rfl) ?_ _
  go_wp2_with fail
  refine bodyPost_ret (Blk.resultC rfl _ (c2.row _) rfl Tryz.underlying62 rfl size_op) rfl ⟨⟨⟨⟨xs,xq⟩,⟨xa,xn,xc⟩,xk,⟨xt,xi⟩,⟨xrt,xri⟩,xtx,⟨ga,gn,gc⟩,xsite⟩,by rw [HCN.out];rfl,?_⟩,?_⟩
  focus (intro y hy;rw [HCN.out] at hy;cases hy)
  exact K2.out.trans (k1.setRow (fun _=>rfl) _) (fun b hb h9=>by have:=EZ.out;omega)
 case inr =>
  have HCN:=Lib.hid hcn
  have HEX:=Lib.hid hex
  have HDL:=Lib.hid (hdl e he)
  have HSD:=Lib.hid (K2'.out.trans (Kept.refl _ _) (fun _ _ h=>h) |> fun k=>hsd.kept k)
  clear hcn hex hsd he
  refine wp_region_held_drew (S:=PaS w2 z0) (by kernel_rfl) HS0.out (fun hHeld=>?_)
  refine takeH (i:=0) (d:=(some 19)) rfl rfl (by kernel_rfl) (by kernel_rfl) (by kernel_rfl) (fun _ _ _ h=>h) (yieldsIf_load_blk (by rfl) _ _ rfl rfl HX.out Tryz.underlying62 rfl size_op) (by assumption) ?_
  try simp only [Act.put,zq1,zq2,zq3]
  refine tV 1 20 ?_ (hy:=by intro w hSw;clear hSw;go_simp;try with_reducible rfl)
  try simp only [Act.put,zq1,zq2,zq3]
  refine tV 2 21 ?_ (hy:=by intro w hSw;clear hSw;go_simp;try with_reducible rfl)
  try simp only [Act.put,zq1,zq2,zq3]
  refine tV 3 22 ?_ (hy:=by intro w hSw;have h9:=HG.out w hSw;clear hSw;go_simp;try with_reducible rfl)
  try simp only [Act.put,zq1,zq2,zq3]
  refine tV 4 23 ?_ (hy:=by intro w hSw;clear hSw;go_simp;try with_reducible rfl)
  try simp only [Act.put,zq1,zq2,zq3]
  refine tV 5 24 ?_ (hy:=by intro w hSw;have h9:=HC2.out w hSw;clear hSw;go_simp;try with_reducible rfl)
  try simp only [Act.put,zq1,zq2,zq3]
  refine wpAnyH_one (i:=6) (by kernel_rfl) ?_
  have HH:=hHeld
  obtain⟨k1,cs,c1,c2⟩:=HH
  refine StepH.call (d:=(some 25)) (f:=?_) (args:=?_) (w':=?_) rfl rfl (by rfl) ?_ ?_
  rotate_left 3
  focus (go_simp;first | done | with_reducible rfl | ((repeat' apply And.intro) <;> with_reducible rfl))
  refine Calls.mono (covers_any (G3.out.kept (Kept.refl _ _).drew) (HSD.out.kept (Kept.refl _ _).drew) hV HDL.out) ?_
  rintro e1 Wc ⟨rfl,KC⟩
  refine⟨_,rfl,?_,fun hHeld=>?_⟩
  focus (exact⟨k1.trans KC (fun _ _ h=>h.elim),cs,c1,KC.blk (fun h=>h) c2⟩)
  try simp only [Act.put,zq1,zq2,zq3]
  refine tV 7 26 ?_ (hy:=by intro w hSw;clear hSw;go_simp;try with_reducible rfl)
  try simp only [Act.put,zq1,zq2,zq3]
  refine wpAnyH_one (i:=8) (by kernel_rfl) ?_
  have HH:=hHeld
  obtain⟨k1,cs,c1,c2⟩:=HH
  refine StepH.store (d:=none) rfl rfl (by rfl) 62 _ _ rfl rfl rfl (c2) (size_op) (c1) (by simp [Value.oneCell']) ?_ (fun hHeld=>?_)
  focus (exact⟨k1.setRow (fun _=>rfl) _,_,rfl,c2.row _⟩)
  try simp only [Act.put]
  refine tV 9 6 ?_ (hy:=by intro w hSw;clear hSw;go_simp;try with_reducible rfl)
  try simp only [Act.put,zq1,zq2,zq3]
  refine wpAnyH_done (by kernel_rfl) ?_ _
  have hpick:(if coversV V e.D then some e else none:Option Ent).isSome=decide (coversV V e.D):=by by_cases hc:coversV V e.D <;> simp [hc]
  go_wp2_with fail
  refine bodyPost_ret (Blk.resultC rfl _ (c2.row _) rfl Tryz.underlying62 rfl size_op) rfl ⟨⟨⟨⟨xs,xq⟩,⟨xa,xn,xc⟩,xk,⟨xt,xi⟩,⟨xrt,xri⟩,xtx,⟨ga,gn,gc⟩,xsite⟩,by rw [HCN.out,hpick];rfl,?_⟩,?_⟩
  focus (intro y hy;rw [HCN.out] at hy;by_cases hc:coversV V e.D;(rw [if_pos hc] at hy;cases hy;exact HEX.out);(rw [if_neg hc] at hy;cases hy))
  exact K2.out.trans (k1.setRow (fun _=>rfl) _) (fun b hb h9=>by have:=EZ.out;omega)
end Go.Proofs.YtjohljmpcblpjaaGreatDoor.Pa
namespace Go.Proofs.YtjohljmpcblpjaaGreatDoor.Tr
open Go.Proofs.YtjohljmpcblpjaaGreatDoor.St
@[ext] structure Nd where
 id:ID
 ref:ID
 rune:Int
 st:Int
deriving DecidableEq,Inhabited
inductive T where
 | mk (n:Nd) (ks:List T)
def T.n:T→Nd | .mk n _=>n
def T.ks:T→List T | .mk _ ks=>ks
mutual
def flat:T→List Nd | .mk n ks=>n::flats ks
def flats:List T→List Nd | []=>[] | t::ts=>flat t++flats ts
end
theorem flat_eq (t:T):flat t=t.n::flats t.ks:=by cases t;rfl
theorem flats_append (A B:List T):flats (A++B)=flats A++flats B:=by
 induction A with
 | nil=>rfl
 | cons t A ih=>show flat t++flats (A++B)=(flat t++flats A)++flats B;rw [ih,List.append_assoc]
mutual
def WF (r:ID):T→Prop | .mk n ks=>n.ref=r∧r.lt n.id∧WFs n.id ks
def WFs (r:ID):List T→Prop | []=>True | t::ts=>WF r t∧(∀u∈ts,u.n.id.lt t.n.id)∧WFs r ts
end
theorem WF.eq {r:ID}{t:T}:WF r t↔t.n.ref=r∧r.lt t.n.id∧WFs t.n.id t.ks:=by cases t;exact Iff.rfl
abbrev ids (L:List Nd):List ID:=L.map (·.id)
mutual
theorem WF.gt {r:ID}:∀(t:T),WF r t→∀m∈flat t,r.lt m.id
 | .mk n ks,h,m,hm=>by
  rcases List.mem_cons.1 hm with rfl|hm
  ·exact h.2.1
  ·exact ID.lt_trans h.2.1 (WFs.gt ks h.2.2 m hm)
theorem WFs.gt {r:ID}:∀(F:List T),WFs r F→∀m∈flats F,r.lt m.id
 | [],_,m,hm=>by simp [flats] at hm
 | t::ts,h,m,hm=>by
  rcases List.mem_append.1 hm with hm|hm
  ·exact WF.gt t h.1 m hm
  ·exact WFs.gt ts h.2.2 m hm
end
mutual
theorem WF.ahead {r:ID}:∀(t:T),WF r t→∀(P Q:List Nd) (m:Nd),flat t=P++m::Q→m.ref=r∧P=[]∨m.ref∈ids P
 | .mk n ks,h,P,Q,m,e=>by
  cases P with
  | nil =>
   have e1:n=m:=by have:=congrArg List.head? e;simpa [flat] using this
   exact .inl ⟨by rw [←e1];exact h.1,rfl⟩
  | cons p P =>
   have e1:n=p:=by have:=congrArg List.head? e;simpa [flat] using this
   have e2:flats ks=P++m::Q:=by have:=congrArg List.tail e;simpa [flat] using this
   right
   rcases WFs.ahead ks h.2.2 P Q m e2 with h1|h1
   ·exact List.mem_map.2 ⟨p,List.mem_cons_self,by rw [←e1];exact h1.symm⟩
   ·obtain⟨y,hy,hy2⟩:=List.mem_map.1 h1
    exact List.mem_map.2 ⟨y,List.mem_cons_of_mem _ hy,hy2⟩
theorem WFs.ahead {r:ID}:∀(F:List T),WFs r F→∀(P Q:List Nd) (m:Nd),flats F=P++m::Q→m.ref=r∨m.ref∈ids P
 | [],_,P,Q,m,e=>by simp [flats] at e
 | t::ts,h,P,Q,m,e=>by
  have e:flat t++flats ts=P++m::Q:=e
  rcases List.append_eq_append_iff.1 e with ⟨A,hA1,hA2⟩|⟨A,hA1,hA2⟩
  ·-- P=flat t++A
   rcases WFs.ahead ts h.2.2 A Q m hA2 with h1|h1
   ·exact .inl h1
   ·obtain⟨y,hy,hy2⟩:=List.mem_map.1 h1
    exact .inr (List.mem_map.2 ⟨y,by rw [hA1];exact List.mem_append.2 (.inr hy),hy2⟩)
  ·cases A with
   | nil =>
    rw [List.append_nil] at hA1
    rw [List.nil_append] at hA2
    have : flats ts=[]++m::Q:=hA2.symm
    rcases WFs.ahead ts h.2.2 [] Q m this with h1|h1
    ·exact .inl h1
    ·simp at h1
   | cons a A =>
    have e1:m=a:=by have:=congrArg List.head? hA2;simpa using this
    subst e1
    rcases WF.ahead t h.1 P A m hA1 with ⟨h1,_⟩|h1
    ·exact .inl h1
    ·exact .inr h1
end
theorem WF.refs {r:ID}{t:T}(h:WF r t):∀m∈flats t.ks,m.ref∈ids (flat t):=fun m hm=>by
 obtain⟨P,Q,e⟩:=List.append_of_mem hm
 rcases WFs.ahead t.ks (WF.eq.1 h).2.2 P Q m e with h1|h1
 ·rw [flat_eq];exact List.mem_map.2 ⟨t.n,List.mem_cons_self,h1.symm⟩
 ·obtain⟨y,hy,hy2⟩:=List.mem_map.1 h1
  rw [flat_eq]
  exact List.mem_map.2 ⟨y,List.mem_cons_of_mem _ (by rw [e];exact List.mem_append.2 (.inl hy)),hy2⟩
theorem WFs.refs {r:ID}{F:List T}(h:WFs r F):∀m∈flats F,m.ref=r∨m.ref∈ids (flats F):=fun m hm=>by
 obtain⟨P,Q,e⟩:=List.append_of_mem hm
 rcases WFs.ahead F h P Q m e with h1|h1
 ·exact .inl h1
 ·obtain⟨y,hy,hy2⟩:=List.mem_map.1 h1
  exact .inr (List.mem_map.2 ⟨y,by rw [e];exact List.mem_append.2 (.inl hy),hy2⟩)
def kids (L:List Nd) (r:ID):List Nd:=L.filter fun n=>decide (n.ref=r)
theorem kids_append (A B:List Nd) (r:ID):kids (A++B) r=kids A r++kids B r:=List.filter_append ..
theorem kids_none {L:List Nd}{r:ID}(h:∀m∈L,m.ref≠r):kids L r=[]:=List.filter_eq_nil_iff.2 fun m hm=>by simpa using h m hm
theorem kids_root {r:ID}:∀ {F:List T},WFs r F→kids (flats F) r=F.map T.n
 | [],_=>rfl
 | t::ts,h=>by
  show kids (flat t++flats ts) r=t.n::ts.map T.n
  rw [kids_append,kids_root (F:=ts) h.2.2,flat_eq]
  have h1:kids (flats t.ks) r=[]:=kids_none fun m hm e=>by
   have h2:=(WF.eq.1 h.1)
   rcases WFs.refs h2.2.2 m hm with h3|h3
   ·rw [h3] at e
    have:=h2.2.1
    rw [e] at this
    exact ID.lt_irrefl _ this
   ·obtain⟨y,hy,hy2⟩:=List.mem_map.1 h3
    have:=ID.lt_trans h2.2.1 (WFs.gt t.ks h2.2.2 y hy)
    rw [hy2,e] at this
    exact ID.lt_irrefl _ this
  show kids ([t.n]++flats t.ks) r++_=_
  rw [kids_append,h1]
  have : kids [t.n] r=[t.n]:=by unfold kids;rw [List.filter_cons_of_pos (by simpa using (WF.eq.1 h.1).1)];rfl
  rw [this]
  rfl
mutual
def subs:T→List T | .mk n ks=>.mk n ks::subss ks
def subss:List T→List T | []=>[] | t::ts=>subs t++subss ts
end
theorem subs_eq (t:T):subs t=t::subss t.ks:=by cases t;rfl
mutual
theorem subs_flat:∀(t:T),(subs t).map T.n=flat t
 | .mk n ks=>by show n::(subss ks).map T.n=n::flats ks;rw [subss_flat ks]
theorem subss_flat:∀(F:List T),(subss F).map T.n=flats F
 | []=>rfl
 | t::ts=>by show (subs t++subss ts).map T.n=flat t++flats ts;rw [List.map_append,subs_flat t,subss_flat ts]
end
mutual
theorem subs_trans {u v:T}:∀(t:T),u∈subs t→v∈subs u→v∈subs t
 | .mk n ks,hu,hv=>by
  rcases List.mem_cons.1 hu with rfl|hu
  ·exact hv
  ·exact List.mem_cons_of_mem _ (subss_trans ks hu hv)
theorem subss_trans {u v:T}:∀(F:List T),u∈subss F→v∈subs u→v∈subss F
 | [],hu,_=>by simp [subss] at hu
 | t::ts,hu,hv=>by
  rcases List.mem_append.1 hu with hu|hu
  ·exact List.mem_append.2 (.inl (subs_trans t hu hv))
  ·exact List.mem_append.2 (.inr (subss_trans ts hu hv))
end
theorem mem_subss {t:T}:∀ {F:List T},t∈F→t∈subss F
 | [],h=>by simp at h
 | u::us,h=>by
  rcases List.mem_cons.1 h with rfl|h
  ·exact List.mem_append.2 (.inl (by rw [subs_eq];exact List.mem_cons_self))
  ·exact List.mem_append.2 (.inr (mem_subss h))
mutual
theorem WF.sub {r:ID}:∀(t:T),WF r t→∀u∈subs t,∃r',WF r' u
 | .mk n ks,h,u,hu=>by
  rcases List.mem_cons.1 hu with rfl|hu
  ·exact⟨r,h⟩
  ·exact WFs.sub ks h.2.2 u hu
theorem WFs.sub {r:ID}:∀(F:List T),WFs r F→∀u∈subss F,∃r',WF r' u
 | [],_,u,hu=>by simp [subss] at hu
 | t::ts,h,u,hu=>by
  rcases List.mem_append.1 hu with hu|hu
  ·exact WF.sub t h.1 u hu
  ·exact WFs.sub ts h.2.2 u hu
end
mutual
theorem kids_sub {r:ID}:∀(t:T),WF r t→(ids (flat t)).Nodup→∀u∈subs t,kids (flat t) u.n.id=u.ks.map T.n
 | .mk n ks,h,hnd,u,hu=>by
  have hnd2:(n.id::ids (flats ks)).Nodup:=hnd
  obtain⟨hn1,hn2⟩:=List.nodup_cons.1 hnd2
  rcases List.mem_cons.1 hu with rfl|hu
  ·show kids ([n]++flats ks) n.id=ks.map T.n
   rw [kids_append,kids_root h.2.2,kids_none (L:=[n])]
   ·rfl
   ·intro m hm e
    rw [List.mem_singleton.1 hm] at e
    have:=h.2.1
    rw [←h.1,e] at this
    exact ID.lt_irrefl _ this
  ·show kids ([n]++flats ks) u.n.id=_
   have hm:u.n∈flats ks:=by rw [←subss_flat];exact List.mem_map.2 ⟨u,hu,rfl⟩
   rw [kids_append,kids_subs ks h.2.2 hn2 u hu,kids_none (L:=[n])]
   ·rfl
   ·intro m hm2 e
    rw [List.mem_singleton.1 hm2] at e
    have h1:=ID.lt_trans h.2.1 (WFs.gt ks h.2.2 u.n hm)
    rw [←e,h.1] at h1
    exact ID.lt_irrefl _ h1
theorem kids_subs {r:ID}:∀(F:List T),WFs r F→(ids (flats F)).Nodup→∀u∈subss F,kids (flats F) u.n.id=u.ks.map T.n
 | [],_,_,u,hu=>by simp [subss] at hu
 | t::ts,h,hnd,u,hu=>by
  have hnd2:(ids (flat t)++ids (flats ts)).Nodup:=by have:=hnd;unfold ids at *;rwa [show flats (t::ts)=flat t++flats ts from rfl,List.map_append] at this
  obtain⟨n1,n2,n3⟩:=List.nodup_append.1 hnd2
  show kids (flat t++flats ts) u.n.id=_
  rw [kids_append]
  rcases List.mem_append.1 hu with hu|hu
  ·have hm:u.n∈flat t:=by rw [←subs_flat];exact List.mem_map.2 ⟨u,hu,rfl⟩
   rw [kids_sub t h.1 n1 u hu,kids_none (L:=flats ts),List.append_nil]
   intro m hm2 e
   rcases WFs.refs h.2.2 m hm2 with h1|h1
   ·have h2:=WF.gt t h.1 u.n hm
    rw [←e,h1] at h2
    exact ID.lt_irrefl _ h2
   ·rw [e] at h1
    exact n3 _ (List.mem_map.2 ⟨u.n,hm,rfl⟩) _ h1 rfl
  ·have hm:u.n∈flats ts:=by rw [←subss_flat];exact List.mem_map.2 ⟨u,hu,rfl⟩
   rw [kids_subs ts h.2.2 n2 u hu,kids_none (L:=flat t),List.nil_append]
   intro m hm2 e
   rw [flat_eq] at hm2
   rcases List.mem_cons.1 hm2 with rfl|hm2
   ·have h2:=WFs.gt ts h.2.2 u.n hm
    rw [←e,(WF.eq.1 h.1).1] at h2
    exact ID.lt_irrefl _ h2
   ·have h1:=WF.refs h.1 m hm2
    rw [e] at h1
    exact n3 _ h1 _ (List.mem_map.2 ⟨u.n,hm,rfl⟩) rfl
end
def Doc (L:List Nd):Prop:=∃F:List T,flats F=L∧WFs ID.zero F∧(ids L).Nodup
end Go.Proofs.YtjohljmpcblpjaaGreatDoor.Tr
