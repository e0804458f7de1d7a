/- The nil Tree: Kept, Insert. append of a string to a row of the call's own: where the new row lies. Parts of the proof. -/
import Derived.Test.YtjohljmpcblpjaaGreatDoorM23
import Derived.Test.YtjohljmpcblpjaaGreatDoorM17
import Derived.Lib.AppendStr
import Derived.Lib.FrozenHead2
import Derived.Lib.UnsafeStr
import Derived.Lib.Builder
set_option maxRecDepth 100000
set_option maxHeartbeats 8000000
namespace Go.Proofs.YtjohljmpcblpjaaGreatDoor.Tr
open Go.RowKit Go.Proofs.YtjohljmpcblpjaaGreatDoor.St Go.Shelf
attribute [local go_sem] Oper.semAt_some
theorem all1_nil {F:Fence}{n:Nat}(h62:F.fn 140) (hro:F.round=none){pl:Nat}(enc:Nat→Array Value) :
  IterOk F n Tryz.prog 140 #[.pointer (some ⟨pl,0,none⟩)] 0 enc (fun w=>w.cell? ⟨pl,0,none⟩=some (.pointer none)):=by
 intro yl I Z X0 w hrd hgr hgz hy h0
 have r0:=hrd _ _ _ h0
 have H0:=Lib.hid h0
 clear hrd hgr hgz hy h0
 refine callsIn_of_wp Tryz.func140 rfl h62 ?_ hro
 simp only [Tryz.ntmps140,List.size_toArray,List.length_cons,List.length_nil,Nat.reduceAdd,Nat.reduceSub,Array.replicate_succ,Array.replicate_zero,List.push_toArray,List.append_toArray,List.nil_append,List.cons_append]
 gi_wp2
 refine bodyPost_ret (results_none rfl _ _ _) rfl ?_
 exact⟨⟨_,rfl⟩,.inl ⟨_,H0.out⟩⟩
theorem all_nil (w:World):Calls Tryz.prog 99 #[.pointer none] w fun e w' =>
  e=.returned (.func (.func 140) #[] #[.pointer (some ⟨w.heap.size,0,none⟩)])∧w'=w.alloc (.cells #[.pointer none] 102):=by
 go_enter Tryz.func99,Tryz.ntmps99
 go_wp2
 go_ret
 exact⟨rfl,rfl⟩
def NilJ (w:World) (B:Nat) (bs:List Box) (_:Nat) (X:Nat→Prop) (W:World):Prop :=
 Kept (fun _=>False) w W∧(∀x∈bs,Blk W x.1 x.2.1 x.2.2∧x.1<B)∧(∀b,X b→B≤b)∧B≤W.heap.size∧w.heap.size≤B
theorem NilJ.step {w W W':World}{B i:Nat}{bs:List Box}{X X' Y:Nat→Prop}(h:NilJ w B bs i X W) (hk:Kept Y W W') (hY:∀b,Y b→B≤b) (hX:∀b,X' b→B≤b):NilJ w B bs i X' W':=by
 obtain⟨h1,h2,h3,h4,h5⟩:=h
 exact⟨h1.trans hk fun b hb h=>by have:=hY b h;omega,fun x hx=>⟨hk.blk (fun h=>by have:=hY _ h;have:=(h2 x hx).2;omega) (h2 x hx).1,(h2 x hx).2⟩,hX,Nat.le_trans h4 hk.size,h5⟩
theorem NilJ.grow {w W W':World}{B i:Nat}{bs:List Box}{X:Nat→Prop}(h:NilJ w B bs i X W) (hk:Kept X W W'):NilJ w B bs i (fun b=>X b∨(W.heap.size≤b∧b<W'.heap.size)) W' :=
 h.step hk h.2.2.1 fun b hb=>hb.elim (h.2.2.1 b) fun h9=>Nat.le_trans h.2.2.2.1 h9.1
theorem NilJ.start (w:World):NilJ w w.heap.size [] 0 (fun _=>False) w:=⟨Kept.refl _ _,fun _ hx=>(List.not_mem_nil hx).elim,fun _ h=>h.elim,Nat.le_refl _,Nat.le_refl _⟩
theorem NilJ.boxed {w W:World}{bs:List Box}(h:NilJ w W.heap.size bs 0 (fun _=>False) W) (cs:Array Value) (t:TypeId):NilJ w (W.alloc (.cells cs t)).heap.size (bs++[(W.heap.size,t,cs)]) 0 (fun _=>False) (W.alloc (.cells cs t)):=by
 obtain⟨h1,h2,_,_,h5⟩:=h
 refine⟨h1.alloc _,fun x hx=>?_,fun _ h=>h.elim,Nat.le_refl _,by rw [World.size_alloc];omega⟩
 rcases List.mem_append.1 hx with hx|hx
 ·exact⟨(h2 x hx).1.alloc _,by rw [World.size_alloc];have:=(h2 x hx).2;omega⟩
 ·rw [List.mem_singleton.1 hx];exact⟨Blk.new W _ _,by rw [World.size_alloc];exact Nat.lt_succ_self _⟩
theorem NilJ.cell {w W:World}{B i:Nat}{bs:List Box}{X:Nat→Prop}(h:NilJ w B bs i X W) (j:Nat){z:Nat}{T:TypeId}{us:Array Value}(hj:bs[j]?=some (z,T,us)) (o:Nat){u:Value}(hu:us[o]?=some u):W.cell? ⟨z,o,none⟩=some u:=(h.2.1 _ (List.mem_of_getElem? hj)).1.cell' hu
theorem nodes_nil (w:World) :
  Calls Tryz.prog 57 #[.pointer none] w fun e w'=>e=.returned (.slice none 0 0)∧Kept (fun _=>False) w w':=by
 refine (callsIn_wide (n:=6)).1 ?_
 refine callsIn_of_wp_marks Tryz.func57 rfl trivial ?_ rfl
 simp only [Tryz.ntmps57,List.size_toArray,List.length_cons,List.length_nil,Nat.reduceAdd,Nat.reduceSub,Array.replicate_succ,Array.replicate_zero,List.push_toArray,List.append_toArray,List.nil_append,List.cons_append]
 gi_wp2_with (refine⟨trivial,?_⟩;gi_at_call 99;refine (callsIn_wide.2 (all_nil _)).mono ?_;rintro e w' ⟨rfl,rfl⟩)
 obtain⟨W0,hW0⟩:∃W0,((w.alloc (.cells #[.slice none 0 0] 51)).alloc (.cells #[.pointer none] 102))=W0:=⟨_,rfl⟩
 have b0:=(Blk.new w 51 #[.slice none 0 0]).alloc (.cells #[.pointer none] 102)
 have b1:=Blk.new (w.alloc (.cells #[.slice none 0 0] 51)) 102 #[.pointer none]
 have k0:Kept (fun _=>False) w ((w.alloc (.cells #[.slice none 0 0] 51)).alloc (.cells #[.pointer none] 102)):=((Kept.refl _ _).alloc _).alloc _
 rw [World.size_alloc] at b1
 rw [hW0] at b0 b1 k0
 have hJ0:NilJ w W0.heap.size [(w.heap.size,51,#[.slice none 0 0]),(w.heap.size+1,102,#[.pointer none])] 0 (fun _=>False) W0 :=
  ⟨k0,fun x hx=>by rcases List.mem_cons.1 hx with rfl | hx;exact⟨b0,b0.lt⟩;rw [List.mem_singleton.1 hx];exact⟨b1,b1.lt⟩,fun _ h=>h.elim,Nat.le_refl _,k0.size⟩
 rw [hW0]
 clear hW0 b0 b1 k0
 refine wpIn_iter (N:=0) (enc:=fun _=>#[]) rfl (by decide) (gf:=140) (lb:=#[.pointer (some ⟨w.heap.size+1,0,none⟩)]) rfl trivial (enters_of Tryz.func140 (by kernel_rfl) rfl) (all1_nil trivial rfl _) (fun i h=>absurd h (Nat.not_lt_zero _)) W0.heap.size rfl (NilJ w W0.heap.size [(w.heap.size,51,#[.slice none 0 0]),(w.heap.size+1,102,#[.pointer none])]) (fun _ _ _=>False) ?hrd ?hgr ?hgx ?hob ?hox ?h0 ?round ?done ?stop
 case hrd=>intro i X W hJ;exact (hJ.2.1 _ (List.mem_cons_of_mem _ List.mem_cons_self)).1.cell' rfl
 case hgr=>intro i X W W' hJ hk;exact hJ.grow hk
 case hgx=>intro c X W W' h _;exact h
 case hob=>intro i X W o' hJ;exact hJ.step (kept_put W _ o') (fun b hb=>by rw [hb];omega) hJ.2.2.1
 case hox=>intro c X W o' hJ;exact hJ
 case h0=>intro o1 o2;exact hJ0.step (((Kept.refl (fun _=>False) W0).alloc o1).alloc o2) (fun _ h=>h.elim) (fun _ h=>h.elim)
 case round=>intro i W K hi;exact absurd hi (Nat.not_lt_zero _)
 case done =>
  intro X W hJ hK
  have c0:W.cell? ⟨w.heap.size,0,none⟩=some (.slice none 0 0):=(hJ.2.1 _ List.mem_cons_self).1.cell' rfl
  have HJ:=Lib.hid hJ
  have HK:=Lib.hid hK
  have hcl:=clip_any none 0 0 (Nat.le_refl _) W
  clear hJ hK
  gi_wp2_with (refine⟨trivial,?_⟩;gi_at_call 100;refine (callsIn_wide.2 hcl).mono ?_;rintro e w' ⟨rfl,rfl⟩)
  refine ret_range HK.out (results_tmp rfl _ _ _) ⟨rfl,?_⟩
  exact (HJ.out.step (X':=fun _=>False) (kept_put w' W0.heap.size (.deferred none)) (fun b hb=>by rw [hb];exact Nat.le_refl _) (fun _ h=>h.elim)).1
 case stop=>rintro c X W h _;exact h.elim
end Go.Proofs.YtjohljmpcblpjaaGreatDoor.Tr
namespace Go.Proofs.YtjohljmpcblpjaaGreatDoor
open Go.RowKit
section
variable {P:Program} {w:World}
theorem append_string_at (t u ty e:TypeId) (i:TypeInfo) (ht:P.underlying t=some (.slice e)) (hu:P.underlying u=some .string) (hi:P.info? e=some i) (hz:i.zero=some (.int .u8 0)) (hsize:i.size=1) (hby:i.bytes=1)
  {base n:Nat} {v v':Value} {w':World} {xs:List Value} (hown:w.ownsRow base e 1 v n xs) (s:ByteArray) (hn:n+s.size≤1000000000) (hr:(Builtin.append_ #[t,u] ty #[v,.string s]).run P w=.ok v' w') :
  v'.ownBlock=v.ownBlock∨v'.ownBlock=some w.heap.size:=by
 have hs:Src P i.size u (.string s) s.size (byteCells s) w:=by rw [hsize];exact Src.ofString w hu s
 have hcap:∀old,old<n+s.size→Builtin.nextslicecap (n+s.size) old * i.bytes≤281474976710656:=fun old h=>by
  have:=nextslicecap_le h
  rw [hby]
  omega
 rcases hown.2 with ⟨rfl,rfl⟩|⟨g,cap,cur,rfl,hb,hg,h1,h2,h3,h4⟩
 ·rcases Nat.eq_zero_or_pos s.size with h0 | h0
  ·have hrun:(Builtin.append_ #[t,u] ty #[.slice none 0 0,.string s]).run P w=.ok (.slice none 0 0) w:=by
    have hc:=hs.cells
    have hl:=hs.len w
    rw [h0] at hc hl
    simp [Builtin.append_,run_underlying ht,run_underlying hu,sizeOf,typeInfo,hi,hl,hc]
   rw [hr] at hrun
   injection hrun with e1 e2
   left;rw [e1]
  ·have hrun:=run_append_grow_src (P:=P) (w:=w) t u ty e i _ ht hi hz none 0 0 [] (run_firstCells_none _ _ _ _ _) (.string s) s.size (byteCells s) hs (by omega) (by omega) (hcap 0 (by omega))
   rw [hr] at hrun
   injection hrun with e1 e2
   right;rw [e1];rfl
 ·have hblk:Blk w g e cur:=hg
  by_cases hroom:n+s.size≤cap
  ·have hl:(byteCells s).length=s.size:=byteCells_length s
   have hrun:=run_append_room_src (P:=P) (w:=w) t u ty e i ht hi g 0 n cap (.string s) s.size (byteCells s) hs hroom (fun j hj=>by
    rw [hblk.cell,hsize]
    have : n+j<cur.size:=by omega
    simp [this]) (fun j _=>hblk.frozen _)
   rw [hr] at hrun
   injection hrun with e1 e2
   left;rw [e1];rfl
  ·have hold:(Builtin.firstCells i.size n (.slice (some ⟨g,0,none⟩) n cap)).run P w.drew=.ok xs.toArray w.drew:=by
    rw [hsize]
    refine run_firstCells_some _ 1 n ⟨g,0,none⟩ n cap xs hown.1 (fun j x hx=>?_)
    rw [Addr.add_lit,Nat.zero_add]
    show w.cell? ⟨g,j,none⟩=some x
    rw [hblk.cell]
    rw [←h4,List.getElem?_take] at hx
    split at hx
    ·simpa using hx
    ·cases hx
   have hrun:=run_append_grow_src (P:=P) (w:=w) t u ty e i _ ht hi hz (some ⟨g,0,none⟩) n cap xs hold (.string s) s.size (byteCells s) hs (by omega) (by omega) (hcap cap (by omega))
   rw [hr] at hrun
   injection hrun with e1 e2
   right;rw [e1];rfl
theorem wpList_append_string_at {ops:Array Oper}{rest:List Oper}{o:Oper}{a:Act}{Q:Exit→Act→World→Prop}(hgd:o.guard=none) (sl x:Operand) (t u:TypeId)
  (ho:o.op=.call { callee:=.builtin .append,args:=#[sl,x],argTypes:=#[t,u] })
  (base:Nat) (e:TypeId) (i:TypeInfo) (ht:P.underlying t=some (.slice e)) (hu:P.underlying u=some .string) (hi:P.info? e=some i) (hz:i.zero=some (.int .u8 0))
  (hsize:i.size=1) (hby:i.bytes=1)
  (v:Value) (n:Nat) (xs:List Value) (hs:a.eval sl=v) (hown:w.ownsRow base e 1 v n xs) (s:ByteArray) (hx:a.eval x=.string s)
  (hn:n+s.size≤1000000000) (hbase:base≤w.heap.size)
  (h:∀v' w',w'.ownsRow base e 1 v' (n+s.size) (xs++Lib.strCells s)→w.grownBy w' v.ownBlock→(v'.ownBlock=v.ownBlock∨v'.ownBlock=some w.heap.size)→wpList P ops Q rest (a.put o.dst v') w'):wpList P ops Q (o::rest) a w:=by
 refine wpList_plain hgd fun K hK=>?_
 obtain⟨v',w',hr,h2,h3,h4⟩:=Lib.run_append_own_string (P:=P) w base t u o.type e i ht hu hi hz hsize hby v n xs hown s (by unfold maxLen;omega) (by omega) hbase
 have hat:=append_string_at t u o.type e i ht hu hi hz hsize hby hown s hn hr
 unfold Oper.wp execOp
 simp only [ho,resolve,invoke,builtin,Sem.run_bind,Sem.run_pure,Result.andThen_ok,List.map_toArray,List.map_cons,List.map_nil,hs,hx,hr]
 exact hK _ _ (h v' w' h2 h3 hat)
end
end Go.Proofs.YtjohljmpcblpjaaGreatDoor
namespace Go.Proofs.YtjohljmpcblpjaaGreatDoor.Tr
open Go.RowKit
theorem kept_one (w:World) (p:Addr) (v:Value):Kept (·=p.block) w (w.setCell p v):=(Kept.refl (·=p.block) w).setCell (fun _=>rfl) v
structure Bld (w:World) (b base:Nat) (v:Value) (bs:List UInt8):Prop where
 at_:∃p,(p=Value.pointer none∨p=.pointer (some ⟨b,0,none⟩))∧Blk w b 146 #[p,v]
 row:w.ownsRow base 5 1 v bs.length (Lib.byteCells bs)
theorem copyCheck_any {w:World}{b base:Nat}{v:Value}{bs:List UInt8}(h:Bld w b base v bs):Calls Tryz.prog 133 #[.pointer (some ⟨b,0,none⟩)] w fun e w' =>
  e=.returned (.tuple #[])∧Blk w' b 146 #[.pointer (some ⟨b,0,none⟩),v]∧Kept (·=b) w w'∧w'.heap.size=w.heap.size:=by
 obtain⟨p,hp,hb⟩:=h.at_
 have c0:w.cell? ⟨b,0,none⟩=some p:=hb.cell' rfl
 have f0:=hb.frozen 0
 have HB:=Lib.hid hb
 clear h hb
 have hsh:w.shape? b=some (146,2):=by have h9:w.heap[b]?=some (.cells #[p,v] 146 (0,0)):=HB.out;simp [World.shape?,h9]
 obtain⟨j,hj,hjs⟩:∃j,Tryz.prog.info? 146=some j∧j.size=2:=Option.map_eq_some_iff.1 (by kernel_rfl:(Tryz.prog.info? 146).map (·.size)=some 2)
 have h1:(convert 143 240 (.pointer (some ⟨b,0,none⟩))).run Tryz.prog w=.ok (.pointer (some ⟨b,0,none⟩)) w:=Lib.run_to_unsafe w ⟨b,0,none⟩ Tryz.underlying143 Tryz.underlying240 hj (by rw [hjs];decide) hsh (Nat.zero_lt_succ 1)
 have h3:(convert 240 143 (.pointer (some ⟨b,0,none⟩))).run Tryz.prog w=.ok (.pointer (some ⟨b,0,none⟩)) w:=Lib.run_from_unsafe w ⟨b,0,none⟩ Tryz.underlying240 Tryz.underlying143 hj hsh (by kernel_rfl)
 have h2:(callFunc 161 #[.pointer (some ⟨b,0,none⟩)]).run Tryz.prog w=.ok (.value (.pointer (some ⟨b,0,none⟩))) w:=by
  rw [run_callFunc_extern Tryz.func161 (by kernel_rfl) (by kernel_rfl) (by kernel_rfl) (e:=Extern.AbiNoEscape.same) (by kernel_rfl),Lib.run_noEscape]
  rfl
 clear hjs hsh
 rcases hp with rfl|rfl
 ·go_enter Tryz.func133,Tryz.ntmps133
  go_wp2
  go_end0
  exact⟨rfl,HB.out.set_ 0 _,kept_one w ⟨b,0,none⟩ _,World.size_setCell ..⟩
 ·have hne:(binOp .neq 143 (.pointer (some ⟨b,0,none⟩)) (.pointer (some ⟨b,0,none⟩))).run Tryz.prog w=.ok (.bool false) w:=Lib.run_neq_ptr_same w ⟨b,0,none⟩ Tryz.underlying143 hj
  clear h1 h2 h3 hj
  go_enter Tryz.func133,Tryz.ntmps133
  go_wp2
  go_end0
  exact⟨rfl,HB.out,Kept.refl _ _,rfl⟩
theorem info_u8:(Tryz.prog.info? 5).map (fun i=>(i.zero,i.size,i.bytes))=some (some (.int .u8 0),1,1):=by kernel_rfl
theorem bld_owns {w:World}{base n:Nat}{v:Value}{xs:List Value}(h:w.ownsRow base 5 1 v n xs):∃a c,v=.slice a n c:=by
 rcases h.2 with ⟨rfl,rfl⟩|⟨g,cap,cur,rfl,_⟩
 ·exact⟨_,_,rfl⟩
 ·exact⟨_,_,rfl⟩
theorem bld_keep {S:Nat→Prop}{w w':World}{base n size:Nat}{e:TypeId}{v:Value}{xs:List Value}(h:w.ownsRow base e size v n xs) (hk:Kept S w w') (hs:∀b,v.ownBlock=some b→¬S b):w'.ownsRow base e size v n xs:=by
 refine⟨h.1,?_⟩
 rcases h.2 with h' | ⟨g,cap,cur,rfl,hb,hg,r⟩
 ·exact .inl h'
 ·exact .inr ⟨g,cap,cur,rfl,hb,hk.blk (t:=e) (cs:=cur) (hs g rfl) hg,r⟩
theorem bld_ne {w:World}{base n b:Nat}{v:Value}{xs:List Value}{cs:Array Value}(h:w.ownsRow base 5 1 v n xs) (hb:Blk w b 146 cs):∀g,v.ownBlock=some g→¬g=b:=by
 intro g hg e
 rcases h.2 with ⟨rfl,_⟩|⟨g',cap,cur,rfl,_,h2,_⟩
 ·cases hg
 ·cases hg
  subst e
  exact Blk.ne_ (t:=5) (cs:=cur) h2 hb (by decide) rfl
theorem bld_write {w:World}{b base:Nat}{v:Value}{bs:List UInt8}(h:Bld w b base v bs) (s:ByteArray) (hn:bs.length+s.size≤1000000000) (hbase:base≤w.heap.size) :
  Calls Tryz.prog 92 #[.pointer (some ⟨b,0,none⟩),.string s] w fun e w'=>e=.returned (.tuple #[.int .i64 s.size,.nilIface]) ∧
   ∃v',Bld w' b base v' (bs++s.data.toList)∧Kept (fun x=>x=b∨v.ownBlock=some x) w w'∧(v'.ownBlock=v.ownBlock∨v'.ownBlock=some w.heap.size):=by
 have hcc:=copyCheck_any h
 obtain⟨i,hi,hz0,hz1,hz2⟩:=info_parts info_u8
 obtain⟨p,_,hb⟩:=h.at_
 have hne:=bld_ne h.row hb
 have H:=Lib.hid h
 have NE:=Lib.hid hne
 have HI:=Lib.hid (And.intro hi (And.intro hz0 (And.intro hz1 hz2)))
 clear h hb hne hi hz0 hz1 hz2
 go_enter Tryz.func92,Tryz.ntmps92
 go_wp2_with (first | (go_at_call 133;refine hcc.mono ?_;clear hcc;rintro e w1 ⟨rfl,hb1,hk1,hz1⟩;have c1:w1.cell? ⟨b,1,none⟩=some v:=hb1.cell' rfl;have hs1:=hk1.size;have HB1:=Lib.hid hb1;have HK1:=Lib.hid hk1;have HR1:=Lib.hid (bld_keep H.out.row hk1 (fun g hg e=>NE.out g hg e));have HBS:Hid (base≤w1.heap.size):=Lib.hid (Nat.le_trans hbase hs1);have HZ:Hid (w1.heap.size=w.heap.size):=Lib.hid hz1;clear hb1 hk1 hs1 hz1) | (at_builtin;(refine wpList_append_string_at rfl (.tmp 12) (.tmp 13) 144 9 rfl base 5 i Tryz.underlying144 Tryz.underlying9 HI.out.1 HI.out.2.1 HI.out.2.2.1 HI.out.2.2.2 v _ _ rfl HR1.out s rfl hn HBS.out ?_);intro v2 w2 ho2 hg2 hb2;obtain⟨a2,c2,rfl⟩:=bld_owns ho2;have HB2:=Lib.hid (HB1.out.grown hg2 (fun e=>NE.out b (by rw [e]) rfl));have d1:w2.cell? ⟨b,1,none⟩=some v:=HB2.out.cell' rfl;have f1:=HB2.out.frozen 1;have HO2:=Lib.hid ho2;have HG2:=Lib.hid hg2;have HBB:=Lib.hid hb2;clear ho2 hg2 hb2))
 go_ret2
 refine⟨rfl,_,{ at_:=⟨_,.inr rfl,HB2.out.set_ 1 _⟩,row:=?_ },?_,?_⟩
 ·have hc:=kept_one w2 ⟨b,1,none⟩ (.slice a2 (bs.length+s.size) c2)
  have h5:=bld_keep HO2.out hc (fun g hg e=>by
   exact bld_ne HO2.out HB2.out g hg e)
  rw [List.length_append,Lib.byteCells_append,←Lib.strCells_eq]
  exact h5
 ·have k2:Kept (fun x=>x=b∨v.ownBlock=some x) w w2:=(HK1.out.mono fun _ _ h=>.inl h).trans (Kept.grown (Kept.refl (fun x=>v.ownBlock=some x) w1) HG2.out (fun k e _=>e)) fun _ _ h=>.inr h
  exact k2.trans (kept_one w2 ⟨b,1,none⟩ _) fun _ _ h=>.inl h
 ·rcases HBB.out with h5 | h5
  ·exact .inl h5
  ·right;rw [h5];exact congrArg some HZ.out
theorem kept_freeze (w:World) (p:Addr) (n:Nat):Kept (·=p.block) w (w.freeze p n):=by
 unfold World.freeze
 split
 ·exact Kept.refl _ _
 ·exact⟨rfl,rfl,rfl,by simp,fun k _ hk=>by
   show (w.heap.modify _ _)[k]?=_
   rw [Array.getElem?_modify,if_neg (fun e=>hk e.symm)]⟩
theorem bld_string {w:World}{b base:Nat}{v:Value}{bs:List UInt8}(h:Bld w b base v bs) (h0:bs≠[]) :
  Calls Tryz.prog 94 #[.pointer (some ⟨b,0,none⟩)] w fun e w'=>e=.returned (.string ⟨bs.toArray⟩)∧Kept (fun x=>v.ownBlock=some x) w w':=by
 obtain⟨p,_,hb⟩:=h.at_
 have hl0:bs.length≠0:=by simpa using h0
 obtain⟨g,cap,cur,rfl,hbg,hg,hnc,hcm,hcs,htake⟩:∃g cap cur,v=.slice (some ⟨g,0,none⟩) bs.length cap∧base≤g∧w.heap[g]?=some (.cells cur 5 (0,0))∧bs.length≤cap∧cap≤maxLen∧cur.size=cap * 1∧cur.toList.take (bs.length * 1)=Lib.byteCells bs:=by
  rcases h.row.2 with ⟨_,hz⟩|⟨g,cap,cur,hv,r⟩
  ·exact absurd hz hl0
  ·exact⟨g,cap,cur,hv,r⟩
 have c1:w.drew.cell? ⟨b,1,none⟩=some (.slice (some ⟨g,0,none⟩) bs.length cap):=hb.cell' rfl
 have hSD:(Builtin.unsafeSliceData_ #[144] 208 #[.slice (some ⟨g,0,none⟩) bs.length cap]).run Tryz.prog w.drew=.ok (.pointer (some ⟨g,0,none⟩)) w.drew:=Lib.run_unsafeSliceData_row _ _ _ _ _ _ (by omega)
 have hUS:(Builtin.unsafeString_ #[208,3] 9 #[.pointer (some ⟨g,0,none⟩),.int .i64 bs.length]).run Tryz.prog w.drew=.ok (.string ⟨bs.toArray⟩) (w.drew.freeze ⟨g,0,none⟩ bs.length):=by
  refine Lib.run_unsafeString_row w.drew 208 3 9 5 Tryz.underlying208 (by kernel_rfl) g cur.size (by have hg':w.drew.heap[g]?=some (.cells cur 5 (0,0)):=hg;simp [World.shape?,hg']) bs h0 (by omega) (by unfold maxLen at hcm;omega) ?_
  intro j x hx
  have hcj:cur[j]?=some (.int .u8 x.toNat):=by
   have h1:(cur.toList.take (bs.length * 1))[j]?=some (.int .u8 x.toNat):=by rw [htake];simp [Lib.byteCells,hx]
   rw [List.getElem?_take] at h1
   split at h1
   ·simpa using h1
   ·cases h1
  have hB:Blk w.drew g 5 cur:=hg
  have h2:=hB.cell' hcj
  have e:((⟨g,0,none⟩:Addr).add j)=⟨g,j,none⟩:=by simp [Addr.add];exact fun h=>h.symm
  rw [e];exact h2
 clear h hb hl0 hg hnc hcm hcs htake
 go_enter Tryz.func94,Tryz.ntmps94
 go_wp2
 go_region
 all_goals
  go_wp2
  go_ret
  exact⟨rfl,((Kept.refl (fun x=>some g=some x) w).drew).trans ((kept_freeze w.drew ⟨g,0,none⟩ bs.length).mono (fun k _ e=>by rw [e])) (fun _ _ h=>h)⟩
theorem bld_string0 {w:World}{b base:Nat}(h:Bld w b base (.slice none 0 0) []) :
  Calls Tryz.prog 94 #[.pointer (some ⟨b,0,none⟩)] w fun e w'=>e=.returned (.string ⟨#[]⟩)∧Kept (fun _=>False) w w':=by
 obtain⟨p,_,hb⟩:=h.at_
 have c1:w.drew.cell? ⟨b,1,none⟩=some (.slice none 0 0):=hb.cell' rfl
 have hSD:(Builtin.unsafeSliceData_ #[144] 208 #[.slice none 0 0]).run Tryz.prog w.drew=.ok (.pointer none) w.drew:=Lib.run_unsafeSliceData_nil w.drew ..
 have hUS:(Builtin.unsafeString_ #[208,3] 9 #[.pointer none,.int .i64 0]).run Tryz.prog w.drew=.ok (.string .empty) w.drew:=Lib.run_unsafeString_none w.drew ..
 clear h hb
 go_enter Tryz.func94,Tryz.ntmps94
 go_wp2
 go_region
 all_goals
  go_wp2
  go_ret
  exact⟨rfl,(Kept.refl (fun _=>False) w).drew⟩
end Go.Proofs.YtjohljmpcblpjaaGreatDoor.Tr
namespace Go.Proofs.YtjohljmpcblpjaaGreatDoor.Tr
open Go.RowKit Go.Proofs.YtjohljmpcblpjaaGreatDoor.St Go.Shelf
attribute [local go_sem] Oper.semAt_some
def encB (r:Int):List UInt8:=(Utf8.encode r).data.toList
theorem encB_len (r:Int):1≤(encB r).length∧(encB r).length≤4:=by
 unfold encB Utf8.encode
 dsimp only
 generalize (if Utf8.valid r=true then r.toNat else Utf8.runeError)=c
 by_cases h1:c<0x80
 ·rw [if_pos h1];simp
 ·by_cases h2:c<0x800
  ·rw [if_neg h1,if_pos h2];simp
  ·by_cases h3:c<0x10000
   ·rw [if_neg h1,if_neg h2,if_pos h3];simp
   ·rw [if_neg h1,if_neg h2,if_neg h3];simp
def textB (L:List Nd):List UInt8:=L.flatMap fun n=>encB n.rune
theorem textB_snoc (L:List Nd) (m:Nd):textB (L++[m])=textB L++encB m.rune:=by simp [textB]
theorem textB_len (L:List Nd):(textB L).length≤4 * L.length:=by
 induction L with
 | nil=>simp [textB]
 | cons m L ih=>have:=(encB_len m.rune).2;simp only [textB,List.flatMap_cons,List.length_append,List.length_cons] at *;omega
theorem textB_ne {L:List Nd}(h:L≠[]):textB L≠[]:=by
 cases L with
 | nil=>exact absurd rfl h
 | cons m L=>intro e;have h1:=congrArg List.length e;have:=(encB_len m.rune).1;simp only [textB,List.flatMap_cons,List.length_append,List.length_nil] at h1;omega
theorem encode_any (r:Int) (w:World):Calls Tryz.prog 93 #[.int .i32 r] w fun e w'=>e=.returned (.string ⟨(encB r).toArray⟩)∧w=w':=by
 have hc:(convert 21 9 (.int .i32 r)).run Tryz.prog w=.ok (.string (Utf8.encode r)) w:=by
  simp [convert,run_underlying Tryz.underlying21,run_underlying Tryz.underlying9,Conv.intToString,go_sem]
 have e:(⟨(encB r).toArray⟩:ByteArray)=Utf8.encode r:=by unfold encB;simp
 rw [e]
 go_enter Tryz.func93,Tryz.ntmps93
 go_wp2
 go_ret
 exact⟨rfl,rfl⟩
structure TxtJ (w:World) (z B bl:Nat) (v:Value) (Ls:List Nd) (i:Nat) (X:Nat→Prop) (W:World):Prop where
 kept:Kept (fun _=>False) w W
 bld:∃vb,Bld W z (B+2) vb (textB (Ls.take i))∧(∀b,vb.ownBlock=some b→¬X b)∧(i=0→vb=.slice none 0 0)
 box:Blk W bl 51 #[v]
 row:SlAt nodeE W v Ls
 vlt:∀b,v.ownBlock=some b→z<b∧b<B
 far:∀b,X b→B≤b∧b<W.heap.size
 lt:w.heap.size≤z∧z<bl∧bl<B
 sz:B≤W.heap.size
theorem Bld.keep {w w':World}{b base:Nat}{v:Value}{bs:List UInt8}{Y:Nat→Prop}(h:Bld w b base v bs) (hk:Kept Y w w') (h1:¬Y b) (h2:∀g,v.ownBlock=some g→¬Y g):Bld w' b base v bs:=by
 obtain⟨p,hp,hb⟩:=h.at_
 exact⟨⟨p,hp,hk.blk h1 hb⟩,bld_keep h.row hk h2⟩
theorem TxtJ.step {w W W':World}{z B bl:Nat}{v:Value}{Ls:List Nd}{i:Nat}{X X' Y:Nat→Prop}(h:TxtJ w z B bl v Ls i X W) (hk:Kept Y W W') (hY:∀b,Y b→B≤b) (hYb:∀b,Y b→B+2≤b→X b) (hX:∀b,X' b→X b∨(W.heap.size≤b∧b<W'.heap.size)):TxtJ w z B bl v Ls i X' W':=by
 obtain⟨vb,hb,hx,hz⟩:=h.bld
 have hlt:=owns_lt hb.row
 exact { kept:=h.kept.trans hk fun b hb hy=>by have:=hY b hy;have:=h.lt;omega
         bld:=⟨vb,hb.keep hk (fun hy=>by have:=hY _ hy;have:=h.lt;omega) (fun g hg hy=>hx g hg (hYb g hy (hlt g hg).1)),fun b hb hx'=>by
          rcases hX b hx' with h1|h1
          ·exact hx b hb h1
          ·have:=(hlt b hb).2;omega,hz⟩
         box:=hk.blk (fun hy=>by have:=hY _ hy;have:=h.lt;omega) h.box
         row:=h.row.keep hk fun b hb _ hy=>by have:=hY b hy;have:=(h.vlt b hb).2;omega
         vlt:=h.vlt
         far:=fun b hb=>by
          rcases hX b hb with h1|h1
          ·exact⟨(h.far b h1).1,Nat.lt_of_lt_of_le (h.far b h1).2 hk.size⟩
          ·have:=h.sz;exact⟨by omega,h1.2⟩
         lt:=h.lt
         sz:=Nat.le_trans h.sz hk.size }
theorem text_core {w:World}{p:Option Addr}{Ls:List Nd}(hlen:Ls.length≤900000) (hA:Calls Tryz.prog 91 #[.pointer p] (w.alloc (.cells #[.pointer none,.slice none 0 0] 146)) fun e w'=>(∃b v,e=.returned (.func (.func 132) #[] #[.pointer (some ⟨b,0,none⟩)])∧(w.alloc (.cells #[.pointer none,.slice none 0 0] 146)).heap.size≤b∧Blk w' b 51 #[v]∧w'.ownsRow (w.alloc (.cells #[.pointer none,.slice none 0 0] 146)).heap.size 84 6 v Ls.length (nodeE.flat Ls))∧Kept (fun _=>False) (w.alloc (.cells #[.pointer none,.slice none 0 0] 146)) w') :
  Calls Tryz.prog 54 #[.pointer p] w fun e w'=>e=.returned (.string ⟨(textB Ls).toArray⟩)∧Kept (fun _=>False) w w':=by
 refine (callsIn_wide (n:=6)).1 ?_
 have k0:Kept (fun _=>False) w (w.alloc (.cells #[.pointer none,.slice none 0 0] 146)):=(Kept.refl _ _).alloc _
 have b0:=Blk.new w 146 #[.pointer none,.slice none 0 0]
 have HA:=Lib.hid hA
 have K0:=Lib.hid k0
 have B0:=Lib.hid b0
 have HL:=Lib.hid hlen
 clear hA k0 b0 hlen
 refine callsIn_of_wp_marks Tryz.func54 rfl trivial ?_ rfl
 simp only [Tryz.ntmps54,List.size_toArray,List.length_cons,List.length_nil,Nat.reduceAdd,Nat.reduceSub,Array.replicate_succ,Array.replicate_zero,List.push_toArray,List.append_toArray,List.nil_append,List.cons_append]
 gi_wp2_with (refine⟨trivial,?_⟩;gi_at_call 91;refine (callsIn_wide.2 HA.out).mono ?_;rintro e W0 ⟨⟨bl,v,rfl,hbl,hbox,hrow⟩,hk⟩)
 have hz1:(w.alloc (.cells #[.pointer none,.slice none 0 0] 146)).heap.size=w.heap.size+1:=World.size_alloc _ _
 rw [hz1] at hbl hrow
 have hT:TxtJ w w.heap.size W0.heap.size bl v Ls 0 (fun _=>False) W0 :=
  {kept:=K0.out.trans hk fun _ _ h=>h
   bld:=⟨.slice none 0 0,⟨⟨.pointer none,.inl rfl,hk.blk (fun h=>h) B0.out⟩,by simp [textB,Lib.byteCells];exact World.ownsRow_nil ..⟩,(fun b hb=>by cases hb),fun _=>rfl⟩
   box:=hbox
   row:=owns_slAt (E:=nodeE) hrow
   vlt:=fun b hb=>by have:=owns_lt hrow b hb;omega
   far:=fun _ h=>h.elim
   lt:=⟨Nat.le_refl _,by omega,hbox.lt⟩
   sz:=Nat.le_refl _ }
 have HT:=Lib.hid hT
 clear hbl hbox hrow hk hz1 hT
 refine wpIn_iter rfl (by decide) (gf:=132) (lb:=#[.pointer (some ⟨bl,0,none⟩)]) rfl trivial (enters_of Tryz.func132 (by kernel_rfl) rfl) (all2_iter (L:=Ls) (v:=v) (by have:=HL.out;omega)) (fun _ _=>rfl) W0.heap.size rfl (TxtJ w w.heap.size W0.heap.size bl v Ls) (fun _ _ _=>False) ?hrd ?hgr ?hgx ?hob ?hox ?h0 ?round ?done ?stop
 case hrd=>intro i X W hJ;exact⟨hJ.box.cell' rfl,hJ.row⟩
 case hgr=>intro i X W W' hJ hk;exact hJ.step hk (fun b hb=>(hJ.far b hb).1) (fun _ hb _=>hb) fun _ hb=>hb
 case hgx=>intro c X W W' h _;exact h
 case hob=>intro i X W o' hJ;exact hJ.step (kept_put W (W0.heap.size+1) o') (fun b hb=>by rw [hb];omega) (fun b hb h2=>by rw [hb] at h2;omega) fun _ hb=>.inl hb
 case hox=>intro c X W o' hJ;exact hJ
 case h0=>intro o1 o2;exact (HT.out.step (((Kept.refl (fun _=>False) W0).alloc o1).alloc o2) (fun _ h=>h.elim) (fun _ h=>h.elim) fun _ h=>h.elim)
 case round =>
  intro i W K hi hK
  have hm:=nth_lt hi
  unfold nodeEnc
  generalize nth Ls i=m at hm ⊢
  gi_wp2
  rintro X W h2 hJ
  have hil:=hi
  obtain⟨vb,hb,hx,_⟩:=hJ.bld
  have hlen2:=textB_len (Ls.take i)
  have hlen3:=List.length_take_le i Ls
  have henc:=encB_len m.rune
  have hw:=bld_write hb ⟨(encB m.rune).toArray⟩ (by have:=HL.out;show _+(encB m.rune).toArray.size≤_;rw [List.size_toArray];omega) (by omega)
  have H2:=Lib.hid h2
  have HJ:=Lib.hid hJ
  have HX:=Lib.hid hx
  have HM:=Lib.hid hm
  have HBO:=Lib.hid (owns_lt hb.row)
  have HW:=Lib.hid hw
  have he:=encode_any m.rune W
  clear h2 hJ hb hx hm hw hlen2 hlen3 henc hil
  gi_wp2_with (first | (refine⟨trivial,?_⟩;gi_at_call 93;refine (CallsIn.inRound _ (callsIn_wide.2 he)).mono ?_;rintro e w' ⟨rfl,rfl⟩) | (refine⟨trivial,?_⟩;gi_at_call 92;refine (CallsIn.inRound _ (callsIn_wide.2 HW.out)).mono ?_;rintro e w2 ⟨rfl,v2,hb2,hk2,hv2⟩))
  have hj:=HJ.out
  have hlz:w.heap.size<bl∧bl<W0.heap.size:=⟨hj.lt.2.1,hj.lt.2.2⟩
  have hno:∀b,(b=w.heap.size∨vb.ownBlock=some b)→b<W.heap.size→b=w.heap.size∨W0.heap.size+2≤b:=fun b hb _=>hb.imp id fun h=>(HBO.out b h).1
  refine⟨fun x hx=>hk2.block x ?_ ?_,hk2.size,?_⟩
  ·rcases hx with hx | rfl | rfl
   ·exact (hj.far x hx).2
   ·have:=H2.out;omega
   ·exact H2.out
  ·rintro (e | e)
   ·rcases hx with hx | hx | hx
    ·have:=(hj.far x hx).1;omega
    ·omega
    ·omega
   ·rcases hx with hx | hx | hx
    ·exact HX.out x e hx
    ·have:=(HBO.out x e).1;omega
    ·have:=(HBO.out x e).1;omega
  ·exact { kept:=hj.kept.trans hk2 fun b hb hy=>by rcases hy with e | e;omega;have:=(HBO.out b e).1;omega
           bld:=⟨v2,by rw [List.take_add_one,HM.out];show Bld w2 w.heap.size (W0.heap.size+2) v2 (textB (List.take i Ls++[m]));rw [textB_snoc];simpa using hb2,(fun b hb hXb=>by
            rcases hv2 with e|e
            ·rw [e] at hb;exact HX.out b hb hXb
            ·rw [e] at hb;injection hb with hb;have:=(hj.far b hXb).2;omega),fun e=>by omega⟩
           box:=hk2.blk (fun hy=>by rcases hy with e | e;omega;have:=(HBO.out bl e).1;omega) hj.box
           row:=hj.row.keep hk2 fun b hb _ hy=>by have:=hj.vlt b hb;rcases hy with e | e;omega;have:=(HBO.out b e).1;omega
           vlt:=hj.vlt
           far:=fun b hb=>⟨(hj.far b hb).1,Nat.lt_of_lt_of_le (hj.far b hb).2 hk2.size⟩
           lt:=hj.lt
           sz:=Nat.le_trans hj.sz hk2.size }
 case done =>
  rintro X W hJ hK
  obtain⟨vb,hb,hx,hz⟩:=hJ.bld
  rw [List.take_length] at hb
  have hst:Calls Tryz.prog 94 #[.pointer (some ⟨w.heap.size,0,none⟩)] W fun e w'=>e=.returned (.string ⟨(textB Ls).toArray⟩)∧Kept (fun x=>vb.ownBlock=some x) W w':=by
   by_cases hl:Ls=[]
   ·subst hl
    have hz2:=hz rfl
    subst hz2
    exact (bld_string0 hb).mono fun e w' ⟨h1,h2⟩=>⟨h1,h2.mono fun _ _ h=>h.elim⟩
   ·exact bld_string hb (textB_ne hl)
  have HJ:=Lib.hid hJ
  have HK:=Lib.hid hK
  have HBO:=Lib.hid (owns_lt hb.row)
  have HS:=Lib.hid hst
  clear hJ hb hx hz hK hst
  gi_wp2_with (refine⟨trivial,?_⟩;gi_at_call 94;refine (callsIn_wide.2 HS.out).mono ?_;rintro e w2 ⟨rfl,hk2⟩)
  refine ret_range ((hk2.block _ (Array.getElem?_eq_some_iff.1 HK.out).1 (fun e=>by have:=(HBO.out _ e).1;omega)).trans HK.out) (results_tmp rfl _ _ _) ⟨rfl,?_⟩
  have hlt:=HJ.out.lt
  exact (HJ.out.kept.trans hk2 fun b hb e=>by have:=(HBO.out b e).1;omega).trans (kept_put w2 W0.heap.size (.deferred none)) fun b hb e=>by omega
 case stop =>
  rintro c X W h _
  exact h.elim
theorem text_any {w:World}{g:Nat}{L:List Nd}{A:ID→Nat}{S:ID→Rw}{mp:Option Nat}(h:TAt w g L A S mp) (hdoc:Doc L) (hlen:L.length≤900000) :
  Calls Tryz.prog 54 #[.pointer (some ⟨g,0,none⟩)] w fun e w'=>e=.returned (.string ⟨(textB (shL L)).toArray⟩)∧Kept (fun _=>False) w w' :=
 text_core (by have:=shL_le L;omega) (allf_any (h.still ((Kept.refl (fun _=>False) w).alloc (.cells #[.pointer none,.slice none 0 0] 146))) hdoc hlen)
end Go.Proofs.YtjohljmpcblpjaaGreatDoor.Tr
namespace Go.Proofs.YtjohljmpcblpjaaGreatDoor.Tr
open Go.RowKit Go.Proofs.YtjohljmpcblpjaaGreatDoor.St Go.Shelf
attribute [local go_sem] Oper.semAt_some
def NilS (B t:Nat) (I:Nat→(Nat→Prop)→World→Prop) (_:Nat) (X:Nat→Prop) (W:World):Prop :=
 ∃X',I 0 X' W∧(∀b,X b→X' b∧B≤b)∧X' B∧X' (B+1)∧Blk W t 102 #[.pointer none]∧t<B∧B+1<W.heap.size
theorem shown1_nil {pl:Nat}(enc:Nat→Array Value) :
  IterOk Fence.wide 5 Tryz.prog 160 #[.pointer (some ⟨pl,0,none⟩)] 0 enc (fun w=>w.cell? ⟨pl,0,none⟩=some (.pointer none)):=by
 intro yl I Z X0 w hrd hgr hgz hy h0
 have GR:=Lib.hid hgr
 have r0:=hrd _ _ _ h0
 have hpl:pl<w.heap.size:=World.block_lt_of_cell? w _ r0
 clear hrd hgr hgz hy
 refine callsIn_of_wp_marks Tryz.func160 rfl trivial ?_ rfl
 simp only [Tryz.ntmps160,List.size_toArray,List.length_cons,List.length_nil,Nat.reduceAdd,Nat.reduceSub,Array.replicate_succ,Array.replicate_zero,List.push_toArray,List.append_toArray,List.nil_append,List.cons_append]
 gi_wp2_with (refine⟨trivial,?_⟩;gi_at_call 99;refine (callsIn_wide.2 (all_nil _)).mono ?_;rintro e w' ⟨rfl,rfl⟩)
 obtain⟨W0,hW0⟩:∃W0,(((w.alloc (.cells #[.func (.yield yl) #[] #[]] 224)).alloc (.cells #[.int .i64 0] 3)).alloc (.cells #[.pointer none] 102))=W0:=⟨_,rfl⟩
 have z0:W0.heap.size=w.heap.size+3:=by rw [←hW0];simp
 have k0:Kept (fun _=>False) w W0:=by rw [←hW0];exact (((Kept.refl _ _).alloc _).alloc _).alloc _
 have b2:Blk W0 (w.heap.size+1+1) 102 #[.pointer none]:=by rw [←hW0];have h9:=Blk.new ((w.alloc (.cells #[.func (.yield yl) #[] #[]] 224)).alloc (.cells #[.int .i64 0] 3)) 102 #[.pointer none];simp only [World.size_alloc] at h9;exact h9
 have Z0:=Lib.hid z0
 have K0:=Lib.hid k0
 have H0:=Lib.hid h0
 have B0:=Lib.hid b2
 rw [hW0]
 clear hW0 z0 k0 h0 b2 r0
 refine wpIn_iter (N:=0) (enc:=fun _=>#[]) rfl (by decide) (gf:=140) (lb:=#[.pointer (some ⟨w.heap.size+1+1,0,none⟩)]) rfl trivial (enters_of Tryz.func140 (by kernel_rfl) rfl) (all1_nil trivial rfl _) (fun i h=>absurd h (Nat.not_lt_zero _)) W0.heap.size rfl (NilS W0.heap.size (w.heap.size+1+1) I) (fun _ _ _=>False) ?hrd ?hgr ?hgx ?hob ?hox ?h0 ?round ?done ?stop
 case hrd=>rintro i X W ⟨X',h1,h2,h3,h4,h5,_⟩;exact h5.cell' rfl
 case hgr =>
  rintro i X W W' ⟨X',h1,h2,h3,h4,h5,h6,h7⟩ hk
  exact⟨_,GR.out _ _ _ _ h1 (hk.mono fun b _ h=>(h2 b h).1),fun b hb=>hb.elim (fun h=>⟨.inl (h2 b h).1,(h2 b h).2⟩) (fun h=>⟨.inr h,by omega⟩),.inl h3,.inl h4,hk.blk (fun h=>by have:=(h2 _ h).2;omega) h5,h6,Nat.lt_of_lt_of_le h7 hk.size⟩
 case hgx=>intro c X W W' h _;exact h
 case hob =>
  rintro i X W o' ⟨X',h1,h2,h3,h4,h5,h6,h7⟩
  have hk:=kept_put W (W0.heap.size+1) o'
  exact⟨_,GR.out _ _ _ _ h1 (hk.mono fun b _ h=>by rw [h];exact h4),fun b hb=>⟨.inl (h2 b hb).1,(h2 b hb).2⟩,.inl h3,.inl h4,hk.blk (by omega) h5,h6,Nat.lt_of_lt_of_le h7 hk.size⟩
 case hox=>intro c X W o' hJ;exact hJ
 case h0 =>
  intro o1 o2
  have hz:=Z0.out
  have hk:Kept X0 w ((W0.alloc o1).alloc o2):=((K0.out.alloc _).alloc _).mono fun _ _ h=>h.elim
  have hs:((W0.alloc o1).alloc o2).heap.size=w.heap.size+5:=by simp;omega
  exact⟨_,GR.out _ _ _ _ H0.out hk,fun _ h=>h.elim,.inr ⟨by omega,by omega⟩,.inr ⟨by omega,by omega⟩,(B0.out.alloc _).alloc _,by omega,by omega⟩
 case round=>intro i W K hi;exact absurd hi (Nat.not_lt_zero _)
 case done =>
  rintro X W ⟨X',h1,h2,h3,h4,h5,h6,h7⟩ hK
  have H1:=Lib.hid h1
  have H3:=Lib.hid h3
  have HK:=Lib.hid hK
  clear h1 h2 h3 h4 h5 hK
  gi_wp2
  exact ret_range HK.out (results_none rfl _ _ _) ⟨⟨_,rfl⟩,.inl ⟨_,GR.out _ _ _ _ H1.out ((kept_put W W0.heap.size (.deferred none)).mono fun b _ h=>by rw [h];exact H3.out)⟩⟩
 case stop=>rintro c X W h _;exact h.elim
theorem shown_nil (w:World):Calls Tryz.prog 131 #[.pointer none] w fun e w' =>
  e=.returned (.func (.func 160) #[] #[.pointer (some ⟨w.heap.size,0,none⟩)])∧w'=w.alloc (.cells #[.pointer none] 102):=by
 go_enter Tryz.func131,Tryz.ntmps131
 go_wp2
 go_ret
 exact⟨rfl,rfl⟩
theorem allf_nil (w:World) :
  Calls Tryz.prog 91 #[.pointer none] w fun e w'=>e=.returned (.func (.func 132) #[] #[.pointer (some ⟨w.heap.size,0,none⟩)])∧Blk w' w.heap.size 51 #[.slice none 0 0]∧Kept (fun _=>False) w w':=by
 refine (callsIn_wide (n:=6)).1 ?_
 refine callsIn_of_wp_marks Tryz.func91 rfl trivial ?_ rfl
 simp only [Tryz.ntmps91,List.size_toArray,List.length_cons,List.length_nil,Nat.reduceAdd,Nat.reduceSub,Array.replicate_succ,Array.replicate_zero,List.push_toArray,List.append_toArray,List.nil_append,List.cons_append]
 gi_wp2_with (refine⟨trivial,?_⟩;gi_at_call 131;refine (callsIn_wide.2 (shown_nil _)).mono ?_;rintro e w' ⟨rfl,rfl⟩)
 obtain⟨W0,hW0⟩:∃W0,((w.alloc (.cells #[.slice none 0 0] 51)).alloc (.cells #[.pointer none] 102))=W0:=⟨_,rfl⟩
 have hJ0:NilJ w W0.heap.size [(w.heap.size,51,#[.slice none 0 0]),(w.heap.size+1,102,#[.pointer none])] 0 (fun _=>False) W0:=by
  rw [←hW0]
  have h9:=((NilJ.start w).boxed #[.slice none 0 0] 51).boxed #[.pointer none] 102
  simp only [World.size_alloc] at h9 ⊢
  exact h9
 rw [hW0]
 clear hW0
 refine wpIn_iter (N:=0) (enc:=fun _=>#[]) rfl (by decide) (gf:=160) (lb:=#[.pointer (some ⟨w.heap.size+1,0,none⟩)]) rfl trivial (enters_of Tryz.func160 (by kernel_rfl) rfl) (shown1_nil _) (fun i h=>absurd h (Nat.not_lt_zero _)) W0.heap.size rfl (NilJ w W0.heap.size [(w.heap.size,51,#[.slice none 0 0]),(w.heap.size+1,102,#[.pointer none])]) (fun _ _ _=>False) ?hrd ?hgr ?hgx ?hob ?hox ?h0 ?round ?done ?stop
 case hrd=>intro i X W hJ;exact hJ.cell 1 rfl 0 rfl
 case hgr=>intro i X W W' hJ hk;exact hJ.grow hk
 case hgx=>intro c X W W' h _;exact h
 case hob=>intro i X W o' hJ;exact hJ.step (kept_put W _ o') (fun b hb=>by rw [hb];omega) hJ.2.2.1
 case hox=>intro c X W o' hJ;exact hJ
 case h0=>intro o1 o2;exact hJ0.step (((Kept.refl (fun _=>False) W0).alloc o1).alloc o2) (fun _ h=>h.elim) (fun _ h=>h.elim)
 case round=>intro i W K hi;exact absurd hi (Nat.not_lt_zero _)
 case done =>
  intro X W hJ hK
  have HJ:=Lib.hid hJ
  have HK:=Lib.hid hK
  clear hJ hK
  gi_wp2
  have h9:=(HJ.out.step (X':=fun _=>False) (kept_put W W0.heap.size (.deferred none)) (fun b hb=>by rw [hb];exact Nat.le_refl _) (fun _ h=>h.elim))
  exact ret_range HK.out (results_tmp rfl _ _ _) ⟨rfl,(h9.2.1 _ List.mem_cons_self).1,h9.1⟩
 case stop=>rintro c X W h _;exact h.elim
theorem text_nil0 (w:World):Calls Tryz.prog 54 #[.pointer none] w fun e w'=>e=.returned (.string ⟨(textB []).toArray⟩)∧Kept (fun _=>False) w w' :=
 text_core (Nat.zero_le _) ((allf_nil _).mono fun _ _ ⟨h1,h2,h3⟩=>⟨⟨_,_,h1,Nat.le_refl _,h2,World.ownsRow_nil ..⟩,h3⟩)
end Go.Proofs.YtjohljmpcblpjaaGreatDoor.Tr
