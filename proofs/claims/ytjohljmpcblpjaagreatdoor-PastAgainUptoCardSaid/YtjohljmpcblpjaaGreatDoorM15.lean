/- may, list, higher. (*tree.Tree).all: the iterator it hands back. (*tree.Tree).all, and its iterator for any function that is handed to it. Parts of the proof. -/
import Derived.Test.YtjohljmpcblpjaaGreatDoorM14
import Derived.Deep.DeepCutAuto
import Derived.RangeFuncNested
import Derived.RangeFuncLeaves
import Derived.Shelf.RegionOpen
import Derived.OwnWalkIn
import Derived.TacticsInMore
import Derived.LoopNIn
import Derived.LoopIn
set_option maxRecDepth 100000
set_option maxHeartbeats 8000000
namespace Go.Proofs.YtjohljmpcblpjaaGreatDoor.Tr
open Go.RowKit Go.Proofs.YtjohljmpcblpjaaGreatDoor.St
theorem cell_keep {w w':World}(hk:Kept (fun _=>False) w w'){a:Addr}{v:Value}(h:w.cell? a=some v):w'.cell? a=some v :=
 (World.cell?_of_block (a:=a) (hk.block a.block (World.block_lt_of_cell? w a h) (fun h=>h))).trans h
theorem higher_any {w:World}{n:Nd}{b:Nat}(i:ID) (x0:w.cell? ⟨b,0,none⟩=some (.int .i64 n.id.t)) (x1:w.cell? ⟨b,1,none⟩=some (.int .i64 n.id.s)) :
  Calls Tryz.prog 158 #[.pointer (some ⟨b,0,none⟩),idV i] w fun e w'=>e=.returned (.int .i64 (i.cmp n.id))∧Grew w w':=by
 obtain⟨t,s⟩:=i
 show Calls _ _ #[_,.agg #[.int .i64 t,.int .i64 s]] _ _
 have hsz:=World.block_lt_of_cell? w _ x0
 have hc:∀w,Calls Tryz.prog 155 #[.agg #[.int .i64 t,.int .i64 s],.agg #[.int .i64 n.id.t,.int .i64 n.id.s]] w fun e w'=>e=.returned (.int .i64 ((⟨t,s⟩:ID).cmp n.id))∧Grew w w':=compare_any ⟨t,s⟩ n.id
 go_enter Tryz.func158,Tryz.ntmps158
 have hg0:Grew w (w.alloc (.cells #[.int .i64 t,.int .i64 s] 59)):=(Grew.refl w).alloc _
 have b0:=Blk.new w 59 #[.int .i64 t,.int .i64 s]
 have c0:_=some (Value.int .i64 t):=b0.cell' (i:=0) rfl
 have c1:_=some (Value.int .i64 s):=b0.cell' (i:=1) rfl
 have hsz':b<w.heap.size:=hsz
 have y0:(w.alloc (.cells #[.int .i64 t,.int .i64 s] 59)).cell? ⟨b,0,none⟩=some (.int .i64 n.id.t):=cell_keep ((Kept.refl (fun _=>False) w).alloc _) x0
 have y1:(w.alloc (.cells #[.int .i64 t,.int .i64 s] 59)).cell? ⟨b,1,none⟩=some (.int .i64 n.id.s):=cell_keep ((Kept.refl (fun _=>False) w).alloc _) x1
 go_wp2_with fail
 go_region_held3 (fun w'=>Grew w w'∧w'.cell? ⟨w.heap.size,0,none⟩=some (.int .i64 t)∧w'.cell? ⟨w.heap.size,1,none⟩=some (.int .i64 s)∧w'.cell? ⟨b,0,none⟩=some (.int .i64 n.id.t)∧w'.cell? ⟨b,1,none⟩=some (.int .i64 n.id.s)) (first | exact⟨hg0.drew,c0,c1,y0,y1⟩ | exact⟨hg0,c0,c1,y0,y1⟩ | exact⟨hg1,d0,d1,d2,d3⟩)
  (first | (go_simp;go_at_call 155;refine (hc _).mono ?_;rintro e w' ⟨rfl,hg⟩;have hg1:=hg0.drew.trans hg;have d0:=cell_keep hg.kept c0;have d1:=cell_keep hg.kept c1;have d2:=cell_keep hg.kept y0;have d3:=cell_keep hg.kept y1))
 all_goals go_wp2
 all_goals go_ret
 all_goals exact⟨rfl,hg1⟩
theorem may_any (i:ID) (w:World):Calls Tryz.prog 125 #[idV i] w fun e w'=>e=.returned (.bool (isB i))∧Grew w w':=by
 obtain⟨t,s⟩:=i
 show Calls _ _ #[.agg #[.int .i64 t,.int .i64 s]] _ _
 by_cases h1:1≤t
 ·by_cases h2:t≤2147483647
  ·by_cases h3:1≤s
   ·by_cases h4:s≤16
    ·have e:isB ⟨t,s⟩=true:=by simp [isB,ID.Is,h1,h2,h3,h4]
     rw [e]
     go_enter Tryz.func125,Tryz.ntmps125
     go_wp2
     go_ret
     exact⟨rfl,(Grew.refl w).alloc _⟩
    ·have e:isB ⟨t,s⟩=false:=by simp [isB,ID.Is,h4]
     rw [e]
     go_enter Tryz.func125,Tryz.ntmps125
     go_wp2
     go_ret
     exact⟨rfl,(Grew.refl w).alloc _⟩
   ·have e:isB ⟨t,s⟩=false:=by simp [isB,ID.Is,h3]
    rw [e]
    go_enter Tryz.func125,Tryz.ntmps125
    go_wp2
    go_ret
    exact⟨rfl,(Grew.refl w).alloc _⟩
  ·have e:isB ⟨t,s⟩=false:=by simp [isB,ID.Is,h2]
   rw [e]
   go_enter Tryz.func125,Tryz.ntmps125
   go_wp2
   go_ret
   exact⟨rfl,(Grew.refl w).alloc _⟩
 ·have e:isB ⟨t,s⟩=false:=by simp [isB,ID.Is,h1]
  rw [e]
  go_enter Tryz.func125,Tryz.ntmps125
  go_wp2
  go_ret
  exact⟨rfl,(Grew.refl w).alloc _⟩
def place (g:Nat) (A:ID→Nat) (r:ID):Addr:=if r=ID.zero then ⟨g,0,none⟩ else ⟨A r,6,none⟩
theorem list_any {w:World}{g:Nat}{L:List Nd}{A:ID→Nat}{S:ID→Rw}{mp:Option Nat}(h:TAt w g L A S mp){r:ID}(hr:Ref L r) :
  Calls Tryz.prog 112 #[.pointer (some ⟨g,0,none⟩),idV r] w fun e w'=>e=.returned (.pointer (some (place g A r)))∧Grew w w':=by
 obtain⟨t,s⟩:=r
 have hgl:g<w.heap.size:=h.top.lt
 have x1:w.cell? ⟨g,1,none⟩=some (.map mp):=h.top.cell' rfl
 have heq:=eqIn_id ⟨t,s⟩ ⟨0,0⟩
 show Calls _ _ #[_,.agg #[.int .i64 t,.int .i64 s]] _ _
 unfold idV at heq
 by_cases hz:(⟨t,s⟩:ID)=ID.zero
 ·cases hz
  have e:place g A ID.zero=⟨g,0,none⟩:=if_pos rfl
  rw [show (⟨0,0⟩:ID)=ID.zero from rfl,e]
  go_enter Tryz.func112,Tryz.ntmps112
  go_wp2
  go_ret
  exact⟨rfl,(Grew.refl w).alloc _⟩
 ·have e:place g A ⟨t,s⟩=⟨A ⟨t,s⟩,6,none⟩:=if_neg hz
  have hx:(⟨t,s⟩:ID)∈ids L:=hr.resolve_left hz
  obtain⟨b,kvs,rfl,hm,hk⟩:=h.found hx
  have hne:decide ((⟨t,s⟩:ID)=⟨0,0⟩)=false:=decide_eq_false hz
  simp only [hne] at heq
  have hml:=hm.lt
  have hm1:=hm.keep ((Kept.refl (fun _=>False) w).alloc (.cells #[.int .i64 t,.int .i64 s] 59)).drew (fun h=>h)
  have hlk:(Instr.lookup 185 (.map (some b)) (.agg #[.int .i64 t,.int .i64 s]) false).run Tryz.prog (w.alloc (.cells #[.int .i64 t,.int .i64 s] 59)).drew=.ok (.pointer (some ⟨A ⟨t,s⟩,0,none⟩)) (w.alloc (.cells #[.int .i64 t,.int .i64 s] 59)).drew:=run_lookupK (K:=keyI) (k:=⟨t,s⟩) Tryz.underlying185 hm1 hk
  rw [e]
  go_enter Tryz.func112,Tryz.ntmps112
  go_wp2_with fail
  ·have h0:t=0:=by assumption
   have h1:s=0:=by assumption
   exact absurd (by rw [h0,h1];rfl) hz
  ·obtain rfl:t=0:=by assumption
   go_region
   all_goals go_wp2
   all_goals go_ret
   all_goals exact⟨rfl,((Grew.refl w).alloc _).drew⟩
  ·go_region
   all_goals go_wp2
   all_goals go_ret
   all_goals exact⟨rfl,((Grew.refl w).alloc _).drew⟩
theorem all_any (g:Nat) (w:World):Calls Tryz.prog 99 #[.pointer (some ⟨g,0,none⟩)] w fun e w' =>
  e=.returned (.func (.func 140) #[] #[.pointer (some ⟨w.heap.size,0,none⟩)])∧w'=w.alloc (.cells #[.pointer (some ⟨g,0,none⟩)] 102):=by
 go_enter Tryz.func99,Tryz.ntmps99
 go_wp2
 go_ret
 exact⟨rfl,rfl⟩
theorem info_slice:(Tryz.prog.info? 161).map (fun i=>(i.zero,i.size,i.bytes))=some (some (.slice none 0 0),1,24):=by kernel_rfl
structure Left (w0g:Nat) (L:List Nd) (A:ID→Nat) (S:ID→Rw) (F:List T) (e:Rw × List T):Prop where
 sub:∀t∈e.2,t∈subss F
 rd:∀wz,Shape wz w0g L A S→SlAt ptrE wz e.1.v (e.2.map (fun t=>A t.n.id))
def AllAt (L:List Nd) (A:ID→Nat) (S:ID→Rw) (F:List T) (g:Nat) (I:Nat→(Nat→Prop)→World→Prop) (m:Nat) (v:Value) (wr:World):Prop :=
 ∃(i:Nat) (X:Nat→Prop) (st:List (Rw × List T)) (gs cap:Nat),m=2 * (L.length-i)+st.length∧i≤L.length∧v=.slice (some ⟨gs,0,none⟩) st.length cap∧X gs∧OwnAt rowE wr 161 gs cap (st.map (·.1))∧(∀e∈st,Left g L A S F e)∧L.drop i=st.reverse.flatMap (fun e=>flats e.2)∧st.length≤i+1∧I i X wr
theorem left_root {g:Nat}{L:List Nd}{A:ID→Nat}{S:ID→Rw}{F:List T}(hF:flats F=L) (hw:WFs ID.zero F):Left g L A S F (S ID.zero,F) :=
 ⟨fun t ht=>mem_subss ht,fun wz hs=>by
  have:=hs.row ID.zero (.inl rfl)
  rw [←hF,kids_root hw,List.map_map] at this
  exact this⟩
theorem left_kids {g:Nat}{L:List Nd}{A:ID→Nat}{S:ID→Rw}{F:List T}(hF:flats F=L) (hw:WFs ID.zero F) (hnd:(ids L).Nodup){t:T}(ht:t∈subss F):Left g L A S F (S t.n.id,t.ks) :=
 ⟨fun u hu=>subss_trans F ht (by rw [subs_eq];exact List.mem_cons_of_mem _ (mem_subss hu)),fun wz hs=>by
  have hm:t.n∈flats F:=by rw [←subss_flat];exact List.mem_map.2 ⟨t,ht,rfl⟩
  have:=hs.row t.n.id (.inr (by rw [←hF];exact List.mem_map.2 ⟨t.n,hm,rfl⟩))
  rw [←hF,kids_subs F hw (by rw [hF];exact hnd) t ht,List.map_map] at this
  exact this⟩
theorem Left.rest {g:Nat}{L:List Nd}{A:ID→Nat}{S:ID→Rw}{F:List T}{s:Rw}{t:T}{ts:List T}{b o o' c:Nat}(h:Left g L A S F (s,t::ts)) (hsv:s.v=.slice (some ⟨b,o,none⟩) (ts.length+1) c) (hc:ts.length+1≤c) (ho:c=1∨o'=o+1):Left g L A S F (⟨some ⟨b,o',none⟩,ts.length,c-1⟩,ts) :=
 ⟨fun u hu=>h.sub u (List.mem_cons_of_mem _ hu),fun wz hs=>by
  have h1:SlAt ptrE wz s.v (A t.n.id::ts.map (fun t=>A t.n.id)):=h.rd wz hs
  rw [hsv] at h1
  refine SlAt.rest h1 ?_
  rcases ho with rfl|rfl
  ·have : ts=[]:=List.length_eq_zero_iff.1 (by omega)
   exact .inl (by rw [this];rfl)
  ·exact .inr rfl⟩
theorem own_last {w:World}{ty:TypeId}{gs cap:Nat}{D:List Rw}{s s':Rw}(h:OwnAt rowE w ty gs cap (D++[s])):OwnAt rowE (w.setCell ⟨gs,D.length,none⟩ s'.v) ty gs cap (D++[s']):=by
 have h1:=h.set1of3 (i:=D.length) (m:=0) (x:=s) (y:=s') (b:=s'.v) (by simp) (by decide) rfl
 have hk:rowE.k=1:=rfl
 rw [hk] at h1
 simpa using h1
theorem own_still {w w':World}{ty:TypeId}{gs cap:Nat}{D:List Rw}(h:OwnAt rowE w ty gs cap D) (hk:w'.heap[gs]?=w.heap[gs]?):OwnAt rowE w' ty gs cap D:=by
 obtain⟨cs,h1,h2⟩:=h
 exact⟨cs,hk.trans h1,h2⟩
theorem left_snoc {g:Nat}{L:List Nd}{A:ID→Nat}{S:ID→Rw}{F:List T}{st':List (Rw × List T)}{e e':Rw × List T}(h:∀x∈st'++[e],Left g L A S F x) (h':Left g L A S F e'):∀x∈st'++[e'],Left g L A S F x:=fun x hx=>by
 rcases List.mem_append.1 hx with h1|h1
 ·exact h x (List.mem_append_left _ h1)
 ·rw [List.mem_singleton.1 h1];exact h'
theorem own_val {w:World}{ty:TypeId}{gs cap n:Nat}{D:List Rw}(hn:D.length=n) (h:OwnAt rowE w ty gs cap D):w.ownsRow 0 ty rowE.k (.slice (some ⟨gs,0,none⟩) n cap) D.length (rowE.flat D):=by
 subst hn
 exact h.owns (Nat.zero_le _)
theorem lit_row (w:World) (ty:TypeId) (s:Rw):SlAt rowE (w.alloc (.cells #[.slice s.a s.n s.c] ty)) (.slice (some ⟨w.heap.size,0,none⟩) 1 1) [s]:=by
 have hb:=Blk.new w ty #[.slice s.a s.n s.c]
 refine .inr ⟨⟨w.heap.size,0,none⟩,1,rfl,Nat.le_refl _,by decide,fun _=>rfl,fun i y hy j u hu=>?_⟩
 cases i with
 | zero =>
  have e1:s=y:=by simpa using hy
  subst e1
  cases j with
  | zero=>have : s.v=u:=by simpa [rowE] using hu
          rw [←this];exact hb.cell' rfl
  | succ j=>simp [rowE] at hu
 | succ i=>simp at hy
theorem left_snoc2 {g:Nat}{L:List Nd}{A:ID→Nat}{S:ID→Rw}{F:List T}{st:List (Rw × List T)}{e:Rw × List T}(h:∀x∈st,Left g L A S F x) (h':Left g L A S F e):∀x∈st++[e],Left g L A S F x:=fun x hx=>by
 rcases List.mem_append.1 hx with h1|h1
 ·exact h x h1
 ·rw [List.mem_singleton.1 h1];exact h'
theorem all_pushed {L:List Nd}{A:ID→Nat}{S:ID→Rw}{F:List T}{g i n gs cap m:Nat}{I:Nat→(Nat→Prop)→World→Prop}{X:Nat→Prop}{w3 w4:World}{v4:Value}{st:List (Rw × List T)}{s:Rw}{ks:List T}{D:List Rw}{B:Rw}
  (ho:w4.ownsRow 0 161 rowE.k v4 (D.length+1) (rowE.flat (D++[B]))) (hg:Grow1 w3 w4 (.slice (some ⟨gs,0,none⟩) n cap) v4) (hD:D=st.map (·.1)) (hX:X gs) (hI:I (i+1) (fun b=>X b∨(w3.heap.size≤b∧b<w4.heap.size)) w4)
  (hB:B=s) (hlf:∀x∈st++[(s,ks)],Left g L A S F x) (hd:L.drop (i+1)=(st++[(s,ks)]).reverse.flatMap (fun e=>flats e.2)) (hil:i<L.length) (hst:st.length≤i+1) (hm:st.length+1<m+2) :
  ∃k,k<2 * (L.length-i)+m∧AllAt L A S F g I k v4 w4:=by
 subst hB hD
 obtain⟨_,h⟩:=own_of ho
 rcases h with ⟨_,h⟩|⟨g4,c4,rfl,_,h⟩
 ·simp at h
 ·have hx4:X g4∨(w3.heap.size≤g4∧g4<w4.heap.size):=by
   rcases hg with ⟨h1,_⟩|⟨h1,_⟩
   ·have : g4=gs:=by simpa [Value.ownBlock] using h1
    exact .inl (this ▸ hX)
   ·have : g4=w3.heap.size:=by simpa [Value.ownBlock] using h1
    exact .inr ⟨by omega,h.lt⟩
  refine⟨2 * (L.length-(i+1))+(st.length+1),by omega,i+1,_,st++[(B,ks)],g4,c4,by simp,by omega,by simp,hx4,by simpa using h,hlf,hd,by simp;omega,hI⟩
theorem grow_kept {X:Nat→Prop}{w w':World}{gs n cap:Nat}{v:Value}(h:Grow1 w w' (.slice (some ⟨gs,0,none⟩) n cap) v) (hX:X gs):Kept X w w':=by
 rcases h with ⟨_,h⟩|⟨_,h⟩
 ·exact h.mono fun b _ hb=>by
   have : gs=b:=by simpa [Value.ownBlock] using hb
   exact this ▸ hX
 ·exact h.mono fun b _ hb=>hb.elim
theorem row_eq {s:Rw}{n:Nat}(h:s.n=n):(⟨s.a,n,s.c⟩:Rw)=s:=by subst h;rfl
theorem last_of {α:Type}(l:List α):l=[]∨∃a e,l=a++[e]:=by
 rcases List.eq_nil_or_concat l with h|⟨a,b,h⟩
 ·exact .inl h
 ·exact .inr ⟨a,b,by rw [h,List.concat_eq_append]⟩
end Go.Proofs.YtjohljmpcblpjaaGreatDoor.Tr
namespace Go.Proofs.YtjohljmpcblpjaaGreatDoor.Tr
open Go.RowKit Go.Proofs.YtjohljmpcblpjaaGreatDoor.St Go.Shelf
attribute [local go_sem] Oper.semAt_some
theorem wpListIn_append_keeps {F:Fence}{n:Nat}{P:Program}{α:Type}(E:Enc α){w:World}{ops:Array Oper}{rest:List Oper}{o:Oper}{a:Act}{Q:Exit→Act→World→Prop}(hgd:o.guard=none) (s y:Operand) (t:TypeId)
  (ho:o.op=.call { callee:=.builtin .append,args:=#[s,y],argTypes:=#[t,t] }) (base:Nat) (e:TypeId) (z:Value) (bytes:Nat) (ht:P.underlying t=some (.slice e))
  (hinfo:(P.info? e).map (fun i=>(i.zero,i.size,i.bytes))=some (some z,E.k,bytes)) (hzs:z.cells.size=E.k) (hb4:bytes≤4096) {v:Value} {D:List α} {x:α} {ad:Addr} {c:Nat} (hs:a.eval s=v) (hx:a.eval y=.slice (some ad) 1 c)
  (hown:w.ownsRow base e E.k v D.length (E.flat D)) (hL:SlAt E w (.slice (some ad) 1 c) [x]) (h63:D.length≤1000000) (hbase:base≤w.heap.size)
  (h:∀v' w',w'.ownsRow base e E.k v' (D.length+1) (E.flat (D++[x]))→Grow1 w w' v v'→wpListIn F n P ops Q rest (a.put o.dst v') w'):wpListIn F n P ops Q (o::rest) a w:=by
 refine wpListIn_plain hgd fun K hK=>?_
 obtain⟨v',w',hr,h2,h3⟩:=run_append_keeps (P:=P) E t o.type e base z bytes ht hinfo hzs hb4 hown hL h63 hbase
 unfold Oper.wpIn
 refine⟨?_,?_⟩
 ·simp [Oper.about,ho,resolve,Target.leads,Sem.run_pure]
 ·rw [Oper.semAt_plain F _ _ (by rw [ho];intro c hc';cases hc')]
  simp only [ho,execOp,resolve,invoke,builtin,Sem.run_bind,Sem.run_pure,Result.andThen_ok,List.map_toArray,List.map_cons,List.map_nil,hs,hx,hr]
  exact hK _ _ (h v' w' h2 h3)
theorem all1_in {F0:Fence}{n0:Nat}(h62:F0.fn 140) (hro:F0.round=none) (h1:1≤n0){w:World}{L:List Nd}{A:ID→Nat}{S:ID→Rw}{pl g:Nat}(hdoc:Doc L) (hlen:L.length≤900000) (l:Nat) (I:Nat→(Nat→Prop)→World→Prop) (Z:World→Prop)
  (hrd:∀i X w,I i X w→w.cell? ⟨pl,0,none⟩=some (.pointer (some ⟨g,0,none⟩))∧Shape w g L A S) (hgr:∀i X w w',I i X w→Kept X w w'→I i (fun b=>X b∨(w.heap.size≤b∧b<w'.heap.size)) w')
  (hy:∀i X n w,L[i]?=some n→I i X w→YieldAt F0 (n0-1) Tryz.prog l #[.pointer (some ⟨A n.id,0,none⟩)] w fun e w'=>∃b,e=.returned (.bool b)∧(∀x,X x→w'.heap[x]?=w.heap[x]?)∧w.heap.size≤w'.heap.size∧(b=true→I (i+1) X w')∧(b=false→Z w'))
  {X0:Nat→Prop} (h:I 0 X0 w) :
  CallsIn F0 n0 Tryz.prog 140 #[.func (.yield l) #[] #[],.pointer (some ⟨pl,0,none⟩)] w fun e w'=>e=.returned (.tuple #[])∧((∃X,I L.length X w')∨Z w'):=by
 obtain⟨F,hF,hw,hnd⟩:=hdoc
 obtain⟨x0,hs0⟩:=hrd 0 X0 w h
 have r0:w.cell? ⟨g,0,none⟩=some (.slice (S ID.zero).a (S ID.zero).n (S ID.zero).c):=hs0.root
 have RD:=Lib.hid hrd
 have GR:=Lib.hid hgr
 have HY:=Lib.hid hy
 have HF:=Lib.hid (And.intro hF (And.intro hw hnd))
 have B1:=Lib.hid (Blk.new w 161 #[.slice (S ID.zero).a (S ID.zero).n (S ID.zero).c])
 have k1:Kept X0 w (w.alloc (.cells #[.slice (S ID.zero).a (S ID.zero).n (S ID.zero).c] 161)):=(Kept.refl _ _).alloc _
 have I1:=Lib.hid (hgr _ _ _ _ h k1)
 clear hrd hgr hy hs0 h k1 hF hw hnd
 refine callsIn_of_wp Tryz.func140 rfl h62 ?_ hro
 simp only [Tryz.ntmps140,List.size_toArray,List.length_cons,List.length_nil,Nat.reduceAdd,Nat.reduceSub,Array.replicate_succ,Array.replicate_zero,List.push_toArray,List.append_toArray,List.nil_append,List.cons_append]
 gi_wp2
 gi_loopw [3] (fun v wr=>∃m,AllAt L A S F g I m v wr) (fun v wr=>least (fun m=>AllAt L A S F g I m v wr))
 case atStart =>
  refine⟨_,0,_,[(S ID.zero,F)],w.heap.size,1,rfl,Nat.zero_le _,rfl,.inr ⟨Nat.le_refl _,by simp⟩,⟨_,B1.out,rfl,Nat.le_refl _,by decide,fun i y hy j u hu=>?_⟩,fun e he=>?_,?_,Nat.le_refl _,I1.out⟩
  ·cases i with
   | zero =>
    have e1:S ID.zero=y:=by simpa using hy
    subst e1
    cases j with
    | zero=>have : (S ID.zero).v=u:=by simpa [rowE] using hu
            rw [←this];rfl
    | succ j=>simp [rowE] at hu
   | succ i=>simp at hy
  ·rw [List.mem_singleton.1 he];exact left_root HF.out.1 HF.out.2.1
  ·simp [HF.out.1]
 case round =>
  clear B1 I1
  obtain⟨i,X,st,gs,cap,hm,hi,rfl,hX,hO,hlf,hdr,hsl,hI⟩:=least_spec hrel
  have HM:=Lib.hid hm
  clear hrel hm
  rcases last_of st with rfl|⟨st',⟨s,ts⟩,rfl⟩
  ·have hiL:i=L.length:=by
    have h1:L.drop i=[]:=by simpa using hdr
    have h2:=List.drop_eq_nil_iff.1 h1
    omega
   subst hiL
   have FI:=Lib.hid hI
   clear hI hO hdr HM
   gi_wp2
   go_end0
   exact⟨rfl,.inl ⟨_,FI.out⟩⟩
  have hl1:(st'++[(s,ts)]).length=st'.length+1:=by simp
  rw [hl1] at hsl HM
  rw [hl1]
  have hdr2:L.drop i=flats ts++st'.reverse.flatMap (fun e=>flats e.2):=by simpa using hdr
  have cp:wr.cell? ⟨gs,st'.length,none⟩=some s.v:=by
   have:=hO.cell (i:=st'.length) (j:=0) (x:=s) (by simp) (u:=s.v) rfl
   have hk:rowE.k=1:=rfl
   rw [hk] at this
   simpa using this
  have fz:=hO.frozen st'.length
  obtain⟨hcell,hsh⟩:=RD.out _ _ _ hI
  have LF:=Lib.hid hlf
  have hlast:=hlf (s,ts) (by simp)
  have hrd0:SlAt ptrE wr s.v (ts.map (fun t=>A t.n.id)):=hlast.rd wr hsh
  have LA:=Lib.hid hlast
  have SH:=Lib.hid hsh
  have HI:=Lib.hid hI
  have HO:=Lib.hid hO
  have HD:=Lib.hid hdr2
  have hcl:=hO.le
  rw [List.length_map,hl1] at hcl
  have hst0:(0:Int)<(st'.length:Int)+1:=by omega
  clear hlf hlast hsh hI hO hdr hdr2
  cases ts with
  | nil =>
   obtain⟨sa,sc,hsv,_,_⟩:=hrd0.sl
   simp only [List.map_nil,List.length_nil] at hsv
   rw [hsv] at cp
   clear hrd0
   have NX:Hid (AllAt L A S F g I (2 * (L.length-i)+st'.length) (.slice (some ⟨gs,0,none⟩) st'.length cap) wr):=Lib.hid
    ⟨i,X,st',gs,cap,rfl,hi,rfl,hX,by
     have:=HO.out.take st'.length
     simpa using this,fun e he=>LF.out e (List.mem_append_left _ he),by simpa [flats] using HD.out,by omega,HI.out⟩
   have hs1:st'.length≤cap:=by omega
   gi_wp2
   go_roundw
   case rel=>exact⟨_,NX.out⟩
   case measure =>
    have h1:=least_le (P:=fun m=>AllAt L A S F g I m (.slice (some ⟨gs,0,none⟩) st'.length cap) wr) NX.out
    have h2:=HM.out
    omega
  | cons t ts =>
   obtain⟨b,o,c,hsv,hc1,hc2,hb,hcs⟩:=hrd0.one (by simp)
   simp only [List.map_cons,List.length_cons,List.length_map] at hsv hc1
   rw [hsv] at cp
   have p0:wr.cell? ⟨b,o,none⟩=some (.pointer (some ⟨A t.n.id,0,none⟩)):=by
    have:=hcs 0 (A t.n.id) (by simp) 0 _ rfl
    simpa using this
   have hti:L[i]?=some t.n:=by
    have:=HD.out
    rw [show flats (t::ts)=t.n::(flats t.ks++flats ts) by show flat t++flats ts=_;rw [flat_eq];rfl] at this
    have h2:=congrArg (fun l=>l[0]?) this
    simpa using h2
   have hdn:L.drop (i+1)=flats t.ks++(flats ts++st'.reverse.flatMap (fun e=>flats e.2)):=by
    have:=HD.out
    rw [show flats (t::ts)=t.n::(flats t.ks++flats ts) by show flat t++flats ts=_;rw [flat_eq];rfl] at this
    have h2:=congrArg List.tail this
    rw [List.tail_drop] at h2
    rw [h2]
    simp
   have hts:=LA.out.sub t List.mem_cons_self
   have hc0:ts.length+1≤c:=hc1
   have HTI:=Lib.hid hti
   have HDN:=Lib.hid hdn
   have HTS:=Lib.hid hts
   have HSV:=Lib.hid hsv
   have HCB:=Lib.hid hb
   clear hti hdn hts hrd0 hcs hsv hb
   have hn0:¬((ts.length:Int)+1=0):=by omega
   have hs0:(0:Int)<(ts.length:Int)+1:=by omega
   have hs2:st'.length<cap:=by omega
   have HO2:Hid (OwnAt rowE wr 161 gs cap (st'.map (·.1)++[s])):=Lib.hid (by have:=HO.out;simpa using this)
   have hlm:(st'.map (·.1)).length=st'.length:=List.length_map _
   rcases Decidable.em (c=1) with rfl|hc9
   case inl =>
    have S1:=Lib.hid (own_last (s':=⟨some ⟨b,o,none⟩,0,0⟩) HO2.out)
    have k1:Kept X wr (wr.setCell ⟨gs,st'.length,none⟩ (.slice (some ⟨b,o,none⟩) 0 (0))):=(Kept.refl _ _).setCell (fun _=>hX) _
    have hts0:ts.length=0:=by omega
    have LR:Hid (Left g L A S F (⟨some ⟨b,o,none⟩,0,0⟩,ts)):=Lib.hid (by have h9:=LA.out.rest (o':=o) HSV.out hc0 (.inl rfl);rw [hts0] at h9;exact h9)
    have hI1:=GR.out _ _ _ _ HI.out k1
    obtain⟨fn,tmps,assign,body,hy,hR⟩:=HY.out _ _ _ _ HTI.out hI1
    have XG:=Lib.hid (Or.inl (b:=(wr.heap.size≤gs∧gs<(wr.setCell ⟨gs,st'.length,none⟩ (.slice (some ⟨b,o,none⟩) 0 (0))).heap.size)) hX)
    clear k1 hI1
    gi_wp2
    refine hR.mono ?_
    clear hR
    rintro e w2 ⟨bb,rfl,hk2,hz2,ht,hf⟩
    have O2:=Lib.hid (own_still (w':=w2) S1.out (by rw [hlm];exact hk2 gs XG.out))
    clear hk2 hz2 S1
    cases bb with
    | false =>
     have Z2:=Lib.hid (hf rfl)
     clear ht hf cp p0 fz hcell
     gi_wp2
     refine bodyPost_ret (results_none rfl _ _ _) rfl ?_
     exact⟨rfl,.inr Z2.out⟩
    | true =>
     have I2:=Lib.hid (ht rfl)
     clear ht hf cp p0 fz hcell
     obtain⟨_,hsh2⟩:=RD.out _ _ _ I2.out
     have x6:w2.cell? ⟨A t.n.id,6,none⟩=some (.slice (S t.n.id).a (S t.n.id).n (S t.n.id).c):=hsh2.beh t.n (List.mem_of_getElem? HTI.out)
     have LK:=Lib.hid (left_kids (g:=g) (A:=A) (S:=S) HF.out.1 HF.out.2.1 HF.out.2.2 HTS.out)
     have hrow:SlAt ptrE w2 (.slice (S t.n.id).a (S t.n.id).n (S t.n.id).c) (t.ks.map (fun t=>A t.n.id)):=LK.out.rd w2 hsh2
     have hrn:(S t.n.id).n=t.ks.length:=by
      obtain⟨_,_,h1,_,_⟩:=hrow.sl
      injection h1 with _ h2 _
      simpa using h2
     rw [hrn] at x6
     clear hrow hsh2
     have hil:i<L.length:=(List.getElem?_eq_some_iff.1 HTI.out).1
     by_cases hks:t.ks=[]
     ·have hk0:t.ks.length=0:=by rw [hks];rfl
      rw [hk0] at x6
      have NX:Hid (AllAt L A S F g I (2 * (L.length-(i+1))+(st'.length+1)) (.slice (some ⟨gs,0,none⟩) (st'.length+1) cap) w2):=Lib.hid
       ⟨i+1,_,st'++[(_,ts)],gs,cap,by simp,by omega,by simp,XG.out,by simpa using O2.out,left_snoc LF.out LR.out,by rw [HDN.out,hks];simp [flats],by simp;omega,I2.out⟩
      gi_wp2
      go_roundw
      case rel=>exact⟨_,NX.out⟩
      case measure =>
       have h1:=least_le (P:=fun m=>AllAt L A S F g I m (.slice (some ⟨gs,0,none⟩) (st'.length+1) cap) w2) NX.out
       have h2:=HM.out
       omega
     ·have hk0:(0:Int)<(t.ks.length:Int):=by
       have:=List.length_pos_iff.2 hks
       omega
      have LQ:=Lib.hid (lit_row w2 161 ⟨(S t.n.id).a,t.ks.length,(S t.n.id).c⟩)
      have k3:Kept (fun _=>False) w2 (w2.alloc (.cells #[.slice (S t.n.id).a t.ks.length (S t.n.id).c] 161)):=(Kept.refl _ _).alloc _
      have hO3:=O2.out.keep k3 (fun h=>h)
      have O3:=Lib.hid (own_val (n:=st'.length+1) (by simp) hO3)
      have RL:Hid ((st'.map (·.1)++[(⟨some ⟨b,o,none⟩,0,0⟩:Rw)]).length≤1000000):=Lib.hid (by simp;omega)
      have I3:=Lib.hid (GR.out _ _ _ _ I2.out (k3.mono (fun _ _ h=>h.elim)))
      clear k3 hO3
      gi_wp2_with (gi_at_builtin;(refine wpListIn_append_keeps rowE rfl (.tmp 52) (.tmp 57) 215 rfl 0 161 (.slice none 0 0) 24 Tryz.underlying215 info_slice rfl (by decide) rfl rfl O3.out LQ.out RL.out (Nat.zero_le _) ?_);(intro v4 w4 ho4 hg4))
      have NX:Hid (∃n,n<2 * (L.length-i)+(st'.length+1)∧AllAt L A S F g I n v4 w4):=Lib.hid (by
       have hd:L.drop (i+1)=(st'++[((⟨some ⟨b,o,none⟩,0,0⟩:Rw),ts)]++[(S t.n.id,t.ks)]).reverse.flatMap (fun e=>flats e.2):=by rw [HDN.out];simp
       have hlf:=left_snoc2 (left_snoc LF.out LR.out) LK.out
       exact all_pushed (st:=st'++[(_,ts)]) ho4 hg4 (by simp) (.inl XG.out) (GR.out _ _ _ _ I3.out (grow_kept hg4 (.inl XG.out))) (row_eq hrn) hlf hd hil (by simp;omega) (by simp))
      obtain⟨n4,NX1,NX2⟩:=NX.out
      have N2:=Lib.hid NX2
      clear NX NX2 ho4 hg4
      go_roundw
      case rel=>exact⟨_,N2.out⟩
      case measure =>
       have h1:=least_le (P:=fun m=>AllAt L A S F g I m v4 w4) N2.out
       have h2:=HM.out
       omega
   case inr =>
    have S1:=Lib.hid (own_last (s':=⟨some ⟨b,(o+1),none⟩,ts.length,c-1⟩) HO2.out)
    have k1:Kept X wr (wr.setCell ⟨gs,st'.length,none⟩ (.slice (some ⟨b,(o+1),none⟩) ts.length (c-1))):=(Kept.refl _ _).setCell (fun _=>hX) _
    have LR:=Lib.hid (LA.out.rest (o':=(o+1)) HSV.out hc0 (.inr rfl))
    have hI1:=GR.out _ _ _ _ HI.out k1
    obtain⟨fn,tmps,assign,body,hy,hR⟩:=HY.out _ _ _ _ HTI.out hI1
    have XG:=Lib.hid (Or.inl (b:=(wr.heap.size≤gs∧gs<(wr.setCell ⟨gs,st'.length,none⟩ (.slice (some ⟨b,(o+1),none⟩) ts.length (c-1))).heap.size)) hX)
    clear k1 hI1
    gi_wp2
    refine hR.mono ?_
    clear hR
    rintro e w2 ⟨bb,rfl,hk2,hz2,ht,hf⟩
    have O2:=Lib.hid (own_still (w':=w2) S1.out (by rw [hlm];exact hk2 gs XG.out))
    clear hk2 hz2 S1
    cases bb with
    | false =>
     have Z2:=Lib.hid (hf rfl)
     clear ht hf cp p0 fz hcell
     gi_wp2
     refine bodyPost_ret (results_none rfl _ _ _) rfl ?_
     exact⟨rfl,.inr Z2.out⟩
    | true =>
     have I2:=Lib.hid (ht rfl)
     clear ht hf cp p0 fz hcell
     obtain⟨_,hsh2⟩:=RD.out _ _ _ I2.out
     have x6:w2.cell? ⟨A t.n.id,6,none⟩=some (.slice (S t.n.id).a (S t.n.id).n (S t.n.id).c):=hsh2.beh t.n (List.mem_of_getElem? HTI.out)
     have LK:=Lib.hid (left_kids (g:=g) (A:=A) (S:=S) HF.out.1 HF.out.2.1 HF.out.2.2 HTS.out)
     have hrow:SlAt ptrE w2 (.slice (S t.n.id).a (S t.n.id).n (S t.n.id).c) (t.ks.map (fun t=>A t.n.id)):=LK.out.rd w2 hsh2
     have hrn:(S t.n.id).n=t.ks.length:=by
      obtain⟨_,_,h1,_,_⟩:=hrow.sl
      injection h1 with _ h2 _
      simpa using h2
     rw [hrn] at x6
     clear hrow hsh2
     have hil:i<L.length:=(List.getElem?_eq_some_iff.1 HTI.out).1
     by_cases hks:t.ks=[]
     ·have hk0:t.ks.length=0:=by rw [hks];rfl
      rw [hk0] at x6
      have NX:Hid (AllAt L A S F g I (2 * (L.length-(i+1))+(st'.length+1)) (.slice (some ⟨gs,0,none⟩) (st'.length+1) cap) w2):=Lib.hid
       ⟨i+1,_,st'++[(_,ts)],gs,cap,by simp,by omega,by simp,XG.out,by simpa using O2.out,left_snoc LF.out LR.out,by rw [HDN.out,hks];simp [flats],by simp;omega,I2.out⟩
      gi_wp2
      go_roundw
      case rel=>exact⟨_,NX.out⟩
      case measure =>
       have h1:=least_le (P:=fun m=>AllAt L A S F g I m (.slice (some ⟨gs,0,none⟩) (st'.length+1) cap) w2) NX.out
       have h2:=HM.out
       omega
     ·have hk0:(0:Int)<(t.ks.length:Int):=by
       have:=List.length_pos_iff.2 hks
       omega
      have LQ:=Lib.hid (lit_row w2 161 ⟨(S t.n.id).a,t.ks.length,(S t.n.id).c⟩)
      have k3:Kept (fun _=>False) w2 (w2.alloc (.cells #[.slice (S t.n.id).a t.ks.length (S t.n.id).c] 161)):=(Kept.refl _ _).alloc _
      have hO3:=O2.out.keep k3 (fun h=>h)
      have O3:=Lib.hid (own_val (n:=st'.length+1) (by simp) hO3)
      have RL:Hid ((st'.map (·.1)++[(⟨some ⟨b,(o+1),none⟩,ts.length,c-1⟩:Rw)]).length≤1000000):=Lib.hid (by simp;omega)
      have I3:=Lib.hid (GR.out _ _ _ _ I2.out (k3.mono (fun _ _ h=>h.elim)))
      clear k3 hO3
      gi_wp2_with (gi_at_builtin;(refine wpListIn_append_keeps rowE rfl (.tmp 52) (.tmp 57) 215 rfl 0 161 (.slice none 0 0) 24 Tryz.underlying215 info_slice rfl (by decide) rfl rfl O3.out LQ.out RL.out (Nat.zero_le _) ?_);(intro v4 w4 ho4 hg4))
      have NX:Hid (∃n,n<2 * (L.length-i)+(st'.length+1)∧AllAt L A S F g I n v4 w4):=Lib.hid (by
       have hd:L.drop (i+1)=(st'++[((⟨some ⟨b,(o+1),none⟩,ts.length,c-1⟩:Rw),ts)]++[(S t.n.id,t.ks)]).reverse.flatMap (fun e=>flats e.2):=by rw [HDN.out];simp
       have hlf:=left_snoc2 (left_snoc LF.out LR.out) LK.out
       exact all_pushed (st:=st'++[(_,ts)]) ho4 hg4 (by simp) (.inl XG.out) (GR.out _ _ _ _ I3.out (grow_kept hg4 (.inl XG.out))) (row_eq hrn) hlf hd hil (by simp;omega) (by simp))
      obtain⟨n4,NX1,NX2⟩:=NX.out
      have N2:=Lib.hid NX2
      clear NX NX2 ho4 hg4
      go_roundw
      case rel=>exact⟨_,N2.out⟩
      case measure =>
       have h1:=least_le (P:=fun m=>AllAt L A S F g I m v4 w4) N2.out
       have h2:=HM.out
       omega
end Go.Proofs.YtjohljmpcblpjaaGreatDoor.Tr
