/- Arrays in blocks of their own: loaded whole, stored whole. They speak of no program of their own. Parts of the proof. -/
import Derived.Laws.Rows
import Derived.Laws.Tables
import Derived.Deep.WholeRow
import Derived.Test.YtjohljmpcblpjaaGreatDoorM2
import Derived.Laws.AppendOwnNone
import Derived.Laws.EntriesVeiled
import Derived.Deep.CutBlock
import Derived.RegionCalls
set_option maxRecDepth 100000
set_option maxHeartbeats 4000000
namespace Go.Proofs.YtjohljmpcblpjaaGreatDoor
open Go.RowKit
section
variable {P:Program} {w w':World} {g b:Nat} {t t':TypeId} {cs old:Array Value}
theorem Blk.stores (h:Blk w g t old) (hs:old.size=cs.size) (h1:cs.all (·.oneCell')=true):(storeCells ⟨g,0,none⟩ cs.toList 0).run P w=.ok () (w.setRow g cs):=by
 have:=run_storeCells_from (P:=P) g t cs.toList 0 old w h (by simp;omega) (fun v hv=>(Array.all_eq_true_iff_forall_mem.1 h1) v (by simpa using hv))
 simpa [hs] using this
theorem Blk.row (h:Blk w g t old) (cs:Array Value):Blk (w.setRow g cs) g t cs:=setRow_heap w g old cs t (0,0) h
theorem Blk.row_far (h:Blk w b t old) (hne:b≠g) (cs:Array Value):Blk (w.setRow g cs) b t old:=(setRow_other w g b cs hne).trans h
theorem Kept.setRow {S:Nat→Prop}(h:Kept S w w') (hg:g<w.heap.size→S g) (cs:Array Value):Kept S w (w'.setRow g cs) :=
 ⟨h.os,h.tape,h.output,by rw [setRow_size];exact h.size,fun k hk hs=>by rw [setRow_other _ _ _ _ (fun e=>by subst e;exact hs (hg hk))];exact h.block k hk hs⟩
theorem Grew.setRow (h:Grew w w') (hg:w.heap.size≤g) (cs:Array Value):Grew w (w'.setRow g cs):=by
 obtain⟨q,os,rfl⟩:=h
 have hs:((Sort.grow (w.drewN q) os).setRow g cs).heap.size=w.heap.size+os.size:=by rw [setRow_size];simp [Sort.grow,World.drewN]
 have hh:((Sort.grow (w.drewN q) os).setRow g cs).heap=w.heap++((Sort.grow (w.drewN q) os).setRow g cs).heap.extract w.heap.size ((Sort.grow (w.drewN q) os).setRow g cs).heap.size:=by
  apply Array.ext
  ·simp [hs]
  ·intro i h1 h2
   rw [Array.getElem_append]
   split
   ·rename_i hi
    simp only [World.setRow,Sort.grow,World.drewN,Array.getElem_modify]
    rw [if_neg (by omega),Array.getElem_append_left hi]
   ·rename_i hi
    rw [Array.getElem_extract]
    congr 1
    omega
 obtain⟨os',hh⟩:∃os',((Sort.grow (w.drewN q) os).setRow g cs).heap=w.heap++os':=⟨_,hh⟩
 refine⟨q,os',?_⟩
 have e:(Sort.grow (w.drewN q) os).setRow g cs={ w.drewN q with heap:=((Sort.grow (w.drewN q) os).setRow g cs).heap }:=rfl
 rw [e,hh]
 rfl
theorem Kept.cell (hk:Kept (fun _=>False) w w'){a:Addr}{v:Value}(h:w.cell? a=some v):w'.cell? a=some v:=by
 have hlt:=World.block_lt_of_cell? w _ h
 have hb:=hk.block a.block hlt (fun h=>h)
 unfold World.cell? at h ⊢
 rw [hb]
 exact h
theorem owns_lower {base base' n size:Nat}{e:TypeId}{v:Value}{xs:List Value}(h:w.ownsRow base e size v n xs) (hb:base'≤base):w.ownsRow base' e size v n xs:=by
 refine⟨h.1,?_⟩
 rcases h.2 with h2|⟨g,c,cur,e2,h1,h3⟩
 ·exact .inl h2
 ·exact .inr ⟨g,c,cur,e2,Nat.le_trans hb h1,h3⟩
theorem Blk.result {fn:Func}{p:Tmp}{ty:TypeId}{d:TypeDesc}(hr:fn.results=#[.cell p ty]) (tmps:Array Value) (h:Blk w g t cs) (hp:tmps.getD p undef=.pointer (some ⟨g,0,none⟩))
  (hu:P.underlying ty=some d) (hd:(match d with | .struct _ | .array _ _=>true | _=>false)=true) (hi:(P.info? ty).map (·.size)=some cs.size):(results fn tmps).run P w=.ok (.agg cs) w :=
 results_cell_row hr tmps w g t cs (0,0) d hp h hu hd hi
end
end Go.Proofs.YtjohljmpcblpjaaGreatDoor
namespace Go.Proofs.YtjohljmpcblpjaaGreatDoor
open Go.RowKit Go.Proofs.YtjohljmpcblpjaaGreatDoor.St
def dotE:Enc Dot:=⟨2,fun d=>[.int .i64 d.site,.int .i64 d.seq],fun _=>rfl,by decide,fun d u hu=>by
 rcases List.mem_cons.1 hu with rfl|hu
 ·rfl
 ·rw [List.mem_singleton.1 hu];rfl⟩
def cells (f:Nat→Int):Array Value:=((List.range 17).map fun i=>Value.int .i64 (f i)).toArray
theorem cells_size (f:Nat→Int):(cells f).size=17:=by simp [cells]
theorem cells_get (f:Nat→Int){i:Nat}(h:i<17):(cells f)[i]?=some (.int .i64 (f i)):=by simp [cells,h]
theorem cells_set (f:Nat→Int) (k:Nat) (x:Int):(cells f).setIfInBounds k (.int .i64 x)=cells fun i=>if i=k then x else f i:=by
 apply Array.ext
 ·simp [cells]
 ·intro i h1 h2
  simp [cells] at h2
  by_cases h:k=i
  ·subst h;simp [cells]
  ·have h':¬i=k:=fun e=>h e.symm
   simp [cells,h,h']
theorem cells_congr {f g:Nat→Int}(h:∀i,i<17→f i=g i):cells f=cells g:=by
 unfold cells
 congr 1
 apply List.map_congr_left
 intro i hi
 rw [h i (List.mem_range.1 hi)]
theorem says_cells {f:Nat→Int}{k:Nat}{q:Int}(h:(⟨k,q⟩:Dot).Ok):(cells f).setIfInBounds k (.int .i64 (if f k<q then q else f k))=cells (sayS f ⟨k,q⟩):=by
 rw [cells_set]
 refine cells_congr fun i _=>?_
 unfold sayS
 by_cases hi:i=k
 ·subst hi
  rw [if_pos rfl]
  have : (if (⟨i,q⟩:Dot).Ok∧(⟨i,q⟩:Dot).site=i then (if f i<q then q else f i) else f i)=if f i<q then q else f i:=if_pos ⟨h,rfl⟩
  exact this.symm
 ·rw [if_neg hi,if_neg]
  intro ⟨_,e⟩
  have e:(k:Int)=i:=e
  omega
theorem sayS_none {f:Nat→Int}{d:Dot}(h:¬d.Ok):sayS f d=f:=by
 funext i
 unfold sayS
 rw [if_neg (fun e=>h e.1)]
theorem cells_one (f:Nat→Int):(cells f).all (·.oneCell')=true:=by simp [cells,Value.oneCell']
theorem SlAt.dot {w:World}{v:Value}{L:List Dot}(h:SlAt dotE w v L) (hn:0<L.length):∃g o c,v=.slice (some ⟨g,o,none⟩) L.length c∧g<w.heap.size∧∀(i:Nat) (x:Dot),L[i]?=some x →
  w.cell? ⟨g,o+i * 2,none⟩=some (.int .i64 x.site)∧w.cell? ⟨g,o+i * 2+1,none⟩=some (.int .i64 x.seq):=by
 obtain⟨g,o,c,rfl,_,_,hg,hc⟩:=h.one hn
 exact⟨g,o,c,rfl,hg,fun i x hx=>⟨hc i x hx 0 _ rfl,hc i x hx 1 _ rfl⟩⟩
theorem site_any (n:Int) (w:World):Calls Tryz.prog 84 #[.int .i64 n] w fun e w'=>e=.returned (.bool (decide (isSite n)))∧w'=w:=by
 unfold isSite
 go_enter Tryz.func84,Tryz.ntmps84
 by_cases h1:1≤n
 ·by_cases h2:n≤16
  ·have e:decide (1≤n∧n≤16)=true:=decide_eq_true ⟨h1,h2⟩
   rw [e]
   go_wp2_with fail
   go_ret
   exact⟨rfl,rfl⟩
  ·have e:decide (1≤n∧n≤16)=false:=decide_eq_false fun h=>h2 h.2
   rw [e]
   go_wp2_with fail
   go_ret
   exact⟨rfl,rfl⟩
 ·have e:decide (1≤n∧n≤16)=false:=decide_eq_false fun h=>h1 h.1
  rw [e]
  go_wp2_with fail
  go_ret
  exact⟨rfl,rfl⟩
theorem of_grew {w:World}{v:Value}{L:List Dot}(h:SlAt dotE w v L) (hb:L.length≤1000000000):Calls Tryz.prog 124 #[v] w fun e w'=>e=.returned (.agg (cells (says L)))∧Grew w w':=by
 obtain⟨a,c,rfl,_,_⟩:=h.sl
 have HS:=Lib.hid h
 clear h
 go_enter Tryz.func124,Tryz.ntmps124
 go_wp2_with fail
 go_loopw [8] (fun iv wr=>∃n:Nat,iv=.int .i64 n∧n≤L.length∧Blk wr (w.heap.size+1) 202 (cells (says (L.take n)))∧Blk wr w.heap.size 202 (cells fun _=>0)∧Grew w wr) (fun iv _=>L.length-(intOf iv).toNat)
 case atStart =>
  refine⟨0,rfl,Nat.zero_le _,?_,(Blk.new _ _ _).alloc _,((Grew.refl _).alloc _).alloc _⟩
  have:=Blk.new (w.alloc (.cells (cells fun _=>0) 202)) 202 (cells fun _=>0)
  rw [show (w.alloc (.cells (cells fun _=>0) 202)).heap.size=w.heap.size+1 by simp] at this
  exact this
 case round =>
  obtain⟨n,rfl,hn,hs,hr,hk⟩:=hrel
  have hn0:(0:Int)≤n:=by omega
  by_cases hlt:n<L.length
  case neg =>
   have hnl:¬(n:Int)<L.length:=by omega
   rw [List.take_of_length_le (by omega)] at hs
   have HS':=Lib.hid hs
   have HR:=Lib.hid hr
   have x3:=Lib.hid (hk.setRow (g:=w.heap.size) (Nat.le_refl _) (cells (says L)))
   clear hs hr hk
   go_wp2_with (first
    | (refine wpList_load_row rfl 202 _ rfl (w.heap.size+1) rfl 202 _ (0,0) _ HS'.out Tryz.underlying202 rfl (by rw [cells_size];kernel_rfl) ?_)
    | (refine wpList_store_row rfl 202 _ _ rfl w.heap.size (cells (says L)) rfl rfl 202 _ HR.out (by rw [cells_size];kernel_rfl) (by rw [cells_size,cells_size]) (cells_one _) ?_))
   exact bodyPost_ret (Blk.result rfl _ (HR.out.row _) rfl Tryz.underlying202 rfl (by rw [cells_size];kernel_rfl)) rfl ⟨rfl,x3.out⟩
  case pos =>
   have hltI:(n:Int)<L.length:=by omega
   obtain⟨d,hd⟩:=get_of_lt hlt
   obtain⟨g,o,c',hv,hg,hc⟩:=SlAt.dot (HS.out.kept hk.kept) (by omega)
   cases hv
   obtain⟨c0,c1⟩:=hc n d hd
   have hsay:=Lib.hid (says_take hd)
   generalize says (L.take n)=f at *
   obtain⟨ds,dq⟩:=d
   have K0:=Lib.hid (hk.alloc (.cells #[.int .i64 ds,.int .i64 dq] 29))
   have FS:=Lib.hid (hs.alloc (.cells #[.int .i64 ds,.int .i64 dq] 29))
   have FR:=Lib.hid (hr.alloc (.cells #[.int .i64 ds,.int .i64 dq] 29))
   have hsz:=hs.lt
   have H1:=Lib.hid hs
   have H2:=Lib.hid hr
   have H3:=Lib.hid hk
   clear hc hd
   by_cases hok:(⟨ds,dq⟩:Dot).Ok
   case pos =>
    have hok':=hok
    unfold Dot.Ok at hok'
    simp only at hok' c0 c1
    obtain⟨k,rfl⟩:∃k:Nat,ds=k:=⟨ds.toNat,by omega⟩
    have hsite:decide (isSite k)=true:=decide_eq_true ⟨by omega,by omega⟩
    have h1:=hok'.2.2.1
    have h2:=hok'.2.2.2
    have hkl:k<17:=by omega
    have hkI:(k:Int)<17:=by omega
    have hk0:(0:Int)≤k:=by omega
    have s0:=FS.out.cell' (cells_get f hkl)
    have fz:=FS.out.frozen k
    have hse:=Lib.hid (site_any k)
    have hmx:(if f k<dq then dq else f k)=sayS f ⟨k,dq⟩ k:=by
     have : sayS f ⟨k,dq⟩ k=if f k<dq then dq else f k:=if_pos ⟨hok,rfl⟩
     exact this.symm
    have OK:=Lib.hid hok
    have MX:=Lib.hid hmx
    clear hs hr hk hok' hok hmx
    go_wp2_with (go_at_call 84;refine (hse.out _).mono ?_;rintro e w1 ⟨rfl,rfl⟩;rw [hsite])
    go_region
    go_wp2_with fail
    go_roundw
    case rel =>
     refine⟨n+1,by go_num,by omega,?_,((H2.out.far (by show w.heap.size≠w.heap.size+1;omega) _).alloc _).drewN 1,((H3.out.setCell (by show w.heap.size≤w.heap.size+1;omega) _).alloc _).drewN 1⟩
     rw [hsay.out,←says_cells OK.out]
     exact ((H1.out.set_ k _).alloc _).drewN 1
    case measure=>simp [intOf] <;> omega
   case neg =>
    have K1:=Lib.hid hok
    have S1:=Lib.hid hsay
    by_cases h1:1≤ds
    by_cases h2:ds≤16
    by_cases h3:1≤dq
    by_cases h4:dq≤2147483647
    ·exact absurd ⟨h1,h2,h3,h4⟩ hok
    have hsite:decide (isSite ds)=true:=decide_eq_true ⟨h1,h2⟩
    rotate_left
    have hsite:decide (isSite ds)=true:=decide_eq_true ⟨h1,h2⟩
    rotate_left
    have hsite:decide (isSite ds)=false:=decide_eq_false fun h=>h2 h.2
    rotate_left
    have hsite:decide (isSite ds)=false:=decide_eq_false fun h=>h1 h.1
    rotate_left
    all_goals
     have hse:=Lib.hid (site_any ds)
     clear hs hr hk hok hsay
     go_wp2_with (go_at_call 84;refine (hse.out _).mono ?_;rintro e w1 ⟨rfl,rfl⟩;rw [hsite])
     go_roundw
     focus
      refine⟨n+1,by go_num,by omega,?_,FR.out,K0.out⟩
      rw [S1.out,sayS_none K1.out]
      exact FS.out
    all_goals simp [intOf] <;> omega
theorem of_any {w:World}{v:Value}{L:List Dot}(h:SlAt dotE w v L) (hb:L.length≤1000000000):Calls Tryz.prog 124 #[v] w fun e w'=>e=.returned (.agg (cells (says L)))∧Kept (fun _=>False) w w':=(of_grew h hb).mono fun _ _ ⟨he,hg⟩=>⟨he,hg.kept⟩
end Go.Proofs.YtjohljmpcblpjaaGreatDoor
namespace Go.Proofs.YtjohljmpcblpjaaGreatDoor
open Go.RowKit
theorem wpList_append_row {P:Program}{α:Type}(E:Enc α){w:World}{ops:Array Oper}{rest:List Oper}{o:Oper}{a:Act}{Q:Exit→Act→World→Prop}(hgd:o.guard=none) (s x:Operand) (t:TypeId)
  (ho:o.op=.call { callee:=.builtin .append,args:=#[s,x],argTypes:=#[t,t] }) (base:Nat) (e:TypeId) (z:Value) (bytes:Nat) (ht:P.underlying t=some (.slice e))
  (hinfo:(P.info? e).map (fun i=>(i.zero,i.size,i.bytes))=some (some z,E.k,bytes)) (hzs:z.cells.size=E.k) {v vs:Value} {D L:List α} (hs:a.eval s=v) (hx:a.eval x=vs)
  (hown:w.ownsRow base e E.k v D.length (E.flat D)) (hL:SlAt E w vs L) (h63:D.length+L.length≤maxLen) (hbytes:(D.length+L.length) * bytes≤140737488355328) (hbase:base≤w.heap.size)
  (h:∀v' w',w'.ownsRow base e E.k v' (D++L).length (E.flat (D++L))→Kept (fun b=>v.ownBlock=some b) w w'→wpList P ops Q rest (a.put o.dst v') w'):wpList P ops Q (o::rest) a w:=by
 obtain⟨i0,hi,hz0,hz1,hz2⟩:=info_parts hinfo
 obtain⟨ad,c,rfl,_,_⟩:=hL.sl
 cases ad with
 | none =>
  obtain⟨rfl,_,rfl⟩:=hL.none_
  refine wpList_append_own_none hgd s x t ho base e i0 E.k ht hi v D.length (E.flat D) hs hown hx ?_
  refine h v w ?_ (Kept.refl _ _)
  rw [List.append_nil]
  exact hown
 | some y =>
  obtain⟨_,hn⟩:=hL.at_
  refine wpList_append_own _ hgd s x t ho base e i0 z E.k bytes ht hi hz0 hz1 hz2 hzs E.pos v D.length (E.flat D) hs hown y L.length c (E.flat L) hx (E.flat_len L) hn (E.flat_one_cell L) h63 hbytes hbase ?_
  intro v' w' ho' hg _
  refine h v' w' ?_ (Kept.grown (Kept.refl _ _) hg (fun k e _=>e))
  rw [List.length_append,E.flat_append]
  exact ho'
theorem owns_new {w:World}{base n size:Nat}{e:TypeId}{v:Value}{xs:List Value}(h:w.ownsRow base e size v n xs):∀b,v.ownBlock=some b→base≤b:=fun b hb=>by
 rcases h.2 with ⟨e2,_⟩|⟨g3,c2,cur,e2,h1,h2,_⟩
 ·rw [e2] at hb;cases hb
 ·rw [e2] at hb;cases hb;exact h1
theorem Kept.over {w w1 w2:World}{S:Nat→Prop}(h:Kept (fun _=>False) w w1) (k:Kept S w1 w2) (hb:∀b,S b→w.heap.size≤b):Kept (fun _=>False) w w2:=h.trans k fun i hi e=>by have:=hb i e;omega
theorem SlAt.lit {α:Type}{E:Enc α}{w:World}{t:TypeId}(L:List α) (cs:Array Value) (hc:cs=(E.flat L).toArray) (hl:L.length≤maxLen):SlAt E (w.alloc (.cells cs t)) (.slice (some ⟨w.heap.size,0,none⟩) L.length L.length) L:=by
 subst hc
 refine .inr ⟨⟨w.heap.size,0,none⟩,L.length,rfl,Nat.le_refl _,hl,fun _=>rfl,fun i y hy j u hu=>?_⟩
 rw [Nat.zero_add]
 refine (Blk.new w t _).cell' ?_
 rw [←Array.getElem?_toList]
 exact E.flat_get hy hu
end Go.Proofs.YtjohljmpcblpjaaGreatDoor
namespace Go.Proofs.YtjohljmpcblpjaaGreatDoor
open Go.RowKit Go.Proofs.YtjohljmpcblpjaaGreatDoor.St
theorem info_dot:(Tryz.prog.info? 29).map (fun i=>(i.zero,i.size,i.bytes))=some (some (.agg #[.int .i64 0,.int .i64 0]),2,16):=by kernel_rfl
theorem lit_dot (w:World) (s q:Int):SlAt dotE (w.alloc (.cells #[.int .i64 s,.int .i64 q] 29)) (.slice (some ⟨w.heap.size,0,none⟩) 1 1) [(⟨s,q⟩:Dot)]:=SlAt.lit (E:=dotE) [(⟨s,q⟩:Dot)] _ rfl (by show 1≤maxLen;decide)
theorem run_index_cells (f:Nat→Int){n:Nat}(h:n<17) (w:World):(Instr.index 202 (.agg (cells f)) (.int .i64 n)).run Tryz.prog w=.ok (.int .i64 (f n)) w:=by
 have h1:=cells_get f h
 have hI:(n:Int)<17:=by omega
 simp [Instr.index,asIntOf,run_underlying Tryz.underlying202,part,isAgg,run_underlying Tryz.underlying3,Tryz.sizeOf3,h,h1,go_sem]
theorem vec_any (f:Nat→Int) (w:World):Calls Tryz.prog 145 #[.agg (cells f)] w fun e w'=>∃v',e=.returned v'∧w'.ownsRow w.heap.size 29 2 v' (vecOf f 17).length (dotE.flat (vecOf f 17))∧Kept (fun _=>False) w w':=by
 go_enter Tryz.func145,Tryz.ntmps145
 go_wp2_with (first | (refine wpList_load_row rfl 202 _ rfl w.heap.size rfl 202 _ (0,0) _ (Blk.new w _ _) Tryz.underlying202 rfl (by rw [cells_size];kernel_rfl) ?_))
 go_loopw [3,7] (fun vv iv wr=>∃n:Nat,iv=.int .i64 n∧n≤17∧wr.ownsRow w.heap.size 29 dotE.k vv (vecOf f n).length (dotE.flat (vecOf f n))∧Kept (fun _=>False) w wr) (fun _ iv _=>17-(intOf iv).toNat)
 case atStart=>exact⟨0,rfl,by decide,World.ownsRow_nil _ _ _ _,(Kept.refl _ _).alloc _⟩
 case round =>
  obtain⟨n,rfl,hn,ho,hk⟩:=hrel
  have hn0:(0:Int)≤n:=by omega
  by_cases hlt:n<17
  case neg =>
   obtain rfl:n=17:=by omega
   have HO:=Lib.hid ho
   clear ho
   go_wp2_with fail
   go_ret
   exact⟨_,rfl,HO.out,hk⟩
  case pos =>
   have hI:(n:Int)<17:=by omega
   have hix:=run_index_cells f hlt
   have hs:=vecOf_succ f n
   have hl:=vecOf_len f n
   by_cases hp:0<f n
   case neg =>
    rw [if_neg hp] at hs
    have HO:=Lib.hid ho
    have HS:=Lib.hid hs
    clear ho hs hl
    go_wp2_with fail
    go_roundw
    case rel=>exact⟨n+1,by go_num,by omega,by rw [HS.out];exact HO.out,hk⟩
    case measure=>simp [intOf] <;> omega
   case pos =>
    rw [if_pos hp] at hs
    generalize vecOf f n=V at *
    have HO:=Lib.hid (show (wr.alloc (.cells #[.int .i64 n,.int .i64 (f n)] 29)).ownsRow w.heap.size 29 dotE.k _ V.length (dotE.flat V) from ho.alloc _)
    have HS:=Lib.hid hs
    have HK:=Lib.hid (hk.alloc (.cells #[.int .i64 n,.int .i64 (f n)] 29))
    have LD:=Lib.hid (lit_dot wr n (f n))
    have hsz:=Lib.hid (hk.size)
    have NW:=Lib.hid (owns_new ho)
    clear ho hs hk
    go_wp2_with (at_builtin;(refine wpList_append_row dotE rfl (.tmp 13) (.tmp 17) 24 rfl w.heap.size 29 (.agg #[.int .i64 0,.int .i64 0]) 16 Tryz.underlying24 info_dot rfl rfl rfl HO.out LD.out (by unfold maxLen;simp;omega) (by simp;omega) (by have:=hsz.out;simp;omega) ?_);(intro v2 w2 ho2 hk2;have K2:Hid (Kept (fun _=>False) w w2):=Lib.hid (HK.out.trans hk2 (fun b hb e=>by have:=NW.out b e;omega));have O2:=Lib.hid ho2;clear hk2 ho2))
    go_roundw
    case rel=>exact⟨n+1,by go_num,by omega,by rw [HS.out];exact O2.out,K2.out⟩
    case measure=>simp [intOf] <;> omega
theorem greater_any (x y:Int) (w:World):Calls Tryz.prog 142 #[.int .i64 x,.int .i64 y] w fun e w'=>e=.returned (.int .i64 (if x<y then y else x))∧w'=w:=by
 go_enter Tryz.func142,Tryz.ntmps142
 by_cases h:x<y
 ·rw [if_pos h]
  go_wp2_with fail
  go_ret
  exact⟨rfl,rfl⟩
 ·rw [if_neg h]
  go_wp2_with fail
  go_ret
  exact⟨rfl,rfl⟩
theorem get_grew {w:World}{v:Value}{L:List Dot}(h:SlAt dotE w v L) (hb:L.length≤1000000000) (s:Int):Calls Tryz.prog 85 #[v,.int .i64 s] w fun e w'=>e=.returned (.int .i64 (getV L s))∧Grew w w':=by
 have hs:=site_any s
 have ho:=of_grew h hb
 unfold getV
 go_enter Tryz.func85,Tryz.ntmps85
 by_cases hi:isSite s
 ·rw [decide_eq_true hi] at hs
  rw [if_pos hi]
  unfold isSite at hi
  obtain⟨k,rfl⟩:∃k:Nat,s=k:=⟨s.toNat,by omega⟩
  have hix:=run_index_cells (says L) (n:=k) (by omega)
  rw [Int.toNat_natCast]
  go_wp2_with (first
   | (go_at_call 84;refine (hs _).mono ?_;rintro e w1 ⟨rfl,rfl⟩)
   | (go_at_call 124;refine ho.mono ?_;rintro e w1 ⟨rfl,hk1⟩))
  go_ret
  exact⟨rfl,hk1⟩
 ·rw [decide_eq_false hi] at hs
  rw [if_neg hi]
  go_wp2_with (go_at_call 84;refine (hs _).mono ?_;rintro e w1 ⟨rfl,rfl⟩)
  go_ret
  exact⟨rfl,Grew.refl _⟩
theorem get_any {w:World}{v:Value}{L:List Dot}(h:SlAt dotE w v L) (hb:L.length≤1000000000) (s:Int):Calls Tryz.prog 85 #[v,.int .i64 s] w fun e w'=>e=.returned (.int .i64 (getV L s))∧Kept (fun _=>False) w w':=(get_grew h hb s).mono fun _ _ ⟨he,hg⟩=>⟨he,hg.kept⟩
abbrev zero17:Array Value:=#[.int .i64 0,.int .i64 0,.int .i64 0,.int .i64 0,.int .i64 0,.int .i64 0,.int .i64 0,.int .i64 0,.int .i64 0,.int .i64 0,.int .i64 0,.int .i64 0,.int .i64 0,.int .i64 0,.int .i64 0,.int .i64 0,.int .i64 0]
theorem max_next (A B:List Dot) (n:Nat):(cells fun i=>if i=n then maxV A B n else if i<n then maxV A B i else says A i)=cells fun i=>if i<n+1 then maxV A B i else says A i :=
 cells_congr fun i _=>by
  by_cases h:i=n
  ·subst h;rw [if_pos rfl,if_pos (Nat.lt_succ_self i)]
  ·rw [if_neg h]
   by_cases h2:i<n
   ·rw [if_pos h2,if_pos (by omega)]
   ·rw [if_neg h2,if_neg (by omega)]
theorem with_grew {w:World}{va vb:Value}{A B:List Dot}(ha:SlAt dotE w va A) (hb:SlAt dotE w vb B) (hla:A.length≤1000000000) (hlb:B.length≤1000000000) :
  Calls Tryz.prog 141 #[va,vb,.func (.func 142) #[] #[]] w fun e w'=>e=.returned (.agg (cells (maxV A B)))∧Grew w w':=by
 have k0:Grew w (w.alloc (.cells zero17 202)):=(Grew.refl _).alloc _
 have B0:=Lib.hid (Blk.new w 202 zero17)
 have s0:(w.alloc (.cells zero17 202)).heap.size=w.heap.size+1:=by simp
 have hoa:=of_grew (ha.kept k0.kept) hla
 have HB:=Lib.hid (hb.kept k0.kept)
 clear ha hb
 go_enter Tryz.func141,Tryz.ntmps141
 go_upto_region 1 with (fail)
 generalize w.alloc (.cells zero17 202)=w0 at *
 go_wp2_with (first
   | (refine wpList_store_row rfl 202 _ _ rfl (w2.heap.size+1) (cells (says B)) rfl rfl 202 zero17 (P2.out.row_far (by omega) _) (by rw [cells_size];kernel_rfl) (by rw [cells_size];rfl) (cells_one _) ?_)
   | (refine wpList_store_row rfl 202 _ _ rfl w2.heap.size (cells (says A)) rfl rfl 202 zero17 P1.out (by rw [cells_size];kernel_rfl) (by rw [cells_size];rfl) (cells_one _) ?_)
   | (go_at_call 124;refine (of_grew (HB.out.kept hk1.kept) hlb).mono ?_;rintro e w2 ⟨rfl,hk2⟩;have P1:=Lib.hid ((Blk.new w2 202 zero17).alloc (.cells zero17 202));have P2:Hid (Blk ((w2.alloc (.cells zero17 202)).alloc (.cells zero17 202)) (w2.heap.size+1) 202 zero17):=Lib.hid (by have:=Blk.new (w2.alloc (.cells zero17 202)) 202 zero17;simpa using this))
   | (go_at_call 124;refine hoa.mono ?_;rintro e w1 ⟨rfl,hk1⟩))
 have k13:Grew w0 w2:=hk1.trans hk2
 have s2:=k13.size
 have k3:Grew w (((w2.alloc (.cells zero17 202)).alloc (.cells zero17 202)).setRow w2.heap.size (cells (says A)) |>.setRow (w2.heap.size+1) (cells (says B))) :=
  ((((k0.trans k13).alloc _).alloc _).setRow (by omega) _).setRow (by omega) _
 have Q0:=(((k13.kept.blk (fun h=>h) B0.out).alloc (.cells zero17 202)).alloc (.cells zero17 202)).row_far (g:=w2.heap.size) (by omega) (cells (says A)) |>.row_far (g:=w2.heap.size+1) (by omega) (cells (says B))
 have Q1:=(P1.out.row (cells (says A))).row_far (g:=w2.heap.size+1) (by omega) (cells (says B))
 have Q2:=(P2.out.row_far (g:=w2.heap.size) (by omega) (cells (says A))).row (cells (says B))
 have hne:w.heap.size<w2.heap.size:=by omega
 generalize (((w2.alloc (.cells zero17 202)).alloc (.cells zero17 202)).setRow w2.heap.size (cells (says A))).setRow (w2.heap.size+1) (cells (says B))=w3 at *
 have K3:=Lib.hid k3
 have R0:=Lib.hid Q0
 have R1:=Lib.hid Q1
 have R2:=Lib.hid Q2
 clear hoa HB P1 P2 B0 k0 hk1 hk2 k13 s2 s0 k3 Q0 Q1 Q2
 go_loopw [14] (fun iv wr=>∃n:Nat,iv=.int .i64 n∧n≤17∧Blk wr w2.heap.size 202 (cells fun i=>if i<n then maxV A B i else says A i)∧Blk wr (w2.heap.size+1) 202 (cells (says B))∧Blk wr w.heap.size 202 zero17∧Grew w wr) (fun iv _=>17-(intOf iv).toNat)
 case atStart=>exact⟨0,rfl,by decide,R1.out,R2.out,R0.out,K3.out⟩
 case round =>
  clear K3 R0 R1 R2
  obtain⟨n,rfl,hn,h1,h2,h0,hk⟩:=hrel
  have hn0:(0:Int)≤n:=by omega
  by_cases hlt:n<17
  case neg =>
   obtain rfl:n=17:=by omega
   have e:cells (fun i=>if i<17 then maxV A B i else says A i)=cells (maxV A B):=cells_congr fun i hi=>if_pos hi
   rw [e] at h1
   have H1:=Lib.hid h1
   have H0:=Lib.hid h0
   have HK:=Lib.hid (hk.setRow (g:=w.heap.size) (Nat.le_refl _) (cells (maxV A B)))
   clear h1 h2 h0 hk e
   go_wp2_with (first
    | (refine wpList_load_row rfl 202 _ rfl w2.heap.size rfl 202 _ (0,0) _ H1.out Tryz.underlying202 rfl (by rw [cells_size];kernel_rfl) ?_)
    | (refine wpList_store_row rfl 202 _ _ rfl w.heap.size (cells (maxV A B)) rfl rfl 202 zero17 H0.out (by rw [cells_size];kernel_rfl) (by rw [cells_size];rfl) (cells_one _) ?_))
   exact bodyPost_ret (Blk.result rfl _ (H0.out.row _) rfl Tryz.underlying202 rfl (by rw [cells_size];kernel_rfl)) rfl ⟨rfl,HK.out⟩
  case pos =>
   have hI:(n:Int)<17:=by omega
   have c1:wr.cell? ⟨w2.heap.size,n,none⟩=some (.int .i64 (says A n)):=by
    have:=h1.cell' (cells_get _ hlt)
    rwa [if_neg (Nat.lt_irrefl n)] at this
   have c2:=h2.cell' (cells_get (says B) hlt)
   have f1:=h1.frozen n
   have hgr:=greater_any (says A n) (says B n)
   have H1:=Lib.hid h1
   have H2:=Lib.hid h2
   have H0:=Lib.hid h0
   have HK:=Lib.hid hk
   have MX:(if says A n<says B n then says B n else says A n)=maxV A B n:=rfl
   rw [MX] at hgr
   generalize hmx:maxV A B n=mx at *
   have MX2:=Lib.hid hmx
   clear hmx
   clear h1 h2 h0 hk
   go_wp2_with fail
   go_region_calls
   all_goals
    go_wp2_with fail
    go_roundw
    focus
     refine⟨n+1,by go_num,by omega,?_,((H2.out.far (by show w2.heap.size+1≠w2.heap.size;omega) _).drewN 1),((H0.out.far (by show w.heap.size≠w2.heap.size;omega) _).drewN 1),(HK.out.setCell (by show w.heap.size≤w2.heap.size;omega) _).drewN 1⟩
     have:=(H1.out.set_ n (.int .i64 mx)).drewN 1
     rw [cells_set,←MX2.out,max_next] at this
     rw [←MX2.out]
     exact this
    focus
     simp [intOf] <;> omega
theorem run_part (f:Nat→Int){i:Nat}(h:i<17) (w:World):(part 3 (cells f) i).run Tryz.prog w=.ok (.int .i64 (f i)) w:=by
 have h1:=cells_get f h
 simp [part,isAgg,run_underlying Tryz.underlying3,h1]
theorem run_eq_loop (f g:Nat→Int) (w:World):∀l:List Nat,(∀i∈l,i<17) →
  Sem.run Tryz.prog (forIn l ((none,()):Option Bool × Unit) fun i _=>do
   let a ←part 3 (cells f) i
   let b ←part 3 (cells g) i
   let c ←Op.equalIn 9999 3 a b
   if c=false then pure (ForInStep.done (some false,())) else pure (ForInStep.yield (none,()))) w=.ok (if l.all fun i=>f i == g i then (none,()) else (some false,())) w
 | [],_=>by simp
 | i::l,h=>by
  have hi:=h i (List.mem_cons_self ..)
  have ih:=run_eq_loop f g w l (fun j hj=>h j (List.mem_cons_of_mem _ hj))
  rw [List.forIn_cons]
  have he:∀a b:Int,(Op.equalIn 9999 3 (.int .i64 a) (.int .i64 b)).run Tryz.prog w=.ok (a == b) w:=fun a b=>run_equalIn_int (P:=Tryz.prog) w 9998 _ .i64 _ a b Tryz.underlying3
  by_cases hfg:f i=g i
  ·simp [Sem.run_bind,run_part f hi,run_part g hi,he,hfg,ih]
  ·simp [Sem.run_bind,run_part f hi,run_part g hi,he,hfg]
theorem eq_cells (f g:Nat→Int) (w:World):(binOp .eql 202 (.agg (cells f)) (.agg (cells g))).run Tryz.prog w=.ok (.bool ((List.range' 0 17).all fun i=>f i == g i)) w:=by
 rw [run_eql_struct]
 unfold Op.equalIn
 simp [run_underlying Tryz.underlying202]
 rw [run_eq_loop f g w _ (fun i hi=>by simpa using hi)]
 by_cases h:((List.range' 0 17).all fun i=>f i == g i)=true
 ·simp [h]
 ·simp [h]
theorem covers_eq (A B:List Dot):((List.range' 0 17).all fun i=>maxV A B i == says A i)=decide (coversV A B):=by
 rw [Bool.eq_iff_iff,decide_eq_true_iff,List.all_eq_true]
 unfold coversV maxV
 constructor
 ·intro h i hi
  have:=h i (by simpa using hi)
  simp only [beq_iff_eq] at this
  split at this <;> omega
 ·intro h i hi
  have:=h i (by simpa using hi)
  rw [if_neg (by omega)]
  simp
theorem covers_grew {w:World}{va vb:Value}{A B:List Dot}(ha:SlAt dotE w va A) (hb:SlAt dotE w vb B) (hla:A.length≤1000000000) (hlb:B.length≤1000000000) :
  Calls Tryz.prog 103 #[va,vb] w fun e w'=>e=.returned (.bool (decide (coversV A B)))∧Grew w w':=by
 have hw:=with_grew ha hb hla hlb
 have heq:=eq_cells (maxV A B) (says A)
 rw [covers_eq] at heq
 go_enter Tryz.func103,Tryz.ntmps103
 go_wp2_with (first
  | (go_at_call 124;refine (of_grew (ha.kept hk1.kept) hla).mono ?_;rintro e w2 ⟨rfl,hk2⟩)
  | (go_at_call 141;refine hw.mono ?_;rintro e w1 ⟨rfl,hk1⟩))
 go_ret
 exact⟨rfl,hk1.trans hk2⟩
theorem covers_any {w:World}{va vb:Value}{A B:List Dot}(ha:SlAt dotE w va A) (hb:SlAt dotE w vb B) (hla:A.length≤1000000000) (hlb:B.length≤1000000000) :
  Calls Tryz.prog 103 #[va,vb] w fun e w'=>e=.returned (.bool (decide (coversV A B)))∧Kept (fun _=>False) w w':=(covers_grew ha hb hla hlb).mono fun _ _ ⟨he,hg⟩=>⟨he,hg.kept⟩
end Go.Proofs.YtjohljmpcblpjaaGreatDoor
