/- vector.Add. vector.Check. slices.Clone of identifiers and of runs; slices.IndexFunc of identifiers that are none. Parts of the proof. -/
import Derived.Test.YtjohljmpcblpjaaGreatDoorM3
set_option maxRecDepth 100000
set_option maxHeartbeats 4000000
namespace Go.Proofs.YtjohljmpcblpjaaGreatDoor
open Go.RowKit Go.Proofs.YtjohljmpcblpjaaGreatDoor.St
theorem cells_add (L:List Dot) (k:Nat) (q:Int):(cells (says L)).setIfInBounds k (.int .i64 q)=cells (fun i=>if (i:Int)=(k:Int) then q else says L i):=by
 rw [cells_set]
 refine cells_congr fun i _=>?_
 by_cases h:i=k
 ·subst h;rw [if_pos rfl,if_pos rfl]
 ·rw [if_neg h,if_neg (by omega)]
def AddIs (w w':World) (L:List Dot) (d:Dot) (v':Value):Prop :=
 (whyAdd L d≠0→v'=.slice none 0 0)∧(whyAdd L d=0→w'.ownsRow w.heap.size 29 2 v' (addV L d).length (dotE.flat (addV L d)))
theorem add_any {w:World}{v:Value}{L:List Dot}(h:SlAt dotE w v L) (hb:L.length≤1000000000) (d:Dot):Calls Tryz.prog 106 #[v,.agg #[.int .i64 d.site,.int .i64 d.seq]] w fun e w' =>
  ∃v',e=.returned (.tuple #[v',.int .i64 (whyAdd L d)])∧AddIs w w' L d v'∧Kept (fun _=>False) w w':=by
 obtain⟨s,q⟩:=d
 have hse:=site_any s
 have hk0:Kept (fun _=>False) w (w.alloc (.cells #[.int .i64 s,.int .i64 q] 29)):=(Kept.refl _ _).alloc _
 have hB:=Blk.new w 29 #[.int .i64 s,.int .i64 q]
 have b0:(w.alloc (.cells #[.int .i64 s,.int .i64 q] 29)).cell? ⟨w.heap.size,0,none⟩=some (.int .i64 s):=hB.cell' (i:=0) rfl
 have b1:(w.alloc (.cells #[.int .i64 s,.int .i64 q] 29)).cell? ⟨w.heap.size,1,none⟩=some (.int .i64 q):=hB.cell' (i:=1) rfl
 have KD:=Lib.hid hk0
 have KD2:=hk0.drew
 have hg:=Lib.hid (fun (w':World) (hk:Kept (fun _=>False) w w')=>get_any (h.kept hk) hb s)
 have HO:=Lib.hid (fun (w':World) (hk:Kept (fun _=>False) w w')=>of_any (h.kept hk) hb)
 have wa:whyAdd L ⟨s,q⟩=if ¬isSite s∨q<1 then 1 else if 2147483647<q then 17 else if q≠getV L s+1 then 9 else 0:=rfl
 clear h hB hk0
 by_cases hs:isSite s
 case neg =>
  rw [if_pos (.inl hs)] at wa
  have hd:=decide_eq_false hs
  rw [hd] at hse
  have WA:=Lib.hid wa
  clear wa hd hs
  go_enter Tryz.func106,Tryz.ntmps106
  go_wp2_with (go_at_call 84;refine (hse _).mono ?_;rintro e w1 ⟨rfl,rfl⟩)
  go_ret2
  exact⟨_,by rw [WA.out];rfl,⟨fun _=>rfl,fun h=>by rw [WA.out] at h;cases h⟩,KD.out⟩
 case pos =>
 have hd:=decide_eq_true hs
 rw [hd] at hse
 by_cases h1:q<1
 ·rw [if_pos (.inr h1)] at wa
  have WA:=Lib.hid wa
  clear wa hd hs
  go_enter Tryz.func106,Tryz.ntmps106
  go_wp2_with (go_at_call 84;refine (hse _).mono ?_;rintro e w1 ⟨rfl,rfl⟩)
  go_ret2
  exact⟨_,by rw [WA.out];rfl,⟨fun _=>rfl,fun h=>by rw [WA.out] at h;cases h⟩,KD.out⟩
 rw [if_neg (fun h=>by rcases h with h | h;exact h hs;exact h1 h)] at wa
 by_cases h2:2147483647<q
 ·rw [if_pos h2] at wa
  have WA:=Lib.hid wa
  clear wa hd hs
  go_enter Tryz.func106,Tryz.ntmps106
  go_wp2_with (go_at_call 84;refine (hse _).mono ?_;rintro e w1 ⟨rfl,rfl⟩)
  go_ret2
  exact⟨_,by rw [WA.out];rfl,⟨fun _=>rfl,fun h=>by rw [WA.out] at h;cases h⟩,KD.out⟩
 rw [if_neg h2] at wa
 have gbd:0≤getV L s∧getV L s≤2147483647:=by
  unfold getV
  by_cases h:isSite s
  ·rw [if_pos h];exact says_bd L _
  ·rw [if_neg h];exact⟨by decide,by decide⟩
 have hw:IntKind.i64.wrap (getV L s+1)=getV L s+1:=IntWalk.i64_in _ (by omega)
 by_cases h3:q=getV L s+1
 case neg =>
  rw [if_pos h3] at wa
  have hq:(q == getV L s+1)=false:=beq_eq_false_iff_ne.2 h3
  have WA:=Lib.hid wa
  generalize getV L s=gv at *
  clear wa hd hs gbd h3
  go_enter Tryz.func106,Tryz.ntmps106
  go_wp2_with (go_at_call 84;refine (hse _).mono ?_;rintro e w1 ⟨rfl,rfl⟩)
  go_region_held3 (fun w'=>Kept (fun _=>False) w w'∧w'.cell? ⟨w.heap.size,0,none⟩=some (.int .i64 s)∧w'.cell? ⟨w.heap.size,1,none⟩=some (.int .i64 q)) (first | (with_reducible exact⟨KD2,b0,b1⟩) | go_keep)
   (first | (go_simp;go_at_call 85;refine (hg.out _ KD2).mono ?_;rintro e w1 ⟨rfl,hk1⟩;have KE:=KD2.trans hk1 (fun _ _ h=>h);have b0:=hk1.cell b0;have b1:=hk1.cell b1))
  have KF:Hid (Kept (fun _=>False) w w1):=Lib.hid KE
  go_wp2_with fail
  go_ret2
  exact⟨_,by rw [WA.out];rfl,⟨fun _=>rfl,fun h=>by rw [WA.out] at h;cases h⟩,KF.out⟩
 case pos =>
  rw [if_neg (fun h=>h h3)] at wa
  have hq:(q == getV L s+1)=true:=beq_iff_eq.2 h3
  have WA:=Lib.hid wa
  generalize getV L s=gv at *
  unfold isSite at hs
  obtain⟨k,rfl⟩:∃k:Nat,s=k:=⟨s.toNat,by omega⟩
  have hkI:(k:Int)<17:=by omega
  have hk17:k<17:=by omega
  have hk0:(0:Int)≤k:=by omega
  have Q3:=Lib.hid h3
  clear wa hd hs gbd h3
  go_enter Tryz.func106,Tryz.ntmps106
  go_wp2_with (go_at_call 84;refine (hse _).mono ?_;rintro e w1 ⟨rfl,rfl⟩)
  go_region_held3 (fun w'=>Kept (fun _=>False) w w'∧w'.cell? ⟨w.heap.size,0,none⟩=some (.int .i64 k)∧w'.cell? ⟨w.heap.size,1,none⟩=some (.int .i64 q)) (first | (with_reducible exact⟨KD2,b0,b1⟩) | go_keep)
   (first | (go_simp;go_at_call 85;refine (hg.out _ KD2).mono ?_;rintro e w1 ⟨rfl,hk1⟩;have KE:=KD2.trans hk1 (fun _ _ h=>h);have b0:=hk1.cell b0;have b1:=hk1.cell b1))
  have KF:Hid (Kept (fun _=>False) w w1):=Lib.hid KE
  have C0:=Lib.hid b0
  have C1:=Lib.hid b1
  clear b0 b1
  go_wp2_with (first
   | (refine wpList_load_row rfl 202 _ rfl w2.heap.size rfl 202 _ (0,0) _ ((P2.out.row (cells (says L))).set_ k (.int .i64 q)) Tryz.underlying202 rfl (by rw [cells_add,cells_size];kernel_rfl) ?_)
   | (refine wpList_store_row rfl 202 _ _ rfl w2.heap.size (cells (says L)) rfl rfl 202 zero17 P2.out (by rw [cells_size];kernel_rfl) (by rw [cells_size];rfl) (cells_one _) ?_;have f2:=(P2.out.row (cells (says L))).frozen k;have c2:=(P2.out.row (cells (says L))).cell' (cells_get (says L) hk17))
   | (go_at_call 124;refine (HO.out _ KF.out).mono ?_;rintro e w2 ⟨rfl,hk2⟩;have P2:=Lib.hid (Blk.new w2 202 zero17);have KG:=Lib.hid (KF.out.trans hk2 (fun _ _ h=>h));have b0:=((hk2.alloc (.cells zero17 202)).setRow (g:=w2.heap.size) (fun h=>by have:=hk2.size;omega) (cells (says L))).cell C0.out;have b1:=((hk2.alloc (.cells zero17 202)).setRow (g:=w2.heap.size) (fun h=>by have:=hk2.size;omega) (cells (says L))).cell C1.out)
   | (go_at_call 145;rw [cells_add];refine (vec_any _ _).mono ?_;rintro e w4 ⟨v4,rfl,ho4,hk4⟩))
  have K3:=((KG.out.alloc (.cells zero17 202)).setRow (g:=w2.heap.size) (fun h=>by have:=KG.out.size;omega) (cells (says L))).setCell (p:=⟨w2.heap.size,k,none⟩) (fun h=>by have h:w2.heap.size<w.heap.size:=h;have:=KG.out.size;omega) (.int .i64 q)
  go_ret2
  exact⟨_,by rw [WA.out];rfl,⟨fun h=>absurd WA.out h,fun _=>owns_lower ho4 K3.size⟩,K3.trans hk4 (fun _ _ h=>h)⟩
theorem check_step {L:List Dot}{n:Nat}{d:Dot}(hd:L[n]?=some d) (last:Int):chkV last (L.drop n)=if ¬isSite d.site then 1 else if d.seq<1∨2147483647<d.seq then 6 else if d.site≤last then 9 else chkV d.site (L.drop (n+1)):=by
 obtain⟨h1,rfl⟩:=List.getElem?_eq_some_iff.1 hd
 rw [List.drop_eq_getElem_cons h1]
 rfl
theorem vcheck_any {w:World}{v:Value}{L:List Dot}(h:SlAt dotE w v L) (hb:L.length≤1000000000):Calls Tryz.prog 47 #[v] w fun e w'=>e=.returned (.int .i64 (chkV 0 L))∧Kept (fun _=>False) w w':=by
 obtain⟨a,c,rfl,_,_⟩:=h.sl
 have HS:=Lib.hid h
 clear h
 go_enter Tryz.func47,Tryz.ntmps47
 go_wp2_with fail
 go_loopw [3,8] (fun lv iv wr=>∃(n:Nat) (last:Int),iv=.int .i64 n∧lv=.int .i64 last∧n≤L.length∧chkV 0 L=chkV last (L.drop n)∧Kept (fun _=>False) w wr) (fun _ iv _=>L.length-(intOf iv).toNat)
 case atStart=>exact⟨0,0,rfl,rfl,Nat.zero_le _,rfl,Kept.refl _ _⟩
 case round =>
  obtain⟨n,last,rfl,rfl,hn,hch,hk⟩:=hrel
  have hn0:(0:Int)≤n:=by omega
  by_cases hlt:n<L.length
  case neg =>
   have hnl:¬(n:Int)<L.length:=by omega
   rw [List.drop_of_length_le (by omega)] at hch
   have CH:=Lib.hid hch
   clear hch
   go_wp2_with fail
   go_ret
   exact⟨by rw [CH.out];rfl,hk⟩
  case pos =>
   have hltI:(n:Int)<L.length:=by omega
   obtain⟨⟨s,q⟩,hd⟩:=get_of_lt hlt
   obtain⟨g,o,c',hv,hg,hc⟩:=SlAt.dot (HS.out.kept hk) (by omega)
   cases hv
   obtain⟨c0,c1⟩:=hc n _ hd
   rw [check_step hd] at hch
   simp only at hch c0 c1
   have K0:=Lib.hid (hk.alloc (.cells #[.int .i64 s,.int .i64 q] 29))
   have hse:=site_any s
   clear hc hd hk
   by_cases h1:isSite s
   case neg =>
    rw [if_pos h1] at hch
    rw [decide_eq_false h1] at hse
    have CH:=Lib.hid hch
    clear hch h1
    go_wp2_with (go_at_call 84;refine (hse _).mono ?_;rintro e w1 ⟨rfl,rfl⟩)
    go_ret
    exact⟨by rw [CH.out];rfl,K0.out⟩
   case pos =>
   rw [if_neg (fun h=>h h1)] at hch
   rw [decide_eq_true h1] at hse
   clear h1
   by_cases h2:q<1∨2147483647<q
   ·rw [if_pos h2] at hch
    have CH:=Lib.hid hch
    clear hch
    by_cases h3:q<1
    ·clear h2
     go_wp2_with (go_at_call 84;refine (hse _).mono ?_;rintro e w1 ⟨rfl,rfl⟩)
     go_ret
     exact⟨by rw [CH.out];rfl,K0.out⟩
    ·have h4:2147483647<q:=h2.resolve_left h3
     clear h2
     go_wp2_with (go_at_call 84;refine (hse _).mono ?_;rintro e w1 ⟨rfl,rfl⟩)
     go_ret
     exact⟨by rw [CH.out];rfl,K0.out⟩
   rw [if_neg h2] at hch
   have h3:¬q<1:=fun h=>h2 (.inl h)
   have h4:¬2147483647<q:=fun h=>h2 (.inr h)
   clear h2
   by_cases h5:s≤last
   ·rw [if_pos h5] at hch
    have CH:=Lib.hid hch
    clear hch
    go_wp2_with (go_at_call 84;refine (hse _).mono ?_;rintro e w1 ⟨rfl,rfl⟩)
    go_ret
    exact⟨by rw [CH.out];rfl,K0.out⟩
   ·rw [if_neg h5] at hch
    have CH:=Lib.hid hch
    clear hch
    go_wp2_with (go_at_call 84;refine (hse _).mono ?_;rintro e w1 ⟨rfl,rfl⟩)
    go_roundw
    case rel=>exact⟨n+1,s,by go_num,rfl,by omega,CH.out,K0.out⟩
    case measure=>simp [intOf] <;> omega
end Go.Proofs.YtjohljmpcblpjaaGreatDoor
namespace Go.Proofs.YtjohljmpcblpjaaGreatDoor.St
open Go.RowKit
def idE:Enc ID:=⟨2,fun a=>[.int .i64 a.t,.int .i64 a.s],fun _=>rfl,by decide,fun x u hu=>by simp at hu;rcases hu with rfl | rfl <;> rfl⟩
def runE:Enc Run:=⟨3,fun r=>[.int .i64 r.id.t,.int .i64 r.id.s,.int .i64 r.c],fun _=>rfl,by decide,fun x u hu=>by simp at hu;rcases hu with rfl | rfl | rfl <;> rfl⟩
theorem info_id:(Tryz.prog.info? 59).map (fun i=>(i.zero,i.size,i.bytes))=some (some (.agg #[.int .i64 0,.int .i64 0]),2,16):=by kernel_rfl
theorem info_run:(Tryz.prog.info? 89).map (fun i=>(i.zero,i.size,i.bytes))=some (some (.agg #[.int .i64 0,.int .i64 0,.int .i64 0]),3,24):=by kernel_rfl
theorem clone_run {w:World}{v:Value}{L:List Run}(h:SlAt runE w v L) (hb:L.length≤1000000000) :
  Calls Tryz.prog 50 #[v] w fun e w'=>∃v',e=.returned v'∧w'.ownsRow w.heap.size 89 3 v' L.length (runE.flat L)∧Kept (fun _=>False) w w':=by
 have q:=fun (w:World) (a:Option Addr) (n c n' c':Nat)=>Lib.run_eql_slice_nil (P:=Tryz.prog) w 60 _ a n c n' c' Tryz.underlying60
 obtain⟨a,c,rfl,hle,hc⟩:=h.sl
 cases a with
 | none =>
  obtain⟨rfl,_,rfl⟩:=h.none_
  clear h hb hc hle
  go_enter Tryz.func50,Tryz.ntmps50
  go_wp2
  go_ret
  exact⟨_,rfl,World.ownsRow_nil _ _ _ _,Kept.refl _ _⟩
 | some x =>
  obtain⟨_,hn⟩:=h.at_
  obtain⟨i0,hi,hz0,hz1,hz2⟩:=info_parts info_run
  have hl:=runE.flat_len L
  have h1:=runE.flat_one_cell L
  generalize runE.flat L=news at hn hl h1 ⊢
  generalize L.length=n at *
  have hl2:news.length=n * 3:=hl
  have hn2:∀j u,news[j]?=some u→(w.alloc (.cells #[] 89)).cell? (x.add j)=some u:=fun j u hu=>by
   have hc:=hn j u hu
   rw [World.cell?_of_block (a:=x.add j) (w:=w)]
   ·exact hc
   ·exact Below.heap_alloc w _ _ (World.block_lt_of_cell? w _ hc)
  have N:=Lib.hid hn2
  have I:=Lib.hid hi
  have Z0:=Lib.hid hz0
  have Z1:=Lib.hid hz1
  have Z2:=Lib.hid hz2
  have HL:=Lib.hid hl2
  have H1:=Lib.hid h1
  have h63:0+n≤maxLen:=by unfold maxLen;omega
  have hby:(0+n) * 24≤140737488355328:=by omega
  clear hn hn2 hi hz0 hz1 hz2 hl hl2 h1 h hc
  go_enter Tryz.func50,Tryz.ntmps50
  go_wp2_with (at_builtin;refine wpList_append_own _ rfl _ _ 60 rfl w.heap.size 89 i0 (.agg #[.int .i64 0,.int .i64 0,.int .i64 0]) 3 24 Tryz.underlying60 I.out Z0.out Z1.out Z2.out rfl (by decide) _ _ _ rfl (World.ownsRow_made w #[] 0 (Nat.le_refl _) (Nat.zero_le _) (by simp)) x n c news rfl HL.out N.out H1.out h63 hby (by simp) ?_)
  intro v' w1 hown hgrow _
  go_wp2
  go_ret
  refine⟨v',rfl,by simpa using hown,?_⟩
  exact ((Kept.refl _ _).alloc _).grown hgrow (fun k e hk=>by simp [Value.ownBlock] at e;omega)
theorem SlAt.run {w:World}{v:Value}{L:List Run}(h:SlAt runE w v L) (hn:0<L.length):∃g o c,v=.slice (some ⟨g,o,none⟩) L.length c∧g<w.heap.size∧∀(i:Nat) (x:Run),L[i]?=some x →
  w.cell? ⟨g,o+i * 3,none⟩=some (.int .i64 x.id.t)∧w.cell? ⟨g,o+i * 3+1,none⟩=some (.int .i64 x.id.s)∧w.cell? ⟨g,o+i * 3+2,none⟩=some (.int .i64 x.c):=by
 obtain⟨g,o,c,rfl,_,_,hg,hc⟩:=h.one hn
 exact⟨g,o,c,rfl,hg,fun i x hx=>⟨hc i x hx 0 _ rfl,hc i x hx 1 _ rfl,hc i x hx 2 _ rfl⟩⟩
theorem SlAt.id {w:World}{v:Value}{L:List ID}(h:SlAt idE w v L) (hn:0<L.length):∃g o c,v=.slice (some ⟨g,o,none⟩) L.length c∧g<w.heap.size∧∀(i:Nat) (x:ID),L[i]?=some x →
  w.cell? ⟨g,o+i * 2,none⟩=some (.int .i64 x.t)∧w.cell? ⟨g,o+i * 2+1,none⟩=some (.int .i64 x.s):=by
 obtain⟨g,o,c,rfl,_,_,hg,hc⟩:=h.one hn
 exact⟨g,o,c,rfl,hg,fun i x hx=>⟨hc i x hx 0 _ rfl,hc i x hx 1 _ rfl⟩⟩
end Go.Proofs.YtjohljmpcblpjaaGreatDoor.St
namespace Go.Proofs.YtjohljmpcblpjaaGreatDoor
open Go.RowKit Go.Proofs.YtjohljmpcblpjaaGreatDoor.St
theorem clone_dot {w:World}{v:Value}{L:List Dot}(h:SlAt dotE w v L) (hb:L.length≤1000000000) :
  Calls Tryz.prog 49 #[v] w fun e w'=>∃v',e=.returned v'∧w'.ownsRow w.heap.size 29 2 v' L.length (dotE.flat L)∧Kept (fun _=>False) w w':=by
 have q:=fun (w:World) (a:Option Addr) (n c n' c':Nat)=>Lib.run_eql_slice_nil (P:=Tryz.prog) w 24 _ a n c n' c' Tryz.underlying24
 obtain⟨a,c,rfl,hle,hc⟩:=h.sl
 cases a with
 | none =>
  obtain⟨rfl,_,rfl⟩:=h.none_
  clear h hb hc hle
  go_enter Tryz.func49,Tryz.ntmps49
  go_wp2
  go_ret
  exact⟨_,rfl,World.ownsRow_nil _ _ _ _,Kept.refl _ _⟩
 | some x =>
  obtain⟨_,hn⟩:=h.at_
  obtain⟨i0,hi,hz0,hz1,hz2⟩:=info_parts info_dot
  have hl:=dotE.flat_len L
  have h1:=dotE.flat_one_cell L
  generalize dotE.flat L=news at hn hl h1 ⊢
  generalize L.length=n at *
  have hl2:news.length=n * 2:=hl
  have hn2:∀j u,news[j]?=some u→(w.alloc (.cells #[] 29)).cell? (x.add j)=some u:=fun j u hu=>by
   have hc:=hn j u hu
   rw [World.cell?_of_block (a:=x.add j) (w:=w)]
   ·exact hc
   ·exact Below.heap_alloc w _ _ (World.block_lt_of_cell? w _ hc)
  have N:=Lib.hid hn2
  have I:=Lib.hid hi
  have Z0:=Lib.hid hz0
  have Z1:=Lib.hid hz1
  have Z2:=Lib.hid hz2
  have HL:=Lib.hid hl2
  have H1:=Lib.hid h1
  have h63:0+n≤maxLen:=by unfold maxLen;omega
  have hby:(0+n) * 16≤140737488355328:=by omega
  clear hn hn2 hi hz0 hz1 hz2 hl hl2 h1 h hc
  go_enter Tryz.func49,Tryz.ntmps49
  go_wp2_with (at_builtin;refine wpList_append_own _ rfl _ _ 24 rfl w.heap.size 29 i0 (.agg #[.int .i64 0,.int .i64 0]) 2 16 Tryz.underlying24 I.out Z0.out Z1.out Z2.out rfl (by decide) _ _ _ rfl (World.ownsRow_made w #[] 0 (Nat.le_refl _) (Nat.zero_le _) (by simp)) x n c news rfl HL.out N.out H1.out h63 hby (by simp) ?_)
  intro v' w1 hown hgrow _
  go_wp2
  go_ret
  refine⟨v',rfl,by simpa using hown,?_⟩
  exact ((Kept.refl _ _).alloc _).grown hgrow (fun k e hk=>by simp [Value.ownBlock] at e;omega)
structure Sl where
 a:Option Addr
 n:Nat
 c:Nat
def Sl.v (s:Sl):Value:=.slice s.a s.n s.c
structure OpV where
 dot:Dot
 deps:Sl
 kind:Int
 id:ID
 ref:ID
 text:ByteArray
 gone:Sl
 site:Int
def OpV.cells (x:OpV):List Value:=[.int .i64 x.dot.site,.int .i64 x.dot.seq,x.deps.v,.int .i64 x.kind,.int .i64 x.id.t,.int .i64 x.id.s,.int .i64 x.ref.t,.int .i64 x.ref.s,.string x.text,x.gone.v,.int .i64 x.site]
def opA (x:OpV):Array Value:=x.cells.toArray
theorem opA_size (x:OpV):(opA x).size=11:=rfl
theorem opA_one (x:OpV):(opA x).all (·.oneCell')=true:=by simp [opA,OpV.cells,Value.oneCell',Sl.v]
structure Ent where
 v:OpV
 D:List Dot
 G:List Run
def entE:Enc Ent:=⟨11,fun e=>e.v.cells,fun _=>rfl,by decide,fun e u hu=>by
 have h:=(Array.all_eq_true_iff_forall_mem.1 (opA_one e.v)) u (by simpa [opA] using hu)
 exact h⟩
structure Ent.At (w:World) (e:Ent):Prop where
 deps:SlAt dotE w e.v.deps.v e.D
 gone:SlAt runE w e.v.gone.v e.G
def Ent.can (V:List Dot) (d:Dot) (D:List Dot):Prop:=d.seq=getV V d.site+1∧coversV V D
instance (V:List Dot) (d:Dot) (D:List Dot):Decidable (Ent.can V d D):=by unfold Ent.can;infer_instance
theorem info_op:(Tryz.prog.info? 62).map (fun i=>(i.zero,i.size,i.bytes))=some (some (.agg #[.int .i64 0,.int .i64 0,.slice none 0 0,.int .i64 0,.int .i64 0,.int .i64 0,.int .i64 0,.int .i64 0,.string ByteArray.empty,.slice none 0 0,.int .i64 0]),11,128):=by kernel_rfl
end Go.Proofs.YtjohljmpcblpjaaGreatDoor
namespace Go.Proofs.YtjohljmpcblpjaaGreatDoor.Pa
open Go.RowKit Go.Proofs.YtjohljmpcblpjaaGreatDoor.St Go.Proofs.YtjohljmpcblpjaaGreatDoor
def dotV (d:Dot):Value:=.agg #[.int .i64 d.site,.int .i64 d.seq]
theorem eqIn_dot (x y:Dot) (w:World):(Op.equal 29 (dotV x) (dotV y)).run Tryz.prog w=.ok (decide (x=y)) w:=by
 have h:decide (x=y)=(x.site == y.site && x.seq == y.seq):=by
  rw [Bool.eq_iff_iff]
  simp [Dot.ext_iff]
 rw [h]
 obtain⟨a,b⟩:=x
 obtain⟨c,d⟩:=y
 show (Op.equalIn 10000 29 (.agg #[.int .i64 a,.int .i64 b]) (.agg #[.int .i64 c,.int .i64 d])).run Tryz.prog w=_
 go_simp
 by_cases h1:a=c
 ·by_cases h2:b=d
  ·simp [h1,h2]
  ·simp [h1,h2]
 ·simp [h1]
def keyD:KeyE Tryz.prog 29 Dot where
 enc:=dotV
 check:=fun _ _ _=>by kernel_rfl
 now:=fun k x d hd=>.inl (by
  have e:Tryz.prog.underlying 29=some d:=hd
  rw [Tryz.underlying29] at e
  cases e
  rfl)
 ask:=eqIn_dot
 bits:=fun k=>by simp [dotV,Instr.sameBits]
 und:=⟨_,Tryz.underlying29⟩
structure OpsM (w:World) (b:Nat) (kvs:List (Dot × Value)):Prop where
 map:MapR keyD w b kvs
 ops:∀p∈kvs,∃x:OpV,p.2=.agg (opA x)
theorem OpsM.keep {S:Nat→Prop}{w w':World}{b:Nat}{kvs:List (Dot × Value)}(h:OpsM w b kvs) (hk:Kept S w w') (hb:¬S b):OpsM w' b kvs:=⟨h.map.keep hk hb,h.ops⟩
theorem getK_mem {kvs:List (Dot × Value)}{k:Dot}{v:Value}(h:getK kvs k=some v):∃p∈kvs,p.1=k∧p.2=v:=by
 unfold getK at h
 cases hf:kvs.find? (fun x=>decide (x.1=k)) with
 | none=>rw [hf] at h;cases h
 | some p =>
  rw [hf] at h
  have h1:=List.find?_some hf
  exact⟨p,List.mem_of_find?_eq_some hf,of_decide_eq_true h1,by simpa using h⟩
theorem zero_op (w:World):(zeroValue 62).run Tryz.prog w=.ok (.agg (opA ⟨⟨0,0⟩,⟨none,0,0⟩,0,⟨0,0⟩,⟨0,0⟩,⟨#[]⟩,⟨none,0,0⟩,0⟩)) w:=by kernel_rfl
theorem OpsM.look {w:World}{b:Nat}{kvs:List (Dot × Value)}(h:OpsM w b kvs) (d:Dot):∃x:OpV,(Instr.lookup 91 (.map (some b)) (.agg #[.int .i64 d.site,.int .i64 d.seq]) true).run Tryz.prog w=.ok (.tuple #[.agg (opA x),.bool (decide (d∈kvs.map (·.1)))]) w∧(d∈kvs.map (·.1)→getK kvs d=some (.agg (opA x))):=by
 cases hg:getK kvs d with
 | none =>
  have hn:=getK_none.1 hg
  refine⟨⟨⟨0,0⟩,⟨none,0,0⟩,0,⟨0,0⟩,⟨0,0⟩,⟨#[]⟩,⟨none,0,0⟩,0⟩,?_,fun h=>absurd h hn⟩
  rw [decide_eq_false hn]
  exact run_lookupK_none_ok (K:=keyD) (k:=d) Tryz.underlying91 h.map.mapK hg (zero_op w)
 | some v =>
  obtain⟨p,hp,e1,e2⟩:=getK_mem hg
  obtain⟨x,hx⟩:=h.ops p hp
  have hm:d∈kvs.map (·.1):=by rw [←e1];exact List.mem_map_of_mem hp
  refine⟨x,?_,fun _=>by rw [←hx,e2]⟩
  rw [decide_eq_true hm]
  have:=run_lookupK_ok (K:=keyD) (k:=d) Tryz.underlying91 h.map.mapK hg
  rw [←e2,hx] at this
  exact this
theorem SlAt.dotc {w:World}{v:Value}{L:List Dot}(h:SlAt dotE w v L) (hn:0<L.length):∃g o c,v=.slice (some ⟨g,o,none⟩) L.length c∧∀(i:Nat) (x:Dot),L[i]?=some x→w.cell? ⟨g,o+i * 2,none⟩=some (.int .i64 x.site)∧w.cell? ⟨g,o+i * 2+1,none⟩=some (.int .i64 x.seq):=by
 obtain⟨g,o,c,rfl,_,_,_,hc⟩:=h.one hn
 exact⟨g,o,c,rfl,fun i x hx=>⟨hc i x hx 0 _ rfl,hc i x hx 1 _ rfl⟩⟩
def HasPost (K D:List Dot) (e:Ending):Prop:=∃r,e=.returned (.bool r)∧(r=true↔wholeP K D)
theorem has_any {w:World}{b:Nat}{kvs:List (Dot × Value)}{dv:Value}{D:List Dot}(hm:OpsM w b kvs) (hD:SlAt dotE w dv D) (hI:∀d∈D,I64 d.seq) (hl:D.length≤1000000000) :
  Calls Tryz.prog 63 #[.map (some b),dv] w fun e w'=>HasPost (kvs.map (·.1)) D e∧Kept (fun _=>False) w w':=by
 obtain⟨da,dc,rfl,_,_⟩:=hD.sl
 have HM:=Lib.hid hm
 have HD:=Lib.hid hD
 have HI:=Lib.hid hI
 clear hm hD hI
 go_enter Tryz.func63,Tryz.ntmps63
 go_wp2_with fail
 go_loopw [12] (fun iv wr=>∃n:Nat,iv=.int .i64 n∧n≤D.length∧Kept (fun _=>False) w wr∧wholeP (kvs.map (·.1)) (D.take n)) (fun iv _=>D.length-(intOf iv).toNat)
 case atStart=>exact⟨0,rfl,Nat.zero_le _,Kept.refl _ _,fun d hd=>by simp at hd⟩
 case round =>
  obtain⟨n,rfl,hn,hk,hw⟩:=hrel
  have hn0:(0:Int)≤n:=by omega
  have HW:=Lib.hid hw
  have HK:=Lib.hid hk
  clear hw hk
  by_cases hlt:n<D.length
  case neg =>
   have hnl:¬(n:Int)<D.length:=by omega
   have e9:D.take n=D:=List.take_of_length_le (by omega)
   have H9:Hid (wholeP (kvs.map (·.1)) D):=Lib.hid (by rw [←e9];exact HW.out)
   clear e9
   go_wp2_with fail
   go_ret
   exact⟨⟨true,rfl,fun _=>H9.out,fun _=>rfl⟩,HK.out⟩
  case pos =>
   have hnl:(n:Int)<D.length:=by omega
   obtain⟨d,hx⟩:=get_of_lt hlt
   have hdm:=List.mem_of_getElem? hx
   have hdI:=HI.out d hdm
   obtain⟨lg,lo,lc',e2,hcs⟩:=SlAt.dotc (HD.out.kept HK.out) (by omega)
   cases e2
   obtain⟨c0,c1⟩:=hcs n d hx
   have e1:IntKind.i64.wrap ((n:Int)+1)=(n:Int)+1:=IntWalk.i64_in _ (by omega)
   have TK:Hid (D.take (n+1)=D.take n++[d]):=Lib.hid (by rw [List.take_add_one,hx];rfl)
   have DM:=Lib.hid hdm
   have DI:=Lib.hid hdI
   clear hcs hx hdm hdI
   have hB:=Blk.new wr 29 #[.int .i64 d.site,.int .i64 d.seq]
   have hk1:Kept (fun _=>False) wr (wr.alloc (.cells #[.int .i64 d.site,.int .i64 d.seq] 29)):=(Kept.refl _ _).alloc _
   have HB:=Lib.hid hB
   have HK1:=Lib.hid (HK.out.trans hk1 fun _ _ h=>h)
   clear hB hk1
   go_upto_region 4 with fail
   obtain⟨z,hz⟩:∃z,wr.heap.size=z:=⟨_,rfl⟩
   obtain⟨W1,hW1⟩:∃W1,wr.alloc (.cells #[.int .i64 d.site,.int .i64 d.seq] 29)=W1:=⟨_,rfl⟩
   rw [hW1,hz] at HB
   rw [hW1] at HK1 ⊢
   rw [hz]
   have q1:=HB.out.cell' (i:=1) (v:=.int .i64 d.seq) rfl
   clear hz hW1 c0 c1
   go_wp2_with fail
   clear q1
   go_loopw [7] (fun sv w2=>∃s:Int,sv=.int .i64 s∧s≤d.seq∧Kept (fun _=>False) w w2∧Blk w2 z 29 #[.int .i64 d.site,.int .i64 d.seq]∧∀k:Int,s<k→1≤k→k≤d.seq→(⟨d.site,k⟩:Dot)∈kvs.map (·.1)) (fun sv _=>(intOf sv).toNat)
   case atStart=>exact⟨d.seq,rfl,Int.le_refl _,HK1.out,HB.out,fun k h1 _ h2=>by omega⟩
   case round =>
    clear HB HK1
    obtain⟨s,rfl,hs,hk2,hb2,hall⟩:=hrel
    have HK2:=Lib.hid hk2
    have HB2:=Lib.hid hb2
    have HA:=Lib.hid hall
    clear hk2 hb2 hall
    by_cases h0:0<s
    case neg =>
     go_wp2_with fail
     go_roundw
     case rel=>exact⟨n+1,by go_num,by omega,HK2.out,by
      rw [TK.out]
      intro d' hd' k h1 h2
      rcases List.mem_append.1 hd' with hd' | hd'
      ·exact HW.out d' hd' k h1 h2
      ·rw [List.mem_singleton.1 hd'] at h2 ⊢
       exact HA.out k (by omega) h1 h2⟩
     case measure=>simp [intOf];omega
    case pos =>
     have q0:=HB2.out.cell' (i:=0) (v:=.int .i64 d.site) rfl
     have es:IntKind.i64.wrap (s-1)=s-1:=IntWalk.i64_in _ (by have:=DI.out;unfold I64 at this;omega)
     obtain⟨x,hlk,_⟩:=(HM.out.keep HK2.out fun h=>h).look ⟨d.site,s⟩
     obtain⟨⟨xs,xq⟩,⟨xa,xn,xc⟩,xk,⟨xt,xi⟩,⟨xrt,xri⟩,xtx,⟨ga,gn,gc⟩,xsite⟩:=x
     by_cases hin:(⟨d.site,s⟩:Dot)∈kvs.map (·.1)
     case neg =>
      rw [decide_eq_false hin] at hlk
      have NI:Hid (¬wholeP (kvs.map (·.1)) D):=Lib.hid fun h9=>hin (h9 d DM.out s (by omega) hs)
      have hlk2:(Instr.lookup 91 (.map (some b)) (.agg #[.int .i64 d.site,.int .i64 s]) true).run Tryz.prog wr=.ok (.tuple #[.agg #[.int .i64 xs,.int .i64 xq,.slice xa xn xc,.int .i64 xk,.int .i64 xt,.int .i64 xi,.int .i64 xrt,.int .i64 xri,.string xtx,.slice ga gn gc,.int .i64 xsite],.bool false]) wr:=hlk
      clear hlk hin
      go_wp2_with fail
      go_ret
      exact⟨⟨false,rfl,(fun h=>by cases h),fun h=>absurd h NI.out⟩,HK2.out.alloc _⟩
     case pos =>
      rw [decide_eq_true hin] at hlk
      have IN:=Lib.hid hin
      have hlk2:(Instr.lookup 91 (.map (some b)) (.agg #[.int .i64 d.site,.int .i64 s]) true).run Tryz.prog wr=.ok (.tuple #[.agg #[.int .i64 xs,.int .i64 xq,.slice xa xn xc,.int .i64 xk,.int .i64 xt,.int .i64 xi,.int .i64 xrt,.int .i64 xri,.string xtx,.slice ga gn gc,.int .i64 xsite],.bool true]) wr:=hlk
      clear hlk hin
      go_wp2_with fail
      go_roundw
      case rel=>exact⟨s-1,by go_num,by omega,HK2.out.alloc _,(HB2.out.alloc _),fun k h1 h2 h3=>by
       by_cases hks:k=s
       ·rw [hks];exact IN.out
       ·exact HA.out k (by omega) h2 h3⟩
      case measure=>simp [intOf];omega
end Go.Proofs.YtjohljmpcblpjaaGreatDoor.Pa
