/- past.Members. The three operations that the law knows, plainly. The law's own row of operations. What the law knows: known() is true. -/
import Derived.Test.YtjohljmpcblpjaaGreatDoorM43
import Derived.Test.YtjohljmpcblpjaaGreatDoorM39
set_option maxRecDepth 100000
set_option maxHeartbeats 4000000
namespace Go.Proofs.YtjohljmpcblpjaaGreatDoor.Pa
open Go.RowKit Go.Proofs.YtjohljmpcblpjaaGreatDoor.St Go.Proofs.YtjohljmpcblpjaaGreatDoor Go.Proofs.YtjohljmpcblpjaaGreatDoor.Tr Go.Shelf
attribute [local go_sem] Oper.semAt_some
def stepM (s:BitVec 32 × BitVec 32) (e:Ent):BitVec 32 × BitVec 32 :=
 if e.v.kind=3 then (s.1 ||| BitVec.twoPow 32 e.v.site.toNat,s.2) else if e.v.kind=4 then (s.1,s.2 ||| BitVec.twoPow 32 e.v.dot.site.toNat) else s
noncomputable def memL (l:List Ent) (i:Nat):BitVec 32 × BitVec 32:=((rowL l).take i).foldl stepM (0#32,0#32)
noncomputable def memP (l:List Ent):BitVec 32 × BitVec 32:=(rowL l).foldl stepM (0#32,0#32)
theorem memL_all (l:List Ent):memL l (rowL l).length=memP l:=by unfold memL memP;rw [List.take_length]
theorem memL_next {l:List Ent}{i:Nat}{e:Ent}(h:(rowL l)[i]?=some e):memL l (i+1)=stepM (memL l i) e:=by
 unfold memL
 rw [List.take_add_one,h,List.foldl_append]
 rfl
theorem few_or {x:BitVec 32}(h:Few x){k:Nat}(hk:k≤16):Few (x ||| BitVec.twoPow 32 k):=fun i hi=>by
 rw [BitVec.getLsbD_or] at hi
 rcases Bool.or_eq_true_iff.1 hi with h1|h1
 ·exact h i h1
 ·rw [BitVec.getLsbD_twoPow] at h1
  simp at h1
  omega
theorem stepM_few {s:BitVec 32 × BitVec 32}(h:Few s.1){e:Ent}(ho:opOk e.v e.D e.G):Few (stepM s e).1:=by
 unfold stepM
 split
 ·rename_i h3
  obtain⟨_,_,_,hr⟩:=ho
  have hj:joinOk e.v:=by
   rcases hr with ⟨h4,_⟩|⟨h4,_⟩|⟨_,h4⟩|⟨h4,_⟩
   ·omega
   ·omega
   ·exact h4
   ·omega
  obtain⟨_,_,_,_,_,_,j1,j2⟩:=hj
  exact few_or h (by omega)
 ·split
  ·exact h
  ·exact h
theorem foldM_few:∀(R:List Ent) (s:BitVec 32 × BitVec 32),Few s.1→(∀e∈R,opOk e.v e.D e.G)→Few (R.foldl stepM s).1
 | [],_,h,_=>h
 | e::R,s,h,ho=>foldM_few R (stepM s e) (stepM_few h (ho e List.mem_cons_self)) fun x hx=>ho x (List.mem_cons_of_mem _ hx)
theorem memP_few {l:List Ent}(ho:∀e∈l,opOk e.v e.D e.G):Few ((memP l).1 &&& ~~~(memP l).2):=fun i hi=>by
 rw [BitVec.getLsbD_and] at hi
 exact foldM_few (rowL l) (0#32,0#32) (fun i hi=>by simp at hi) (fun e he=>ho e (rowL_sub e he)) i (Bool.and_eq_true_iff.1 hi).1
noncomputable def memS (l:List Ent):List Int:=if closedE l=0 then intsL (bitsL ((memP l).1 &&& ~~~(memP l).2)) else []
structure MemJ (w:World) (B tb mb rx g:Nat) (l:List Ent) (i:Nat) (X:Nat→Prop) (W:World):Prop where
 tc:W.cell? ⟨tb,0,none⟩=some (.map (some mb))
 ops:OpsM W mb (kvsOf l)
 rxb:Blk W rx 111 #[.pointer (some ⟨g,0,none⟩)]
 roll:∃ep:Int,Blk W g 167 #[u32V (memL l i).1,u32V (memL l i).2,.int .i64 ep]
 kept:Kept (fun _=>False) w W
 xs:∀b,X b→B+2≤b∧b<W.heap.size
 sz:B+2≤W.heap.size
structure MemA (w:World) (B tb mb rx g:Nat):Prop where
 ag:w.heap.size≤g∧g<B
 atb:tb<B∧tb≠g
 amb:mb<B∧mb≠g
 arx:rx<B∧rx≠g
section
variable {w W W':World} {B tb mb rx g i:Nat} {l:List Ent} {X Y:Nat→Prop}
theorem MemJ.far (h:MemJ w B tb mb rx g l i X W) (ha:MemA w B tb mb rx g) (hk:Kept Y W W') (hY:∀b,Y b→X b∨b=B∨b=B+1) :
  MemJ w B tb mb rx g l i X W'∧MemJ w B tb mb rx g l i (fun b=>X b∨(W.heap.size≤b∧b<W'.heap.size)) W':=by
 have hB:∀b,Y b→B≤b:=fun b hb=>by
  rcases hY b hb with h1|h1|h1
  ·have:=(h.xs b h1).1;omega
  ·omega
  ·omega
 have hn:∀b,b<B→¬Y b:=fun b hb hy=>by have:=hB b hy;omega
 have hz:=hk.size
 have kw:Kept (fun _=>False) w W':=h.kept.trans hk fun b hb hy=>by have:=hB b hy;have:=ha.ag;omega
 have hr:∃ep:Int,Blk W' g 167 #[u32V (memL l i).1,u32V (memL l i).2,.int .i64 ep]:=h.roll.imp fun _ hb=>hk.blk (hn _ ha.ag.2) hb
 refine⟨⟨cell_at hk h.tc (hn _ ha.atb.1),h.ops.keep hk (hn _ ha.amb.1),hk.blk (hn _ ha.arx.1) h.rxb,hr,kw,fun b hb=>?_,by have:=h.sz;omega⟩,
  ⟨cell_at hk h.tc (hn _ ha.atb.1),h.ops.keep hk (hn _ ha.amb.1),hk.blk (hn _ ha.arx.1) h.rxb,hr,kw,fun b hb=>?_,by have:=h.sz;omega⟩⟩
 ·have:=h.xs b hb
  exact⟨this.1,by omega⟩
 ·rcases hb with hb | hb
  ·have:=h.xs b hb
   exact⟨this.1,by omega⟩
  ·have:=h.sz
   exact⟨by omega,hb.2⟩
theorem MemJ.turn (h:MemJ w B tb mb rx g l i X W) (ha:MemA w B tb mb rx g) (hk:Kept (·=g) W W') (hr:∃ep:Int,Blk W' g 167 #[u32V (memL l (i+1)).1,u32V (memL l (i+1)).2,.int .i64 ep]) :
  MemJ w B tb mb rx g l (i+1) X W'∧(∀x,X x∨x=B∨x=B+1→W'.heap[x]?=W.heap[x]?)∧W.heap.size≤W'.heap.size:=by
 have hz:=hk.size
 have hg:=ha.ag
 refine⟨⟨cell_at hk h.tc ha.atb.2,h.ops.keep hk ha.amb.2,hk.blk ha.arx.2 h.rxb,hr,h.kept.trans hk fun b hb hy=>by omega,fun b hb=>?_,by have:=h.sz;omega⟩,fun x hx=>hk.block x ?_ fun hy=>?_,hz⟩
 ·have:=h.xs b hb
  exact⟨this.1,by omega⟩
 ·have:=h.sz
  rcases hx with hx|rfl|rfl
  ·exact (h.xs x hx).2
  ·omega
  ·omega
 ·rcases hx with hx | rfl | rfl
  ·have:=(h.xs x hx).1;omega
  ·omega
  ·omega
end
theorem rnew_any (w:World):Calls Tryz.prog 58 #[] w fun e w'=>e=.returned (.pointer (some ⟨w.heap.size,0,none⟩))∧w'=w.alloc (.cells #[u32V 0#32,u32V 0#32,.int .i64 0] 167):=by
 go_enter Tryz.func58,Tryz.ntmps58
 go_wp2
 go_ret
 exact⟨rfl,rfl⟩
theorem slAt_put {α:Type}{E:Enc α}{w:World}{v:Value}{L:List α}{B:Nat}{o:Obj}(h:SlAt E w v L) (hB:w.heap[B]?=some (.deferred (some []))):SlAt E (w.putObj B o) v L:=by
 rcases h with h|⟨x,c,rfl,h1,h2,h3,h4⟩
 ·exact .inl h
 ·refine .inr ⟨x,c,rfl,h1,h2,h3,fun i y hy j u hu=>?_⟩
  have hc:=h4 i y hy j u hu
  have hlt:x.block<w.heap.size:=World.block_lt_of_cell? w ⟨x.block,x.off+(i * E.k+j),none⟩ hc
  refine (World.cell?_of_block (a:=⟨x.block,x.off+(i * E.k+j),none⟩) ((kept_put w B o).block x.block hlt fun e=>?_)).trans hc
  subst e
  unfold World.cell? at hc
  rw [hB] at hc
  simp at hc
def MemPost (w:World) (l:List Ent) (e:Ending) (w':World):Prop :=
 (∃v,e=.returned (.tuple #[v,.int .i64 (closedE l)])∧SlAt intE w' v (memS l))∧Kept (fun _=>False) w w'
theorem members_past {w:World}(hTab:TabAt w){lv:Value}{l:List Ent}(hl:SlAt entE w lv l) (hin:∀e∈l,OpIn w e) (hlen:l.length≤1000000) (hdl:∀e∈l,e.D.length≤1000000∧e.G.length≤1000000) :
  Calls Tryz.prog 22 #[lv] w (MemPost w l):=by
 refine (callsIn_wide (n:=6)).1 ?_
 have SET:=Lib.hid (set_any hl hin hlen hdl)
 have HIN:=Lib.hid hin
 have HTAB:=Lib.hid hTab
 clear hl hin hTab
 refine callsIn_of_wp_marks Tryz.func22 rfl trivial ?_ rfl
 simp only [Tryz.ntmps22,List.size_toArray,List.length_cons,List.length_nil,Nat.reduceAdd,Nat.reduceSub,Array.replicate_succ,Array.replicate_zero,List.push_toArray,List.append_toArray,List.nil_append,List.cons_append]
 by_cases hc:closedE l=0
 case neg =>
  have hcn:Hid (closedE l≠0):=Lib.hid hc
  have SET2:Hid (Calls Tryz.prog 42 #[lv] w fun e w'=>e=.returned (.tuple #[.map none,.int .i64 (closedE l)])∧Kept (fun _=>False) w w'):=Lib.hid (SET.out.mono fun e w' ⟨h1,h2⟩=>⟨h1.elim (fun h=>h.2) (fun h=>absurd h.1 hc),h2⟩)
  have hms:memS l=[]:=by unfold memS;rw [if_neg hc]
  clear SET hdl
  gi_wp2_with (refine⟨trivial,?_⟩;gi_at_call 42;refine (callsIn_wide.2 SET2.out).mono ?_;rintro e w1 ⟨rfl,hk1⟩)
  exact⟨.tuple #[.slice none 0 0,.int .i64 (closedE l)],by simp [results,Tryz.results22,go_sem],⟨_,rfl,by rw [hms];exact .inl ⟨rfl,rfl⟩⟩,hk1⟩
 case pos =>
  have SET2:Hid (Calls Tryz.prog 42 #[lv] w fun e w'=>(∃b,e=.returned (.tuple #[.map (some b),.int .i64 0])∧w.heap.size≤b∧OpsM w' b (kvsOf l))∧Kept (fun _=>False) w w'):=Lib.hid (SET.out.mono fun e w' ⟨h1,h2⟩=>⟨h1.elim (fun h=>absurd hc h.1) (fun h=>h.2),h2⟩)
  have HC:=Lib.hid hc
  clear SET hc
  gi_upto_region 5 with (first
   | (refine⟨trivial,?_⟩;gi_at_call 42;refine (callsIn_wide.2 SET2.out).mono ?_;rintro e w1 ⟨⟨mb,rfl,hmb,hom⟩,hk1⟩)
   | (refine⟨trivial,?_⟩;gi_at_call 58;refine (callsIn_wide.2 (rnew_any _)).mono ?_;rintro e w2 ⟨rfl,hw2⟩))
  subst hw2
  have hmbl:=hom.map.mapK.lt
  obtain⟨s1,hs1⟩:∃s1,w1.heap.size=s1:=⟨_,rfl⟩
  have kt:Kept (fun _=>False) w1 ((w1.alloc (.cells #[u32V 0#32,u32V 0#32,.int .i64 0] 167)).alloc (.cells #[.pointer (some ⟨w1.heap.size,0,none⟩)] 111)):=((Kept.refl _ _).alloc _).alloc _
  have hT3:Blk ((w1.alloc (.cells #[u32V 0#32,u32V 0#32,.int .i64 0] 167)).alloc (.cells #[.pointer (some ⟨w1.heap.size,0,none⟩)] 111)) w1.heap.size 167 #[u32V 0#32,u32V 0#32,.int .i64 0]:=((Kept.refl (fun _=>False) _).alloc (.cells #[.pointer (some ⟨w1.heap.size,0,none⟩)] 111)).blk (fun h=>h) (Blk.new w1 167 _)
  have hX3:Blk ((w1.alloc (.cells #[u32V 0#32,u32V 0#32,.int .i64 0] 167)).alloc (.cells #[.pointer (some ⟨w1.heap.size,0,none⟩)] 111)) (w1.heap.size+1) 111 #[.pointer (some ⟨w1.heap.size,0,none⟩)]:=by have h9:=Blk.new (w1.alloc (.cells #[u32V 0#32,u32V 0#32,.int .i64 0] 167)) 111 #[.pointer (some ⟨w1.heap.size,0,none⟩)];simp only [World.size_alloc] at h9;exact h9
  have hs3:((w1.alloc (.cells #[u32V 0#32,u32V 0#32,.int .i64 0] 167)).alloc (.cells #[.pointer (some ⟨w1.heap.size,0,none⟩)] 111)).heap.size=w1.heap.size+2:=by simp
  obtain⟨W3,hW3⟩:∃W3,(w1.alloc (.cells #[u32V 0#32,u32V 0#32,.int .i64 0] 167)).alloc (.cells #[.pointer (some ⟨w1.heap.size,0,none⟩)] 111)=W3:=⟨_,rfl⟩
  rw [hW3] at kt hT3 hX3 hs3 ⊢
  rw [hs1] at hT3 hX3 hs3 ⊢
  have KT:=Lib.hid kt
  have HT3:=Lib.hid hT3
  have HX3:=Lib.hid hX3
  have HS:=Lib.hid (And.intro hs1 hs3)
  have HOM:=Lib.hid hom
  have HMB:=Lib.hid (And.intro hmb hmbl)
  have HK1:=Lib.hid hk1
  clear kt hT3 hX3 hW3 hs1 hs3 hom hmb hmbl hk1
  gi_wp2_with (refine⟨trivial,?_⟩;gi_at_call 59;refine (callsIn_wide.2 (row_any mb _)).mono ?_;rintro e w8 ⟨rfl,hw8⟩)
  subst hw8
  have k8:Kept (fun _=>False) W3 (W3.alloc (.cells #[.map (some mb)] 91)):=(Kept.refl _ _).alloc _
  have b8:=Blk.new W3 91 #[.map (some mb)]
  have hs8:(W3.alloc (.cells #[.map (some mb)] 91)).heap.size=s1+3:=by have:=HS.out.2;simp;omega
  have hs7:=HS.out.2
  obtain⟨W8,hW8⟩:∃W8,W3.alloc (.cells #[.map (some mb)] 91)=W8:=⟨_,rfl⟩
  rw [hW8] at k8 b8 hs8 ⊢
  rw [hs7] at b8 ⊢
  clear hW8 hs7
  obtain⟨hcl,hok,hwh⟩:=closed_is HC.out
  have hw1:w.heap.size≤s1:=by have h1:=HK1.out.size;have h2:=HS.out.1;omega
  have kw8:Kept (fun _=>False) w W8:=(HK1.out.trans KT.out (fun _ _ h=>h)).trans k8 (fun _ _ h=>h)
  have k18:Kept (fun _=>False) w1 W8:=KT.out.trans k8 (fun _ _ h=>h)
  have hmb1:mb<s1:=by have:=HMB.out.2;have:=HS.out.1;omega
  have HA:MemA w (s1+3) (s1+2) mb (s1+1) s1:=⟨⟨hw1,by omega⟩,⟨by omega,by omega⟩,⟨by omega,by omega⟩,⟨by omega,by omega⟩⟩
  have J8:∀o1 o2,MemJ w (s1+3) (s1+2) mb (s1+1) s1 l 0 (fun _=>False) ((W8.alloc o1).alloc o2):=fun o1 o2=>by
   have k9:Kept (fun _=>False) W8 ((W8.alloc o1).alloc o2):=((Kept.refl _ _).alloc _).alloc _
   have k39:=k8.trans k9 (fun _ _ h=>h)
   have hs9:((W8.alloc o1).alloc o2).heap.size=s1+5:=by simp;omega
   exact { tc:=(k9.blk (fun h=>h) b8).cell' rfl,ops:=HOM.out.keep (k18.trans k9 (fun _ _ h=>h)) (fun h=>h),rxb:=k39.blk (fun h=>h) HX3.out,roll:=⟨0,k39.blk (fun h=>h) HT3.out⟩,kept:=kw8.trans k9 (fun _ _ h=>h),xs:=fun _ h=>h.elim,sz:=by omega }
  have HJ8:=Lib.hid J8
  have HCL:=Lib.hid hcl
  have HOK:=Lib.hid hok
  have HHA:=Lib.hid HA
  have HHS:=Lib.hid hs8
  clear J8 hcl HA hok hwh k8 b8 kw8 k18 hmb1 hw1 hs8 SET2
  refine wpIn_iterA rfl (by decide) (gf:=101) (lb:=#[.pointer (some ⟨s1+2,0,none⟩)]) rfl trivial (enters_of Tryz.func101 (by kernel_rfl) rfl) (row1_iter (tb:=s1+2) (mb:=mb) HCL.out (fun e he=>by have:=(hdl e he).1;omega) (by decide)) (fun _ _=>rfl) (s1+3) HHS.out (MemJ w (s1+3) (s1+2) mb (s1+1) s1 l) (fun _ _ _=>False) ?hrd ?hgr ?hgx ?hob ?hox HJ8.out ?hxl ?hround ?hdone ?hstop
  case hrd=>exact fun i X W hJ=>⟨hJ.tc,hJ.ops,fun e he=>((HIN.out e he).at_.deps).kept hJ.kept⟩
  case hgr=>exact fun i X W W' hJ hk=>(hJ.far HHA.out hk fun _ h=>.inl h).2
  case hgx=>exact fun c X W W' h _=>h
  case hob=>exact fun i X W o' hJ=>(hJ.far HHA.out (kept_put W (s1+3+1) o') fun b h=>.inr (.inr h)).1
  case hox=>exact fun c X W o' h=>h
  case hxl=>exact fun i X W hJ x hx=>(hJ.xs x hx).2
  case hdone =>
   intro X W hJ hK
   obtain⟨ep,hT⟩:=hJ.roll
   rw [memL_all] at hT
   have t6:W.cell? ⟨s1+1,0,none⟩=some (.pointer (some ⟨s1,0,none⟩)):=hJ.rxb.cell' (i:=0) rfl
   have kp:=fun W':World=>kept_put W' (s1+3) (.deferred none)
   have hsz:=hJ.sz
   have hms:memS l=intsL (bitsL ((memP l).1 &&& ~~~(memP l).2)):=by unfold memS;rw [if_pos HC.out]
   have MM:=Lib.hid (rmembers_any (HTAB.out.kept hJ.kept) hT (memP_few HOK.out))
   have HK:=Lib.hid hJ.kept
   have KP:=Lib.hid kp
   have HMS:=Lib.hid hms
   have HKB:=Lib.hid hK
   clear hT hJ kp hsz hms hK
   gi_wp2_with (refine⟨trivial,?_⟩;gi_at_call 62;refine (callsIn_wide.2 MM.out).mono ?_;rintro e w9 ⟨⟨v,rfl,hs⟩,hk9⟩)
   have hB9:w9.heap[s1+3]?=some (.deferred (some [])):=by rw [hk9.block (s1+3) (Array.getElem?_eq_some_iff.1 HKB.out).1 (fun h=>h)];exact HKB.out
   have k9:=KP.out w9
   have FIN:Hid (MemPost w l (.returned (.tuple #[v,.int .i64 0])) (w9.putObj (s1+3) (.deferred none))):=Lib.hid ⟨⟨v,by rw [HC.out],by rw [HMS.out];exact slAt_put hs hB9⟩,(HK.out.trans hk9 fun _ _ h=>h).trans k9 (fun i hi h=>by have:=HHA.out.ag;omega)⟩
   clear hs hk9 k9
   exact ret_range hB9 (by simp [results,Tryz.results22,go_sem]) FIN.out
  case hstop=>exact fun c X W h _=>h.elim
  case hround =>
   intro i X W hi hsz hJ
   obtain⟨e,he⟩:∃e,(rowL l)[i]?=some e:=⟨_,List.getElem?_eq_getElem hi⟩
   rw [rowEnc_some he]
   have ZB:=Lib.hid (Blk.new W 62 #[.int .i64 0,.int .i64 0,.slice none 0 0,.int .i64 0,.int .i64 0,.int .i64 0,.int .i64 0,.int .i64 0,.string ⟨#[]⟩,.slice none 0 0,.int .i64 0])
   have HE:=Lib.hid he
   have HJ:=Lib.hid hJ
   have HSZ:=Lib.hid hsz
   clear he hJ hsz
   gi_wp2_with (refine wpListIn_store_blk (by rfl) 62 _ _ rfl rfl rfl ZB.out (by rw [opA_size];exact size_op) (by rw [opA_size];rfl) (opA_one _) ?_)
   have K1:Kept (fun _=>False) W ((W.alloc (.cells #[.int .i64 0,.int .i64 0,.slice none 0 0,.int .i64 0,.int .i64 0,.int .i64 0,.int .i64 0,.int .i64 0,.string ⟨#[]⟩,.slice none 0 0,.int .i64 0] 62)).setRow W.heap.size (opA e.v)):=((Kept.refl (fun _=>False) W).alloc _).setRow (g:=W.heap.size) (fun h9=>by omega) _
   have B1:Blk ((W.alloc (.cells #[.int .i64 0,.int .i64 0,.slice none 0 0,.int .i64 0,.int .i64 0,.int .i64 0,.int .i64 0,.int .i64 0,.string ⟨#[]⟩,.slice none 0 0,.int .i64 0] 62)).setRow W.heap.size (opA e.v)) W.heap.size 62 (opA e.v):=ZB.out.row _
   refine⟨K1,fun o'=>?_⟩
   have kp:=kept_put ((W.alloc (.cells #[.int .i64 0,.int .i64 0,.slice none 0 0,.int .i64 0,.int .i64 0,.int .i64 0,.int .i64 0,.int .i64 0,.string ⟨#[]⟩,.slice none 0 0,.int .i64 0] 62)).setRow W.heap.size (opA e.v)) (s1+3+1) o'
   have J2:=((HJ.out.far HHA.out K1 fun _ h=>h.elim).1.far HHA.out kp fun b h=>.inr (.inr h)).1
   have B2:=kp.blk (by have:=HSZ.out;omega) B1
   obtain⟨ob,hob⟩:∃ob,W.heap.size=ob:=⟨_,rfl⟩
   rw [hob] at kp J2 B2 ⊢
   obtain⟨W2,hW2⟩:∃W2,((W.alloc (.cells #[.int .i64 0,.int .i64 0,.slice none 0 0,.int .i64 0,.int .i64 0,.int .i64 0,.int .i64 0,.int .i64 0,.string ⟨#[]⟩,.slice none 0 0,.int .i64 0] 62)).setRow ob (opA e.v)).putObj (s1+3+1) o'=W2:=⟨_,rfl⟩
   rw [hW2] at J2 B2 ⊢
   have hei:=rowL_sub e (List.mem_of_getElem? HE.out)
   have OK:=HOK.out e hei
   have x2:W2.cell? ⟨s1+1,0,none⟩=some (.pointer (some ⟨s1,0,none⟩)):=J2.rxb.cell' (i:=0) rfl
   obtain⟨kd,hkd⟩:∃kd,e.v.kind=kd:=⟨_,rfl⟩
   obtain⟨st,hst⟩:∃st,e.v.site=st:=⟨_,rfl⟩
   obtain⟨ds,hds⟩:∃ds,e.v.dot.site=ds:=⟨_,rfl⟩
   have c3:W2.cell? ⟨ob,3,none⟩=some (.int .i64 kd):=by rw [←hkd];exact B2.cell' (i:=3) rfl
   have c10:W2.cell? ⟨ob,10,none⟩=some (.int .i64 st):=by rw [←hst];exact B2.cell' (i:=10) rfl
   have c0:W2.cell? ⟨ob,0,none⟩=some (.int .i64 ds):=by rw [←hds];exact B2.cell' (i:=0) rfl
   have f0:=J2.rxb.frozen 0
   have fk:=B2.frozen 3
   have HJ2:=Lib.hid J2
   have HOK2:=Lib.hid OK
   have HSTEP:=Lib.hid ((memL_next HE.out).trans (show stepM (memL l i) e=if kd=3 then ((memL l i).1 ||| BitVec.twoPow 32 st.toNat,(memL l i).2) else if kd=4 then ((memL l i).1,(memL l i).2 ||| BitVec.twoPow 32 ds.toNat) else memL l i by unfold stepM;rw [hkd,hst,hds]))
   have HKS:=Lib.hid (And.intro hkd (And.intro hst hds))
   clear K1 B1 kp J2 B2 hob hW2 hei hkd hst hds ZB OK
   by_cases h1:kd=3
   case pos =>
    subst h1
    have hs:1≤st∧st≤16:=by
     have hj:joinOk e.v:=by
      have hk:=HKS.out.1
      rcases HOK2.out.2.2.2 with ⟨h4,_⟩|⟨h4,_⟩|⟨_,h4⟩|⟨h4,_⟩
      ·omega
      ·omega
      ·exact h4
      ·omega
     obtain⟨_,_,_,_,_,_,j1,j2⟩:=hj
     have:=HKS.out.2.1
     omega
    obtain⟨ep,hR⟩:=HJ2.out.roll
    have RJ:=Lib.hid (rjoin_any hR hs.1 hs.2)
    have HSTEP2:Hid (memL l (i+1)=((memL l i).1 ||| BitVec.twoPow 32 st.toNat,(memL l i).2)):=Lib.hid (by rw [HSTEP.out,if_pos rfl])
    clear hR hs
    gi_wp2_with (refine⟨trivial,?_⟩;gi_at_call 60;refine (CallsIn.inRound _ (callsIn_wide.2 RJ.out)).mono ?_;rintro e9 W3 ⟨⟨u,rfl⟩,hT3,hk3⟩)
    obtain⟨j1,j2,j3⟩:=HJ2.out.turn HHA.out hk3 (by rw [HSTEP2.out];exact hT3)
    exact⟨j2,j3,j1⟩
   case neg =>
    by_cases h2:kd=4
    case pos =>
     subst h2
     have hs:1≤ds∧ds≤16:=by
      have h9:=HOK2.out.1
      unfold Dot.Ok at h9
      have:=HKS.out.2.2
      omega
     obtain⟨ep,hR⟩:=HJ2.out.roll
     have RJ:=Lib.hid (rleave_any hR hs.1 hs.2)
     have HSTEP2:Hid (memL l (i+1)=((memL l i).1,(memL l i).2 ||| BitVec.twoPow 32 ds.toNat)):=Lib.hid (by rw [HSTEP.out,if_neg (by decide),if_pos rfl])
     clear hR hs
     gi_wp2_with (refine⟨trivial,?_⟩;gi_at_call 61;refine (CallsIn.inRound _ (callsIn_wide.2 RJ.out)).mono ?_;rintro e9 W3 ⟨⟨u,rfl⟩,hT3,hk3⟩)
     obtain⟨j1,j2,j3⟩:=HJ2.out.turn HHA.out hk3 (by rw [HSTEP2.out];exact hT3)
     exact⟨j2,j3,j1⟩
    case neg =>
     obtain⟨ep,hR⟩:=HJ2.out.roll
     have FIN:=Lib.hid (HJ2.out.turn HHA.out (Kept.refl (·=s1) W2) ⟨ep,by rw [HSTEP.out,if_neg h1,if_neg h2];exact hR⟩)
     clear hR
     gi_wp2
     exact⟨fun _ _=>rfl,Nat.le_refl _,FIN.out.1⟩
end Go.Proofs.YtjohljmpcblpjaaGreatDoor.Pa
namespace Go.Proofs.YtjohljmpcblpjaaGreatDoor.Pa
open Go.RowKit Go.Proofs.YtjohljmpcblpjaaGreatDoor.St Go.Proofs.YtjohljmpcblpjaaGreatDoor Go.Proofs.YtjohljmpcblpjaaGreatDoor.Tr
def kE1 (a g:Option Addr):Ent:=⟨⟨⟨1,3⟩,⟨a,1,1⟩,2,⟨0,0⟩,⟨0,0⟩,⟨#[]⟩,⟨g,1,1⟩,0⟩,[⟨1,2⟩],[⟨⟨1,1⟩,1⟩]⟩
def kE2 (a:Option Addr):Ent:=⟨⟨⟨1,2⟩,⟨a,1,1⟩,1,⟨1,1⟩,⟨0,0⟩,⟨#[97,98]⟩,⟨none,0,0⟩,0⟩,[⟨1,1⟩],[]⟩
def kE3:Ent:=⟨⟨⟨1,1⟩,⟨none,0,0⟩,3,⟨0,0⟩,⟨0,0⟩,⟨#[]⟩,⟨none,0,0⟩,1⟩,[],[]⟩
def kL (a g b:Option Addr):List Ent:=[kE1 a g,kE2 b,kE3]
theorem kgood:St.Good [⟨⟨1,1⟩,1⟩]:=fun n x h=>by
 cases n with
 | zero =>
  simp only [List.getElem?_cons_zero,Option.some.injEq] at h
  subst h
  show why [] ⟨⟨1,1⟩,1⟩=0
  unfold why
  rw [if_neg (by decide),if_neg (fun⟨p,h,_⟩=>by simp at h),if_neg (fun⟨p,h,_⟩=>by simp at h)]
 | succ n=>simp at h
variable (a g b:Option Addr)
theorem kok1:opOk (kE1 a g).v (kE1 a g).D (kE1 a g).G:=⟨by show Dot.Ok ⟨1,3⟩;decide,by show chkV 0 [⟨1,2⟩]=0;decide,by show getV [⟨1,2⟩] 1=3-1;decide,.inr (.inl ⟨rfl,⟨rfl,rfl,rfl,rfl,rfl,rfl⟩,by show 0<1;decide,by show 1≤1024;decide,kgood⟩)⟩
theorem kok2:opOk (kE2 b).v (kE2 b).D (kE2 b).G:=⟨by show Dot.Ok ⟨1,2⟩;decide,by show chkV 0 [⟨1,1⟩]=0;decide,by show getV [⟨1,1⟩] 1=2-1;decide,.inl ⟨rfl,rfl,rfl,by show 0<Gl.countR ⟨#[97,98]⟩;decide +kernel,by show Gl.countR ⟨#[97,98]⟩≤1024;decide +kernel,by show Gl.badFrom ⟨#[97,98]⟩ 0<0;decide +kernel,rfl,by show (⟨1,1⟩:ID).after ((Gl.countR ⟨#[97,98]⟩:Int) - 1)≠⟨0,0⟩;decide +kernel,.inl rfl,by show (0:Int)<1;decide⟩⟩
theorem kok3:opOk kE3.v kE3.D kE3.G:=⟨by decide,by decide,by decide,.inr (.inr (.inl ⟨rfl,rfl,rfl,rfl,rfl,rfl,rfl,by decide,by decide⟩))⟩
theorem kwhole {K D:List Dot}{n:Int}(hD:D=[⟨1,n⟩]) (hK:∀k:Int,1≤k→k≤n→(⟨1,k⟩:Dot)∈K):wholeP K D:=fun d hd k h1 h2=>by
 subst hD
 obtain rfl:=List.mem_singleton.1 hd
 exact hK k h1 h2
theorem kk1 {n:Int}(h:¬(2:Int)=n):¬(kE1 a g).v.kind=n:=h
theorem kk2 {n:Int}(h:¬(1:Int)=n):¬(kE2 b).v.kind=n:=h
theorem kdots:(kL a g b).map dotOf=[⟨1,3⟩,⟨1,2⟩,⟨1,1⟩]:=rfl
theorem kmem {k n:Int}(h1:1≤k) (h2:k≤n) (h3:n≤3):(⟨1,k⟩:Dot)∈([⟨1,3⟩,⟨1,2⟩,⟨1,1⟩]:List Dot):=by
 have : k=1∨k=2∨k=3:=by omega
 rcases this with rfl|rfl|rfl <;> simp
theorem kbad:∀e∈kL a g b,¬badE e:=fun e he h=>by
 simp only [kL,List.mem_cons,List.not_mem_nil,or_false] at he
 rcases he with rfl|rfl|rfl
 ·exact h (kok1 a g)
 ·exact h (kok2 b)
 ·exact h kok3
theorem kclosed:closedE (kL a g b)=0:=closedC_is (kbad a g b) (by rw [kdots];decide) fun e he=>by
 rw [kdots]
 simp only [kL,List.mem_cons,List.not_mem_nil,or_false] at he
 rcases he with rfl|rfl|rfl
 ·exact kwhole (n:=2) rfl fun k h1 h2=>kmem h1 h2 (by decide)
 ·exact kwhole (n:=1) rfl fun k h1 h2=>kmem h1 h2 (by decide)
 ·exact fun d hd=>absurd hd (by simp [depOf,kE3])
theorem kopen:closedE [kE1 a g]=20:=by
 unfold closedE closedC
 rw [if_neg (fun⟨e,he,hb⟩=>by obtain rfl:=List.mem_singleton.1 he;exact hb (kok1 a g)),if_neg (fun h=>h (by simp)),if_pos]
 refine⟨kE1 a g,by simp,fun h=>?_⟩
 have:=h ⟨1,2⟩ (by simp [depOf,kE1]) 1 (by decide) (by decide)
 revert this
 simp [dotOf,kE1]
theorem krow:rowL (kL a g b)=[kE3,kE2 b,kE1 a g]:=by kernel_rfl
def kD1:List Nd:=[kn 1 1 0 0 97 1,kn 2 1 1 1 98 1]
def kD2:List Nd:=[kn 1 1 0 0 97 2,kn 2 1 1 1 98 1]
def kD3:List Nd:=[kn 1 1 0 0 97 3,kn 2 1 1 1 98 1]
theorem runes_ab:runesL ⟨#[97,98]⟩ 0=[97,98]:=by decide +kernel
theorem kins:insL [] ⟨1,1⟩ ⟨0,0⟩ (ByteArray.mk #[97,98]).size (badB ⟨#[97,98]⟩) (runesL ⟨#[97,98]⟩ 0)=kD1:=by
 have h:insE [] ⟨1,1⟩ ⟨0,0⟩ (ByteArray.mk #[97,98]).size (badB ⟨#[97,98]⟩) (runesL ⟨#[97,98]⟩ 0)=0:=insE_is0 (by decide) (by decide +kernel) (by rw [runes_ab];decide) (by decide) (.inl rfl) (by rw [runes_ab];decide +kernel)
 unfold insL
 rw [if_neg (fun hh=>hh h),runes_ab]
 decide +kernel
theorem kdoc:docP (kL a g b)=kD2:=by
 unfold docP
 have e1:stepD [] kE3=[]:=by unfold stepD;rw [if_neg (by decide),if_neg (by decide)]
 have e2:stepD [] (kE2 b)=kD1:=by unfold stepD;rw [if_pos (show (kE2 b).v.kind=1 from rfl)];exact kins
 have e3:stepD kD1 (kE1 a g)=kD2:=by unfold stepD;rw [if_neg (kk1 a g (n:=1) (by decide)),if_pos (show (kE1 a g).v.kind=2 from rfl)];show kD1.map (turnF [⟨⟨1,1⟩,1⟩] 1 2)=kD2;decide +kernel
 rw [krow,List.foldl_cons,List.foldl_cons,List.foldl_cons,List.foldl_nil,e1,e2,e3]
theorem kdocS:docS (kL a g b)=kD2:=by unfold docS;rw [if_pos (kclosed a g b),kdoc]
theorem ktext:textB (shL kD2)=[98]:=by decide +kernel
theorem kmemS:memS (kL a g b)=[1]:=by
 unfold memS memP
 rw [if_pos (kclosed a g b),krow]
 show intsL (bitsL ((stepM (stepM (stepM (0#32,0#32) kE3) (kE2 b)) (kE1 a g)).1 &&& ~~~(stepM (stepM (stepM (0#32,0#32) kE3) (kE2 b)) (kE1 a g)).2))=[1]
 have e1:stepM (0#32,0#32) kE3=(2#32,0#32):=by decide
 have e2:stepM (2#32,0#32) (kE2 b)=(2#32,0#32):=by unfold stepM;rw [if_neg (kk2 b (n:=3) (by decide)),if_neg (kk2 b (n:=4) (by decide))]
 have e3:stepM (2#32,0#32) (kE1 a g)=(2#32,0#32):=by unfold stepM;rw [if_neg (kk1 a g (n:=3) (by decide)),if_neg (kk1 a g (n:=4) (by decide))]
 rw [e1,e2,e3]
 decide
theorem kupto3:uptoL [⟨1,3⟩] (kL a g b)=kL a g b:=by kernel_rfl
theorem kupto2:uptoL [⟨1,2⟩] (kL a g b)=[kE2 b,kE3]:=by kernel_rfl
theorem knodesC:nodesC (kL a g b) [⟨1,3⟩]=0:=by
 unfold nodesC
 rw [if_neg (fun h=>h (kclosed a g b)),if_neg (by decide),if_neg]
 rintro (h | h)
 ·exact h (by rw [kdots];exact kwhole (n:=3) rfl fun k h1 h2=>kmem h1 h2 (by decide))
 ·exact h (by rw [kupto3];exact kclosed a g b)
theorem knodes:nodesS (kL a g b) [⟨1,3⟩]=kD3:=by
 unfold nodesS
 rw [if_pos (knodesC a g b),kupto3,kdoc]
 show collR (setD (setD (setD kD2 (kE1 a g)) (kE2 b)) kE3)=kD3
 have e1:setD kD2 (kE1 a g)=kD3:=by unfold setD;rw [if_pos (show (kE1 a g).v.kind=2 from rfl)];show kD2.map (turnF [⟨⟨1,1⟩,1⟩] 2 3)=kD3;decide +kernel
 have e2:setD kD3 (kE2 b)=kD3:=by unfold setD;rw [if_neg (kk2 b (n:=2) (by decide))]
 have e3:setD kD3 kE3=kD3:=by unfold setD;rw [if_neg (show ¬kE3.v.kind=2 by decide)]
 rw [e1,e2,e3]
 decide +kernel
theorem kuptoS:uptoS [⟨1,2⟩] (kL a g b)=[kE2 b,kE3]:=by unfold uptoS;rw [if_pos (by decide),kupto2]
end Go.Proofs.YtjohljmpcblpjaaGreatDoor.Pa
namespace Go.Proofs.YtjohljmpcblpjaaGreatDoor.Pa
open Go.RowKit Go.Proofs.YtjohljmpcblpjaaGreatDoor.St Go.Proofs.YtjohljmpcblpjaaGreatDoor Go.Proofs.YtjohljmpcblpjaaGreatDoor.Tr
attribute [local go_sem] Oper.semAt_some
theorem lrow_any (w:World):Calls Tryz.prog 41 #[] w fun e w'=>(∃v,e=.returned v∧v=.slice (some ⟨w.heap.size+3,0,none⟩) 3 3∧∃a g b,SlAt entE w' v (kL a g b)∧∀e∈kL a g b,OpIn w' e)∧Kept (fun _=>False) w w':=by
 go_enter Tryz.func41,Tryz.ntmps41
 go_wp2
 go_ret
 have d1:=SlAt.lit (E:=dotE) (w:=w) (t:=29) [⟨1,2⟩] #[.int .i64 1,.int .i64 2] rfl (by show 1≤maxLen;decide)
 obtain⟨w1,hw1⟩:∃w1,w.alloc (.cells #[.int .i64 1,.int .i64 2] 29)=w1:=⟨_,rfl⟩
 have k1:Kept (fun _=>False) w w1:=by rw [←hw1];exact (Kept.refl _ _).alloc _
 have s1:w1.heap.size=w.heap.size+1:=by rw [←hw1];simp
 rw [hw1] at d1 ⊢
 have d2:=SlAt.lit (E:=runE) (w:=w1) (t:=89) [⟨⟨1,1⟩,1⟩] #[.int .i64 1,.int .i64 1,.int .i64 1] rfl (by show 1≤maxLen;decide)
 obtain⟨w2,hw2⟩:∃w2,w1.alloc (.cells #[.int .i64 1,.int .i64 1,.int .i64 1] 89)=w2:=⟨_,rfl⟩
 have k2:Kept (fun _=>False) w1 w2:=by rw [←hw2];exact (Kept.refl _ _).alloc _
 have s2:w2.heap.size=w.heap.size+2:=by rw [←hw2];simp;omega
 rw [hw2] at d2 ⊢
 rw [s1] at d2
 have d3:=SlAt.lit (E:=dotE) (w:=w2) (t:=29) [⟨1,1⟩] #[.int .i64 1,.int .i64 1] rfl (by show 1≤maxLen;decide)
 obtain⟨w3,hw3⟩:∃w3,w2.alloc (.cells #[.int .i64 1,.int .i64 1] 29)=w3:=⟨_,rfl⟩
 have k3:Kept (fun _=>False) w2 w3:=by rw [←hw3];exact (Kept.refl _ _).alloc _
 have s3:w3.heap.size=w.heap.size+3:=by rw [←hw3];simp;omega
 rw [hw3] at d3 ⊢
 rw [s2] at d3
 have d4:=SlAt.lit (E:=entE) (w:=w3) (t:=62) (kL (some ⟨w.heap.size,0,none⟩) (some ⟨w.heap.size+1,0,none⟩) (some ⟨w.heap.size+2,0,none⟩)) _ rfl (by show 3≤maxLen;decide)
 have k4:Kept (fun _=>False) w3 (w3.alloc (.cells (entE.flat (kL (some ⟨w.heap.size,0,none⟩) (some ⟨w.heap.size+1,0,none⟩) (some ⟨w.heap.size+2,0,none⟩))).toArray 62)):=(Kept.refl _ _).alloc _
 have e4:w3.alloc (.cells (entE.flat (kL (some ⟨w.heap.size,0,none⟩) (some ⟨w.heap.size+1,0,none⟩) (some ⟨w.heap.size+2,0,none⟩))).toArray 62)=w3.alloc (.cells #[.int .i64 1,.int .i64 3,.slice (some ⟨w.heap.size,0,none⟩) 1 1,.int .i64 2,.int .i64 0,.int .i64 0,.int .i64 0,.int .i64 0,.string ⟨#[]⟩,.slice (some ⟨w.heap.size+1,0,none⟩) 1 1,.int .i64 0,.int .i64 1,.int .i64 2,.slice (some ⟨w.heap.size+2,0,none⟩) 1 1,.int .i64 1,.int .i64 1,.int .i64 1,.int .i64 0,.int .i64 0,.string ⟨#[97,98]⟩,.slice none 0 0,.int .i64 0,.int .i64 1,.int .i64 1,.slice none 0 0,.int .i64 3,.int .i64 0,.int .i64 0,.int .i64 0,.int .i64 0,.string ⟨#[]⟩,.slice none 0 0,.int .i64 1] 62):=rfl
 rw [e4] at d4 k4
 rw [s3] at d4
 have k24:=(k2.trans k3 fun _ _ h=>h).trans k4 fun _ _ h=>h
 have i0:I64 0:=by constructor <;> decide
 have i1:I64 1:=by constructor <;> decide
 have i2:I64 2:=by constructor <;> decide
 have i3:I64 3:=by constructor <;> decide
 refine⟨⟨_,rfl,rfl,_,_,_,d4,fun e he=>?_⟩,k1.trans k24 fun _ _ h=>h⟩
 simp only [kL,List.mem_cons,List.not_mem_nil,or_false] at he
 rcases he with rfl|rfl|rfl
 ·exact⟨⟨d1.kept k24,d2.kept (k3.trans k4 fun _ _ h=>h)⟩,fun r hr=>by obtain rfl:=List.mem_singleton.1 hr;exact⟨i1,i1,i1⟩,by show 0≤maxLen;decide,fun d hd=>by obtain rfl:=List.mem_singleton.1 hd;exact⟨i1,i2⟩,⟨i1,i3,i2,i0⟩,⟨i0,i0⟩,i0,i0⟩
 ·exact⟨⟨d3.kept k4,.inl ⟨rfl,rfl⟩⟩,fun r hr=>absurd hr (by simp [kE2]),by show 2≤maxLen;decide,fun d hd=>by obtain rfl:=List.mem_singleton.1 hd;exact⟨i1,i1⟩,⟨i1,i2,i1,i0⟩,⟨i1,i1⟩,i0,i0⟩
 ·exact⟨⟨.inl ⟨rfl,rfl⟩,.inl ⟨rfl,rfl⟩⟩,fun r hr=>absurd hr (by simp [kE3]),by show 0≤maxLen;decide,fun d hd=>absurd hd (by simp [kE3]),⟨i1,i1,i3,i1⟩,⟨i0,i0⟩,i0,i0⟩
end Go.Proofs.YtjohljmpcblpjaaGreatDoor.Pa
namespace Go.Proofs.YtjohljmpcblpjaaGreatDoor.Pa
open Go.RowKit Go.Proofs.YtjohljmpcblpjaaGreatDoor.St Go.Proofs.YtjohljmpcblpjaaGreatDoor Go.Proofs.YtjohljmpcblpjaaGreatDoor.Tr
attribute [local go_sem] Oper.semAt_some
section
variable {w W:World} {lv:Value} {a g b:Option Addr} {z:Nat}
structure KnAt (w:World) (lv:Value) (a g b:Option Addr):Prop where
 tab:TabAt w
 row:SlAt entE w lv (kL a g b)
 ops:∀e∈kL a g b,OpIn w e
theorem KnAt.kept (h:KnAt w lv a g b) (hk:Kept (fun _=>False) w W):KnAt W lv a g b:=⟨h.tab.kept hk,h.row.kept hk,fun e he=>OpIn.kept (h.ops e he) hk⟩
theorem kdl:∀e∈kL a g b,e.D.length≤1000000∧e.G.length≤1000000:=fun e he=>by
 simp only [kL,List.mem_cons,List.not_mem_nil,or_false] at he
 rcases he with rfl|rfl|rfl
 ·exact⟨by show 1≤1000000;decide,by show 1≤1000000;decide⟩
 ·exact⟨by show 1≤1000000;decide,by show 0≤1000000;decide⟩
 ·exact⟨by show 0≤1000000;decide,by show 0≤1000000;decide⟩
theorem ktn:textN (kL a g b)≤900000:=by show 2≤900000;decide
theorem KnAt.closed (h:KnAt w lv a g b):Calls Tryz.prog 12 #[lv] w fun e w'=>e=.returned (.int .i64 0)∧Kept (fun _=>False) w w':=by
 have h1:=closed_any h.row h.ops (by show 3≤1000000;decide) kdl
 rw [kclosed] at h1
 exact h1
theorem KnAt.text (h:KnAt w lv a g b):Calls Tryz.prog 17 #[lv] w fun e w'=>e=.returned (.tuple #[.string ⟨#[98]⟩,.int .i64 0])∧Kept (fun _=>False) w w':=by
 have h1:=text_past h.row h.ops (by show 3≤1000000;decide) kdl ktn
 rw [kclosed,kdocS,ktext] at h1
 exact h1
theorem KnAt.order (h:KnAt w lv a g b):Calls Tryz.prog 19 #[lv] w fun e w'=>(∃v,e=.returned (.tuple #[v,.int .i64 0])∧∃x c,v=.slice x 2 c)∧Kept (fun _=>False) w w':=by
 have h1:=order_past h.row h.ops (by show 3≤1000000;decide) kdl ktn
 rw [kclosed,kdocS] at h1
 exact h1.mono fun e w' ⟨⟨v,h2,h3⟩,h4⟩=>⟨⟨v,h2,by obtain⟨x,c,h5,_⟩:=h3.sl;exact⟨x,c,h5⟩⟩,h4⟩
theorem KnAt.members (h:KnAt w lv a g b):Calls Tryz.prog 22 #[lv] w fun e w'=>(∃v,e=.returned (.tuple #[v,.int .i64 0])∧SlAt intE w' v [1])∧Kept (fun _=>False) w w':=by
 have h1:=members_past h.tab h.row h.ops (by show 3≤1000000;decide) kdl
 unfold MemPost at h1
 rw [kclosed,kmemS] at h1
 exact h1
theorem KnAt.nodes (h:KnAt w lv a g b){bv:Value}(hB:SlAt dotE w bv [⟨1,3⟩]):Calls Tryz.prog 25 #[lv,bv] w fun e w'=>(∃v,e=.returned (.tuple #[v,.int .i64 0])∧SlAt nodeE w' v kD3)∧Kept (fun _=>False) w w':=by
 have h1:=nodes_past h.row h.ops (by show 3≤1000000;decide) kdl ktn hB (fun d hd=>by obtain rfl:=List.mem_singleton.1 hd;constructor <;> decide) (by show 1≤1000000000;decide)
 unfold NodesPost at h1
 rw [knodesC,knodes] at h1
 exact h1
theorem KnAt.upto (h:KnAt w lv a g b){bv:Value}(hB:SlAt dotE w bv [⟨1,2⟩]):Calls Tryz.prog 15 #[lv,bv] w fun e w'=>(∃v,e=.returned v∧∃x c,v=.slice x 2 c)∧Kept (fun _=>False) w w':=by
 have h1:=upto_past h.row (fun e he=>(h.ops e he).at_) (by show 3≤1000000;decide) kdl hB (by show 1≤1000000000;decide)
 rw [kuptoS] at h1
 refine h1.mono fun e w' ⟨⟨v,l',h2,h3,h4,_⟩,h5⟩=>⟨⟨v,h2,?_⟩,h5⟩
 have h6:l'.length=2:=by have:=congrArg List.length h4;simpa using this
 obtain⟨x,c,h7,_⟩:=h3.sl
 rw [h6] at h7
 exact⟨x,c,h7⟩
theorem KnAt.open_ (h:KnAt w (.slice (some ⟨z,0,none⟩) 3 3) a g b):Calls Tryz.prog 12 #[.slice (some ⟨z,0,none⟩) 1 3] w fun e w'=>e=.returned (.int .i64 20)∧Kept (fun _=>False) w w':=by
 have hs:SlAt entE w (.slice (some ⟨z,0,none⟩) 1 3) [kE1 a g]:=by
  obtain⟨g0,o0,c0,hav,hl,hc,_,h4⟩:=h.row.one (by show 0<3;decide)
  injection hav with h1 _ h2
  injection h1 with h1
  injection h1 with h5 h6 _
  subst h5 h6 h2
  refine .inr ⟨_,3,rfl,by show 1≤3;decide,by decide,fun _=>rfl,fun i y hy j u hu=>?_⟩
  cases i with
  | zero =>
   simp only [List.getElem?_cons_zero,Option.some.injEq] at hy
   subst hy
   exact h4 0 _ rfl j u hu
  | succ i=>simp at hy
 have h1:=closed_any hs (fun e he=>h.ops e (by obtain rfl:=List.mem_singleton.1 he;simp [kL])) (by show 1≤1000000;decide) (fun e he=>kdl (a:=a) (g:=g) (b:=b) e (by obtain rfl:=List.mem_singleton.1 he;simp [kL]))
 rw [kopen] at h1
 exact h1
end
theorem known_any {w:World}(hT:TabAt w):Calls Tryz.prog 10 #[] w fun e w'=>e=.returned (.bool true)∧Kept (fun _=>False) w w':=by
 have HT:=Lib.hid hT
 clear hT
 go_enter Tryz.func10,Tryz.ntmps10
 go_upto_region 2 with (go_at_call 41;refine (lrow_any _).mono ?_;rintro e w1 ⟨⟨lv,rfl,hlv,a,g,b,hrow,hops⟩,hk1⟩)
 subst hlv
 obtain⟨z,hz⟩:∃z,w.heap.size+3=z:=⟨_,rfl⟩
 rw [hz] at hrow ⊢
 have KN:=Lib.hid (KnAt.mk (HT.out.kept hk1) hrow hops)
 have K1:=Lib.hid hk1
 clear hrow hops hk1 hz
 go_upto_region 3 with (go_at_call 17;refine KN.out.text.mono ?_;rintro e w2 ⟨rfl,hk2⟩)
 have KN2:=Lib.hid (KN.out.kept hk2)
 have K2:=Lib.hid (K1.out.trans hk2 fun _ _ h=>h)
 clear hk2 KN K1
 go_upto_region 4 with (go_at_call 22;refine KN2.out.members.mono ?_;rintro e w3 ⟨⟨mv,rfl,hmv⟩,hk3⟩)
 have KN3:=Lib.hid (KN2.out.kept hk3)
 have K3:=Lib.hid (K2.out.trans hk3 fun _ _ h=>h)
 have MV:=Lib.hid (fun W (hk:Kept (fun _=>False) w3 W)=>hmv.kept hk)
 clear hk3 KN2 K2 hmv
 go_upto_region 5 with (go_at_call 19;refine KN3.out.order.mono ?_;rintro e w4 ⟨⟨ov,rfl,ox,oc,rfl⟩,hk4⟩)
 have KN4:=Lib.hid (KN3.out.kept hk4)
 have K4:=Lib.hid (K3.out.trans hk4 fun _ _ h=>h)
 have KM4:=Lib.hid hk4
 clear hk4 KN3 K3
 have LIT:=Lib.hid (SlAt.lit (E:=dotE) (w:=w4) (t:=29) [⟨1,3⟩] #[.int .i64 1,.int .i64 3] rfl (by show 1≤maxLen;decide))
 have KA:=Lib.hid ((Kept.refl (fun _=>False) w4).alloc (.cells #[.int .i64 1,.int .i64 3] 29))
 go_upto_region 6 with (go_at_call 25;refine ((KN4.out.kept KA.out).nodes LIT.out).mono ?_;rintro e w5 ⟨⟨nv,rfl,hnv⟩,hk5⟩)
 have k5:=KA.out.trans hk5 fun _ _ h=>h
 have KN5:=Lib.hid (KN4.out.kept k5)
 have K5:=Lib.hid (K4.out.trans k5 fun _ _ h=>h)
 have KM5:=Lib.hid (KM4.out.trans k5 fun _ _ h=>h)
 obtain⟨ng,no,nc,rfl,_,_,_,hnc⟩:=hnv.one (by show 0<2;decide)
 have hst:=hnc 0 _ rfl 5 _ rfl
 have HST:Hid (∀W,Kept (fun _=>False) w5 W→W.cell? ⟨ng,no+5,none⟩=some (.int .i64 3)):=Lib.hid fun W hk=>hk.cell hst
 clear hk5 KN4 K4 hnv hnc hst k5 KA LIT KM4
 have MV5:Hid (∀W,Kept (fun _=>False) w5 W→SlAt intE W mv [1]):=Lib.hid fun W hk=>MV.out W (KM5.out.trans hk fun _ _ h=>h)
 have MI:Hid (∀W,Kept (fun _=>False) w5 W→∀n,n=W.heap.size→Calls Tryz.prog 24 #[mv,.slice (some ⟨n,0,none⟩) 1 1] (W.alloc (.cells #[.int .i64 1] 3)) fun e w'=>e=.returned (.bool true)∧Kept (fun _=>False) w5 w'):=Lib.hid fun W hk n hn=>by
  subst hn
  have ka:Kept (fun _=>False) W (W.alloc (.cells #[.int .i64 1] 3)):=(Kept.refl _ _).alloc _
  have h1:=pints_eq (MV5.out _ (hk.trans ka fun _ _ h=>h)) (SlAt.lit (E:=intE) (w:=W) (t:=3) [1] #[.int .i64 1] rfl (by show 1≤maxLen;decide)) (by show 1≤1000000000;decide)
  exact h1.mono fun e w' ⟨h2,q,h3⟩=>⟨h2,by subst h3;exact (hk.trans ka fun _ _ h=>h).drewN q⟩
 have CC:Hid (∀W,Kept (fun _=>False) w5 W→Calls Tryz.prog 12 #[.slice (some ⟨z,0,none⟩) 3 3] W fun e w'=>e=.returned (.int .i64 0)∧Kept (fun _=>False) w5 w'):=Lib.hid fun W hk=>(KN5.out.kept hk).closed.mono fun e w' ⟨h1,h2⟩=>⟨h1,hk.trans h2 fun _ _ h=>h⟩
 have CO:Hid (∀W,Kept (fun _=>False) w5 W→Calls Tryz.prog 12 #[.slice (some ⟨z,0,none⟩) 1 3] W fun e w'=>e=.returned (.int .i64 20)∧Kept (fun _=>False) w5 w'):=Lib.hid fun W hk=>(KN5.out.kept hk).open_.mono fun e w' ⟨h1,h2⟩=>⟨h1,hk.trans h2 fun _ _ h=>h⟩
 have CU:Hid (∀W,Kept (fun _=>False) w5 W→∀n,n=W.heap.size→Calls Tryz.prog 15 #[.slice (some ⟨z,0,none⟩) 3 3,.slice (some ⟨n,0,none⟩) 1 1] (W.alloc (.cells #[.int .i64 1,.int .i64 2] 29)) fun e w'=>(∃x c,e=.returned (.slice x 2 c))∧Kept (fun _=>False) w5 w'):=Lib.hid fun W hk n hn=>by
  subst hn
  have ka:Kept (fun _=>False) W (W.alloc (.cells #[.int .i64 1,.int .i64 2] 29)):=(Kept.refl _ _).alloc _
  have kb:=hk.trans ka fun _ _ h=>h
  have h1:=(KN5.out.kept kb).upto (SlAt.lit (E:=dotE) (w:=W) (t:=29) [⟨1,2⟩] #[.int .i64 1,.int .i64 2] rfl (by show 1≤maxLen;decide))
  exact h1.mono fun e w' ⟨⟨v,h2,x,c,h3⟩,h4⟩=>⟨⟨x,c,by rw [h2,h3]⟩,kb.trans h4 fun _ _ h=>h⟩
 have S5:=Lib.hid (Kept.refl (fun _=>False) w5)
 go_wp2_with (first
  | (go_at_call 12;refine (CO.out _ S6.out).mono ?_;rintro e w7 ⟨rfl,hk⟩;have S7:=Lib.hid hk;clear hk;have HS:=HST.out _ S7.out)
  | (go_at_call 12;refine (CC.out _ S5.out).mono ?_;rintro e w6 ⟨rfl,hk⟩;have S6:=Lib.hid hk;clear hk)
  | (go_at_call 24;refine (MI.out _ S7.out _ rfl).mono ?_;rintro e w8 ⟨rfl,hk⟩;have S8:=Lib.hid hk;clear hk;have HS8:=HST.out _ S8.out)
  | (go_at_call 15;refine (CU.out _ S8.out _ rfl).mono ?_;rintro e w9 ⟨⟨ux,uc,rfl⟩,hk⟩;have S9:=Lib.hid hk;clear hk))
 go_ret
 exact⟨rfl,K5.out.trans S9.out fun _ _ h=>h⟩
end Go.Proofs.YtjohljmpcblpjaaGreatDoor.Pa
