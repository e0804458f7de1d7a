/- hearsayref7.Merge. hearsayref24.below, all. The document's way to the row of a closed set, plainly: the least of those that may go. Parts of the proof. -/
import Derived.Test.YtjohljmpcblpjaaGreatDoorM30
set_option maxRecDepth 100000
set_option maxHeartbeats 8000000
namespace Go.Proofs.YtjohljmpcblpjaaGreatDoor
open Go.RowKit Go.Proofs.YtjohljmpcblpjaaGreatDoor.St
def mergeV (A B:List Dot):List Dot:=vecOf (maxV A B) 17
theorem rmerge_any {w:World}{va vb:Value}{A B:List Dot}(ha:SlAt dotE w va A) (hb:SlAt dotE w vb B) (hla:A.length≤1000000000) (hlb:B.length≤1000000000) :
  Calls Tryz.prog 38 #[va,vb] w fun e w'=>∃v',e=.returned v'∧w'.ownsRow w.heap.size 29 2 v' (mergeV A B).length (dotE.flat (mergeV A B))∧Kept (fun _=>False) w w':=by
 have hoa:=rsays_any ha hla
 have HB:=Lib.hid hb
 clear hb
 have HM0:Hid (¬0<maxV A B 0):=Lib.hid (by unfold maxV;rw [says_out A 0 (by decide),says_out B 0 (by decide)];decide)
 go_enter Tryz.func38,Tryz.ntmps38
 go_upto_region 2 with (first
   | (refine wpList_store_row rfl 130 _ _ rfl w1.heap.size (cells (says A)) rfl rfl 130 zero17 P1.out (by rw [cells_size];kernel_rfl) (by rw [cells_size];rfl) (cells_one _) ?_)
   | (go_at_call 75;refine hoa.mono ?_;rintro e w1 ⟨rfl,hk1⟩;have P1:=Lib.hid (Blk.new w1 130 zero17)))
 have Q1:=Lib.hid (P1.out.row (cells (says A)))
 have s1:=hk1.size
 have k1:Kept (fun _=>False) w ((w1.alloc (.cells zero17 130)).setRow w1.heap.size (cells (says A))):=(hk1.alloc _).setRow (fun h=>by omega) _
 have K1:=Lib.hid k1
 clear P1 hk1 hoa k1
 generalize (w1.alloc (.cells zero17 130)).setRow w1.heap.size (cells (says A))=w2 at *
 go_upto_region 3 with (first
   | (refine wpList_store_row rfl 130 _ _ rfl w3.heap.size (cells (says B)) rfl rfl 130 zero17 P3.out (by rw [cells_size];kernel_rfl) (by rw [cells_size];rfl) (cells_one _) ?_)
   | (go_at_call 75;refine (rsays_any (HB.out.kept K1.out) hlb).mono ?_;rintro e w3 ⟨rfl,hk3⟩;have P3:=Lib.hid (Blk.new w3 130 zero17)))
 have s3:=hk3.size
 have l1:=Q1.out.lt
 have Q3:=Lib.hid (P3.out.row (cells (says B)))
 have Q1':=Lib.hid (((hk3.blk (fun h=>h) Q1.out).alloc (.cells zero17 130)).row_far (g:=w3.heap.size) (by omega) (cells (says B)))
 have K3:=Lib.hid (((K1.out.trans hk3 (fun _ _ h=>h)).alloc (.cells zero17 130)).setRow (g:=w3.heap.size) (fun h=>by have:=K1.out.size;omega) (cells (says B)))
 have hne:w1.heap.size<w3.heap.size:=by omega
 clear P3 hk3 Q1 K1 l1 s3
 generalize (w3.alloc (.cells zero17 130)).setRow w3.heap.size (cells (says B))=w4 at *
 go_wp2_with fail
 go_loopw [7] (fun iv wr=>∃n:Nat,iv=.int .i64 n∧n≤17∧Blk wr w1.heap.size 130 (cells fun i=>if i<n then maxV A B i else says A i)∧Blk wr w3.heap.size 130 (cells (says B))∧Kept (fun _=>False) w wr) (fun iv _=>17-(intOf iv).toNat)
 case atStart=>exact⟨0,rfl,by decide,Q1'.out,Q3.out,K3.out⟩
 case round =>
  clear K3 Q1' Q3
  obtain⟨n,rfl,hn,h1,h2,hk⟩:=hrel
  have hn0:(0:Int)≤n:=by omega
  by_cases hlt:n<17
  case neg =>
   obtain rfl:n=17:=by omega
   have e:cells (fun i=>if i<17 then maxV A B i else says A i)=cells (maxV A B):=cells_congr fun i hi=>if_pos hi
   rw [e] at h1
   have H1:=Lib.hid h1
   have HK:=Lib.hid hk
   have hof:=rof_any (maxV A B) (fun h=>by have:=HM0.out;omega) wr
   clear h1 h2 hk e
   go_wp2_with (first
    | (refine wpList_load_row rfl 130 _ rfl w1.heap.size rfl 130 _ (0,0) _ H1.out Tryz.underlying130 rfl (by rw [cells_size];kernel_rfl) ?_)
    | (go_at_call 76;refine hof.mono ?_;rintro e w5 ⟨v5,rfl,ho5,hk5⟩))
   go_ret
   exact⟨_,rfl,owns_lower ho5 HK.out.size,HK.out.trans hk5 (fun _ _ h=>h)⟩
  case pos =>
   have hI:(n:Int)<17:=by omega
   have c1:wr.cell? ⟨w1.heap.size,n,none⟩=some (.int .i64 (says A n)):=by
    have:=h1.cell' (cells_get _ hlt)
    rwa [if_neg (Nat.lt_irrefl n)] at this
   have c2:=h2.cell' (cells_get (says B) hlt)
   have f1:=h1.frozen n
   have H1:=Lib.hid h1
   have H2:=Lib.hid h2
   have HK:=Lib.hid hk
   have MX:(if says A n<says B n then says B n else says A n)=maxV A B n:=rfl
   have MX3:max (says A n) (says B n)=maxV A B n:=by unfold maxV;split <;> omega
   generalize hmx:maxV A B n=mx at *
   have MX2:=Lib.hid hmx
   clear h1 h2 hk hmx
   go_wp2_with fail
   go_region
   all_goals
    go_wp2_with fail
    go_roundw
    focus
     refine⟨n+1,by go_num,by omega,?_,((H2.out.far (by show w3.heap.size≠w1.heap.size;omega) _).drewN 1),(HK.out.setCell (fun h=>by have h:w1.heap.size<w.heap.size:=h;omega) _).drewN 1⟩
     have:=(H1.out.set_ n (.int .i64 mx)).drewN 1
     rw [cells_set,←MX2.out,max_next] at this
     rw [←MX2.out]
     exact this
    focus
     simp [intOf] <;> omega
end Go.Proofs.YtjohljmpcblpjaaGreatDoor
namespace Go.Proofs.YtjohljmpcblpjaaGreatDoor.Pa
open Go.RowKit Go.Proofs.YtjohljmpcblpjaaGreatDoor.St Go.Proofs.YtjohljmpcblpjaaGreatDoor
def belowP (a b:Dot):Prop:=a.site<b.site∨(a.site=b.site∧a.seq<b.seq)
instance (a b:Dot):Decidable (belowP a b):=by unfold belowP;infer_instance
theorem rbelow_any (a b:Dot) (w:World):Calls Tryz.prog 135 #[.agg #[.int .i64 a.site,.int .i64 a.seq],.agg #[.int .i64 b.site,.int .i64 b.seq]] w fun e w'=>e=.returned (.bool (decide (belowP a b)))∧Kept (fun _=>False) w w':=by
 obtain⟨r,hr⟩:∃r,decide (belowP a b)=r:=⟨_,rfl⟩
 rw [hr]
 have R:=Lib.hid hr
 clear hr
 obtain⟨ae,aq⟩:=a
 obtain⟨bs,bq⟩:=b
 by_cases h1:ae<bs
 ·obtain rfl:r=true:=R.out.symm.trans (decide_eq_true (.inl h1))
  go_enter Tryz.func135,Tryz.ntmps135
  go_wp2_with fail
  go_ret
  exact⟨rfl,((Kept.refl _ _).alloc _).alloc _⟩
 ·by_cases h2:ae=bs
  ·by_cases h3:aq<bq
   ·obtain rfl:r=true:=R.out.symm.trans (decide_eq_true (.inr ⟨h2,h3⟩))
    go_enter Tryz.func135,Tryz.ntmps135
    go_wp2_with fail
    go_ret
    exact⟨rfl,((Kept.refl _ _).alloc _).alloc _⟩
   ·obtain rfl:r=false:=R.out.symm.trans (decide_eq_false fun h=>h.elim h1 fun h=>h3 h.2)
    go_enter Tryz.func135,Tryz.ntmps135
    go_wp2_with fail
    go_ret
    exact⟨rfl,((Kept.refl _ _).alloc _).alloc _⟩
  ·obtain rfl:r=false:=R.out.symm.trans (decide_eq_false fun h=>h.elim h1 fun h=>h2 h.1)
   go_enter Tryz.func135,Tryz.ntmps135
   go_wp2_with fail
   go_ret
   exact⟨rfl,((Kept.refl _ _).alloc _).alloc _⟩
theorem all_snoc (l:List Ent) (x:Ent):allV dotOf (l++[x])=mergeV (allV dotOf l) [x.v.dot]:=by
 unfold allV mergeV
 rw [List.foldl_append]
 rfl
theorem all_len (l:List Ent):(allV dotOf l).length≤17:=by
 rcases List.eq_nil_or_concat l with rfl|⟨L,x,rfl⟩
 ·exact Nat.zero_le _
 ·rw [List.concat_eq_append,all_snoc];exact vecOf_len _ _
theorem rall_any {w:World}{lv:Value}{l:List Ent}(hl:SlAt entE w lv l) (hlen:l.length≤1000000) :
  Calls Tryz.prog 67 #[lv] w fun e w'=>(∃u,e=.returned u∧SlAt dotE w' u (allV dotOf l))∧Kept (fun _=>False) w w':=by
 obtain⟨la,lc,rfl,_,_⟩:=hl.sl
 have HL:=Lib.hid hl
 clear hl
 go_enter Tryz.func67,Tryz.ntmps67
 go_wp2_with fail
 go_loopw [3,4] (fun uv iv wr=>∃(n:Nat) (ua:Option Addr) (um uc:Nat),iv=.int .i64 n∧n≤l.length∧uv=.slice ua um uc∧Kept (fun _=>False) w wr∧SlAt dotE wr (.slice ua um uc) (allV dotOf (l.take n))) (fun _ iv _=>l.length-(intOf iv).toNat)
 case atStart=>exact⟨0,none,0,0,rfl,Nat.zero_le _,rfl,Kept.refl _ _,.inl ⟨rfl,rfl⟩⟩
 case round =>
  obtain⟨n,ua,um,uc,rfl,hn,rfl,hk,hu⟩:=hrel
  have hn0:(0:Int)≤n:=by omega
  have K1:=Lib.hid hk
  have HU:=Lib.hid hu
  clear hk hu
  by_cases hlt:n<l.length
  case neg =>
   have hnl:¬(n:Int)<l.length:=by omega
   have HU2:Hid (SlAt dotE wr (.slice ua um uc) (allV dotOf l)):=Lib.hid (by have h9:=HU.out;rwa [List.take_of_length_le (by omega)] at h9)
   go_wp2_with fail
   go_ret
   exact⟨⟨_,rfl,HU2.out⟩,K1.out⟩
  case pos =>
   have hnl:(n:Int)<l.length:=by omega
   obtain⟨x,hx⟩:=get_of_lt hlt
   have htk:l.take (n+1)=l.take n++[x]:=by rw [List.take_add_one,hx];rfl
   have TK:Hid (allV dotOf (l.take (n+1))=mergeV (allV dotOf (l.take n)) [x.v.dot]):=Lib.hid (by rw [htk];exact all_snoc _ _)
   obtain⟨lg,lo,lc',e2,hcs⟩:=SlAt.opdot (HL.out.kept K1.out) (by omega)
   cases e2
   obtain⟨c0,c1⟩:=hcs n x hx
   have e1:IntKind.i64.wrap ((n:Int)+1)=(n:Int)+1:=IntWalk.i64_in _ (by omega)
   have k1:Kept (fun _=>False) wr (wr.alloc (.cells #[.int .i64 x.v.dot.site,.int .i64 x.v.dot.seq] 29)):=(Kept.refl _ _).alloc _
   have MG:=Lib.hid (rmerge_any (HU.out.kept k1) (SlAt.lit (E:=dotE) (w:=wr) (t:=29) [x.v.dot] #[.int .i64 x.v.dot.site,.int .i64 x.v.dot.seq] rfl (by show 1≤maxLen;decide)) (by have:=all_len (l.take n);omega) (by show 1≤1000000000;decide))
   have KX:=Lib.hid (K1.out.trans k1 fun _ _ h=>h)
   clear k1 hcs hx htk
   go_wp2_with (go_at_call 38;refine MG.out.mono ?_;rintro e w2 ⟨v',rfl,ho,hk2⟩;(obtain⟨va,vc,rfl⟩:=owns_sl ho))
   go_roundw
   case rel=>exact⟨n+1,va,_,vc,by go_num,by omega,rfl,KX.out.trans hk2 fun _ _ h=>h,by rw [TK.out];exact owns_slAt (E:=dotE) ho⟩
   case measure=>simp [intOf];omega
end Go.Proofs.YtjohljmpcblpjaaGreatDoor.Pa
namespace Go.Proofs.YtjohljmpcblpjaaGreatDoor.Pa
open Go.RowKit Go.Proofs.YtjohljmpcblpjaaGreatDoor.St Go.Proofs.YtjohljmpcblpjaaGreatDoor Go.Proofs.YtjohljmpcblpjaaGreatDoor.Tr
def CandE (l:List Ent) (V:List Dot) (g:List Bool) (j:Nat) (e:Ent):Prop:=l[j]?=some e∧g[j]?=some false∧coversV V e.D
def InnR (l:List Ent) (V:List Dot) (g:List Bool) (i:Nat) (k:Int):Prop :=
 (k=-1∧∀j e,j<i→¬CandE l V g j e)∨∃(m:Nat) (b:Ent),k=m∧m<i∧CandE l V g m b∧∀j e,j<i→CandE l V g j e→j=m∨belowP b.v.dot e.v.dot
theorem below_total {a b:Dot}(h:a≠b) (hn:¬belowP a b):belowP b a:=by
 unfold belowP at *
 rcases Int.lt_trichotomy a.site b.site with h1|h1|h1
 ·exact absurd (.inl h1) hn
 ·rcases Int.lt_trichotomy a.seq b.seq with h2 | h2 | h2
  ·exact absurd (.inr ⟨h1,h2⟩) hn
  ·exfalso;apply h;obtain⟨x,y⟩:=a;obtain⟨x',y'⟩:=b;simp at h1 h2;simp [h1,h2]
  ·exact .inr ⟨h1.symm,h2⟩
 ·exact .inl h1
theorem below_trans {a b c:Dot}(h1:belowP a b) (h2:belowP b c):belowP a c:=by
 unfold belowP at *
 omega
theorem dots_inj {l:List Ent}(hn:(l.map dotOf).Nodup){i j:Nat}{a b:Ent}(hi:l[i]?=some a) (hj:l[j]?=some b) (h:a.v.dot=b.v.dot):i=j:=by
 have h1:(l.map dotOf)[i]?=some a.v.dot:=by rw [List.getElem?_map,hi];rfl
 have h2:(l.map dotOf)[j]?=some a.v.dot:=by rw [List.getElem?_map,hj,h];rfl
 obtain⟨l1,e1⟩:=List.getElem?_eq_some_iff.1 h1
 obtain⟨l2,e2⟩:=List.getElem?_eq_some_iff.1 h2
 have h3:=List.pairwise_iff_getElem.1 hn
 rcases Nat.lt_trichotomy i j with h4|h4|h4
 ·exact absurd (e1.trans e2.symm) (h3 i j l1 l2 h4)
 ·exact h4
 ·exact absurd (e2.trans e1.symm) (h3 j i l2 l1 h4)
section
variable {l:List Ent} {V:List Dot} {g:List Bool} {i:Nat} {k:Int}
theorem InnR.start:InnR l V g 0 (-1):=.inl ⟨rfl,fun j e h=>by omega⟩
theorem InnR.idx (h:InnR l V g i k) (hk:0≤k):∃(m:Nat) (b:Ent),k=m∧m<i∧l[m]?=some b:=by
 rcases h with ⟨rfl,_⟩|⟨m,b,h1,h2,h3,_⟩
 ·omega
 ·exact⟨m,b,h1,h2,h3.1⟩
theorem InnR.neg (h:InnR l V g i k) (hk:k<0):k=-1:=by
 rcases h with ⟨h,_⟩|⟨m,b,h1,_⟩
 ·exact h
 ·omega
theorem InnR.skip (h:InnR l V g i k) (hc:∀e,¬CandE l V g i e):InnR l V g (i+1) k:=by
 rcases h with ⟨h1,h2⟩|⟨m,b,h1,h2,h3,h4⟩
 ·refine .inl ⟨h1,fun j e hj hc2=>?_⟩
  by_cases hji:j=i
  ·subst hji;exact hc e hc2
  ·exact h2 j e (by omega) hc2
 ·refine .inr ⟨m,b,h1,by omega,h3,fun j e hj hc2=>?_⟩
  by_cases hji:j=i
  ·subst hji;exact absurd hc2 (hc e)
  ·exact h4 j e (by omega) hc2
theorem InnR.first (h:InnR l V g i k) (hk:k<0){e:Ent}(hc:CandE l V g i e):InnR l V g (i+1) i:=by
 rcases h with ⟨h1,h2⟩|⟨m,b,h1,_⟩
 ·refine .inr ⟨i,e,rfl,by omega,hc,fun j x hj hc2=>?_⟩
  by_cases hji:j=i
  ·exact .inl hji
  ·exact absurd hc2 (h2 j x (by omega))
 ·omega
theorem InnR.less (h:InnR l V g i k){m:Nat}(hk:k=m){e b:Ent}(hb:l[m]?=some b) (hc:CandE l V g i e) (hl:belowP e.v.dot b.v.dot):InnR l V g (i+1) i:=by
 rcases h with ⟨h1,h2⟩|⟨m',b',h1,h2,h3,h4⟩
 ·omega
 ·obtain rfl:m=m':=by omega
  obtain rfl:b=b':=Option.some.inj (hb.symm.trans h3.1)
  refine .inr ⟨i,e,rfl,by omega,hc,fun j x hj hc2=>?_⟩
  by_cases hji:j=i
  ·exact .inl hji
  ·rcases h4 j x (by omega) hc2 with rfl | h9
   ·obtain rfl:x=b:=Option.some.inj (hc2.1.symm.trans hb)
    exact .inr hl
   ·exact .inr (below_trans hl h9)
theorem InnR.more (h:InnR l V g i k) (hn:(l.map dotOf).Nodup){m:Nat}(hk:k=m){e b:Ent}(hb:l[m]?=some b) (hm:m<i) (he:l[i]?=some e) (hl:¬belowP e.v.dot b.v.dot):InnR l V g (i+1) k:=by
 rcases h with ⟨h1,h2⟩|⟨m',b',h1,h2,h3,h4⟩
 ·omega
 ·obtain rfl:m=m':=by omega
  obtain rfl:b=b':=Option.some.inj (hb.symm.trans h3.1)
  refine .inr ⟨m,b,h1,by omega,h3,fun j x hj hc2=>?_⟩
  by_cases hji:j=i
  ·subst hji
   obtain rfl:x=e:=Option.some.inj (hc2.1.symm.trans he)
   refine .inr (below_total (fun h9=>?_) hl)
   have:=dots_inj hn he hb h9
   omega
  ·exact h4 j x (by omega) hc2
end
structure OutR (l R:List Ent) (V:List Dot) (g:List Bool):Prop where
 gone:GoneP dotOf depOf l R V
 len:g.length=l.length
 went:∀(j:Nat) (e:Ent),l[j]?=.some e→(g[j]?=.some true↔wentP V e.v.dot)
 row:rowL l=R++rowP dotOf depOf l (l.length-R.length) V
section
variable {l R:List Ent} {V:List Dot} {g:List Bool}
theorem OutR.start (hcl:ClosedP dotOf depOf l):OutR l [] [] (List.replicate l.length false):=by
 refine⟨GoneP.nil hcl,by simp,fun j e he=>?_,rfl⟩
 have h1:¬wentP [] e.v.dot:=fun h=>by
  have h2:=((GoneP.nil hcl).went e (List.mem_of_getElem? he)).1 h
  simp at h2
 have hj:=(List.getElem?_eq_some_iff.1 he).1
 constructor
 ·intro h
  rw [List.getElem?_replicate,if_pos hj] at h
  simp at h
 ·intro h;exact absurd h h1
theorem OutR.cand (h:OutR l R V g){j:Nat}{e:Ent}(he:l[j]?=some e):CandE l V g j e↔¬wentP V e.v.dot∧coversV V e.D:=by
 have hj:=(List.getElem?_eq_some_iff.1 he).1
 have hg:j<g.length:=by rw [h.len];exact hj
 obtain⟨b,hb⟩:∃b,g[j]?=some b:=⟨_,List.getElem?_eq_getElem hg⟩
 have hw:=h.went j e he
 unfold CandE
 rw [hb] at hw ⊢
 cases b with
 | true=>exact⟨fun h9=>by simp at h9,fun h9=>absurd (hw.1 rfl) h9.1⟩
 | false=>exact⟨fun h9=>⟨fun h8=>by have:=hw.2 h8;simp at this,h9.2.2⟩,fun h9=>⟨he,rfl,h9.2⟩⟩
theorem OutR.done (h:OutR l R V g) (hn:InnR l V g l.length (-1)):rowL l=R:=by
 have hx:nextP dotOf depOf l V=none:=by
  cases he:nextP dotOf depOf l V with
  | none=>rfl
  | some e =>
   obtain⟨h1,h2,h3,_⟩:=nextP_some he
   obtain⟨j,hj⟩:=List.getElem?_of_mem h1
   rcases hn with ⟨_,h9⟩|⟨m,b,h9,_⟩
   ·exact absurd ((h.cand hj).2 ⟨h2,h3⟩) (h9 j e (List.getElem?_eq_some_iff.1 hj).1)
   ·omega
 rw [h.row,row_none hx,List.append_nil]
theorem OutR.full (hcl:ClosedP dotOf depOf l) (h:OutR l R V g) (hn:l.length≤R.length):rowL l=R:=by
 rw [h.row,row_none (h.gone.full hcl hn),List.append_nil]
theorem OutR.step (hcl:ClosedP dotOf depOf l) (h:OutR l R V g){k:Int}{m:Nat}{b:Ent}(hn:InnR l V g l.length k) (hk:k=m) (hb:l[m]?=some b) :
  R.length<l.length∧OutR l (R++[b]) (mergeV V [b.v.dot]) (g.set m true):=by
 rcases hn with ⟨h1,_⟩|⟨m',b',h1,h2,h3,h4⟩
 ·omega
 ·obtain rfl:m=m':=by omega
  obtain rfl:b=b':=Option.some.inj (hb.symm.trans h3.1)
  have hc:=(h.cand hb).1 h3
  have hbl:=List.mem_of_getElem? hb
  have hx:nextP dotOf depOf l V=Option.some b:=by
   cases he:nextP dotOf depOf l V with
   | none=>exact absurd hc (nextP_none hcl he b hbl)
   | some e =>
    obtain⟨e1,e2,e3,_⟩:=nextP_some he
    obtain⟨j,hj⟩:=List.getElem?_of_mem e1
    by_cases hne:dotOf b=dotOf e
    ·have:=dots_inj hcl.nd hb hj hne
     subst this
     rw [hb] at hj
     rw [hj]
    ·have h5:=nextP_least hcl he hbl hc.1 hc.2 hne
     rcases h4 j e (List.getElem?_eq_some_iff.1 hj).1 ((h.cand hj).2 ⟨e2,e3⟩) with rfl|h6
     ·rw [hb] at hj
      exact absurd (by rw [Option.some.inj hj]) hne
     ·unfold belowP at h6
      unfold dotOf at h5
      omega
  obtain⟨s1,s2⟩:=h.gone.step hcl hx
  obtain⟨_,_,_,n4⟩:=nextP_some hx
  have hm:mergeV V [b.v.dot]=addV V b.v.dot:=addV_max (hcl.ok b hbl).1 n4
  refine⟨s2,⟨by rw [hm];exact s1,by rw [List.length_set];exact h.len,fun j e he=>?_,?_⟩⟩
  ·rw [hm]
   have hw:wentP (addV V b.v.dot) e.v.dot↔wentP V e.v.dot∨e.v.dot=b.v.dot:=went_add (hcl.ok b hbl).1 n4 (hcl.ok e (List.mem_of_getElem? he)).1
   rw [hw]
   have hgl:m<g.length:=by rw [h.len];exact (List.getElem?_eq_some_iff.1 hb).1
   by_cases hjm:j=m
   ·subst hjm
    rw [hb] at he
    cases he
    rw [List.getElem?_set_self hgl]
    exact⟨fun _=>.inr rfl,fun _=>rfl⟩
   ·rw [List.getElem?_set_ne (fun e9=>hjm e9.symm)]
    constructor
    ·exact fun h9=>.inl ((h.went j e he).1 h9)
    ·rintro (h9 | h9)
     ·exact (h.went j e he).2 h9
     ·exact absurd (dots_inj hcl.nd he hb h9) hjm
  ·rw [h.row,hm,List.append_assoc,List.length_append,List.length_singleton]
   congr 1
   have e1:l.length-R.length=(l.length-(R.length+1))+1:=by omega
   rw [e1,row_some hx]
   rfl
end
end Go.Proofs.YtjohljmpcblpjaaGreatDoor.Pa
namespace Go.Proofs.YtjohljmpcblpjaaGreatDoor.Tr
open Go.RowKit Go.Sort Go.Proofs.YtjohljmpcblpjaaGreatDoor.St
theorem risID_any (i:ID) (w:World):Calls Tryz.prog 136 #[idV i] w fun e w'=>e=.returned (.bool (isB i))∧Grew w w':=by
 obtain⟨t,s⟩:=i
 show Calls _ _ #[.agg #[.int .i64 t,.int .i64 s]] _ _
 by_cases h1:1≤t
 ·by_cases h2:t≤2147483647
  ·by_cases h3:1≤s
   ·by_cases h4:s≤16
    ·have e:isB ⟨t,s⟩=true:=by simp [isB,ID.Is,h1,h2,h3,h4]
     rw [e]
     go_enter Tryz.func136,Tryz.ntmps136
     go_wp2
     go_ret
     exact⟨rfl,(Grew.refl w).alloc _⟩
    ·have e:isB ⟨t,s⟩=false:=by simp [isB,ID.Is,h4]
     rw [e]
     go_enter Tryz.func136,Tryz.ntmps136
     go_wp2
     go_ret
     exact⟨rfl,(Grew.refl w).alloc _⟩
   ·have e:isB ⟨t,s⟩=false:=by simp [isB,ID.Is,h3]
    rw [e]
    go_enter Tryz.func136,Tryz.ntmps136
    go_wp2
    go_ret
    exact⟨rfl,(Grew.refl w).alloc _⟩
  ·have e:isB ⟨t,s⟩=false:=by simp [isB,ID.Is,h2]
   rw [e]
   go_enter Tryz.func136,Tryz.ntmps136
   go_wp2
   go_ret
   exact⟨rfl,(Grew.refl w).alloc _⟩
 ·have e:isB ⟨t,s⟩=false:=by simp [isB,ID.Is,h1]
  rw [e]
  go_enter Tryz.func136,Tryz.ntmps136
  go_wp2
  go_ret
  exact⟨rfl,(Grew.refl w).alloc _⟩
theorem lower_any (a b:ID) (w:World):Calls Tryz.prog 137 #[idV a,idV b] w fun e w'=>e=.returned (.bool (decide (a.lt b)))∧Grew w w':=by
 obtain⟨at_,as_⟩:=a
 obtain⟨bt,bs⟩:=b
 show Calls _ _ #[.agg #[.int .i64 at_,.int .i64 as_],.agg #[.int .i64 bt,.int .i64 bs]] _ _
 by_cases h1:at_<bt
 ·rw [decide_eq_true (show (⟨at_,as_⟩:ID).lt ⟨bt,bs⟩ from .inl h1)]
  go_enter Tryz.func137,Tryz.ntmps137
  go_wp2
  go_ret
  exact⟨rfl,((Grew.refl w).alloc _).alloc _⟩
 ·by_cases h2:at_=bt
  ·subst h2
   by_cases h3:as_<bs
   ·rw [decide_eq_true (show (⟨at_,as_⟩:ID).lt ⟨at_,bs⟩ from .inr ⟨rfl,h3⟩)]
    go_enter Tryz.func137,Tryz.ntmps137
    go_wp2
    go_ret
    exact⟨rfl,((Grew.refl w).alloc _).alloc _⟩
   ·rw [decide_eq_false (show ¬(⟨at_,as_⟩:ID).lt ⟨at_,bs⟩ from fun h=>by rcases h with h | h;exact h1 h;exact h3 h.2)]
    go_enter Tryz.func137,Tryz.ntmps137
    go_wp2
    go_ret
    exact⟨rfl,((Grew.refl w).alloc _).alloc _⟩
  ·rw [decide_eq_false (show ¬(⟨at_,as_⟩:ID).lt ⟨bt,bs⟩ from fun h=>by rcases h with h | h;exact h1 h;exact h2 h.1)]
   have q2:(at_ == bt)=false:=by simpa using h2
   go_enter Tryz.func137,Tryz.ntmps137
   go_wp2
   go_ret
   exact⟨rfl,((Grew.refl w).alloc _).alloc _⟩
def atR (L:List Nd) (i:ID):Int:=match L.findIdx? (fun n=>decide (n.id=i)) with
 | some k=>k
 | none=>-1
theorem atR_at {L:List Nd}{i:ID}{k:Nat}{x:Nd}(hx:L[k]?=some x) (he:x.id=i) (hno:∀m∈L.take k,m.id≠i):atR L i=k:=by
 have hk:=(List.getElem?_eq_some_iff.1 hx).1
 have h1:L.findIdx? (fun n=>decide (n.id=i))=some k:=by
  rw [List.findIdx?_eq_some_iff_getElem]
  refine⟨hk,by rw [(List.getElem?_eq_some_iff.1 hx).2];simp [he],fun j hj=>?_⟩
  have h2:=hno L[j] (by rw [List.mem_take_iff_getElem];exact⟨j,by omega,rfl⟩)
  simpa using h2
 unfold atR
 rw [h1]
theorem atR_no {L:List Nd}{i:ID}(hno:∀m∈L,m.id≠i):atR L i=-1:=by
 have h1:L.findIdx? (fun n=>decide (n.id=i))=none:=by
  rw [List.findIdx?_eq_none_iff]
  intro x hx
  simpa using hno x hx
 unfold atR
 rw [h1]
theorem atR_neg (L:List Nd) (i:ID):atR L i<0↔i∉ids L:=by
 unfold atR
 cases h:L.findIdx? (fun n=>decide (n.id=i)) with
 | some k =>
  have h1:=List.findIdx?_eq_some_iff_getElem.1 h
  obtain⟨hk,h2,_⟩:=h1
  constructor
  ·intro h9;simp at h9;omega
  ·intro h9;exact absurd (List.mem_map.2 ⟨L[k],List.getElem_mem hk,by simpa using h2⟩) h9
 | none =>
  rw [List.findIdx?_eq_none_iff] at h
  constructor
  ·intro _ hm
   obtain⟨x,hx,e⟩:=List.mem_map.1 hm
   have:=h x hx
   simp [e] at this
  ·intro _;decide
theorem id_eqb (a b:ID):decide (a=b)=(a.t == b.t && a.s == b.s):=by
 rw [Bool.eq_iff_iff]
 simp [ID.ext_iff]
theorem eq_id (x y:ID) (w:World):(binOp .eql 59 (.agg #[.int .i64 x.t,.int .i64 x.s]) (.agg #[.int .i64 y.t,.int .i64 y.s])).run Tryz.prog w=.ok (.bool (decide (x=y))) w:=by
 rw [id_eqb]
 cases h1:x.t == y.t
 ·go_simp
 cases h2:x.s == y.s
 ·go_simp
 ·go_simp
theorem ne_id (x y:ID) (w:World):(binOp .neq 59 (.agg #[.int .i64 x.t,.int .i64 x.s]) (.agg #[.int .i64 y.t,.int .i64 y.s])).run Tryz.prog w=.ok (.bool (!decide (x=y))) w:=by
 rw [id_eqb]
 cases h1:x.t == y.t
 ·go_simp
 cases h2:x.s == y.s
 ·go_simp
 ·go_simp
theorem rat_any {w:World}{v:Value}{L:List Nd}(h:SlAt nodeE w v L) (hlen:L.length≤1000000) (i:ID) :
  Calls Tryz.prog 138 #[.agg #[v],idV i] w fun e w'=>e=.returned (.int .i64 (atR L i))∧Kept (fun _=>False) w w':=by
 obtain⟨it,is⟩:=i
 show Calls _ _ #[_,.agg #[.int .i64 it,.int .i64 is]] _ _
 obtain⟨a,c,rfl,_,_⟩:=h.sl
 have hk0:Kept (fun _=>False) w ((w.alloc (.cells #[.slice a L.length c] 108)).alloc (.cells #[.int .i64 it,.int .i64 is] 59)):=((Kept.refl _ _).alloc _).alloc _
 have b0:=(Blk.new w 108 #[.slice a L.length c]).alloc (.cells #[.int .i64 it,.int .i64 is] 59)
 have b1:=Blk.new (w.alloc (.cells #[.slice a L.length c] 108)) 59 #[.int .i64 it,.int .i64 is]
 rw [World.size_alloc] at b1
 have HL:=Lib.hid (h.kept hk0)
 have K0:=Lib.hid hk0
 have c0:=b0.cell' (i:=0) (v:=.slice a L.length c) rfl
 have c1:=b1.cell' (i:=0) (v:=.int .i64 it) rfl
 have c2:=b1.cell' (i:=1) (v:=.int .i64 is) rfl
 clear h b0 b1 hk0
 go_enter Tryz.func138,Tryz.ntmps138
 go_upto_region 1 with fail
 obtain⟨W0,hW0⟩:∃W0,((w.alloc (.cells #[.slice a L.length c] 108)).alloc (.cells #[.int .i64 it,.int .i64 is] 59))=W0:=⟨_,rfl⟩
 rw [hW0] at HL K0 c0 c1 c2 ⊢
 clear hW0
 go_wp2_with fail
 go_loopw [5] (fun kv wr=>∃n q:Nat,kv=.int .i64 n∧n≤L.length∧(∀m∈L.take n,m.id≠⟨it,is⟩)∧wr=W0.drewN q) (fun kv _=>L.length-(intOf kv).toNat)
 case atStart=>exact⟨0,0,rfl,Nat.zero_le _,fun m hm=>by simp at hm,rfl⟩
 case round =>
  obtain⟨n,q,rfl,hn,hno,rfl⟩:=hrel
  have NO:=Lib.hid hno
  clear hno
  have hn0:(0:Int)≤n:=by omega
  by_cases hlt:n<L.length
  case neg =>
   have hnl:¬(n:Int)<L.length:=by omega
   have AN:=Lib.hid (atR_no (L:=L) (i:=⟨it,is⟩) (by have h9:=NO.out;rw [List.take_of_length_le (by omega)] at h9;exact h9))
   go_wp2_with fail
   go_ret
   exact⟨by rw [AN.out];rfl,K0.out.drewN _⟩
  case pos =>
   have hnl:(n:Int)<L.length:=by omega
   obtain⟨x,hx⟩:=get_of_lt hlt
   obtain⟨g,o,c',e1,_,h1⟩:=SlAt.node HL.out (by omega)
   cases e1
   obtain⟨r0,r1,r2,r3,r4,r5⟩:=h1 n x hx
   have heq:=eq_id x.id ⟨it,is⟩
   have e1:IntKind.i64.wrap ((n:Int)+1)=(n:Int)+1:=IntWalk.i64_in _ (by omega)
   have HX:=Lib.hid hx
   simp only at heq
   clear hx h1
   by_cases he:x.id=⟨it,is⟩
   ·rw [decide_eq_true he] at heq
    have AN:=Lib.hid (atR_at HX.out he NO.out)
    clear he
    go_wp2_with fail
    go_quiet (fail)
    go_wp2_with fail
    go_ret
    exact⟨by rw [AN.out];rfl,(K0.out.drewN _).drewN _⟩
   ·rw [decide_eq_false he] at heq
    have HE:=Lib.hid he
    clear he
    go_wp2_with fail
    go_quiet (fail)
    go_wp2_with fail
    go_roundw
    case rel =>
     refine⟨n+1,_,by go_num,by omega,fun m hm=>?_,rfl⟩
     rw [List.take_add_one,HX.out] at hm
     rcases List.mem_append.1 hm with hm|hm
     ·exact NO.out m hm
     ·have h9:m=x:=by simpa using hm
      rw [h9]
      exact HE.out
    case measure=>simp [intOf];omega
theorem nameL_snoc (A:List Run) (r:Run) (i:ID):nameL (A++[r]) i=(nameL A i || nameB r i):=by simp [nameL]
theorem nameL_mem {rs:List Run}{r:Run}{i:ID}(h:r∈rs) (hb:nameB r i=true):nameL rs i=true:=List.any_eq_true.2 ⟨r,h,hb⟩
theorem rnamed_any {w:World}{v:Value}{rs:List Run}(h:SlAt runE w v rs) (hin:∀r∈rs,r.In) (hlen:rs.length≤1000000) (i:ID) (hi:0≤i.t∧i.t≤2147483647) :
  Calls Tryz.prog 152 #[v,idV i] w fun e w'=>e=.returned (.bool (nameL rs i))∧Kept (fun _=>False) w w':=by
 obtain⟨it,is⟩:=i
 show Calls _ _ #[_,.agg #[.int .i64 it,.int .i64 is]] _ _
 obtain⟨a,c,rfl,_,_⟩:=h.sl
 have hk0:Kept (fun _=>False) w (w.alloc (.cells #[.int .i64 it,.int .i64 is] 59)):=(Kept.refl _ _).alloc _
 have HL:=Lib.hid h
 have HI:=Lib.hid hin
 have K0:=Lib.hid hk0
 have B0:=Lib.hid (Blk.new w 59 #[.int .i64 it,.int .i64 is])
 simp only at hi
 clear h hk0 hin
 go_enter Tryz.func152,Tryz.ntmps152
 go_upto_region 1 with fail
 obtain⟨z,hz⟩:∃z,w.heap.size=z:=⟨_,rfl⟩
 obtain⟨W0,hW0⟩:∃W0,(w.alloc (.cells #[.int .i64 it,.int .i64 is] 59))=W0:=⟨_,rfl⟩
 rw [hz] at B0 ⊢
 rw [hW0] at K0 B0 ⊢
 clear hW0 hz
 go_wp2_with fail
 go_loopw [5] (fun kv wr=>∃n:Nat,kv=.int .i64 n∧n≤rs.length∧nameL (rs.take n) ⟨it,is⟩=false∧Kept (fun _=>False) W0 wr) (fun kv _=>rs.length-(intOf kv).toNat)
 case atStart=>exact⟨0,rfl,Nat.zero_le _,rfl,Kept.refl _ _⟩
 case round =>
  obtain⟨n,rfl,hn,hno,hkw⟩:=hrel
  have NO:=Lib.hid hno
  have KW:=Lib.hid hkw
  clear hno hkw
  have hn0:(0:Int)≤n:=by omega
  by_cases hlt:n<rs.length
  case neg =>
   have hnl:¬(n:Int)<rs.length:=by omega
   have AN:Hid (nameL rs ⟨it,is⟩=false):=Lib.hid (by have h9:=NO.out;rw [List.take_of_length_le (by omega)] at h9;exact h9)
   go_wp2_with fail
   go_ret
   exact⟨by rw [AN.out];rfl,K0.out.trans KW.out fun _ _ h=>h⟩
  case pos =>
   have hnl:(n:Int)<rs.length:=by omega
   obtain⟨x,hx⟩:=get_of_lt hlt
   have hxm:=List.mem_of_getElem? hx
   obtain⟨⟨xi1,xi2⟩,xs,xc1,xc2⟩:=HI.out x hxm
   obtain⟨g,o,c',e1,_,h1⟩:=SlAt.run (HL.out.kept (K0.out.trans KW.out fun _ _ h=>h)) (by omega)
   cases e1
   obtain⟨r0,r1,r2⟩:=h1 n x hx
   have e1:IntKind.i64.wrap ((n:Int)+1)=(n:Int)+1:=IntWalk.i64_in _ (by omega)
   have htk:rs.take (n+1)=rs.take n++[x]:=by rw [List.take_add_one,hx];rfl
   have KA:=Lib.hid (KW.out.alloc (.cells #[.int .i64 x.id.t,.int .i64 x.id.s,.int .i64 x.c] 89))
   have hb:=(KW.out.blk (fun h=>h) B0.out).alloc (.cells #[.int .i64 x.id.t,.int .i64 x.id.s,.int .i64 x.c] 89)
   have hb2:=Blk.new wr 89 #[.int .i64 x.id.t,.int .i64 x.id.s,.int .i64 x.c]
   have z0:=hb.cell' (i:=0) (v:=.int .i64 it) rfl
   have z1:=hb.cell' (i:=1) (v:=.int .i64 is) rfl
   have y0:=hb2.cell' (i:=0) (v:=.int .i64 x.id.t) rfl
   have y1:=hb2.cell' (i:=1) (v:=.int .i64 x.id.s) rfl
   have y2:=hb2.cell' (i:=2) (v:=.int .i64 x.c) rfl
   have YES:Hid (nameB x ⟨it,is⟩=true→nameL rs ⟨it,is⟩=true):=Lib.hid fun h=>nameL_mem hxm h
   have NOX:Hid (nameB x ⟨it,is⟩=false→nameL (rs.take (n+1)) ⟨it,is⟩=false):=Lib.hid fun h=>by rw [htk,nameL_snoc,NO.out,h];rfl
   clear hx hxm h1 htk hb hb2
   go_upto_region 5 with fail
   obtain⟨W1,hW1⟩:∃W1,(wr.alloc (.cells #[.int .i64 x.id.t,.int .i64 x.id.s,.int .i64 x.c] 89))=W1:=⟨_,rfl⟩
   obtain⟨zb,hzb⟩:∃zb,wr.heap.size=zb:=⟨_,rfl⟩
   rw [hzb] at y0 y1 y2 ⊢
   rw [hW1] at y0 y1 y2 z0 z1 KA ⊢
   clear hW1 hzb r0 r1 r2
   by_cases q1:x.id.s=is
   case neg =>
    have f1:(x.id.s == is)=false:=by simpa using q1
    have NB:Hid (nameB x ⟨it,is⟩=false):=Lib.hid (decide_eq_false fun h=>q1 h.1)
    clear q1
    go_wp2_with fail
    go_roundw
    case rel=>exact⟨n+1,by go_num,by omega,NOX.out NB.out,KA.out⟩
    case measure=>simp [intOf];omega
   case pos =>
    have f1:(x.id.s == is)=true:=by simpa using q1
    rw [q1] at y1
    by_cases q2:x.id.t≤it
    case neg =>
     have NB:Hid (nameB x ⟨it,is⟩=false):=Lib.hid (decide_eq_false fun h=>q2 h.2.1)
     go_wp2_with fail
     go_roundw
     case rel=>exact⟨n+1,by go_num,by omega,NOX.out NB.out,KA.out⟩
     case measure=>simp [intOf];omega
    case pos =>
     by_cases q3:1≤x.c
     case neg =>
      have NB:Hid (nameB x ⟨it,is⟩=false):=Lib.hid (decide_eq_false fun h=>q3 (by have:=h.2.2.1;omega))
      go_wp2_with fail
      go_roundw
      case rel=>exact⟨n+1,by go_num,by omega,NOX.out NB.out,KA.out⟩
      case measure=>simp [intOf];omega
     case pos =>
      have hq:(0<x.id.t)∨(¬0<x.id.t∧it<x.id.t+x.c)∨(¬0<x.id.t∧¬it<x.id.t+x.c):=by omega
      rcases hq with q4|⟨q4,q5⟩|⟨q4,q5⟩
      case' inl =>
       have w2:IntKind.i64.wrap (it-x.id.t)=it-x.id.t:=IntWalk.i64_in _ (by omega)
      case' inr.inl =>
       have w1:IntKind.i64.wrap (x.id.t+x.c)=x.id.t+x.c:=IntWalk.i64_in _ (by omega)
       have w2:IntKind.i64.wrap (it-x.id.t)=it-x.id.t:=IntWalk.i64_in _ (by omega)
      case inr.inr =>
       have w1:IntKind.i64.wrap (x.id.t+x.c)=x.id.t+x.c:=IntWalk.i64_in _ (by omega)
       have NB:Hid (nameB x ⟨it,is⟩=false):=Lib.hid (decide_eq_false fun h=>q5 (by have h9:it-x.id.t<x.c:=h.2.2.2;omega))
       go_wp2_with fail
       go_roundw
       case rel=>exact⟨n+1,by go_num,by omega,NOX.out NB.out,KA.out⟩
       case measure=>simp [intOf];omega
      all_goals
       by_cases q6:it-x.id.t<x.c
       ·have NB:Hid (nameB x ⟨it,is⟩=true):=Lib.hid (decide_eq_true ⟨q1,q2,by omega,q6⟩)
        have AN:=Lib.hid (YES.out NB.out)
        go_wp2_with fail
        go_ret
        exact⟨by rw [AN.out];rfl,K0.out.trans KA.out fun _ _ h=>h⟩
       ·have NB:Hid (nameB x ⟨it,is⟩=false):=Lib.hid (decide_eq_false fun h=>q6 h.2.2.2)
        first
         | (exfalso;omega)
         | (go_wp2_with fail
            exact⟨⟨n+1,by go_num,by omega,NOX.out NB.out,KA.out⟩,by simp [intOf];omega⟩)
theorem info_id2:(Tryz.prog.info? 59).map (fun i=>(i.zero,i.size,i.bytes))=some (some (.agg #[.int .i64 0,.int .i64 0]),2,16):=by kernel_rfl
theorem shL_snoc2 (A:List Nd) (m:Nd):shL (A++[m])=if m.st=1 then shL A++[m] else shL A:=by
 unfold shL
 rw [List.filter_append]
 by_cases h:m.st=1
 ·simp [h]
 ·simp [h]
theorem owns_base9 {w:World}{base base' n size:Nat}{e:TypeId}{v:Value}{xs:List Value}(h:w.ownsRow base e size v n xs) (hb:base'≤base):w.ownsRow base' e size v n xs:=by
 refine⟨h.1,?_⟩
 rcases h.2 with h' | ⟨g,cap,cur,rfl,hb',r⟩
 ·exact .inl h'
 ·exact .inr ⟨g,cap,cur,rfl,Nat.le_trans hb hb',r⟩
end Go.Proofs.YtjohljmpcblpjaaGreatDoor.Tr
