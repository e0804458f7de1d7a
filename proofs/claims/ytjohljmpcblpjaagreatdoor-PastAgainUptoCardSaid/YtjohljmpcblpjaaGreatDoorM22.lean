/- tree.named: do runs name an identifier. turn, by a range over all: Delete and Settle. New, Kept, Delete, Settle, why. -/
import Derived.Test.YtjohljmpcblpjaaGreatDoorM16
import Derived.WideLaws
set_option maxRecDepth 100000
set_option maxHeartbeats 8000000
namespace Go.Proofs.YtjohljmpcblpjaaGreatDoor.Tr
open Go.RowKit Go.Proofs.YtjohljmpcblpjaaGreatDoor.St
def nameB (r:Run) (i:ID):Bool:=decide (r.id.s=i.s∧r.id.t≤i.t∧0<r.c∧i.t-r.id.t<r.c)
def nameL (rs:List Run) (i:ID):Bool:=rs.any fun r=>nameB r i
theorem u64_wrap (a:Int):IntKind.u64.wrap a=a % 18446744073709551616:=by rfl
theorem u64_sub {a b:Int}(h1:b≤a) (h2:0≤a∧a≤9223372036854775807) (h3:-9223372036854775808≤b):IntKind.u64.wrap (a-IntKind.u64.wrap b)=a-b:=by
 rw [u64_wrap,u64_wrap];omega
theorem u64_id {a:Int}(h:0≤a∧a≤9223372036854775807):IntKind.u64.wrap a=a:=by rw [u64_wrap];omega
theorem named1_any (r:Run) (hr:r.In) (x:ID) (hx:0≤x.t∧x.t≤2147483647) (B:Nat) (w:World) (b0:w.cell? ⟨B,0,none⟩=some (.int .i64 x.t)) (b1:w.cell? ⟨B,1,none⟩=some (.int .i64 x.s)) (hB:B<w.heap.size) :
  Calls Tryz.prog 178 #[runV r,.pointer (some ⟨B,0,none⟩)] w fun e w'=>e=.returned (.bool (nameB r x))∧Grew w w':=by
 obtain⟨i1,_,i3⟩:=hr
 unfold I64 at i1 i3
 have hg0:=Grew.alloc (Grew.refl w) (.cells #[.int .i64 r.id.t,.int .i64 r.id.s,.int .i64 r.c] 89)
 have d0:(w.alloc (.cells #[.int .i64 r.id.t,.int .i64 r.id.s,.int .i64 r.c] 89)).cell? ⟨B,0,none⟩=_:=cell_keep hg0.kept b0
 have d1:(w.alloc (.cells #[.int .i64 r.id.t,.int .i64 r.id.s,.int .i64 r.c] 89)).cell? ⟨B,1,none⟩=_:=cell_keep hg0.kept b1
 have hne:¬B=w.heap.size:=by omega
 have HG:=Lib.hid hg0
 clear hg0
 unfold runV
 by_cases h1:r.id.s=x.s
 ·have q1:(r.id.s == x.s)=true:=by simpa using h1
  by_cases h2:r.id.t≤x.t
  ·by_cases h3:0<r.c
   ·have e:nameB r x=decide (x.t-r.id.t<r.c):=by unfold nameB;rw [decide_eq_decide];exact⟨fun h=>h.2.2.2,fun h=>⟨h1,h2,h3,h⟩⟩
    have s1:=u64_sub h2 ⟨hx.1,by omega⟩ i1.1
    have s2:=u64_id (a:=r.c) ⟨by omega,i3.2⟩
    rw [e]
    clear h1
    go_enter Tryz.func178,Tryz.ntmps178
    go_wp2
    go_ret
    exact⟨rfl,HG.out⟩
   ·have e:nameB r x=false:=by unfold nameB;rw [decide_eq_false_iff_not];exact fun h=>h3 h.2.2.1
    rw [e]
    clear h1
    go_enter Tryz.func178,Tryz.ntmps178
    go_wp2
    go_ret
    exact⟨rfl,HG.out⟩
  ·have e:nameB r x=false:=by unfold nameB;rw [decide_eq_false_iff_not];exact fun h=>h2 h.2.1
   rw [e]
   clear h1
   go_enter Tryz.func178,Tryz.ntmps178
   go_wp2
   go_ret
   exact⟨rfl,HG.out⟩
 ·have e:nameB r x=false:=by unfold nameB;rw [decide_eq_false_iff_not];exact fun h=>h1 h.1
  rw [e]
  go_enter Tryz.func178,Tryz.ntmps178
  go_wp2
  go_ret
  exact⟨rfl,HG.out⟩
theorem index_named {w:World}{v:Value}{L:List Run}(h:SlAt runE w v L) (hin:∀r∈L,r.In) (hb:L.length≤1000000000) (x:ID) (hx:0≤x.t∧x.t≤2147483647) (B:Nat) (b0:w.cell? ⟨B,0,none⟩=some (.int .i64 x.t)) (b1:w.cell? ⟨B,1,none⟩=some (.int .i64 x.s)) (hB:B<w.heap.size) :
  Calls Tryz.prog 191 #[v,.func (.func 178) #[] #[.pointer (some ⟨B,0,none⟩)]] w fun e w'=>∃i:Int,e=.returned (.int .i64 i)∧decide (0≤i)=nameL L x∧Grew w w':=by
 have eg:∀args w,(callFunc 178 args).run Tryz.prog w=.ok (.enter 178 args) w:=enters_of Tryz.func178 (by kernel_rfl) rfl
 obtain⟨a,c,rfl,_,_⟩:=h.sl
 have HI:=Lib.hid hin
 have HS:=Lib.hid h
 have B0:=Lib.hid b0
 have B1:=Lib.hid b1
 clear hin h b0 b1
 go_enter Tryz.func191,Tryz.ntmps191
 go_wp2_with fail
 go_loopw [8] (fun i wr=>∃n:Nat,i=.int .i64 n∧n≤L.length∧(∀(j:Nat) r,j<n→L[j]?=some r→nameB r x=false)∧Grew w wr) (fun i _=>L.length-(intOf i).toNat)
 case atStart=>exact⟨0,rfl,Nat.zero_le _,fun _ _ h=>absurd h (Nat.not_lt_zero _),Grew.refl w⟩
 case round =>
  obtain⟨n,rfl,hn,hall,hg⟩:=hrel
  have A:=Lib.hid hall
  clear hall
  by_cases hlt:n<L.length
  ·obtain⟨r,hr⟩:=get_of_lt hlt
   obtain⟨g,o,c',hv,hglt,hc⟩:=SlAt.run (HS.out.kept hg.kept) (by omega)
   cases hv
   obtain⟨c0,c1,c2⟩:=hc n r hr
   have hone:=named1_any r (HI.out r (List.mem_of_getElem? hr)) x hx B wr (cell_keep hg.kept B0.out) (cell_keep hg.kept B1.out) (Nat.lt_of_lt_of_le hB hg.size)
   unfold runV at hone
   have X:=Lib.hid hr
   have hn0:(0:Int)≤n:=by omega
   have hnl:(n:Int)<L.length:=by omega
   clear hr hc
   cases hbx:nameB r x
   ·rw [hbx] at hone
    have BX:=Lib.hid hbx
    clear hbx
    go_wp2_with fail
    refine hone.mono ?_
    rintro e w2 ⟨rfl,hg2⟩
    go_wp2_with fail
    go_roundw
    case rel=>exact⟨n+1,by go_num,by omega,fun j y hj hy=>by
     rcases Nat.lt_succ_iff_lt_or_eq.1 hj with hj|rfl
     ·exact A.out j y hj hy
     ·rw [X.out] at hy;cases hy;exact BX.out,hg.trans hg2⟩
    case measure=>simp [intOf];omega
   ·rw [hbx] at hone
    have BX:=Lib.hid hbx
    clear hbx
    go_wp2_with fail
    refine hone.mono ?_
    rintro e w2 ⟨rfl,hg2⟩
    go_wp2_with fail
    go_ret
    refine⟨n,rfl,?_,hg.trans hg2⟩
    rw [decide_eq_true hn0]
    exact (List.any_eq_true.2 ⟨r,List.mem_of_getElem? X.out,BX.out⟩).symm
  ·have hge:L.length≤n:=by omega
   go_wp2_with fail
   go_ret
   refine⟨-1,rfl,?_,hg⟩
   rw [decide_eq_false (by decide)]
   refine (List.any_eq_false.2 fun r hr=>?_).symm
   obtain⟨j,hj⟩:=List.getElem?_of_mem hr
   simpa using A.out j r (Nat.lt_of_lt_of_le (List.getElem?_eq_some_iff.1 hj).1 hge) hj
theorem contains_named {w:World}{v:Value}{L:List Run}(h:SlAt runE w v L) (hin:∀r∈L,r.In) (hb:L.length≤1000000000) (x:ID) (hx:0≤x.t∧x.t≤2147483647) (B:Nat) (b0:w.cell? ⟨B,0,none⟩=some (.int .i64 x.t)) (b1:w.cell? ⟨B,1,none⟩=some (.int .i64 x.s)) (hB:B<w.heap.size) :
  Calls Tryz.prog 177 #[v,.func (.func 178) #[] #[.pointer (some ⟨B,0,none⟩)]] w fun e w'=>e=.returned (.bool (nameL L x))∧Grew w w':=by
 have hi:=index_named h hin hb x hx B b0 b1 hB
 clear h hin b0 b1
 generalize nameL L x=b at *
 go_enter Tryz.func177,Tryz.ntmps177
 go_wp2_with fail
 refine hi.mono ?_
 rintro e w2 ⟨i,rfl,hb,hg⟩
 have BB:=Lib.hid hb
 clear hb
 go_wp2_with fail
 go_ret
 exact⟨by rw [←BB.out];rfl,hg⟩
theorem named_any {w:World}{v:Value}{L:List Run}(h:SlAt runE w v L) (hin:∀r∈L,r.In) (hb:L.length≤1000000000) (x:ID) (hx:0≤x.t∧x.t≤2147483647) :
  Calls Tryz.prog 149 #[v,idV x] w fun e w'=>e=.returned (.bool (nameL L x))∧Grew w w':=by
 have hg0:=Grew.alloc (Grew.refl w) (.cells #[.int .i64 x.t,.int .i64 x.s] 59)
 have hb0:=Blk.new w 59 #[.int .i64 x.t,.int .i64 x.s]
 have hc:=contains_named (h.kept hg0.kept) hin hb x hx w.heap.size (hb0.cell' (i:=0) rfl) (hb0.cell' (i:=1) rfl) hb0.lt
 have K:=Lib.hid hg0
 obtain⟨a,c,rfl,_,_⟩:=h.sl
 clear hb0 hg0 h
 generalize nameL L x=b at *
 unfold idV
 go_enter Tryz.func149,Tryz.ntmps149
 go_wp2_with fail
 refine hc.mono ?_
 rintro e w2 ⟨rfl,hg⟩
 go_wp2_with fail
 go_ret
 exact⟨rfl,K.out.trans hg⟩
end Go.Proofs.YtjohljmpcblpjaaGreatDoor.Tr
namespace Go.Proofs.YtjohljmpcblpjaaGreatDoor.Tr
open Go.RowKit Go.Proofs.YtjohljmpcblpjaaGreatDoor.St Go.Shelf
attribute [local go_sem] Oper.semAt_some
def turnB (rs:List Run) (fr:Int) (n:Nd):Bool:=decide (n.st=fr) && nameL rs n.id
def turnF (rs:List Run) (fr tz:Int) (n:Nd):Nd:=if turnB rs fr n then { n with st:=tz } else n
def turnU (rs:List Run) (fr tz:Int) (L:List Nd) (i:Nat):List Nd:=(L.take i).map (turnF rs fr tz)++L.drop i
def turnN (rs:List Run) (fr:Int) (L:List Nd):Int:=((L.filter (turnB rs fr)).length:Int)
theorem turnF_key (rs:List Run) (fr tz:Int) (n:Nd):key (turnF rs fr tz n)=key n:=by unfold turnF;split <;> rfl
theorem turnU_key (rs:List Run) (fr tz:Int) (L:List Nd) (i:Nat):(turnU rs fr tz L i).map key=L.map key:=by
 unfold turnU
 rw [List.map_append,List.map_map]
 have : (L.take i).map (key ∘ turnF rs fr tz)=(L.take i).map key:=List.map_congr_left fun n _=>turnF_key rs fr tz n
 rw [this,←List.map_append,List.take_append_drop]
theorem turnU_at {rs:List Run}{fr tz:Int}{L:List Nd}{i:Nat}{m:Nd}(h:L[i]?=some m):turnU rs fr tz L i=(L.take i).map (turnF rs fr tz)++m::L.drop (i+1)∧turnU rs fr tz L (i+1)=(L.take i).map (turnF rs fr tz)++turnF rs fr tz m::L.drop (i+1):=by
 have hi:=(List.getElem?_eq_some_iff.1 h).1
 have hm:=(List.getElem?_eq_some_iff.1 h).2
 unfold turnU
 refine⟨by rw [List.drop_eq_getElem_cons hi,hm],?_⟩
 rw [List.take_add_one,h]
 simp
theorem turnN_snoc (rs:List Run) (fr:Int) (A:List Nd) (m:Nd):turnN rs fr (A++[m])=turnN rs fr A+if turnB rs fr m then 1 else 0:=by
 unfold turnN
 rw [List.filter_append,List.length_append]
 by_cases h:turnB rs fr m=true
 ·simp [h]
 ·simp [h]
theorem turnN_le (rs:List Run) (fr:Int) (A:List Nd):0≤turnN rs fr A∧turnN rs fr A≤A.length:=by
 unfold turnN
 exact⟨by omega,by have:=List.length_filter_le (turnB rs fr) A;omega⟩
def turnX (z g:Nat) (v:Value) (fr tz k:Int):List Box :=
 [(z,60,#[v]),(z+1,3,#[.int .i64 fr]),(z+1+1,3,#[.int .i64 tz]),(z+1+1+1,3,#[.int .i64 k]),(z+1+1+1+1,102,#[.pointer (some ⟨g,0,none⟩)])]
theorem turnX_nodup (z g:Nat) (v:Value) (fr tz k:Int):((turnX z g v fr tz k).map (·.1)).Nodup:=by
 simp [turnX]
 omega
def eltM (L:List Nd) (A:ID→Nat) (b:Nat):Prop:=∃x∈ids L,b=A x
def turnJ (w:World) (B g:Nat) (v:Value) (rs:List Run) (fr tz:Int) (L:List Nd) (A:ID→Nat) (S:ID→Rw) (mp:Option Nat) (i:Nat) (X:Nat→Prop) (W:World):Prop :=
 CJ w B (eltM L A) (turnX w.heap.size g v fr tz (turnN rs fr (L.take i))) g (turnU rs fr tz L i) A S mp X W
theorem sl_keep0 {α:Type}{E:Enc α}{w w':World}{v:Value}{L:List α}{S:Nat→Prop}(h:SlAt E w v L) (hk:Kept S w w') (hs:∀b,v.ownBlock=some b→b<w.heap.size→L≠[]→¬S b):SlAt E w' v L:=by
 by_cases hl:L=[]
 ·subst hl
  rcases h with h|⟨x,c,rfl,h1,h2,_,_⟩
  ·exact .inl h
  ·exact .inr ⟨x,c,rfl,h1,h2,fun e=>absurd rfl e,fun i y hy=>by simp at hy⟩
 ·exact h.keep hk fun b h1 h2=>hs b h1 h2 hl
theorem turn_any0 {w:World}{g:Nat}{L:List Nd}{A:ID→Nat}{S:ID→Rw}{mp:Option Nat}(h:TAt w g L A S mp) (hdoc:Doc L) (hlen:L.length≤900000) (hID:∀n∈L,0≤n.id.t∧n.id.t≤2147483647)
  {v:Value} {rs:List Run} (hv:SlAt runE w v rs) (hin:∀r∈rs,r.In) (hrl:rs.length≤1000000000) (hvb:∀b,v.ownBlock=some b→b<w.heap.size→rs≠[]→¬eltM L A b) (fr tz:Int) :
  Calls Tryz.prog 109 #[.pointer (some ⟨g,0,none⟩),v,.int .i64 fr,.int .i64 tz] w fun e w'=>e=.returned (.int .i64 (turnN rs fr L))∧TAt w' g (L.map (turnF rs fr tz)) A S mp∧Kept (eltM L A) w w':=by
 refine (callsIn_wide (n:=6)).1 ?_
 obtain⟨va,vc,hvv,_,_⟩:=hv.sl
 have HVV:=Lib.hid hvv
 have HV:=Lib.hid hv
 have HIN:=Lib.hid hin
 have HVB:=Lib.hid hvb
 have HID:=Lib.hid hID
 clear hvb hin hv hID
 subst hvv
 refine callsIn_of_wp_marks Tryz.func109 rfl trivial ?_ rfl
 simp only [Tryz.ntmps109,List.size_toArray,List.length_cons,List.length_nil,Nat.reduceAdd,Nat.reduceSub,Array.replicate_succ,Array.replicate_zero,List.push_toArray,List.append_toArray,List.nil_append,List.cons_append]
 gi_wp2_with (refine⟨trivial,?_⟩;gi_at_call 99;refine (callsIn_wide.2 (all_any g _)).mono ?_;rintro e w' ⟨rfl,rfl⟩)
 obtain⟨W0,hW0⟩:∃W0,(((((w.alloc (.cells #[.slice va rs.length vc] 60)).alloc (.cells #[.int .i64 fr] 3)).alloc (.cells #[.int .i64 tz] 3)).alloc (.cells #[.int .i64 0] 3)).alloc (.cells #[.pointer (some ⟨g,0,none⟩)] 102))=W0:=⟨_,rfl⟩
 have hC:CJ w W0.heap.size (eltM L A) (turnX w.heap.size g (.slice va rs.length vc) fr tz 0) g L A S mp (fun _=>False) W0:=by
  rw [←hW0]
  have h9:=(((((CJ.start (M:=eltM L A) h).boxed #[.slice va rs.length vc] 60).boxed #[.int .i64 fr] 3).boxed #[.int .i64 tz] 3).boxed #[.int .i64 0] 3).boxed #[.pointer (some ⟨g,0,none⟩)] 102
  simp only [World.size_alloc] at h9 ⊢
  exact h9
 rw [hW0]
 clear hW0
 refine wpIn_iter rfl (by decide) (gf:=140) (lb:=#[.pointer (some ⟨w.heap.size+1+1+1+1,0,none⟩)]) rfl trivial (enters_of Tryz.func140 (by kernel_rfl) rfl) (all1_iter (A:=A) (S:=S) (g:=g) trivial rfl (by decide) hdoc hlen) (fun _ _=>rfl) W0.heap.size rfl (turnJ w W0.heap.size g (.slice va rs.length vc) rs fr tz L A S mp) (fun _ _ _=>False) ?hrd ?hgr ?hgx ?hob ?hox ?h0 ?round ?done ?stop
 case hrd=>intro i X W hJ;exact⟨hJ.cell 4 rfl 0 rfl,hJ.tree.shape.key (turnU_key rs fr tz L i).symm⟩
 case hgr=>intro i X W W' hJ hk;exact hJ.grow hk
 case hgx=>intro c X W W' h _;exact h
 case hob=>intro i X W o' hJ;exact hJ.put (Nat.le_succ _) o'
 case hox=>intro c X W o' hJ;exact hJ
 case h0=>intro o1 o2;exact (hC.alloc o1).alloc o2
 case round =>
  intro i W K hi hK
  have hm:=nth_lt hi
  unfold allEnc
  generalize nth L i=m at hm ⊢
  gi_wp2
  rintro X W h2 hJ0
  have hJ:CJ w W0.heap.size (eltM L A) (turnX w.heap.size g (.slice va rs.length vc) fr tz (turnN rs fr (L.take i))) g (turnU rs fr tz L i) A S mp X W:=hJ0
  obtain⟨u1,u2⟩:=turnU_at (rs:=rs) (fr:=fr) (tz:=tz) hm
  have hmU:m∈turnU rs fr tz L i:=by rw [u1];simp
  have hmL:=List.mem_of_getElem? hm
  have he:=hJ.tree.elt m hmU
  have e0:W.cell? ⟨A m.id,0,none⟩=some (.int .i64 m.id.t):=he.cell' rfl
  have e1:W.cell? ⟨A m.id,1,none⟩=some (.int .i64 m.id.s):=he.cell' rfl
  have e5:W.cell? ⟨A m.id,5,none⟩=some (.int .i64 m.st):=he.cell' rfl
  have fe:=he.frozen 5
  have c0:W.cell? ⟨w.heap.size,0,none⟩=some (.slice va rs.length vc):=hJ.cell 0 rfl 0 rfl
  have c1:W.cell? ⟨w.heap.size+1,0,none⟩=some (.int .i64 fr):=hJ.cell 1 rfl 0 rfl
  have c2:W.cell? ⟨w.heap.size+1+1,0,none⟩=some (.int .i64 tz):=hJ.cell 2 rfl 0 rfl
  have c3:W.cell? ⟨w.heap.size+1+1+1,0,none⟩=some (.int .i64 (turnN rs fr (L.take i))):=hJ.cell 3 rfl 0 rfl
  have f3:=hJ.frozen 3 rfl 0
  have hl:=hJ.low (A m.id) (.inr (.inr (.inl ⟨m.id,List.mem_map.2 ⟨m,hmU,rfl⟩,rfl⟩)))
  have n1:¬A m.id=w.heap.size:=by omega
  have n2:¬A m.id=w.heap.size+1:=by omega
  have n3:¬A m.id=w.heap.size+1+1:=by omega
  have n4:¬A m.id=w.heap.size+1+1+1:=by omega
  have n5:¬w.heap.size=A m.id:=by omega
  have n6:¬w.heap.size+1=A m.id:=by omega
  have n7:¬w.heap.size+1+1=A m.id:=by omega
  have n8:¬w.heap.size+1+1+1=A m.id:=by omega
  have hsl:=turnN_le rs fr (L.take i)
  have hlb:((L.take i).length:Int)≤900000:=by have:=List.length_take_le i L;have:=hlen;omega
  have hs1:0≤turnN rs fr (L.take i):=hsl.1
  have hs2:turnN rs fr (L.take i)≤900000:=by omega
  have hvW:SlAt runE W (.slice va rs.length vc) rs:=sl_keep0 HV.out hJ.kept HVB.out
  have HVW:=Lib.hid hvW
  have H2:=Lib.hid h2
  have HJ:=Lib.hid hJ
  have HM:=Lib.hid hm
  have U1:=Lib.hid u1
  have U2:=Lib.hid u2
  have HID:=Lib.hid (HID.out m hmL)
  clear h2 hJ0 hJ hm u1 u2 hmU hmL he hl hsl hlb hvW
  have HN:Hid (∀W':World,Kept (fun _=>False) W W'→Calls Tryz.prog 149 #[.slice va rs.length vc,.agg #[.int .i64 m.id.t,.int .i64 m.id.s]] W' fun e w'=>e=.returned (.bool (nameL rs m.id))∧Grew W' w'):=Lib.hid fun W' hk=>named_any (HVW.out.kept hk) HIN.out hrl m.id HID.out
  by_cases q5:m.st=fr
  ·have tb:turnB rs fr m=nameL rs m.id:=by unfold turnB;rw [decide_eq_true q5,Bool.true_and]
   have TB:=Lib.hid tb
   rw [q5] at e5
   clear tb
   generalize nameL rs m.id=bb at *
   gi_wp2
   refine region_cut (fun W'=>Grew W W') ?_
   apply Exists.intro
   refine⟨?_,?_⟩
   focus
    gi_region_with ((refine⟨trivial,?_⟩;gi_at_call 149;refine (CallsIn.inRound _ (callsIn_wide.2 (HN.out _ (by first | exact (Kept.refl _ _).drew | exact Kept.refl _ _)))).mono ?_;rintro e w' ⟨rfl,hg⟩))
    all_goals exact⟨rfl,rfl,((Grew.refl W).drew).trans hg⟩
   rintro W' hg
   have hJ':=HJ.out.grew hg.kept
   have d2:=cell_keep hg.kept c2
   have d3:=cell_keep hg.kept c3
   have d5:=cell_keep hg.kept e5
   have g3:=hJ'.frozen 3 rfl 0
   have g5:W'.frozen? ⟨A m.id,5,none⟩=false:=(hJ'.tree.elt m (by rw [U1.out];simp)).frozen 5
   have HJ':=Lib.hid hJ'
   have HG:=Lib.hid hg
   have hB9:Hid (w.heap.size+1+1+1+1<W0.heap.size∧A m.id<w.heap.size):=Lib.hid ⟨(HJ.out.box _ (List.mem_of_getElem? (i:=4) rfl)).1.2,HJ.out.low _ (.inr (.inr (.inl ⟨m.id,List.mem_map.2 ⟨m,by rw [U1.out];simp,rfl⟩,rfl⟩)))⟩
   clear e0 e1 e5 fe c0 c1 c2 c3 f3 hJ' hg HN
   have htk:L.take (i+1)=L.take i++[m]:=by rw [List.take_add_one,HM.out];rfl
   have hnd:(ids (turnU rs fr tz L i)).Nodup:=by rw [key_ids (turnU_key rs fr tz L i)];exact hdoc.nodup
   have HND:=Lib.hid hnd
   clear hnd
   cases bb with
   | true =>
    have hn1:turnN rs fr (L.take (i+1))=turnN rs fr (L.take i)+1:=by rw [htk,turnN_snoc,if_pos TB.out]
    have hf1:turnF rs fr tz m={ m with st:=tz }:=by unfold turnF;rw [if_pos TB.out]
    have HN2:=Lib.hid hn1
    have HF2:=Lib.hid hf1
    clear hn1 htk hf1
    gi_wp2
    have hk:Kept (fun b=>b=A m.id∨b=w.heap.size+1+1+1) W' ((W'.setCell ⟨A m.id,5,none⟩ (.int .i64 tz)).setCell ⟨w.heap.size+1+1+1,0,none⟩ (.int .i64 (turnN rs fr (L.take i)+1))) :=
     ((Kept.refl _ _).setCell (p:=⟨A m.id,5,none⟩) (fun _=>.inl rfl) _).setCell (p:=⟨w.heap.size+1+1+1,0,none⟩) (fun _=>.inr rfl) _
    have ho:=HJ.out.off H2.out (Y:=fun b=>b=A m.id∨b=w.heap.size+1+1+1) ((HG.out.kept.mono (fun _ _ h=>h.elim)).trans hk (fun _ _ h=>h)) (by have h9:=hB9.out;intro b hb;omega)
    refine⟨ho.1,ho.2,?_⟩
    show CJ _ _ _ _ _ _ _ _ _ _ _
    rw [HN2.out,U2.out,HF2.out]
    have h7:=HJ'.out
    rw [U1.out] at h7
    have h8:=h7.state (by rw [←U1.out];exact HND.out) ⟨m.id,List.mem_map.2 ⟨m,List.mem_of_getElem? HM.out,rfl⟩,rfl⟩ tz
    exact h8.set 3 (.int .i64 (turnN rs fr (L.take i)+1)) rfl (turnX_nodup ..)
   | false =>
    have hn1:turnN rs fr (L.take (i+1))=turnN rs fr (L.take i):=by rw [htk,turnN_snoc,if_neg (by rw [TB.out];simp),Int.add_zero]
    have hf1:turnF rs fr tz m=m:=by unfold turnF;rw [if_neg (by rw [TB.out];simp)]
    have HN2:=Lib.hid hn1
    have HF2:=Lib.hid hf1
    clear hn1 htk hf1
    gi_wp2
    have ho:=HJ.out.off H2.out (Y:=fun _=>False) HG.out.kept (fun _ h=>h.elim)
    refine⟨ho.1,ho.2,?_⟩
    show CJ _ _ _ _ _ _ _ _ _ _ _
    rw [HN2.out,U2.out,HF2.out,←U1.out]
    exact HJ'.out
  ·have tb:turnB rs fr m=false:=by unfold turnB;rw [decide_eq_false q5,Bool.false_and]
   have htk:L.take (i+1)=L.take i++[m]:=by rw [List.take_add_one,HM.out];rfl
   have hn1:turnN rs fr (L.take (i+1))=turnN rs fr (L.take i):=by rw [htk,turnN_snoc,if_neg (by rw [tb];simp),Int.add_zero]
   have hf1:turnF rs fr tz m=m:=by unfold turnF;rw [if_neg (by rw [tb];simp)]
   have q6:(m.st == fr)=false:=by simpa using q5
   have HN2:=Lib.hid hn1
   have HF2:=Lib.hid hf1
   clear tb hn1 htk hf1 HN
   gi_wp2
   refine region_cut (fun W'=>W'=W.drew) ?_
   apply Exists.intro
   refine⟨?_,?_⟩
   focus
    gi_region_with (refine⟨trivial,?_⟩)
    all_goals exact⟨rfl,rfl,rfl⟩
   rintro W' rfl
   gi_wp2
   have ho:=HJ.out.off H2.out (Y:=fun _=>False) ((Kept.refl _ _).drew) (fun _ h=>h.elim)
   refine⟨ho.1,ho.2,?_⟩
   show CJ _ _ _ _ _ _ _ _ _ _ _
   rw [HN2.out,U2.out,HF2.out,←U1.out]
   exact HJ.out.drew
 case done =>
  rintro X W hJ0 hK
  have hJ:CJ w W0.heap.size (eltM L A) (turnX w.heap.size g (.slice va rs.length vc) fr tz (turnN rs fr (L.take L.length))) g (turnU rs fr tz L L.length) A S mp X W:=hJ0
  have hu:turnU rs fr tz L L.length=L.map (turnF rs fr tz):=by unfold turnU;rw [List.take_length,List.drop_length,List.append_nil]
  rw [List.take_length,hu] at hJ
  have HJ:=Lib.hid hJ
  have HK:=Lib.hid hK
  have c3:W.cell? ⟨w.heap.size+1+1+1,0,none⟩=some (.int .i64 (turnN rs fr L)):=hJ.cell 3 rfl 0 rfl
  clear hJ0 hJ hK hu
  gi_wp2
  have hC2:=HJ.out.taken (.deferred none)
  exact ret_range HK.out (results_tmp rfl _ _ _) ⟨rfl,hC2.tree,hC2.kept⟩
 case stop =>
  rintro c X W h _
  exact h.elim
end Go.Proofs.YtjohljmpcblpjaaGreatDoor.Tr
namespace Go.Proofs.YtjohljmpcblpjaaGreatDoor.Tr
open Go.RowKit Go.Proofs.YtjohljmpcblpjaaGreatDoor.St
theorem run_lookupK_nil {P:Program}{T kt et:TypeId}{κ:Type} [DecidableEq κ] {K:KeyE P kt κ}{k:κ}{w:World}(ht:P.underlying T=some (.map kt et)){z:Value}(hz:(zeroValue et).run P w=.ok z w) :
  (Instr.lookup T (.map none) (K.enc k) false).run P w=.ok z w:=by
 have h:=run_findKey_any (P:=P) (w:=w) (K:=K) (kvs:=[]) (k:=k) (es:=[]) rfl
 simp [Instr.lookup,run_underlying ht,Result.andThen,K.check,h,findK,hz]
variable {w w':World} {g:Nat} {L:List Nd} {A:ID→Nat} {S:ID→Rw} {mp:Option Nat}
theorem TAt.look (h:TAt w g L A S mp) (r:ID):(Instr.lookup 185 (.map mp) (.agg #[.int .i64 r.t,.int .i64 r.s]) false).run Tryz.prog w=.ok (.pointer (if r∈ids L then some ⟨A r,0,none⟩ else none)) w:=by
 rcases h.by_ with ⟨rfl,rfl⟩|⟨b,kvs,rfl,hm,_,_,hk⟩
 ·exact run_lookupK_nil (K:=keyI) (k:=r) Tryz.underlying185 (by kernel_rfl)
 ·have h1:=hk r
  by_cases hr:r∈ids L
  ·rw [if_pos hr] at h1 ⊢
   exact run_lookupK (K:=keyI) (k:=r) Tryz.underlying185 hm h1
  ·rw [if_neg hr] at h1 ⊢
   exact run_lookupK_none (K:=keyI) (k:=r) Tryz.underlying185 hm h1 (by kernel_rfl)
theorem new_any (w:World):Calls Tryz.prog 86 #[] w fun e w'=>e=.returned (.pointer (some ⟨w.heap.size,0,none⟩))∧w'=w.alloc (.cells #[.slice none 0 0,.map none] 187):=by
 go_enter Tryz.func86,Tryz.ntmps86
 go_wp2
 go_ret
 exact⟨rfl,rfl⟩
theorem new_at (w:World):TAt (w.alloc (.cells #[.slice none 0 0,.map none] 187)) w.heap.size [] (fun _=>0) (fun _=>⟨none,0,0⟩) none where
 top:=Blk.new w _ _
 elt:=fun n hn=>by simp at hn
 row:=fun r _=>.inl ⟨rfl,rfl⟩
 by_:=.inl ⟨rfl,rfl⟩
 one:=fun x hx=>by simp [ids] at hx
 far:=fun x y hx hy b hb=>by cases hb
theorem delete_any0 (h:TAt w g L A S mp) (hdoc:Doc L) (hlen:L.length≤900000) (hID:∀n∈L,0≤n.id.t∧n.id.t≤2147483647)
  {v:Value} {rs:List Run} (hv:SlAt runE w v rs) (hin:∀r∈rs,r.In) (hrl:rs.length≤1000000000) (hvb:∀b,v.ownBlock=some b→b<w.heap.size→rs≠[]→¬eltM L A b) :
  Calls Tryz.prog 90 #[.pointer (some ⟨g,0,none⟩),v] w fun e w'=>e=.returned (.int .i64 (turnN rs 1 L))∧TAt w' g (L.map (turnF rs 1 2)) A S mp∧Kept (eltM L A) w w':=by
 have HT:=Lib.hid (turn_any0 h hdoc hlen hID hv hin hrl hvb 1 2)
 clear h hv hvb
 go_enter Tryz.func90,Tryz.ntmps90
 go_wp2_with (go_at_call 109;refine HT.out.mono ?_;rintro e w' ⟨rfl,h1,h2⟩)
 go_ret
 exact⟨rfl,h1,h2⟩
theorem settle_any0 (h:TAt w g L A S mp) (hdoc:Doc L) (hlen:L.length≤900000) (hID:∀n∈L,0≤n.id.t∧n.id.t≤2147483647)
  {v:Value} {rs:List Run} (hv:SlAt runE w v rs) (hin:∀r∈rs,r.In) (hrl:rs.length≤1000000000) (hvb:∀b,v.ownBlock=some b→b<w.heap.size→rs≠[]→¬eltM L A b) :
  Calls Tryz.prog 64 #[.pointer (some ⟨g,0,none⟩),v] w fun e w'=>e=.returned (.int .i64 (turnN rs 2 L))∧TAt w' g (L.map (turnF rs 2 3)) A S mp∧Kept (eltM L A) w w':=by
 have HT:=Lib.hid (turn_any0 h hdoc hlen hID hv hin hrl hvb 2 3)
 clear h hv hvb
 go_enter Tryz.func64,Tryz.ntmps64
 go_wp2_with (go_at_call 109;refine HT.out.mono ?_;rintro e w' ⟨rfl,h1,h2⟩)
 go_ret
 exact⟨rfl,h1,h2⟩
noncomputable def whyE (L:List Nd) (i ref:ID):Int:=by
 classical exact if ¬ref.lt i then 9 else if ref≠ID.zero∧ref∉ids L then 11 else 0
theorem why_any (h:TAt w g L A S mp) (i ref:ID):Calls Tryz.prog 128 #[.pointer (some ⟨g,0,none⟩),idV i,idV ref] w fun e w'=>e=.returned (.int .i64 (whyE L i ref))∧Grew w w':=by
 obtain⟨it,is⟩:=i
 obtain⟨t,s⟩:=ref
 show Calls _ _ #[_,.agg #[.int .i64 it,.int .i64 is],.agg #[.int .i64 t,.int .i64 s]] _ _
 have hg0:Grew w ((w.alloc (.cells #[.int .i64 it,.int .i64 is] 59)).alloc (.cells #[.int .i64 t,.int .i64 s] 59)):=((Grew.refl w).alloc _).alloc _
 have b0:=Blk.new (w.alloc (.cells #[.int .i64 it,.int .i64 is] 59)) 59 #[.int .i64 t,.int .i64 s]
 rw [World.size_alloc] at b0
 have hc:∀w,Calls Tryz.prog 155 #[.agg #[.int .i64 t,.int .i64 s],.agg #[.int .i64 it,.int .i64 is]] w fun e w'=>e=.returned (.int .i64 ((⟨t,s⟩:ID).cmp ⟨it,is⟩))∧Grew w w':=compare_any ⟨t,s⟩ ⟨it,is⟩
 have HC:=Lib.hid hc
 have G0:=Lib.hid hg0
 have B0:=Lib.hid b0
 have HT:=Lib.hid h
 have hgl:=h.top.lt
 have hbd:=cmp_bd ⟨t,s⟩ ⟨it,is⟩
 clear h hg0 b0 hc
 by_cases q:(⟨t,s⟩:ID).lt ⟨it,is⟩
 ·have q1:¬(0:Int)≤(⟨t,s⟩:ID).cmp ⟨it,is⟩:=fun h=>by have:=cmp_lt.2 q;omega
  generalize (⟨t,s⟩:ID).cmp ⟨it,is⟩=k at *
  go_enter Tryz.func128,Tryz.ntmps128
  go_wp2_with (go_at_call 155;refine (HC.out _).mono ?_;rintro e w1 ⟨rfl,hg1⟩)
  have hT1:=(HT.out.still G0.out.kept).still hg1.kept
  have hb1:=hg1.box B0.out
  have y0:w1.cell? ⟨w.heap.size+1,0,none⟩=some (.int .i64 t):=hb1.cell' rfl
  have y1:w1.cell? ⟨w.heap.size+1,1,none⟩=some (.int .i64 s):=hb1.cell' rfl
  have y2:w1.cell? ⟨g,1,none⟩=some (.map mp):=hT1.top.cell' rfl
  have hlk:=(hT1.still ((Kept.refl (fun _=>False) w1).drew)).look ⟨t,s⟩
  have GG:=Lib.hid (G0.out.trans hg1.drew)
  simp only at hlk
  clear hT1 hb1 hg1
  by_cases hz:(⟨t,s⟩:ID)=ID.zero
  ·have e:whyE L ⟨it,is⟩ ⟨t,s⟩=0:=by
    unfold whyE
    rw [if_neg (fun h=>h q),if_neg (fun h=>h.1 hz)]
   have EE:=Lib.hid e
   cases hz
   clear e
   go_region
   all_goals go_wp2
   all_goals go_ret
   all_goals exact⟨by rw [EE.out];rfl,GG.out⟩
  ·have hne:t=0→¬s=0:=fun h1 h2=>hz (by rw [h1,h2];rfl)
   by_cases hr:(⟨t,s⟩:ID)∈ids L
   ·have e:whyE L ⟨it,is⟩ ⟨t,s⟩=0:=by
     unfold whyE
     rw [if_neg (fun h=>h q),if_neg (fun h=>h.2 hr)]
    have EE:=Lib.hid e
    rw [if_pos hr] at hlk
    by_cases h0:t=0
    ·subst h0
     have h1:=hne rfl
     clear hz hne hr e
     go_region
     all_goals go_wp2
     all_goals go_ret
     all_goals exact⟨by rw [EE.out];rfl,GG.out⟩
    ·clear hz hne hr e
     go_region
     all_goals go_wp2
     all_goals go_ret
     all_goals exact⟨by rw [EE.out];rfl,GG.out⟩
   ·have e:whyE L ⟨it,is⟩ ⟨t,s⟩=11:=by
     unfold whyE
     rw [if_neg (fun h=>h q),if_pos ⟨hz,hr⟩]
    have EE:=Lib.hid e
    rw [if_neg hr] at hlk
    by_cases h0:t=0
    ·subst h0
     have h1:=hne rfl
     clear hz hne hr e
     go_region
     all_goals go_wp2
     all_goals go_ret
     all_goals exact⟨by rw [EE.out];rfl,GG.out⟩
    ·clear hz hne hr e
     go_region
     all_goals go_wp2
     all_goals go_ret
     all_goals exact⟨by rw [EE.out];rfl,GG.out⟩
 ·have q1:(0:Int)≤(⟨t,s⟩:ID).cmp ⟨it,is⟩:=by
   rcases Int.lt_or_le ((⟨t,s⟩:ID).cmp ⟨it,is⟩) 0 with h|h
   ·exact absurd (cmp_lt.1 h) q
   ·exact h
  have e:whyE L ⟨it,is⟩ ⟨t,s⟩=9:=if_pos q
  rw [e]
  generalize (⟨t,s⟩:ID).cmp ⟨it,is⟩=k at *
  go_enter Tryz.func128,Tryz.ntmps128
  go_wp2_with (go_at_call 155;refine (HC.out _).mono ?_;rintro e w1 ⟨rfl,hg1⟩)
  go_ret
  exact⟨rfl,G0.out.trans hg1⟩
end Go.Proofs.YtjohljmpcblpjaaGreatDoor.Tr
