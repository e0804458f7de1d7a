/- hearsayref24.Whole: the document of the row of a closed set. -/
import Derived.Test.YtjohljmpcblpjaaGreatDoorM32
import Derived.Test.YtjohljmpcblpjaaGreatDoorM37
set_option maxRecDepth 100000
set_option maxHeartbeats 4000000
namespace Go.Proofs.YtjohljmpcblpjaaGreatDoor.Pa
open Go.RowKit Go.Proofs.YtjohljmpcblpjaaGreatDoor.St Go.Proofs.YtjohljmpcblpjaaGreatDoor Go.Proofs.YtjohljmpcblpjaaGreatDoor.Tr
attribute [local go_sem] Oper.semAt_some
theorem decode_runeP (s:ByteArray) (i:Nat):isRuneP ((Utf8.decode s i).1:Int):=by
 have h0:=(s.get! i).toNat_lt
 have h1:=(s.get! (i+1)).toNat_lt
 have h2:=(s.get! (i+2)).toNat_lt
 have h3:=(s.get! (i+3)).toNat_lt
 obtain⟨x,hx⟩:∃x,Utf8.decode s i=x:=⟨_,rfl⟩
 rw [hx]
 simp only [Utf8.decode,Nat.add_zero] at hx
 simp only [Bool.and_eq_true,beq_iff_eq,decide_eq_true_iff,Gl.valid_iff] at hx
 generalize (s.get! i).toNat=a at *
 generalize (s.get! (i+1)).toNat=b at *
 generalize (s.get! (i+2)).toNat=c at *
 generalize (s.get! (i+3)).toNat=d at *
 have hE:Utf8.runeError=65533:=rfl
 rw [hE] at hx
 unfold isRuneP
 repeat' split at hx
 all_goals
  subst hx
  dsimp only
  omega
theorem runes_runeP {s:ByteArray}{i:Nat}{r:Int}(h:r∈runesL s i):isRuneP r:=by
 unfold runesL at h
 obtain⟨j,_,rfl⟩:=List.mem_map.1 h
 exact decode_runeP s j
def GoodN (n:Nd):Prop:=n.id.Is∧isRuneP n.rune
theorem fresh_rune:∀(i ref:ID) (rs:List Int),∀n∈freshL i ref rs,n.rune∈rs
 | _,_,[],n,h=>by cases h
 | i,ref,r::rs,n,h=>by
  rcases List.mem_cons.1 h with rfl|h
  ·exact List.mem_cons_self
  ·exact List.mem_cons_of_mem _ (fresh_rune _ _ rs n h)
theorem insL_good {L:List Nd}(h:∀n∈L,GoodN n) (i ref:ID) (sz:Nat) (bad:Bool){rs:List Int}(hr:∀r∈rs,isRuneP r):∀n∈insL L i ref sz bad rs,GoodN n:=fun n hn=>by
 refine⟨insL_is (fun m hm=>(h m hm).1) _ _ _ _ _ n hn,?_⟩
 unfold insL at hn
 split at hn
 ·exact (h n hn).2
 ·rcases List.mem_append.1 hn with hn | hn
  ·rcases List.mem_append.1 hn with hn | hn
   ·exact (h n (List.mem_of_mem_take hn)).2
   ·exact hr _ (fresh_rune _ _ _ n hn)
  ·exact (h n (List.mem_of_mem_drop hn)).2
theorem turn_good {L:List Nd}(h:∀n∈L,GoodN n) (rs:List Run) (a b:Int):∀n∈L.map (turnF rs a b),GoodN n:=fun n hn=>by
 obtain⟨m,hm,rfl⟩:=List.mem_map.1 hn
 have h1:=h m hm
 unfold turnF
 split <;> exact h1
theorem stepD_good {L:List Nd}(h:∀n∈L,GoodN n) (e:Ent):∀n∈stepD L e,GoodN n:=by
 unfold stepD
 split
 ·exact insL_good h _ _ _ _ fun r hr=>runes_runeP hr
 ·split
  ·exact turn_good h _ _ _
  ·exact h
theorem foldD_good:∀(R:List Ent) (L:List Nd),(∀n∈L,GoodN n)→∀n∈R.foldl stepD L,GoodN n
 | [],_,h=>h
 | e::R,_,h=>foldD_good R _ (stepD_good h e)
theorem docL_good (l:List Ent) (i:Nat):∀n∈docL l i,GoodN n:=foldD_good _ _ fun n h=>by cases h
theorem docP_good (l:List Ent):∀n∈docP l,GoodN n:=foldD_good _ _ fun n h=>by cases h
theorem rowP_len (f:Ent→Dot) (D:Ent→List Dot) (l:List Ent):∀(n:Nat) (V:List Dot),(rowP f D l n V).length≤n
 | 0,_=>Nat.zero_le _
 | n+1,V=>by
  unfold rowP
  split
  ·exact Nat.zero_le _
  ·rw [List.length_cons];exact Nat.succ_le_succ (rowP_len f D l n _)
theorem rowL_len (l:List Ent):(rowL l).length≤l.length:=rowP_len _ _ _ _ _
theorem rins_out {w w':World}{v:Value}{L:List Nd}{i ref:ID}{s:ByteArray}{e:Ending}(h:RInsPost w v L i ref s e w') (hv:SlAt nodeE w v L) (hr:RowV v L.length) :
  (∃(a:Option Addr) (c:Nat),e=.returned (.tuple #[.agg #[.slice a (insL L i ref s.size (badB s) (runesL s 0)).length c],.int .i64 (insE L i ref s.size (badB s) (runesL s 0))])∧SlAt nodeE w' (.slice a (insL L i ref s.size (badB s) (runesL s 0)).length c) (insL L i ref s.size (badB s) (runesL s 0))∧RowV (.slice a (insL L i ref s.size (badB s) (runesL s 0)).length c) (insL L i ref s.size (badB s) (runesL s 0)).length∧(insE L i ref s.size (badB s) (runesL s 0)≠0→.slice a (insL L i ref s.size (badB s) (runesL s 0)).length c=v)∧∀b,(Value.slice a (insL L i ref s.size (badB s) (runesL s 0)).length c).ownBlock=some b→v.ownBlock=some b∨(w.heap.size≤b∧b<w'.heap.size))∧Kept (fun _=>False) w w':=by
 obtain⟨⟨u,rfl,hu⟩,hk⟩:=h
 refine⟨?_,hk⟩
 rcases hu with ⟨hE,rfl⟩|⟨hE,ho⟩
 ·have e1:insL L i ref s.size (badB s) (runesL s 0)=L:=if_pos hE
  rw [e1]
  obtain⟨a,c,rfl,_,_⟩:=hv.sl
  exact⟨a,c,rfl,hv.kept hk,hr,fun _=>rfl,fun b hb=>.inl hb⟩
 ·obtain⟨a,c,rfl⟩:=owns_sl ho
  refine⟨a,c,rfl,owns_slAt (E:=nodeE) ho,?_,fun h=>absurd hE h,fun b hb=>.inr (Tr.owns_lt ho b hb)⟩
  rcases (own_of (E:=nodeE) ho).2 with ⟨h1,_⟩|⟨g,cap,h1,_⟩
  ·exact .inl h1
  ·exact .inr ⟨g,cap,h1⟩
theorem row_owns {w:World}{base n:Nat}{v:Value}{L:List Nd}(ho:w.ownsRow base 84 6 v n (nodeE.flat L)):RowV v n:=by
 rcases (own_of (E:=nodeE) ho).2 with ⟨h1,h2⟩|⟨g,cap,h1,_⟩
 ·exact .inl h1
 ·exact .inr ⟨g,cap,h1⟩
theorem rwhole_any {w:World}{lv:Value}{l:List Ent}(hl:SlAt entE w lv l) (hin:∀e∈l,OpIn w e) (hc:closedE l=0) (hlen:l.length≤1000) (hdl:∀e∈l,e.D.length≤1000000∧e.G.length≤1000000∧e.v.text.size≤100000) (htx:textN l≤800000) :
  Calls Tryz.prog 56 #[lv] w fun e w'=>(∃u,e=.returned (.agg #[u])∧SlAt nodeE w' u (docP l)∧RowV u (docP l).length∧∀b,u.ownBlock=some b→b<w'.heap.size)∧Kept (fun _=>False) w w':=by
 obtain⟨hcl,_,_⟩:=closed_is hc
 have k1:Kept (fun _=>False) w ((w.alloc (.cells #[.slice none 0 0] 108)).alloc (.cells #[.slice none 0 0] 108)):=((Kept.refl _ _).alloc _).alloc _
 have b0:=(Blk.new w 108 #[.slice none 0 0]).alloc (.cells #[.slice none 0 0] 108)
 have b1:=Blk.new (w.alloc (.cells #[.slice none 0 0] 108)) 108 #[.slice none 0 0]
 have sz:((w.alloc (.cells #[.slice none 0 0] 108)).alloc (.cells #[.slice none 0 0] 108)).heap.size=w.heap.size+2:=by simp
 rw [World.size_alloc] at b1
 have RW:=Lib.hid (rrow_any (hl.kept k1) (fun e he=>(hin e he).at_.deps.kept k1) hcl hlen (fun e he=>(hdl e he).1))
 have HIN:=Lib.hid hin
 have HDL:=Lib.hid hdl
 have HCL:=Lib.hid hcl
 have hRl:(rowL l).length≤1000:=Nat.le_trans (rowL_len l) hlen
 obtain⟨la,lc,rfl,_,_⟩:=hl.sl
 clear hl hin hdl hcl hc
 go_enter Tryz.func56,Tryz.ntmps56
 go_upto_region 2 with fail
 obtain⟨z,hz⟩:∃z,w.heap.size=z:=⟨_,rfl⟩
 obtain⟨W0,hW0⟩:∃W0,((w.alloc (.cells #[.slice none 0 0] 108)).alloc (.cells #[.slice none 0 0] 108))=W0:=⟨_,rfl⟩
 rw [hW0] at k1 b0 b1 sz RW ⊢
 rw [hz] at b0 b1 sz ⊢
 have K1:=Lib.hid k1
 have B0:=Lib.hid b0
 have B1:=Lib.hid b1
 have HZ:=Lib.hid (And.intro hz sz)
 clear hW0 hz b0 b1 sz k1
 go_upto_region 3 with (go_at_call 96;refine RW.out.mono ?_;rintro e w1 ⟨⟨u,rfl,hu⟩,hk1⟩;obtain⟨ua,uc,rfl⟩:=owns_sl hu)
 have HU:=Lib.hid hu
 have KW1:=Lib.hid (K1.out.trans hk1 fun _ _ h=>h)
 have HK1:=Lib.hid hk1
 clear hu hk1 RW
 obtain⟨RN,hRN⟩:∃RN,(rowL l).length=RN:=⟨_,rfl⟩
 rw [hRN] at HU hRl ⊢
 have HRN:=Lib.hid hRN
 clear hRN
 go_wp2_with fail
 go_loopw [5] (fun iv wr=>∃(i:Nat) (v:Value),iv=.int .i64 i∧i≤RN∧Blk wr (z+1) 108 #[v]∧Blk wr z 108 #[.slice none 0 0]∧SlAt nodeE wr v (docL l i)∧RowV v (docL l i).length∧(∀b,v.ownBlock=some b→z+1<b∧b<wr.heap.size)∧Kept (fun b=>b=z+1) w1 wr) (fun iv _=>RN-(intOf iv).toNat)
 case atStart=>exact⟨0,_,rfl,Nat.zero_le _,HK1.out.blk (fun h=>h) B1.out,HK1.out.blk (fun h=>h) B0.out,.inl ⟨rfl,rfl⟩,.inl rfl,fun b h=>(by cases h),Kept.refl _ _⟩
 case round =>
  obtain⟨i,v,rfl,hi,hb1,hb0,hv,hrv,hap,hk⟩:=hrel
  obtain⟨va,vc,rfl,_,_⟩:=hv.sl
  have hi0:(0:Int)≤i:=by omega
  have HB1:=Lib.hid hb1
  have HB0:=Lib.hid hb0
  have HV:=Lib.hid hv
  have HRV:=Lib.hid hrv
  have HAP:=Lib.hid hap
  have HK:=Lib.hid hk
  have KWR:Hid (Kept (fun _=>False) w wr):=Lib.hid (KW1.out.trans hk fun b hb h=>by have:=HZ.out.1;omega)
  clear hb1 hb0 hv hrv hap hk
  obtain⟨VN,hVN⟩:∃VN,(docL l i).length=VN:=⟨_,rfl⟩
  rw [hVN] at HB1 HV HRV HAP
  have c1:=HB1.out.cell' (i:=0) (v:=.slice va VN vc) rfl
  have f1:=HB1.out.frozen 0
  by_cases hlt:i<RN
  case neg =>
   have hnl:¬(i:Int)<RN:=by omega
   have ED:Hid (docL l i=docP l):=Lib.hid (by
    have hd:i=(rowL l).length:=by have h9:=HRN.out;omega
    rw [hd]
    exact docL_all l)
   have HVN:=Lib.hid hVN
   have f0:=HB0.out.frozen 0
   have c0:=HB0.out.cell' (i:=0) (v:=.slice none 0 0) rfl
   clear hVN
   go_wp2_with fail
   have hz1:=kept_cell wr z (.slice va VN vc)
   have c9:=(HB0.out.set_ 0 (.slice va VN vc)).cell' (i:=0) (v:=.slice va VN vc) (by simp)
   refine bodyPost_ret (v:=.agg #[.slice va VN vc]) (by simp [results,Tryz.results56,go_sem,c9]) rfl ⟨⟨_,rfl,?_,?_,?_⟩,KWR.out.trans hz1 fun b hb h=>by have:=HZ.out.1;omega⟩
   ·rw [←ED.out];exact HV.out.keep hz1 fun b hb _ h=>by have h1:=(HAP.out b hb).1;omega
   ·rw [←ED.out,HVN.out];exact HRV.out
   ·exact fun b hb=>by have h1:=(HAP.out b hb).2;have h2:=hz1.size;omega
  case pos =>
   have hnl:(i:Int)<RN:=by omega
   obtain⟨x,hx⟩:∃x,(rowL l)[i]?=some x:=⟨_,List.getElem?_eq_getElem (by rw [HRN.out];exact hlt)⟩
   have hxl:x∈l:=rowL_sub x (List.mem_of_getElem? hx)
   have NX:Hid (docL l (i+1)=stepD (docL l i) x):=Lib.hid (docL_next hx)
   have RM:Hid ((docL l i).length+x.v.text.size≤800000):=Lib.hid (Nat.le_trans (docL_room HCL.out hx) htx)
   have XIN:=Lib.hid (HIN.out x hxl)
   have XDL:=Lib.hid (HDL.out x hxl)
   have hrn:(rowL l).length=RN:=HRN.out
   have hu:SlAt entE wr (.slice ua RN uc) (rowL l):=(owns_slAt (E:=entE) HU.out).keep HK.out fun b hb _ h=>by have h1:=owns_new HU.out b hb;have h2:=HZ.out.2;omega
   obtain⟨lg,lo,lc',e2,hcs⟩:=SlAt.opc hu (by omega)
   simp only [Value.slice.injEq] at e2
   obtain⟨rfl,-,rfl⟩:=e2
   have hcx:=hcs i x hx
   clear hcs hu hx hrn hxl
   have HVN:=Lib.hid hVN
   clear hVN
   obtain⟨⟨⟨ds,dq⟩,⟨da,dn,dc⟩,kd,⟨it,is⟩,⟨rt,rs⟩,tx,⟨ga,gn,gc⟩,st⟩,D,G⟩:=x
   obtain⟨c0,c1',c2,c3,c4,c5,c6,c7,c8,c9,c10⟩:=hcx
   have k6:Kept (fun _=>False) wr (wr.alloc (.cells #[.int .i64 ds,.int .i64 dq,.slice da dn dc,.int .i64 kd,.int .i64 it,.int .i64 is,.int .i64 rt,.int .i64 rs,.string tx,.slice ga gn gc,.int .i64 st] 62)):=(Kept.refl _ _).alloc _
   have b6:=Blk.new wr 62 #[.int .i64 ds,.int .i64 dq,.slice da dn dc,.int .i64 kd,.int .i64 it,.int .i64 is,.int .i64 rt,.int .i64 rs,.string tx,.slice ga gn gc,.int .i64 st]
   have ei:IntKind.i64.wrap ((i:Int)+1)=(i:Int)+1:=IntWalk.i64_in _ (by omega)
   clear c1 f1
   go_upto_region 7 with fail
   obtain⟨y,hy⟩:∃y,wr.heap.size=y:=⟨_,rfl⟩
   obtain⟨W6,hW6⟩:∃W6,wr.alloc (.cells #[.int .i64 ds,.int .i64 dq,.slice da dn dc,.int .i64 kd,.int .i64 it,.int .i64 is,.int .i64 rt,.int .i64 rs,.string tx,.slice ga gn gc,.int .i64 st] 62)=W6:=⟨_,rfl⟩
   rw [hW6] at k6 b6 ⊢
   rw [hy] at b6 ⊢
   have q1:=k6.blk (fun h=>h) HB1.out
   have c1:=q1.cell' (i:=0) (v:=.slice va VN vc) rfl
   have f1:=q1.frozen 0
   have z3:W6.cell? ⟨y,3,none⟩=some (.int .i64 kd):=b6.cell' rfl
   have K6:=Lib.hid k6
   have B6:=Lib.hid b6
   have HY:Hid (z+1<y):=Lib.hid (by have:=HB1.out.lt;omega)
   clear hW6 hy k6 b6 c0 c1' c2 c3 c4 c5 c6 c7 c8 c9 c10
   have GL:=Lib.hid (docL_good l i)
   have FINB:Hid (∀W,Kept (fun b=>b=z+1) w1 W→Blk W z 108 #[.slice none 0 0]):=Lib.hid fun W h=>h.blk (by omega) (HK1.out.blk (fun h=>h) B0.out)
   by_cases hk1:kd=1
   case pos =>
    subst hk1
    have z4:W6.cell? ⟨y,4,none⟩=some (.int .i64 it):=B6.out.cell' rfl
    have z5:W6.cell? ⟨y,5,none⟩=some (.int .i64 is):=B6.out.cell' rfl
    have z6:W6.cell? ⟨y,6,none⟩=some (.int .i64 rt):=B6.out.cell' rfl
    have z7:W6.cell? ⟨y,7,none⟩=some (.int .i64 rs):=B6.out.cell' rfl
    have z8:W6.cell? ⟨y,8,none⟩=some (.string tx):=B6.out.cell' rfl
    have hv6:=HV.out.kept K6.out
    have hrv6:RowV (.slice va VN vc) (docL l i).length:=by rw [HVN.out];exact HRV.out
    have INS:=Lib.hid ((rinsert_any hv6 hrv6 (by have:=RM.out;omega) (fun n hn=>(GL.out n hn).1) ⟨it,is⟩ ⟨rt,rs⟩ tx XDL.out.2.2).mono fun e w' h=>rins_out h hv6 hrv6)
    have NX2:docL l (i+1)=insL (docL l i) ⟨it,is⟩ ⟨rt,rs⟩ tx.size (badB tx) (runesL tx 0):=NX.out.trans (by unfold stepD;rw [if_pos rfl])
    obtain⟨M,hM⟩:∃M,insL (docL l i) ⟨it,is⟩ ⟨rt,rs⟩ tx.size (badB tx) (runesL tx 0)=M:=⟨_,rfl⟩
    obtain⟨E,hE⟩:∃E,insE (docL l i) ⟨it,is⟩ ⟨rt,rs⟩ tx.size (badB tx) (runesL tx 0)=E:=⟨_,rfl⟩
    rw [hM] at INS NX2
    rw [hE] at INS
    obtain⟨MN,hMN⟩:∃MN,M.length=MN:=⟨_,rfl⟩
    rw [hMN] at INS
    have HMN:=Lib.hid hMN
    have NX3:=Lib.hid NX2
    clear hM hE hMN NX2 hv6 hrv6
    have INS2:Hid (Calls Tryz.prog 97 #[.agg #[.slice va VN vc],.agg #[.int .i64 it,.int .i64 is],.agg #[.int .i64 rt,.int .i64 rs],.string tx] W6 fun e w'=>(∃(a:Option Addr) (c:Nat),e=.returned (.tuple #[.agg #[.slice a MN c],.int .i64 E])∧SlAt nodeE w' (.slice a MN c) M∧RowV (.slice a MN c) MN∧(E≠0→Value.slice a MN c=Value.slice va VN vc)∧∀b,(Value.slice a MN c).ownBlock=some b→(Value.slice va VN vc).ownBlock=some b∨(W6.heap.size≤b∧b<w'.heap.size))∧Kept (fun _=>False) W6 w'):=INS
    clear INS
    go_upto_region 9 with (go_at_call 97;refine Calls.mono INS2.out ?_;rintro e w2 ⟨⟨ua2,uc2,rfl,hu2,hr2,hE2,hap2⟩,hk2⟩)
    have k8:Kept (fun _=>False) w2 (w2.alloc (.cells #[.slice ua2 MN uc2] 108)):=(Kept.refl _ _).alloc _
    have b8:=Blk.new w2 108 #[.slice ua2 MN uc2]
    obtain⟨t,ht⟩:∃t,w2.heap.size=t:=⟨_,rfl⟩
    obtain⟨W8,hW8⟩:∃W8,w2.alloc (.cells #[.slice ua2 MN uc2] 108)=W8:=⟨_,rfl⟩
    rw [hW8] at k8 b8 ⊢
    rw [ht] at b8 ⊢
    have K8:=Lib.hid (K6.out.trans (hk2.trans k8 fun _ _ h=>h) fun _ _ h=>h)
    have q8:=(hk2.trans k8 fun _ _ h=>h).blk (fun h=>h) B6.out
    have y3:W8.cell? ⟨y,3,none⟩=some (.int .i64 1):=q8.cell' rfl
    have t0:=b8.cell' (i:=0) (v:=.slice ua2 MN uc2) rfl
    have B18:=Lib.hid (K8.out.blk (fun h=>h) HB1.out)
    have g1:=B18.out.cell' (i:=0) (v:=.slice va VN vc) rfl
    have h1:=B18.out.frozen 0
    have HU8:=Lib.hid (hu2.kept k8)
    have HAP8:Hid (∀b,(Value.slice ua2 MN uc2).ownBlock=some b→z+1<b∧b<W8.heap.size):=Lib.hid fun b hb=>by
     rcases hap2 b hb with h9|h9
     ·have h7:=HAP.out b h9;have h8:=K8.out.size;omega
     ·have h7:=B6.out.lt;have h8:=HY.out;have h6:=k8.size;omega
    have HR2:=Lib.hid hr2
    have HE2:=Lib.hid hE2
    clear hW8 ht k8 b8 q8 q1 c1 f1 z3 z4 z5 z6 z7 z8 hu2 hr2 hE2 hap2 hk2 INS2
    by_cases hE0:E=0
    case pos =>
     subst hE0
     go_wp2_with fail
     have hz1:=kept_cell W8 (z+1) (.slice ua2 MN uc2)
     have KF:Hid (Kept (fun b=>b=z+1) w1 (W8.setCell ⟨z+1,0,none⟩ (.slice ua2 MN uc2))):=Lib.hid ((HK.out.trans K8.out fun _ _ h=>h.elim).trans hz1 fun _ _ h=>h)
     go_roundw
     case rel=>exact⟨i+1,.slice ua2 MN uc2,by go_num,by omega,by simpa using B18.out.set_ 0 (.slice ua2 MN uc2),FINB.out _ KF.out,by rw [NX3.out];exact HU8.out.keep hz1 fun b hb _ h=>by have h1:=(HAP8.out b hb).1;omega,by rw [NX3.out,HMN.out];exact HR2.out,fun b hb=>by have h1:=HAP8.out b hb;have h2:=hz1.size;omega,KF.out⟩
     case measure=>simp [intOf];omega
    case neg =>
     have SAME:=Lib.hid (HE2.out hE0)
     go_wp2_with fail
     have KF:Hid (Kept (fun b=>b=z+1) w1 W8):=Lib.hid (HK.out.trans K8.out fun _ _ h=>h.elim)
     go_roundw
     case rel=>exact⟨i+1,.slice va VN vc,by go_num,by omega,B18.out,FINB.out _ KF.out,by rw [NX3.out,←SAME.out];exact HU8.out,by rw [NX3.out,HMN.out,←SAME.out];exact HR2.out,fun b hb=>by have h1:=HAP.out b hb;have h2:=K8.out.size;omega,KF.out⟩
     case measure=>simp [intOf];omega
   case neg =>
    by_cases hk2:kd=2
    case pos =>
     subst hk2
     have z9:W6.cell? ⟨y,9,none⟩=some (.slice ga gn gc):=B6.out.cell' rfl
     have DEL:=Lib.hid (rdelete_any (HV.out.kept K6.out) (XIN.out.at_.gone.kept (KWR.out.trans K6.out fun _ _ h=>h)) XIN.out.runs XDL.out.2.1 (by have:=RM.out;omega) fun n hn=>by have h9:=(GL.out n hn).1;unfold ID.Is at h9;omega)
     have NX3:Hid (docL l (i+1)=(docL l i).map (turnF G 1 2)):=Lib.hid (NX.out.trans (by unfold stepD;rw [if_neg hk1,if_pos rfl]))
     rw [HVN.out] at DEL
     obtain⟨T,hT⟩:∃T,turnN G 1 (docL l i)=T:=⟨_,rfl⟩
     rw [hT] at DEL
     obtain⟨M,hM⟩:∃M,(docL l i).map (turnF G 1 2)=M:=⟨_,rfl⟩
     have HMN:Hid (M.length=VN):=Lib.hid (by rw [←hM,List.length_map,HVN.out])
     rw [hM] at DEL NX3
     clear hT hM
     have DEL2:Hid (Calls Tryz.prog 98 #[.agg #[.slice va VN vc],.slice ga gn gc] W6 fun e w'=>(∃u,e=.returned (.tuple #[.agg #[u],.int .i64 T])∧w'.ownsRow W6.heap.size 84 6 u VN (nodeE.flat M))∧Kept (fun _=>False) W6 w'):=DEL
     clear DEL
     go_wp2_with (go_at_call 98;refine Calls.mono DEL2.out ?_;rintro e w2 ⟨⟨u2,rfl,ho2⟩,hk2⟩;obtain⟨ua2,uc2,rfl⟩:=owns_sl ho2;have q2:=hk2.blk (fun h=>h) q1;have g1:=q2.cell' (i:=0) (v:=.slice va VN vc) rfl;have h1:=q2.frozen 0)
     have hz1:=kept_cell w2 (z+1) (.slice ua2 VN uc2)
     have KF:Hid (Kept (fun b=>b=z+1) w1 (w2.setCell ⟨z+1,0,none⟩ (.slice ua2 VN uc2))):=Lib.hid (((HK.out.trans K6.out fun _ _ h=>h.elim).trans hk2 fun _ _ h=>h.elim).trans hz1 fun _ _ h=>h)
     have HO2:=Lib.hid ho2
     have Q2:=Lib.hid q2
     clear ho2 hk2 q2 q1 g1 h1
     have AP2:Hid (∀b,(Value.slice ua2 VN uc2).ownBlock=some b→z+1<b∧b<(w2.setCell ⟨z+1,0,none⟩ (.slice ua2 VN uc2)).heap.size):=Lib.hid fun b hb=>by
      have h7:=Tr.owns_lt HO2.out b hb;have h8:=B6.out.lt;have h9:=HY.out;have h6:=hz1.size;omega
     go_roundw
     case rel=>exact⟨i+1,.slice ua2 VN uc2,by go_num,by omega,by simpa using Q2.out.set_ 0 (.slice ua2 VN uc2),FINB.out _ KF.out,by rw [NX3.out];exact (owns_slAt (E:=nodeE) HO2.out).keep hz1 fun b hb _ h=>by have h1:=(AP2.out b hb).1;omega,by rw [NX3.out,HMN.out];exact row_owns HO2.out,AP2.out,KF.out⟩
     case measure=>simp [intOf];omega
    case neg =>
     have NX3:Hid (docL l (i+1)=docL l i):=Lib.hid (NX.out.trans (by unfold stepD;rw [if_neg hk1,if_neg hk2]))
     have Q1:=Lib.hid q1
     have KF:Hid (Kept (fun b=>b=z+1) w1 W6):=Lib.hid (HK.out.trans K6.out fun _ _ h=>h.elim)
     clear q1 c1 f1
     go_wp2_with fail
     go_roundw
     case rel=>exact⟨i+1,.slice va VN vc,by go_num,by omega,Q1.out,FINB.out _ KF.out,by rw [NX3.out];exact HV.out.kept K6.out,by rw [NX3.out,HVN.out];exact HRV.out,fun b hb=>by have h1:=HAP.out b hb;have h2:=K6.out.size;omega,KF.out⟩
     case measure=>simp [intOf];omega
end Go.Proofs.YtjohljmpcblpjaaGreatDoor.Pa
