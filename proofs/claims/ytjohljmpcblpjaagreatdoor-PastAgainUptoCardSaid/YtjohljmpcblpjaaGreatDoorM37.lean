/- hearsayref11: put, Insert. -/
import Derived.Test.YtjohljmpcblpjaaGreatDoorM36
set_option maxRecDepth 100000
set_option maxHeartbeats 8000000
namespace Go.Proofs.YtjohljmpcblpjaaGreatDoor.Tr
open Go.RowKit Go.Sort Go.Proofs.YtjohljmpcblpjaaGreatDoor.St Go.Proofs.YtjohljmpcblpjaaGreatDoor Go.Proofs.YtjohljmpcblpjaaGreatDoor.Gl
attribute [local go_sem] Oper.semAt_some
def RowV (v:Value) (n:Nat):Prop:=v=.slice none 0 0∨∃g c,v=.slice (some ⟨g,0,none⟩) n c
theorem sl_pre {α:Type}{E:Enc α}{w:World}{a:Option Addr}{c n:Nat}{L:List α}(h:SlAt E w (.slice a L.length c) L) (hn:n≤L.length):SlAt E w (.slice a n c) (L.take n):=by
 rcases h with ⟨h,hL⟩|⟨x,d,h,h1,h2,h3,h4⟩
 ·injection h with e1 e2 e3
  subst e1 e3
  have hn0:n=0:=by omega
  subst hn0
  exact .inl ⟨rfl,by simp⟩
 ·injection h with e1 e2 e3
  subst e1 e3
  have hl:(L.take n).length=n:=by rw [List.length_take];omega
  refine .inr ⟨x,c,by rw [hl],by rw [hl];omega,h2,fun hne=>h3 (fun e=>hne (by rw [e];simp)),fun i y hy j u hu=>?_⟩
  rw [List.getElem?_take] at hy
  split at hy
  ·exact h4 i y hy j u hu
  ·cases hy
theorem sl_suf {α:Type}{E:Enc α}{w:World}{g c n:Nat}{L:List α}(h:SlAt E w (.slice (some ⟨g,0,none⟩) L.length c) L) (hn:n≤L.length):SlAt E w (.slice (some ⟨g,n * E.k,none⟩) (L.length-n) (c-n)) (L.drop n):=by
 rcases h with ⟨h,hL⟩|⟨x,d,h,h1,h2,h3,h4⟩
 ·cases h
 ·injection h with e1 e2 e3
  injection e1 with e1
  subst e1 e3
  refine .inr ⟨⟨g,n * E.k,none⟩,c-n,by rw [List.length_drop],by rw [List.length_drop];omega,by omega,fun _=>rfl,fun i y hy j u hu=>?_⟩
  rw [List.getElem?_drop] at hy
  have h9:=h4 (n+i) y hy j u hu
  have e:0+((n+i) * E.k+j)=n * E.k+(i * E.k+j):=by rw [Nat.add_mul];omega
  simp only [e] at h9
  exact h9
theorem placeGo_le {L:List Nd}{ref i:ID}:∀(f k:Nat),k≤L.length→placeGo f L ref i k≤L.length
 | 0,k,hk=>hk
 | f+1,k,hk=>by
  by_cases hlt:k<L.length
  ·obtain⟨x,hx⟩:=get_of_lt hlt
   unfold placeGo
   rw [hx]
   show (if x.ref=ref∧i.lt x.id then placeGo f L ref i (endP L k) else k)≤_
   split
   ·exact placeGo_le f _ (endP_in hlt).2
   ·exact hk
  ·rw [placeGo_end (by omega)];exact hk
theorem placeP_le {L:List Nd}{i ref:ID}(h:ref=ID.zero∨ref∈ids L):placeP L i ref≤L.length:=by
 unfold placeP
 refine placeGo_le _ _ ?_
 split
 ·exact Nat.zero_le _
 next h0 =>
  have hm:=h.resolve_left h0
  have : L.findIdx (fun n=>decide (n.id=ref))<L.length:=by
   obtain⟨n,hn,rfl⟩:=List.mem_map.1 hm
   exact List.findIdx_lt_length_of_exists ⟨n,hn,by simp⟩
  omega
def RInsPost (w:World) (v:Value) (L:List Nd) (i ref:ID) (s:ByteArray) (e:Ending) (w':World):Prop :=
 (∃u,e=.returned (.tuple #[.agg #[u],.int .i64 (insE L i ref s.size (badB s) (runesL s 0))])∧((insE L i ref s.size (badB s) (runesL s 0)≠0∧u=v)∨(insE L i ref s.size (badB s) (runesL s 0)=0∧w'.ownsRow w.heap.size 84 6 u (insL L i ref s.size (badB s) (runesL s 0)).length (nodeE.flat (insL L i ref s.size (badB s) (runesL s 0))))))∧Kept (fun _=>False) w w'
theorem rinsert_any {w:World}{v:Value}{L:List Nd}(h:SlAt nodeE w v L) (hv:RowV v L.length) (hlen:L.length≤800000) (hI:∀n∈L,n.id.Is) (i ref:ID) (s:ByteArray) (hs:s.size≤100000) :
  Calls Tryz.prog 97 #[.agg #[v],idV i,idV ref,.string s] w (RInsPost w v L i ref s):=by
 obtain⟨it,is⟩:=i
 obtain⟨rt,rs⟩:=ref
 show Calls _ _ #[_,.agg #[.int .i64 it,.int .i64 is],.agg #[.int .i64 rt,.int .i64 rs],_] _ _
 obtain⟨a,c,rfl,_,_⟩:=h.sl
 obtain⟨R,hR⟩:∃R,runesL s 0=R:=⟨_,rfl⟩
 obtain⟨bd,hbd⟩:∃bd,badB s=bd:=⟨_,rfl⟩
 obtain⟨E,hE⟩:∃E,insE L ⟨it,is⟩ ⟨rt,rs⟩ s.size bd R=E:=⟨_,rfl⟩
 obtain⟨M,hM⟩:∃M,insL L ⟨it,is⟩ ⟨rt,rs⟩ s.size bd R=M:=⟨_,rfl⟩
 have post:RInsPost w (.slice a L.length c) L ⟨it,is⟩ ⟨rt,rs⟩ s=fun e w'=>(∃u,e=.returned (.tuple #[.agg #[u],.int .i64 E])∧((E≠0∧u=.slice a L.length c)∨(E=0∧w'.ownsRow w.heap.size 84 6 u M.length (nodeE.flat M))))∧Kept (fun _=>False) w w':=by
  unfold RInsPost
  rw [hR,hbd,hE,hM]
 rw [post]
 clear post
 obtain⟨w1,hw1⟩:∃w1,w.alloc (.cells #[.slice a L.length c] 108)=w1:=⟨_,rfl⟩
 obtain⟨w2,hw2⟩:∃w2,w1.alloc (.cells #[.int .i64 it,.int .i64 is] 59)=w2:=⟨_,rfl⟩
 obtain⟨w3,hw3⟩:∃w3,w2.alloc (.cells #[.int .i64 rt,.int .i64 rs] 59)=w3:=⟨_,rfl⟩
 obtain⟨W0,hW0⟩:∃W0,w3.alloc (.cells #[.slice none 0 0] 108)=W0:=⟨_,rfl⟩
 have s1:w1.heap.size=w.heap.size+1:=by rw [←hw1];exact World.size_alloc ..
 have s2:w2.heap.size=w.heap.size+1+1:=by rw [←hw2,World.size_alloc,s1]
 have s3:w3.heap.size=w.heap.size+1+1+1:=by rw [←hw3,World.size_alloc,s2]
 have k1:Kept (fun _=>False) w w1:=by rw [←hw1];exact (Kept.refl _ _).alloc _
 have k12:Kept (fun _=>False) w1 w2:=by rw [←hw2];exact (Kept.refl _ _).alloc _
 have k23:Kept (fun _=>False) w2 w3:=by rw [←hw3];exact (Kept.refl _ _).alloc _
 have k34:Kept (fun _=>False) w3 W0:=by rw [←hW0];exact (Kept.refl _ _).alloc _
 have b0:Blk W0 w.heap.size 108 #[.slice a L.length c]:=by
  have:=Blk.new w 108 #[.slice a L.length c];rw [hw1] at this
  exact k34.blk (fun h=>h) (k23.blk (fun h=>h) (k12.blk (fun h=>h) this))
 have b1:Blk W0 (w.heap.size+1) 59 #[.int .i64 it,.int .i64 is]:=by
  have:=Blk.new w1 59 #[.int .i64 it,.int .i64 is];rw [hw2,s1] at this
  exact k34.blk (fun h=>h) (k23.blk (fun h=>h) this)
 have b2:Blk W0 (w.heap.size+1+1) 59 #[.int .i64 rt,.int .i64 rs]:=by
  have:=Blk.new w2 59 #[.int .i64 rt,.int .i64 rs];rw [hw3,s2] at this
  exact k34.blk (fun h=>h) this
 have b3:Blk W0 (w.heap.size+1+1+1) 108 #[.slice none 0 0]:=by
  have:=Blk.new w3 108 #[.slice none 0 0];rw [hW0,s3] at this
  exact this
 have K0:=Lib.hid (((k1.trans k12 fun _ _ h=>h).trans k23 fun _ _ h=>h).trans k34 fun _ _ h=>h)
 have HL:=Lib.hid (h.kept K0.out)
 have H0:=Lib.hid h
 have HV:=Lib.hid hv
 have HRR:=Lib.hid hR
 have HBD:=Lib.hid hbd
 have HE:=Lib.hid hE
 have HM:=Lib.hid hM
 have hall:(((w.alloc (.cells #[.slice a L.length c] 108)).alloc (.cells #[.int .i64 it,.int .i64 is] 59)).alloc (.cells #[.int .i64 rt,.int .i64 rs] 59)).alloc (.cells #[.slice none 0 0] 108)=W0:=by rw [hw1,hw2,hw3,hW0]
 clear h hv s1 s2 s3 k1 k12 k23 k34 hw1 hw2 hw3 hW0 hE hM hR hbd
 go_enter Tryz.func97,Tryz.ntmps97
 go_upto_region 1 with fail
 obtain⟨z,hz⟩:∃z,w.heap.size=z:=⟨_,rfl⟩
 rw [hz] at b0 b1 b2 b3 ⊢
 have HZ:=Lib.hid hz
 have B0:=Lib.hid b0
 have B1:=Lib.hid b1
 have B2:=Lib.hid b2
 have B3:=Lib.hid b3
 have CEL:Hid (∀W,Kept (fun _=>False) W0 W→W.cell? ⟨z,0,none⟩=some (.slice a L.length c)∧W.cell? ⟨z+1,0,none⟩=some (.int .i64 it)∧W.cell? ⟨z+1,1,none⟩=some (.int .i64 is)∧W.cell? ⟨z+1+1,0,none⟩=some (.int .i64 rt)∧W.cell? ⟨z+1+1,1,none⟩=some (.int .i64 rs)∧W.cell? ⟨z+1+1+1,0,none⟩=some (.slice none 0 0)∧W.frozen? ⟨z+1+1+1,0,none⟩=false):=Lib.hid fun W hk =>
  ⟨(hk.blk (fun h=>h) B0.out).cell' (i:=0) rfl,(hk.blk (fun h=>h) B1.out).cell' (i:=0) rfl,(hk.blk (fun h=>h) B1.out).cell' (i:=1) rfl,(hk.blk (fun h=>h) B2.out).cell' (i:=0) rfl,(hk.blk (fun h=>h) B2.out).cell' (i:=1) rfl,(hk.blk (fun h=>h) B3.out).cell' (i:=0) rfl,(hk.blk (fun h=>h) B3.out).frozen 0⟩
 clear hz hall b0 b1 b2 b3
 have HID:=Lib.hid hI
 have hrl:R.length≤100000:=by
  have h1:=runesL_len s
  have h2:=countR_le s
  rw [HRR.out] at h1
  omega
 have HRL:=Lib.hid hrl
 have GOOD:=Lib.hid (fun W=>rgood_any (s:=s) (by omega) W)
 have RUN:=Lib.hid (fun W=>rrunes_any (s:=s) (by omega) W)
 rw [HRR.out] at RUN
 obtain⟨b1,hb1⟩:∃b1,isB ⟨it,is⟩=b1:=⟨_,rfl⟩
 obtain⟨b2,hb2⟩:∃b2,isB ⟨rt,rs⟩=b2:=⟨_,rfl⟩
 obtain⟨rz,hrz⟩:∃rz,decide ((⟨rt,rs⟩:ID)=⟨0,0⟩)=rz:=⟨_,rfl⟩
 have hnz:=fun W=>ne_id ⟨rt,rs⟩ ⟨0,0⟩ W
 simp only [hrz] at hnz
 have IS1:Hid (∀W,Calls Tryz.prog 136 #[.agg #[.int .i64 it,.int .i64 is]] W fun e w'=>e=.returned (.bool b1)∧Grew W w'):=Lib.hid fun W=>by have h9:=risID_any ⟨it,is⟩ W;rw [hb1] at h9;exact h9
 have IS2:Hid (∀W,Calls Tryz.prog 136 #[.agg #[.int .i64 rt,.int .i64 rs]] W fun e w'=>e=.returned (.bool b2)∧Grew W w'):=Lib.hid fun W=>by have h9:=risID_any ⟨rt,rs⟩ W;rw [hb2] at h9;exact h9
 have HB1:=Lib.hid hb1
 have HB2:=Lib.hid hb2
 have HRZ:=Lib.hid hrz
 clear hb1 hb2 hrz hI
 obtain⟨c0,c1,c2,c3,c4,c5,f5⟩:=CEL.out _ (Kept.refl _ _)
 go_cut [30] (fun v wx=>v=.bool (!(b1 && (rz || b2)))∧Kept (fun _=>False) W0 wx)
 case first =>
  cases b1
  ·go_wp2_with (go_at_call 136;with_reducible refine (IS1.out _).mono ?_;rintro e w1 ⟨rfl,hg1⟩)
   go_meet
   case rel=>exact⟨rfl,hg1.kept⟩
  ·cases rz
   ·cases b2
    all_goals
     go_wp2_with (first
      | (go_at_call 136;with_reducible refine (IS2.out _).mono ?_;rintro e w2 ⟨rfl,hg2⟩;have K2:=Lib.hid (K1.out.trans hg2.kept fun _ _ h=>h);clear hg2)
      | (go_at_call 136;with_reducible refine (IS1.out _).mono ?_;rintro e w1 ⟨rfl,hg1⟩;have K1:=Lib.hid hg1.kept;obtain⟨d0,d1,d2,d3,d4,d5,df⟩:=CEL.out _ hg1.kept;have dn:=hnz w1;clear hg1))
     go_meet
     case rel=>exact⟨rfl,K2.out⟩
   ·go_wp2_with (go_at_call 136;with_reducible refine (IS1.out _).mono ?_;rintro e w1 ⟨rfl,hg1⟩;have K1:=Lib.hid hg1.kept;obtain⟨d0,d1,d2,d3,d4,d5,df⟩:=CEL.out _ hg1.kept;have dn:=hnz w1;clear hg1)
    go_meet
    case rel=>exact⟨rfl,K1.out⟩
 case' rest =>
 obtain⟨rfl,hk1⟩:=hcut
 have K1:=Lib.hid hk1
 clear hk1 c0 c1 c2 c3 c4 c5 f5
 obtain⟨ok1,hok1⟩:∃ok1,(b1 && (rz || b2))=ok1:=⟨_,rfl⟩
 rw [hok1]
 have OKK:Hid (ok1=true↔((⟨it,is⟩:ID).Is∧((⟨rt,rs⟩:ID)=ID.zero∨(⟨rt,rs⟩:ID).Is))):=Lib.hid (by
  rw [←hok1,←HB1.out,←HB2.out,←HRZ.out]
  simp only [Bool.and_eq_true,Bool.or_eq_true,decide_eq_true_eq,isB]
  rfl)
 clear hok1
 cases ok1
 case false =>
  obtain rfl:E=1:=by
   rw [←HE.out]
   unfold insE
   refine if_pos ?_
   by_cases q:(⟨it,is⟩:ID).Is
   ·exact .inr ⟨fun h=>absurd (OKK.out.2 ⟨q,.inl h⟩) (by decide),fun h=>absurd (OKK.out.2 ⟨q,.inr h⟩) (by decide)⟩
   ·exact .inl q
  obtain⟨c0,c1,c2,c3,c4,c5,f5⟩:=CEL.out _ K1.out
  go_wp2_with fail
  have c9:=((K1.out.blk (fun h=>h) B3.out).set_ 0 (.slice a L.length c)).cell' (i:=0) (v:=.slice a L.length c) (by simp)
  exact bodyPost_ret (v:=.tuple #[.agg #[.slice a L.length c],.int .i64 1]) (by simp [results,Tryz.results97,go_sem,c9]) rfl ⟨⟨_,rfl,.inl ⟨by decide,rfl⟩⟩,(K0.out.trans K1.out fun _ _ h=>h).trans (kept_cell _ (z+1+1+1) _) (fun b hb h9=>by have:=HZ.out;omega)⟩
 case true =>
 have OK1:=Lib.hid (OKK.out.1 rfl)
 clear OKK
 obtain⟨b3,hb3⟩:∃b,(decide (s.size=0) || bd)=b:=⟨_,rfl⟩
 have B3':=Lib.hid hb3
 clear hb3
 go_upto_region 3 with fail
 go_cut [38] (fun v wx=>v=.bool b3∧Kept (fun _=>False) wc wx)
 case first =>
  by_cases hz:s.toList=[]
  ·have B4:Hid (b3=true):=Lib.hid (by rw [←B3'.out,decide_eq_true (text_size.2 hz)];rfl)
   go_wp2_with fail
   go_meet
   case rel=>exact⟨by rw [B4.out],Kept.refl _ _⟩
  ·have B4:Hid (b3=!decide (badFrom s 0<0)):=Lib.hid (by
    rw [←B3'.out,decide_eq_false (fun h=>hz (text_size.1 h)),←HBD.out]
    show decide (0≤badFrom s 0)=_
    by_cases h9:badFrom s 0<0
    ·rw [decide_eq_true h9,decide_eq_false (by omega)];rfl
    ·rw [decide_eq_false h9,decide_eq_true (by omega)];rfl)
   go_wp2_with (go_at_call 71;with_reducible refine (GOOD.out _).mono ?_;rintro e w1 ⟨rfl,hg1⟩)
   go_meet
   case rel=>exact⟨by rw [B4.out];simp [hz],hg1⟩
 case' rest =>
 obtain⟨rfl,hk2⟩:=hcut
 have K2:=Lib.hid (K1.out.trans hk2 fun _ _ h=>h)
 clear hk2
 cases b3
 case true =>
  obtain rfl:E=2:=by
   rw [←HE.out]
   unfold insE
   rw [if_neg (fun h=>h.elim (fun h=>h OK1.out.1) fun h=>OK1.out.2.elim h.1 h.2)]
   refine if_pos ?_
   have h9:=B3'.out
   simp only [Bool.or_eq_true,decide_eq_true_eq] at h9
   exact h9
  obtain⟨c0,c1,c2,c3,c4,c5,f5⟩:=CEL.out _ K2.out
  go_wp2_with fail
  have c9:=((K2.out.blk (fun h=>h) B3.out).set_ 0 (.slice a L.length c)).cell' (i:=0) (v:=.slice a L.length c) (by simp)
  exact bodyPost_ret (v:=.tuple #[.agg #[.slice a L.length c],.int .i64 2]) (by simp [results,Tryz.results97,go_sem,c9]) rfl ⟨⟨_,rfl,.inl ⟨by decide,rfl⟩⟩,(K0.out.trans K2.out fun _ _ h=>h).trans (kept_cell _ (z+1+1+1) _) (fun b hb h9=>by have:=HZ.out;omega)⟩
 case false =>
 have OK2:Hid (¬(s.size=0∨bd=true)):=Lib.hid fun h=>by
  have h9:=B3'.out
  rcases h with h|h
  ·rw [decide_eq_true h] at h9;cases h9
  ·rw [h,Bool.or_true] at h9;cases h9
 clear B3'
 go_upto_region 6 with (go_at_call 72;with_reducible refine (RUN.out _).mono ?_;rintro e w5 ⟨rv,rfl,hro,hk⟩;have RO:=Lib.hid hro;have K3:=Lib.hid (K2.out.trans hk fun _ _ h=>h);clear hro hk)
 obtain⟨xa,xc,rfl⟩:=owns_sl RO.out
 have hit:1≤it∧it≤2147483647:=⟨OK1.out.1.1,OK1.out.1.2.1⟩
 obtain⟨hit1,hit2⟩:=hit
 have hrlI:(R.length:Int)≤100000:=by omega
 have ew1:IntKind.i64.wrap (it+(R.length:Int))=it+R.length:=IntWalk.i64_in _ (by omega)
 have ew2:IntKind.i64.wrap (it+(R.length:Int) - 1)=it+R.length-1:=IntWalk.i64_in _ (by omega)
 by_cases h3:2147483647<it+(R.length:Int) - 1
 case pos =>
  obtain rfl:E=1:=by
   rw [←HE.out]
   unfold insE
   rw [if_neg (fun h=>h.elim (fun h=>h OK1.out.1) fun h=>OK1.out.2.elim h.1 h.2),if_neg OK2.out]
   exact if_pos h3
  obtain⟨c0,c1,c2,c3,c4,c5,f5⟩:=CEL.out _ K3.out
  go_wp2_with fail
  have c9:=((K3.out.blk (fun h=>h) B3.out).set_ 0 (.slice a L.length c)).cell' (i:=0) (v:=.slice a L.length c) (by simp)
  exact bodyPost_ret (v:=.tuple #[.agg #[.slice a L.length c],.int .i64 1]) (by simp [results,Tryz.results97,go_sem,c9]) rfl ⟨⟨_,rfl,.inl ⟨by decide,rfl⟩⟩,(K0.out.trans K3.out fun _ _ h=>h).trans (kept_cell _ (z+1+1+1) _) (fun b hb h9=>by have:=HZ.out;omega)⟩
 case neg =>
 obtain⟨c0,c1,c2,c3,c4,c5,f5⟩:=CEL.out _ K3.out
 go_upto_region 8 with fail
 clear ew1 ew2 c0 c1 c2 c3 c4 c5 f5
 have LOW:=Lib.hid (fun W=>(lower_any ⟨rt,rs⟩ ⟨it,is⟩ W:Calls Tryz.prog 137 #[.agg #[.int .i64 rt,.int .i64 rs],.agg #[.int .i64 it,.int .i64 is]] W _))
 by_cases h4:(⟨rt,rs⟩:ID).lt ⟨it,is⟩
 case neg =>
  rw [decide_eq_false h4] at LOW
  obtain⟨c0,c1,c2,c3,c4,c5,f5⟩:=CEL.out _ K3.out
  go_upto_if 53 with (go_at_call 137;refine (LOW.out _).mono ?_;rintro e w6 ⟨rfl,hg⟩;have K4:=Lib.hid (K3.out.trans hg.kept fun _ _ h=>h);clear hg)
  clear c0 c1 c2 c3 c4 c5 f5
  obtain rfl:E=9:=by
   rw [←HE.out]
   unfold insE
   rw [if_neg (fun h=>h.elim (fun h=>h OK1.out.1) fun h=>OK1.out.2.elim h.1 h.2),if_neg OK2.out,if_neg (show ¬2147483647<it+(R.length:Int) - 1 by omega)]
   exact if_pos h4
  obtain⟨c0,c1,c2,c3,c4,c5,f5⟩:=CEL.out _ K4.out
  go_wp2_with fail
  have c9:=((K4.out.blk (fun h=>h) B3.out).set_ 0 (.slice a L.length c)).cell' (i:=0) (v:=.slice a L.length c) (by simp)
  exact bodyPost_ret (v:=.tuple #[.agg #[.slice a L.length c],.int .i64 9]) (by simp [results,Tryz.results97,go_sem,c9]) rfl ⟨⟨_,rfl,.inl ⟨by decide,rfl⟩⟩,(K0.out.trans K4.out fun _ _ h=>h).trans (kept_cell _ (z+1+1+1) _) (fun b hb h9=>by have:=HZ.out;omega)⟩
 case pos =>
 rw [decide_eq_true h4] at LOW
 obtain⟨c0,c1,c2,c3,c4,c5,f5⟩:=CEL.out _ K3.out
 go_upto_region 10 with (go_at_call 137;refine (LOW.out _).mono ?_;rintro e w6 ⟨rfl,hg⟩;have K4:=Lib.hid (K3.out.trans hg.kept fun _ _ h=>h);have RO2:=Lib.hid (owns_keep RO.out hg.kept fun _ _ h=>h);clear hg)
 clear c0 c1 c2 c3 c4 c5 f5
 have AT:=Lib.hid (fun W hk=>(rat_any (HL.out.kept (K4.out.trans hk fun _ _ h=>h)) (by omega) ⟨rt,rs⟩:Calls Tryz.prog 138 #[.agg #[.slice a L.length c],.agg #[.int .i64 rt,.int .i64 rs]] W _))
 obtain⟨b5,hb5⟩:∃b5,(!rz && decide (atR L ⟨rt,rs⟩<0))=b5:=⟨_,rfl⟩
 have B5:=Lib.hid hb5
 clear hb5
 obtain⟨c0,c1,c2,c3,c4,c5,f5⟩:=CEL.out _ K4.out
 have cn:=hnz w6
 go_cut [63] (fun v wx=>v=.bool b5∧Kept (fun _=>False) w6 wx)
 case first =>
  cases rz
  ·have B6:Hid (b5=decide (atR L ⟨rt,rs⟩<0)):=Lib.hid (by rw [←B5.out];rfl)
   go_wp2_with (go_at_call 138;refine (AT.out _ (Kept.refl _ _)).mono ?_;rintro e w7 ⟨rfl,hk⟩)
   go_meet
   case rel=>exact⟨by rw [B6.out],hk⟩
  ·have B6:Hid (b5=false):=Lib.hid (by rw [←B5.out];rfl)
   go_wp2_with fail
   go_meet
   case rel=>exact⟨by rw [B6.out],Kept.refl _ _⟩
 case' rest =>
 obtain⟨rfl,hk5⟩:=hcut
 have K5:=Lib.hid (K4.out.trans hk5 fun _ _ h=>h)
 have RO3:=Lib.hid (owns_keep RO2.out hk5 fun _ _ h=>h)
 clear hk5 c0 c1 c2 c3 c4 c5 f5 cn AT
 cases b5
 case true =>
  obtain rfl:E=11:=by
   rw [←HE.out]
   unfold insE
   rw [if_neg (fun h=>h.elim (fun h=>h OK1.out.1) fun h=>OK1.out.2.elim h.1 h.2),if_neg OK2.out,if_neg (show ¬2147483647<it+(R.length:Int) - 1 by omega),if_neg (fun h=>h h4)]
   refine if_pos ?_
   have h9:=B5.out
   rw [←HRZ.out] at h9
   simp only [Bool.and_eq_true,Bool.not_eq_true',decide_eq_false_iff_not,decide_eq_true_eq] at h9
   exact⟨h9.1,(atR_neg L _).1 h9.2⟩
  obtain⟨c0,c1,c2,c3,c4,c5,f5⟩:=CEL.out _ K5.out
  go_wp2_with fail
  have c9:=((K5.out.blk (fun h=>h) B3.out).set_ 0 (.slice a L.length c)).cell' (i:=0) (v:=.slice a L.length c) (by simp)
  exact bodyPost_ret (v:=.tuple #[.agg #[.slice a L.length c],.int .i64 11]) (by simp [results,Tryz.results97,go_sem,c9]) rfl ⟨⟨_,rfl,.inl ⟨by decide,rfl⟩⟩,(K0.out.trans K5.out fun _ _ h=>h).trans (kept_cell _ (z+1+1+1) _) (fun b hb h9=>by have:=HZ.out;omega)⟩
 case false =>
 have OK5:Hid (¬((⟨rt,rs⟩:ID)≠ID.zero∧(⟨rt,rs⟩:ID)∉ids L)):=Lib.hid fun h=>by
  have h9:=B5.out
  rw [←HRZ.out,show decide ((⟨rt,rs⟩:ID)=⟨0,0⟩)=false from decide_eq_false h.1,decide_eq_true ((atR_neg L _).2 h.2)] at h9
  cases h9
 clear B5 hnz
 have hR1:Hid (R.length≤100000∧1≤R.length):=Lib.hid ⟨by omega,by
  rcases Nat.eq_zero_or_pos R.length with h9|h9
  ·exfalso
   refine OK2.out (.inl ?_)
   have h1:=runesL_len s
   rw [HRR.out,h9] at h1
   rcases Nat.eq_zero_or_pos s.size with h8|h8
   ·exact h8
   ·have h7:=pieces_next (s:=s) (i:=0) h8
    unfold countR at h1
    rw [h7] at h1
    simp at h1
  ·exact h9⟩
 obtain⟨w7,hw7⟩:∃w7,wc=w7:=⟨_,rfl⟩
 rw [hw7] at K5 RO3 ⊢
 clear hw7
 go_wp2_with fail
 go_loopw [11] (fun iv wr=>∃n:Nat,iv=.int .i64 n∧n≤L.length∧(∀m∈L.take n,¬(m.id.s=is∧it≤m.id.t∧m.id.t-it<R.length))∧Kept (fun _=>False) w7 wr) (fun iv _=>L.length-(intOf iv).toNat)
 case atStart=>exact⟨0,rfl,Nat.zero_le _,fun m hm=>by simp at hm,Kept.refl _ _⟩
 case round =>
  obtain⟨n,rfl,hn,hno,hkw⟩:=hrel
  have NO:=Lib.hid hno
  have KW:=Lib.hid hkw
  have KT:=Lib.hid (K5.out.trans hkw fun _ _ h=>h)
  have hn0:(0:Int)≤n:=by omega
  clear hno hkw
  by_cases hlt:n<L.length
  case pos =>
   have hnl:(n:Int)<L.length:=by omega
   obtain⟨x,hx⟩:=get_of_lt hlt
   obtain⟨g,o,c',e1,_,h1⟩:=SlAt.node (HL.out.kept KT.out) (by omega)
   cases e1
   obtain⟨r0,r1,r2,r3,r4,r5⟩:=h1 n x hx
   obtain⟨c0,c1,c2,c3,c4,c5,f5⟩:=CEL.out _ KT.out
   have hxi:=HID.out x (List.mem_of_getElem? hx)
   obtain⟨hx1,hx2,_,_⟩:=hxi
   have HX:=Lib.hid hx
   have kx:Kept (fun _=>False) wr (wr.alloc (.cells #[.int .i64 x.id.t,.int .i64 x.id.s] 59)):=(Kept.refl _ _).alloc _
   have KX:=Lib.hid (KW.out.trans kx fun _ _ h=>h)
   have KTX:=Lib.hid (KT.out.trans kx fun _ _ h=>h)
   clear hx h1 kx
   go_upto_region 16 with fail
   have hbx:=Blk.new wr 59 #[.int .i64 x.id.t,.int .i64 x.id.s]
   obtain⟨W1,hW1⟩:∃W1,wr.alloc (.cells #[.int .i64 x.id.t,.int .i64 x.id.s] 59)=W1:=⟨_,rfl⟩
   obtain⟨zb,hzb⟩:∃zb,wr.heap.size=zb:=⟨_,rfl⟩
   rw [hW1] at hbx KX KTX ⊢
   rw [hzb] at hbx ⊢
   clear c0 c1 c2 c3 c4 c5 f5 r0 r1 r2 r3 r4 r5 hW1 hzb
   obtain⟨c0,c1,c2,c3,c4,c5,f5⟩:=CEL.out _ KTX.out
   have x0:=hbx.cell' (i:=0) (v:=.int .i64 x.id.t) rfl
   have x1:=hbx.cell' (i:=1) (v:=.int .i64 x.id.s) rfl
   have ewx:IntKind.i64.wrap (x.id.t-it)=x.id.t-it:=IntWalk.i64_in _ (by omega)
   have ewn:IntKind.i64.wrap ((n:Int)+1)=(n:Int)+1:=IntWalk.i64_in _ (by omega)
   have NX:Hid (¬(x.id.s=is∧it≤x.id.t∧x.id.t-it<R.length)→∀m∈L.take (n+1),¬(m.id.s=is∧it≤m.id.t∧m.id.t-it<R.length)):=Lib.hid fun h9 m hm=>by
    rw [List.take_add_one,HX.out] at hm
    rcases List.mem_append.1 hm with hm|hm
    ·exact NO.out m hm
    ·obtain rfl:m=x:=by simpa using hm
     exact h9
   clear hbx
   by_cases q1:x.id.s=is
   case neg =>
    have q1b:(x.id.s == is)=false:=by simpa using q1
    have N2:=Lib.hid (NX.out fun h=>q1 h.1)
    clear q1
    go_wp2_with fail
    go_roundw
    case rel=>exact⟨n+1,by go_num,by omega,N2.out,KX.out⟩
    case measure=>simp [intOf] <;> omega
   case pos =>
    rw [q1] at x1
    by_cases q2:it≤x.id.t
    case neg =>
     have N2:=Lib.hid (NX.out fun h=>q2 h.2.1)
     clear q1
     go_wp2_with fail
     go_roundw
     case rel=>exact⟨n+1,by go_num,by omega,N2.out,KX.out⟩
     case measure=>simp [intOf] <;> omega
    case pos =>
     by_cases q3:x.id.t-it<R.length
     case neg =>
      have N2:=Lib.hid (NX.out fun h=>q3 h.2.2)
      clear q1
      go_wp2_with fail
      go_roundw
      case rel=>exact⟨n+1,by go_num,by omega,N2.out,KX.out⟩
      case measure=>simp [intOf] <;> omega
     case pos =>
      obtain rfl:E=12:=by
       rw [←HE.out]
       unfold insE
       rw [if_neg (fun h=>h.elim (fun h=>h OK1.out.1) fun h=>OK1.out.2.elim h.1 h.2),if_neg OK2.out,if_neg (show ¬2147483647<it+(R.length:Int) - 1 by omega),if_neg (fun h=>h h4),if_neg OK5.out]
       exact if_pos ((hasAny_iff _ _ _).2 ⟨x,List.mem_of_getElem? HX.out,q1,q2,q3⟩)
      clear q1
      go_wp2_with fail
      have c9:=((KTX.out.blk (fun h=>h) B3.out).set_ 0 (.slice (some ⟨g,o,none⟩) L.length c)).cell' (i:=0) (v:=.slice (some ⟨g,o,none⟩) L.length c) (by simp)
      exact bodyPost_ret (v:=.tuple #[.agg #[.slice (some ⟨g,o,none⟩) L.length c],.int .i64 12]) (by simp [results,Tryz.results97,go_sem,c9]) rfl ⟨⟨_,rfl,.inl ⟨by decide,rfl⟩⟩,(K0.out.trans KTX.out fun _ _ h=>h).trans (kept_cell _ (z+1+1+1) _) (fun b hb h9=>by have:=HZ.out;omega)⟩
  case neg =>
   have hnl:¬(n:Int)<L.length:=by omega
   have NO6:Hid (¬hasAny L ⟨it,is⟩ R.length):=Lib.hid fun h=>by
    obtain⟨m,hm,q⟩:=(hasAny_iff _ _ _).1 h
    exact NO.out m (by rw [List.take_of_length_le (by omega)];exact hm) q
   have RO4:=Lib.hid (owns_keep RO3.out KW.out fun _ _ h=>h)
   obtain⟨w8,hw8⟩:∃w8,wr=w8:=⟨_,rfl⟩
   rw [hw8] at KT RO4 ⊢
   clear hw8 KW NO
   have CEL2:Hid (∀W,Kept (fun b=>b=z+1+1) w8 W→W.cell? ⟨z,0,none⟩=some (.slice a L.length c)∧W.cell? ⟨z+1,0,none⟩=some (.int .i64 it)∧W.cell? ⟨z+1,1,none⟩=some (.int .i64 is)∧W.cell? ⟨z+1+1+1,0,none⟩=some (.slice none 0 0)∧W.frozen? ⟨z+1+1+1,0,none⟩=false∧W.frozen? ⟨z,0,none⟩=false∧SlAt i32E W (.slice xa R.length xc) R):=Lib.hid fun W hk=>by
    have h0:∀ {b:Nat} {t:TypeId} {cs:Array Value},b≠z+1+1→Blk W0 b t cs→Blk W b t cs:=fun hb h=>hk.blk hb (KT.out.blk (fun h=>h) h)
    refine⟨(h0 (by omega) B0.out).cell' (i:=0) rfl,(h0 (by omega) B1.out).cell' (i:=0) rfl,(h0 (by omega) B1.out).cell' (i:=1) rfl,(h0 (by omega) B3.out).cell' (i:=0) rfl,(h0 (by omega) B3.out).frozen 0,(h0 (by omega) B0.out).frozen 0,(owns_slAt (E:=i32E) RO4.out).keep hk fun b hb _ e=>?_⟩
    have h1:=owns_new RO4.out b hb
    have h2:=(K2.out.blk (fun h=>h) B3.out).lt
    omega
   have hb2:=KT.out.blk (fun h=>h) B2.out
   have BR:=Lib.hid hb2
   have SZ8:=Lib.hid (show z+1+1+1<w8.heap.size from (KT.out.blk (fun h=>h) B3.out).lt)
   clear hb2
   obtain⟨c0,c1,c2,c3,c4,c5,f5⟩:=CEL.out _ KT.out
   go_wp2_with fail
   clear c0 c1 c2 c3 c4 c5 f5
   go_loopw [13,14] (fun fv iv wr=>∃k:Nat,iv=.int .i64 k∧k≤R.length∧wr.ownsRow w8.heap.size 84 6 fv (freshL ⟨it,is⟩ ⟨rt,rs⟩ (R.take k)).length (nodeE.flat (freshL ⟨it,is⟩ ⟨rt,rs⟩ (R.take k)))∧(∃cur:ID,cur=backR ⟨it,is⟩ ⟨rt,rs⟩ k∧Blk wr (z+1+1) 59 #[.int .i64 cur.t,.int .i64 cur.s])∧Kept (fun b=>b=z+1+1) w8 wr) (fun _ iv _=>R.length-(intOf iv).toNat)
   case atStart=>exact⟨0,rfl,Nat.zero_le _,World.ownsRow_nil ..,⟨⟨rt,rs⟩,rfl,BR.out⟩,Kept.refl _ _⟩
   case round =>
    obtain⟨k,rfl,hk,ho,⟨cur,hcur,hbr⟩,hkw⟩:=hrel
    obtain⟨fa,fc,rfl⟩:=owns_sl ho
    have hk0:(0:Int)≤k:=by omega
    have HO:=Lib.hid ho
    have HCU:=Lib.hid hcur
    have HBR:=Lib.hid hbr
    have KW:=Lib.hid hkw
    clear ho hcur hbr hkw
    by_cases hlt:k<R.length
    case pos =>
     have hnl:(k:Int)<R.length:=by omega
     obtain⟨r,hr⟩:=get_of_lt hlt
     obtain⟨c0,c1,c2,c5,f5,f0,hsr⟩:=CEL2.out _ KW.out
     obtain⟨gr,or,cr,e1,h1⟩:=SlAt.i32 hsr (by omega)
     cases e1
     have d0:=h1 k r hr
     have D0:Hid (∀W,Kept (fun b=>b=z+1+1) w8 W→W.cell? ⟨gr,or+k,none⟩=some (.int .i32 r)):=Lib.hid fun W hk=>by
      obtain⟨_,_,_,_,_,_,hsr'⟩:=CEL2.out W hk
      obtain⟨gr',or',cr',e1,h1'⟩:=SlAt.i32 hsr' (by omega)
      cases e1
      exact h1' k r hr
     have ewk:IntKind.i64.wrap (it+(k:Int))=it+k:=IntWalk.i64_in _ (by have:=hR1.out;omega)
     obtain⟨fl,hfl⟩:∃fl,(freshL ⟨it,is⟩ ⟨rt,rs⟩ (R.take k)).length=fl:=⟨_,rfl⟩
     have hflb:fl≤100000:=by rw [←hfl,freshL_len,List.length_take];have:=hR1.out;omega
     have FLB:=Lib.hid hflb
     have FS:Hid (freshL ⟨it,is⟩ ⟨rt,rs⟩ (R.take (k+1))=freshL ⟨it,is⟩ ⟨rt,rs⟩ (R.take k)++[(⟨⟨it+k,is⟩,cur,r,1⟩:Nd)]):=Lib.hid (by
      rw [List.take_add_one,hr]
      show freshL _ _ (R.take k++[r])=_
      have hlk:(R.take k).length=k:=by rw [List.length_take];omega
      rw [freshL_snoc,HCU.out,hlk])
     rw [hfl] at HO ⊢
     have HFL:=Lib.hid hfl
     have kx:Kept (fun _=>False) wr (wr.alloc (.cells #[.int .i64 (it+k),.int .i64 is] 59)):=(Kept.refl _ _).alloc _
     have hbx:=Blk.new wr 59 #[.int .i64 (it+k),.int .i64 is]
     have O1:=Lib.hid (owns_keep HO.out kx fun _ _ h=>h)
     have K1':=Lib.hid (KW.out.trans (kx.mono (S':=fun b=>b=z+1+1) fun _ _ h=>h.elim) fun _ _ h=>h)
     have BR1:=Lib.hid (kx.blk (fun h=>h) HBR.out)
     clear hr h1 hfl hsr kx hflb
     go_upto_region 23 with fail
     obtain⟨W1,hW1⟩:∃W1,wr.alloc (.cells #[.int .i64 (it+k),.int .i64 is] 59)=W1:=⟨_,rfl⟩
     obtain⟨zb,hzb⟩:∃zb,wr.heap.size=zb:=⟨_,rfl⟩
     rw [hW1] at hbx O1 K1' BR1 ⊢
     rw [hzb] at hbx ⊢
     have ZBn:Hid (w8.heap.size≤zb∧zb<W1.heap.size):=Lib.hid ⟨by rw [←hzb];exact KW.out.size,hbx.lt⟩
     have hzbz:¬zb=z+1+1:=by have:=ZBn.out;have:=SZ8.out;omega
     obtain⟨dl,hdl⟩:∃dl,fl=dl:=⟨_,rfl⟩
     have hka:Kept (fun _=>False) W1 ((W1.alloc (.cells #[.int .i64 (it+k),.int .i64 is,.int .i64 cur.t,.int .i64 cur.s,.int .i32 r,.int .i64 1] 84)).drew):=((Kept.refl _ _).alloc _).drew
     have hlit:SlAt nodeE ((W1.alloc (.cells #[.int .i64 (it+k),.int .i64 is,.int .i64 cur.t,.int .i64 cur.s,.int .i32 r,.int .i64 1] 84)).drew) (.slice (some ⟨W1.heap.size,0,none⟩) 1 1) [(⟨⟨it+k,is⟩,cur,r,1⟩:Nd)]:=(SlAt.lit [(⟨⟨it+k,is⟩,cur,r,1⟩:Nd)] _ rfl (by simp [maxLen])).kept ((Kept.refl (fun _=>False) _).drew)
     have OWN:=Lib.hid (owns_keep O1.out hka fun _ _ h=>h)
     have LIT:=Lib.hid hlit
     have KA:=Lib.hid (K1'.out.trans (hka.mono (S':=fun b=>b=z+1+1) fun _ _ h=>h.elim) fun _ _ h=>h)
     have BXA:=Lib.hid (hka.blk (fun h=>h) hbx)
     have BRA:=Lib.hid (hka.blk (fun h=>h) BR1.out)
     have x0:=hbx.cell' (i:=0) (v:=.int .i64 (it+k)) rfl
     have x1:=hbx.cell' (i:=1) (v:=.int .i64 is) rfl
     have u0:=BR1.out.cell' (i:=0) (v:=.int .i64 cur.t) rfl
     have u1:=BR1.out.cell' (i:=1) (v:=.int .i64 cur.s) rfl
     have y0:=BXA.out.cell' (i:=0) (v:=.int .i64 (it+k)) rfl
     have y1:=BXA.out.cell' (i:=1) (v:=.int .i64 is) rfl
     have v0:=BRA.out.cell' (i:=0) (v:=.int .i64 cur.t) rfl
     have v1:=BRA.out.cell' (i:=1) (v:=.int .i64 cur.s) rfl
     have d1:=D0.out _ K1'.out
     have d2:=D0.out _ KA.out
     clear hW1 hzb c0 c1 c2 c5 f5 f0 d0 hka hlit hbx hdl
     go_wp2_with fail
     go_region_law (refine step_append_goes nodeE rfl (.tmp 114) (.tmp 122) 51 rfl w8.heap.size 84 (.agg #[.int .i64 0,.int .i64 0,.int .i64 0,.int .i64 0,.int .i32 0,.int .i64 0]) 48 Tryz.underlying51 info_node rfl (by decide) (v:=.slice fa fl fc) (D:=freshL ⟨it,is⟩ ⟨rt,rs⟩ (R.take k)) (x:=⟨⟨it+k,is⟩,cur,r,1⟩) rfl rfl (by rw [HFL.out];exact OWN.out) LIT.out (by rw [HFL.out];have:=FLB.out;omega) KA.out.size ?_;intro v2 w2 ho2 hg2;rw [HFL.out] at ho2;(obtain⟨ua2,uc2,rfl⟩:=owns_sl ho2);have hgk:=grow_goes hg2;have KG:=Lib.hid (KA.out.trans hgk fun b hb h=>by have:=owns_new OWN.out b h;omega);have bx2:=hgk.blk (fun h=>own_blk_ne OWN.out BXA.out (by decide) h) BXA.out;have br2:=hgk.blk (fun h=>own_blk_ne OWN.out BRA.out (by decide) h) BRA.out;have t0:=bx2.cell' (i:=0) (v:=.int .i64 (it+k)) rfl;have t1:=bx2.cell' (i:=1) (v:=.int .i64 is) rfl;have p0:=br2.cell' (i:=0) (v:=.int .i64 cur.t) rfl;have p1:=br2.cell' (i:=1) (v:=.int .i64 cur.s) rfl;have q0:=br2.frozen 0;have q1:=br2.frozen 1;have BR2:=Lib.hid br2;have O2:=Lib.hid ho2;clear hgk bx2 br2 ho2 hg2)
     go_wp2_with fail
     all_goals
      go_roundw
      case rel =>
       have kz:Kept (fun b=>b=z+1+1) w2 ((w2.setCell ⟨z+1+1,0,none⟩ (.int .i64 (it+k))).setCell ⟨z+1+1,1,none⟩ (.int .i64 is)):=((Kept.refl (fun b=>b=z+1+1) w2).setCell (p:=⟨z+1+1,0,none⟩) (fun _=>rfl) _).setCell (p:=⟨z+1+1,1,none⟩) (fun _=>rfl) _
       refine⟨k+1,by go_num,by omega,?_,⟨⟨it+k,is⟩,?_,?_⟩,KG.out.trans kz fun _ _ h=>h⟩
       ·rw [FS.out,show (freshL ⟨it,is⟩ ⟨rt,rs⟩ (R.take k)++[(⟨⟨it+k,is⟩,cur,r,1⟩:Nd)]).length=fl+1 by rw [List.length_append,HFL.out];rfl]
        exact owns_keep O2.out kz fun b hb h=>by have h8:=owns_new O2.out b hb;have:=SZ8.out;omega
       ·unfold backR
        rw [if_neg (by omega)]
        congr 1
        show it+(k:Int)=it+((k+1:Nat):Int) - 1
        omega
       ·have h9:=(BR2.out.set_ 0 (.int .i64 (it+k))).set_ 1 (.int .i64 is)
        simpa using h9
      case measure=>simp [intOf] <;> omega
    case neg =>
     obtain rfl:k=R.length:=by omega
     rw [List.take_length] at HO ⊢
     obtain⟨F,hF⟩:∃F,freshL ⟨it,is⟩ ⟨rt,rs⟩ R=F:=⟨_,rfl⟩
     rw [hF] at HO ⊢
     obtain⟨r0,R',hRc⟩:∃r0 R',R=r0::R':=by
      cases R with
      | nil=>have:=hR1.out.2;simp at this
      | cons r0 R'=>exact⟨_,_,rfl⟩
     have hF0:F[0]?=some (⟨⟨it,is⟩,⟨rt,rs⟩,r0,1⟩:Nd):=by rw [←hF,hRc];rfl
     have hFl:F.length=R.length:=by rw [←hF,freshL_len]
     obtain⟨m,hm⟩:∃m,F.length=m:=⟨_,rfl⟩
     have HM1:=Lib.hid hm
     have hm1:1≤m∧m≤100000:=by have:=hR1.out;omega
     obtain⟨hm1,hm2⟩:=hm1
     obtain⟨P,hP⟩:∃P,placeP L ⟨it,is⟩ ⟨rt,rs⟩=P:=⟨_,rfl⟩
     have hPL:P≤L.length:=by
      rw [←hP]
      refine placeP_le ?_
      by_cases q:(⟨rt,rs⟩:ID)=ID.zero
      ·exact .inl q
      ·refine .inr (Classical.byContradiction fun q2=>OK5.out ⟨q,q2⟩)
     obtain rfl:E=0:=by
      rw [←HE.out]
      unfold insE
      rw [if_neg (fun h=>h.elim (fun h=>h OK1.out.1) fun h=>OK1.out.2.elim h.1 h.2),if_neg OK2.out,if_neg (show ¬2147483647<it+(R.length:Int) - 1 by omega),if_neg (fun h=>h h4),if_neg OK5.out,if_neg NO6.out]
     have HMM:Hid (M=L.take P++F++L.drop P):=Lib.hid (by
      rw [←HM.out]
      unfold insL
      rw [HE.out,if_neg (fun h=>h rfl),hP,hF])
     obtain⟨w9,hw9⟩:∃w9,wr=w9:=⟨_,rfl⟩
     rw [hw9] at KW HO HBR ⊢
     have K9:Hid (Kept (fun _=>False) w w9):=Lib.hid ((K0.out.trans KT.out fun _ _ h=>h).over KW.out fun b hb=>by have:=HZ.out;omega)
     have HL9:=Lib.hid (H0.out.kept K9.out)
     have BX3:=Lib.hid (KW.out.blk (show ¬z+1+1+1=z+1+1 by omega) (KT.out.blk (fun h=>h) B3.out))
     have SZ9:Hid (z+1+1+1<w9.heap.size):=Lib.hid (Nat.lt_of_lt_of_le SZ8.out KW.out.size)
     obtain⟨c0,c1,c2,c5,f5,f0,_⟩:=CEL2.out _ KW.out
     have hFS:=owns_slAt (E:=nodeE) HO.out
     rw [hm] at HO
     obtain⟨gf,of,cf,e1,_,hf1⟩:=SlAt.node hFS (by omega)
     cases e1
     have hf2:=hf1 0 _ hF0
     simp only [Nat.zero_mul,Nat.add_zero] at hf2
     obtain⟨t0,t1,t2,t3,_,_⟩:=hf2
     rw [hm]
     have CELL9:Hid (∀W,Kept (fun _=>False) w9 W→W.cell? ⟨z,0,none⟩=some (.slice a L.length c)∧W.cell? ⟨z+1+1+1,0,none⟩=some (.slice none 0 0)∧W.frozen? ⟨z+1+1+1,0,none⟩=false∧W.frozen? ⟨z,0,none⟩=false):=Lib.hid fun W hk=>by
      obtain⟨c0,_,_,c5,f5,f0,_⟩:=CEL2.out W (KW.out.trans (hk.mono fun _ _ h=>h.elim) fun _ _ h=>h)
      exact⟨c0,c5,f5,f0⟩
     have PLD:Hid (Calls Tryz.prog 139 #[.slice a L.length c,.agg #[.int .i64 it,.int .i64 is],.agg #[.int .i64 rt,.int .i64 rs]] w9.drew fun e w'=>e=.returned (.int .i64 P)∧Kept (fun _=>False) w9 w'):=Lib.hid (by
      have h9:=rplace_any (HL9.out.kept ((Kept.refl (fun _=>False) _).drew)) (by omega) ⟨it,is⟩ ⟨rt,rs⟩
      rw [hP] at h9
      exact h9.mono fun e w' h=>⟨h.1,(Kept.refl _ _).drew.trans h.2 fun _ _ h=>h⟩)
     have gm1:(0:Int)<(m:Int):=by omega
     have gm2:0<m:=by omega
     have gm3:(1:Int)≤(m:Int):=by omega
     have g1:decide ((0:Nat)<m)=true:=decide_eq_true (by omega)
     have g2:decide ((0:Int)<(m:Int))=true:=decide_eq_true (by omega)
     have C10:Hid (∀W,Kept (fun _=>False) w9 W→W.cell? ⟨z,0,none⟩=some (.slice a L.length c)∧W.cell? ⟨z+1,0,none⟩=some (.int .i64 it)∧W.cell? ⟨z+1,1,none⟩=some (.int .i64 is)∧W.cell? ⟨gf,of+2,none⟩=some (.int .i64 rt)∧W.cell? ⟨gf,of+3,none⟩=some (.int .i64 rs)):=Lib.hid fun W hk=>⟨cell_keep hk c0,cell_keep hk c1,cell_keep hk c2,cell_keep hk t2,cell_keep hk t3⟩
     clear hRc hF0 hF hFS hf1 hw9 hP
     go_upto_region 25 with fail
     go_region_held3 (fun w':World=>w'.cell? ⟨z,0,none⟩=some (.slice a L.length c)∧w'.cell? ⟨z+1,0,none⟩=some (.int .i64 it)∧w'.cell? ⟨z+1,1,none⟩=some (.int .i64 is)∧w'.cell? ⟨gf,of+2,none⟩=some (.int .i64 rt)∧w'.cell? ⟨gf,of+3,none⟩=some (.int .i64 rs)) (first | exact⟨c0,c1,c2,t2,t3⟩ | exact HC10.out) (first
      | (go_at_call 139;refine PLD.out.mono ?_;rintro e w10 ⟨rfl,hk⟩;have K10:=Lib.hid hk;have HC10:=Lib.hid (C10.out _ hk);clear hk))
     go_upto_region 27 with fail
     have HL10:=Lib.hid (HL9.out.kept K10.out)
     have FRR:Hid (∀W,Kept (fun _=>False) w10 W→SlAt nodeE W (.slice (some ⟨gf,of,none⟩) m fc) F):=Lib.hid fun W hk=>by
      have h9:=(owns_slAt (E:=nodeE) HO.out).kept ((K10.out.trans hk fun _ _ h=>h))
      exact h9
     have NW:Hid (w10.ownsRow w10.heap.size 84 nodeE.k (.slice none 0 0) ([]:List Nd).length (nodeE.flat [])):=Lib.hid (World.ownsRow_nil ..)
     have SIZ:Hid ((L.take P).length≤800000∧F.length≤100000∧(L.drop P).length≤800000):=Lib.hid ⟨by rw [List.length_take];omega,by omega,by rw [List.length_drop];omega⟩
     clear c0 c1 c2 c5 f5 f0 t0 t1 t2 t3 g1 g2 PLD C10
     obtain⟨c0,_,_,_⟩:=CELL9.out _ K10.out
     rcases HV.out with e|⟨g,c',e⟩
     ·injection e with q1 q2 q3
      subst q1 q3
      obtain rfl:L=[]:=List.length_eq_zero_iff.1 q2
      obtain rfl:P=0:=by simpa using hPL
      clear q2
      have PRE:Hid (SlAt nodeE w10 (.slice none 0 0) (([]:List Nd).take 0)):=Lib.hid (.inl ⟨rfl,rfl⟩)
      have SUF:Hid (∀W,Kept (fun _=>False) w10 W→SlAt nodeE W (.slice none 0 0) (([]:List Nd).drop 0)):=Lib.hid fun _ _=>.inl ⟨rfl,rfl⟩
      go_upto_region 28 with (at_builtin;(refine wpList_append_row nodeE rfl (.tmp 133) (.tmp 137) 51 rfl w10.heap.size 84 _ 48 Tryz.underlying51 info_node rfl rfl rfl NW.out PRE.out (by have:=SIZ.out;simp only [List.length_nil];unfold maxLen;omega) (by have:=SIZ.out;simp only [List.length_nil];omega) (Nat.le_refl _) ?_);intro v1 w11 ho1 hk1;rw [List.nil_append] at ho1;have K11:Hid (Kept (fun _=>False) w10 w11):=Lib.hid (hk1.mono (fun b _ e=>by have e:(Value.slice none 0 0).ownBlock=some b:=e;cases e));have O1:=Lib.hid ho1;(obtain⟨cc0,_,_,_⟩:=CELL9.out _ (K10.out.trans K11.out fun _ _ h=>h));clear ho1 hk1)
      go_upto_region 29 with (at_builtin;(refine wpList_append_row nodeE rfl (.tmp 139) (.tmp 140) 51 rfl w10.heap.size 84 _ 48 Tryz.underlying51 info_node rfl rfl rfl O1.out (FRR.out _ K11.out) (by have:=SIZ.out;unfold maxLen;omega) (by have:=SIZ.out;omega) K11.out.size ?_);intro v2 w12 ho2 hk2;have K12:Hid (Kept (fun _=>False) w10 w12):=Lib.hid (K11.out.over hk2 fun b hb=>owns_new O1.out b hb);have O2:=Lib.hid ho2;(obtain⟨cd0,_,_,_⟩:=CELL9.out _ (K10.out.trans K12.out fun _ _ h=>h));clear ho2 hk2)
      go_upto_region 30 with (at_builtin;(refine wpList_append_row nodeE rfl (.tmp 142) (.tmp 146) 51 rfl w10.heap.size 84 _ 48 Tryz.underlying51 info_node rfl rfl rfl O2.out (SUF.out _ K12.out) (by have:=SIZ.out;simp only [List.length_append];unfold maxLen;omega) (by have:=SIZ.out;simp only [List.length_append];omega) K12.out.size ?_);intro v3 w13 ho3 hk3;have K13:Hid (Kept (fun _=>False) w10 w13):=Lib.hid (K12.out.over hk3 fun b hb=>owns_new O2.out b hb);(obtain⟨n3,hn3⟩:∃n3,n3=(([]:List Nd).take 0++F++([]:List Nd).drop 0).length:=⟨_,rfl⟩);rw [←hn3] at ho3;have N3:=Lib.hid hn3;clear hn3;(obtain⟨ua3,uc3,rfl⟩:=owns_sl ho3);have O3:=Lib.hid ho3;(obtain⟨ce0,ce5,ef5,ef0⟩:=CELL9.out _ (K10.out.trans K13.out fun _ _ h=>h));clear ho3 hk3)
      go_wp2_with fail
      have KZ:Hid (Kept (fun _=>False) w w13):=Lib.hid ((K9.out.trans K10.out fun _ _ h=>h).trans K13.out fun _ _ h=>h)
      have hz1:=kept_cell w13 z (.slice ua3 n3 uc3)
      have hz2:=kept_cell (w13.setCell ⟨z,0,none⟩ (.slice ua3 n3 uc3)) (z+1+1+1) (.slice ua3 n3 uc3)
      have c9:=((hz1.blk (show ¬z+1+1+1=z by omega) (K13.out.blk (fun h=>h) (K10.out.blk (fun h=>h) BX3.out))).set_ 0 (.slice ua3 n3 uc3)).cell' (i:=0) (v:=.slice ua3 n3 uc3) (by simp)
      have hkz:Kept (fun b=>b=z∨b=z+1+1+1) w13 ((w13.setCell ⟨z,0,none⟩ (.slice ua3 n3 uc3)).setCell ⟨z+1+1+1,0,none⟩ (.slice ua3 n3 uc3)):=(hz1.mono fun _ _ h=>.inl h).trans (hz2.mono fun _ _ h=>.inr h) fun _ _ h=>h
      refine bodyPost_ret (v:=.tuple #[.agg #[.slice ua3 n3 uc3],.int .i64 0]) (by simp [results,Tryz.results97,go_sem,c9]) rfl ⟨⟨_,rfl,?_⟩,KZ.out.over hkz fun b hb=>by have:=HZ.out;omega⟩
      rw [HMM.out,←N3.out]
      exact owns_keep (owns_base9 O3.out (Nat.le_trans K9.out.size K10.out.size)) hkz fun b hb h=>by have h1:=owns_new O3.out b hb;have h2:=SZ9.out;have h3:=K10.out.size;omega
     ·injection e with q1 q2 q3
      clear q2
      subst q1 q3
      have hLc:L.length≤c:=by assumption
      have hcm:c≤9223372036854775807:=by have h9:c≤maxLen:=by assumption
                                         unfold maxLen at h9;omega
      have hci:(c:Int)≤9223372036854775807:=by omega
      have hP0:(0:Int)≤P:=by omega
      have hPLi:(P:Int)≤L.length:=by omega
      have hLci:(L.length:Int)≤c:=by omega
      have hPci:(P:Int)≤c:=by omega
      have PRE:=Lib.hid (sl_pre HL10.out hPL)
      by_cases hcn:c=P
      ·subst hcn
       have SUF:Hid (∀W,Kept (fun _=>False) w10 W→SlAt nodeE W (.slice (some ⟨g,0,none⟩) 0 0) (L.drop c)):=Lib.hid fun _ _=>by rw [List.drop_of_length_le (by omega)];exact sl_void _ (Nat.zero_le _)
       go_upto_region 28 with (at_builtin;(refine wpList_append_row nodeE rfl (.tmp 133) (.tmp 137) 51 rfl w10.heap.size 84 _ 48 Tryz.underlying51 info_node rfl rfl rfl NW.out PRE.out (by have:=SIZ.out;simp only [List.length_nil];unfold maxLen;omega) (by have:=SIZ.out;simp only [List.length_nil];omega) (Nat.le_refl _) ?_);intro v1 w11 ho1 hk1;rw [List.nil_append] at ho1;have K11:Hid (Kept (fun _=>False) w10 w11):=Lib.hid (hk1.mono (fun b _ e=>by have e:(Value.slice none 0 0).ownBlock=some b:=e;cases e));have O1:=Lib.hid ho1;(obtain⟨cc0,_,_,_⟩:=CELL9.out _ (K10.out.trans K11.out fun _ _ h=>h));clear ho1 hk1)
       go_upto_region 29 with (at_builtin;(refine wpList_append_row nodeE rfl (.tmp 139) (.tmp 140) 51 rfl w10.heap.size 84 _ 48 Tryz.underlying51 info_node rfl rfl rfl O1.out (FRR.out _ K11.out) (by have:=SIZ.out;unfold maxLen;omega) (by have:=SIZ.out;omega) K11.out.size ?_);intro v2 w12 ho2 hk2;have K12:Hid (Kept (fun _=>False) w10 w12):=Lib.hid (K11.out.over hk2 fun b hb=>owns_new O1.out b hb);have O2:=Lib.hid ho2;(obtain⟨cd0,_,_,_⟩:=CELL9.out _ (K10.out.trans K12.out fun _ _ h=>h));clear ho2 hk2)
       go_upto_region 30 with (at_builtin;(refine wpList_append_row nodeE rfl (.tmp 142) (.tmp 146) 51 rfl w10.heap.size 84 _ 48 Tryz.underlying51 info_node rfl rfl rfl O2.out (SUF.out _ K12.out) (by have:=SIZ.out;simp only [List.length_append];unfold maxLen;omega) (by have:=SIZ.out;simp only [List.length_append];omega) K12.out.size ?_);intro v3 w13 ho3 hk3;have K13:Hid (Kept (fun _=>False) w10 w13):=Lib.hid (K12.out.over hk3 fun b hb=>owns_new O2.out b hb);(obtain⟨n3,hn3⟩:∃n3,n3=(L.take c++F++L.drop c).length:=⟨_,rfl⟩);rw [←hn3] at ho3;have N3:=Lib.hid hn3;clear hn3;(obtain⟨ua3,uc3,rfl⟩:=owns_sl ho3);have O3:=Lib.hid ho3;(obtain⟨ce0,ce5,ef5,ef0⟩:=CELL9.out _ (K10.out.trans K13.out fun _ _ h=>h));clear ho3 hk3)
       go_wp2_with fail
       have KZ:Hid (Kept (fun _=>False) w w13):=Lib.hid ((K9.out.trans K10.out fun _ _ h=>h).trans K13.out fun _ _ h=>h)
       have hz1:=kept_cell w13 z (.slice ua3 n3 uc3)
       have hz2:=kept_cell (w13.setCell ⟨z,0,none⟩ (.slice ua3 n3 uc3)) (z+1+1+1) (.slice ua3 n3 uc3)
       have c9:=((hz1.blk (show ¬z+1+1+1=z by omega) (K13.out.blk (fun h=>h) (K10.out.blk (fun h=>h) BX3.out))).set_ 0 (.slice ua3 n3 uc3)).cell' (i:=0) (v:=.slice ua3 n3 uc3) (by simp)
       have hkz:Kept (fun b=>b=z∨b=z+1+1+1) w13 ((w13.setCell ⟨z,0,none⟩ (.slice ua3 n3 uc3)).setCell ⟨z+1+1+1,0,none⟩ (.slice ua3 n3 uc3)):=(hz1.mono fun _ _ h=>.inl h).trans (hz2.mono fun _ _ h=>.inr h) fun _ _ h=>h
       refine bodyPost_ret (v:=.tuple #[.agg #[.slice ua3 n3 uc3],.int .i64 0]) (by simp [results,Tryz.results97,go_sem,c9]) rfl ⟨⟨_,rfl,?_⟩,KZ.out.over hkz fun b hb=>by have:=HZ.out;omega⟩
       rw [HMM.out,←N3.out]
       exact owns_keep (owns_base9 O3.out (Nat.le_trans K9.out.size K10.out.size)) hkz fun b hb h=>by have h1:=owns_new O3.out b hb;have h2:=SZ9.out;have h3:=K10.out.size;omega
      ·have SUF:Hid (∀W,Kept (fun _=>False) w10 W→SlAt nodeE W (.slice (some ⟨g,P * 6,none⟩) (L.length-P) (c-P)) (L.drop P)):=Lib.hid fun _ hk=>sl_suf (HL10.out.kept hk) hPL
       go_upto_region 28 with (at_builtin;(refine wpList_append_row nodeE rfl (.tmp 133) (.tmp 137) 51 rfl w10.heap.size 84 _ 48 Tryz.underlying51 info_node rfl rfl rfl NW.out PRE.out (by have:=SIZ.out;simp only [List.length_nil];unfold maxLen;omega) (by have:=SIZ.out;simp only [List.length_nil];omega) (Nat.le_refl _) ?_);intro v1 w11 ho1 hk1;rw [List.nil_append] at ho1;have K11:Hid (Kept (fun _=>False) w10 w11):=Lib.hid (hk1.mono (fun b _ e=>by have e:(Value.slice none 0 0).ownBlock=some b:=e;cases e));have O1:=Lib.hid ho1;(obtain⟨cc0,_,_,_⟩:=CELL9.out _ (K10.out.trans K11.out fun _ _ h=>h));clear ho1 hk1)
       go_upto_region 29 with (at_builtin;(refine wpList_append_row nodeE rfl (.tmp 139) (.tmp 140) 51 rfl w10.heap.size 84 _ 48 Tryz.underlying51 info_node rfl rfl rfl O1.out (FRR.out _ K11.out) (by have:=SIZ.out;unfold maxLen;omega) (by have:=SIZ.out;omega) K11.out.size ?_);intro v2 w12 ho2 hk2;have K12:Hid (Kept (fun _=>False) w10 w12):=Lib.hid (K11.out.over hk2 fun b hb=>owns_new O1.out b hb);have O2:=Lib.hid ho2;(obtain⟨cd0,_,_,_⟩:=CELL9.out _ (K10.out.trans K12.out fun _ _ h=>h));clear ho2 hk2)
       go_upto_region 30 with (at_builtin;(refine wpList_append_row nodeE rfl (.tmp 142) (.tmp 146) 51 rfl w10.heap.size 84 _ 48 Tryz.underlying51 info_node rfl rfl rfl O2.out (SUF.out _ K12.out) (by have:=SIZ.out;simp only [List.length_append];unfold maxLen;omega) (by have:=SIZ.out;simp only [List.length_append];omega) K12.out.size ?_);intro v3 w13 ho3 hk3;have K13:Hid (Kept (fun _=>False) w10 w13):=Lib.hid (K12.out.over hk3 fun b hb=>owns_new O2.out b hb);(obtain⟨n3,hn3⟩:∃n3,n3=(L.take P++F++L.drop P).length:=⟨_,rfl⟩);rw [←hn3] at ho3;have N3:=Lib.hid hn3;clear hn3;(obtain⟨ua3,uc3,rfl⟩:=owns_sl ho3);have O3:=Lib.hid ho3;(obtain⟨ce0,ce5,ef5,ef0⟩:=CELL9.out _ (K10.out.trans K13.out fun _ _ h=>h));clear ho3 hk3)
       go_wp2_with fail
       have KZ:Hid (Kept (fun _=>False) w w13):=Lib.hid ((K9.out.trans K10.out fun _ _ h=>h).trans K13.out fun _ _ h=>h)
       have hz1:=kept_cell w13 z (.slice ua3 n3 uc3)
       have hz2:=kept_cell (w13.setCell ⟨z,0,none⟩ (.slice ua3 n3 uc3)) (z+1+1+1) (.slice ua3 n3 uc3)
       have c9:=((hz1.blk (show ¬z+1+1+1=z by omega) (K13.out.blk (fun h=>h) (K10.out.blk (fun h=>h) BX3.out))).set_ 0 (.slice ua3 n3 uc3)).cell' (i:=0) (v:=.slice ua3 n3 uc3) (by simp)
       have hkz:Kept (fun b=>b=z∨b=z+1+1+1) w13 ((w13.setCell ⟨z,0,none⟩ (.slice ua3 n3 uc3)).setCell ⟨z+1+1+1,0,none⟩ (.slice ua3 n3 uc3)):=(hz1.mono fun _ _ h=>.inl h).trans (hz2.mono fun _ _ h=>.inr h) fun _ _ h=>h
       refine bodyPost_ret (v:=.tuple #[.agg #[.slice ua3 n3 uc3],.int .i64 0]) (by simp [results,Tryz.results97,go_sem,c9]) rfl ⟨⟨_,rfl,?_⟩,KZ.out.over hkz fun b hb=>by have:=HZ.out;omega⟩
       rw [HMM.out,←N3.out]
       exact owns_keep (owns_base9 O3.out (Nat.le_trans K9.out.size K10.out.size)) hkz fun b hb h=>by have h1:=owns_new O3.out b hb;have h2:=SZ9.out;have h3:=K10.out.size;omega
end Go.Proofs.YtjohljmpcblpjaaGreatDoor.Tr
