/- hearsayref7.Has, Covers and Check. hearsayref24.Upto. past.Upto. Parts of the proof. -/
import Derived.Test.YtjohljmpcblpjaaGreatDoorM29
set_option maxRecDepth 100000
set_option maxHeartbeats 4000000
namespace Go.Proofs.YtjohljmpcblpjaaGreatDoor
open Go.RowKit Go.Proofs.YtjohljmpcblpjaaGreatDoor.St
theorem rhasV_grew {w:World}{v:Value}{L:List Dot}(h:SlAt dotE w v L) (hb:L.length≤1000000000) (d:Dot):Calls Tryz.prog 52 #[v,.agg #[.int .i64 d.site,.int .i64 d.seq]] w fun e w'=>e=.returned (.bool (decide (hasV L d)))∧Grew w w':=by
 have hg:=Lib.hid (fun (w':World) (hk:Grew w w')=>rget_grew (h.kept hk.kept) hb d.site)
 have hB:=Blk.new w 29 #[.int .i64 d.site,.int .i64 d.seq]
 have b0:(w.alloc (.cells #[.int .i64 d.site,.int .i64 d.seq] 29)).cell? ⟨w.heap.size,0,none⟩=some (.int .i64 d.site):=hB.cell' (i:=0) rfl
 have b1:(w.alloc (.cells #[.int .i64 d.site,.int .i64 d.seq] 29)).cell? ⟨w.heap.size,1,none⟩=some (.int .i64 d.seq):=hB.cell' (i:=1) rfl
 have KD:Grew w (w.alloc (.cells #[.int .i64 d.site,.int .i64 d.seq] 29)).drew:=((Grew.refl _).alloc _).drewN 1
 unfold hasV
 clear hB h
 go_enter Tryz.func52,Tryz.ntmps52
 by_cases h1:1≤d.seq
 ·have hd1:decide (1≤d.seq)=true:=decide_eq_true h1
  go_wp2_with fail
  go_region_held3 (fun w'=>Grew w w'∧w'.cell? ⟨w.heap.size,0,none⟩=some (.int .i64 d.site)∧w'.cell? ⟨w.heap.size,1,none⟩=some (.int .i64 d.seq)) (first | (with_reducible exact⟨KD,b0,b1⟩) | go_keep)
   (first | (go_simp;go_at_call 81;refine (hg.out _ KD).mono ?_;rintro e w1 ⟨rfl,hk1⟩;have KE:=KD.trans hk1;have b0:=hk1.kept.cell b0;have b1:=hk1.kept.cell b1))
  go_wp2_with fail
  go_ret
  exact⟨by simp [h1],KE⟩
 ·have hd1:decide (1≤d.seq)=false:=decide_eq_false h1
  have e2:decide (1≤d.seq∧d.seq≤getV L d.site)=false:=decide_eq_false fun h=>h1 h.1
  go_wp2_with fail
  go_region
  go_wp2_with fail
  go_ret
  exact⟨congrArg (fun b=>Ending.returned (.bool b)) e2.symm,KD⟩
theorem rhasV_any {w:World}{v:Value}{L:List Dot}(h:SlAt dotE w v L) (hb:L.length≤1000000000) (d:Dot):Calls Tryz.prog 52 #[v,.agg #[.int .i64 d.site,.int .i64 d.seq]] w fun e w'=>e=.returned (.bool (decide (hasV L d)))∧Kept (fun _=>False) w w':=(rhasV_grew h hb d).mono fun _ _ ⟨he,hg⟩=>⟨he,hg.kept⟩
theorem rcovers_grew {w:World}{va vb:Value}{A B:List Dot}(ha:SlAt dotE w va A) (hb:SlAt dotE w vb B) (hla:A.length≤1000000000) (hlb:B.length≤1000000000) :
  Calls Tryz.prog 66 #[va,vb] w fun e w'=>e=.returned (.bool (decide (coversV A B)))∧Grew w w':=by
 have hoa:=rsays_grew ha hla
 have HB:=Lib.hid hb
 clear hb
 go_enter Tryz.func66,Tryz.ntmps66
 go_upto_region 2 with (first
   | (refine wpList_store_row rfl 130 _ _ rfl w1.heap.size (cells (says A)) rfl rfl 130 zero17 P1.out (by rw [cells_size];kernel_rfl) (by rw [cells_size];rfl) (cells_one _) ?_)
   | (go_at_call 75;refine hoa.mono ?_;rintro e w1 ⟨rfl,hk1⟩;have P1:=Lib.hid (Blk.new w1 130 zero17)))
 have Q1:=Lib.hid (P1.out.row (cells (says A)))
 have s1:=hk1.kept.size
 have k1:Grew w ((w1.alloc (.cells zero17 130)).setRow w1.heap.size (cells (says A))):=(hk1.alloc _).setRow s1 _
 have K1:=Lib.hid k1
 clear P1 hk1 hoa k1
 generalize (w1.alloc (.cells zero17 130)).setRow w1.heap.size (cells (says A))=w2 at *
 go_upto_region 3 with (first
   | (refine wpList_store_row rfl 130 _ _ rfl w3.heap.size (cells (says B)) rfl rfl 130 zero17 P3.out (by rw [cells_size];kernel_rfl) (by rw [cells_size];rfl) (cells_one _) ?_)
   | (go_at_call 75;refine (rsays_grew (HB.out.kept K1.out.kept) hlb).mono ?_;rintro e w3 ⟨rfl,hk3⟩;have P3:=Lib.hid (Blk.new w3 130 zero17)))
 have s3:=hk3.kept.size
 have l1:=Q1.out.lt
 have Q3:=Lib.hid (P3.out.row (cells (says B)))
 have Q1':=Lib.hid (((hk3.kept.blk (fun h=>h) Q1.out).alloc (.cells zero17 130)).row_far (g:=w3.heap.size) (by omega) (cells (says B)))
 have K3:=Lib.hid (((K1.out.trans hk3).alloc (.cells zero17 130)).setRow (g:=w3.heap.size) (by have:=K1.out.kept.size;omega) (cells (says B)))
 clear P3 hk3 Q1 K1 l1 s3
 generalize (w3.alloc (.cells zero17 130)).setRow w3.heap.size (cells (says B))=w4 at *
 go_wp2_with fail
 go_loopw [7] (fun iv wr=>∃n q:Nat,iv=.int .i64 n∧n≤17∧(∀i,i<n→says B i≤says A i)∧wr=w4.drewN q) (fun iv _=>17-(intOf iv).toNat)
 case atStart=>exact⟨0,0,rfl,by decide,fun i h=>absurd h (Nat.not_lt_zero _),rfl⟩
 case round =>
  obtain⟨n,q,rfl,hn,hc,rfl⟩:=hrel
  have hn0:(0:Int)≤n:=by omega
  have HC:=Lib.hid hc
  clear hc
  by_cases hlt:n<17
  case neg =>
   obtain rfl:n=17:=by omega
   have ANS:=Lib.hid (show decide (coversV A B)=true from decide_eq_true HC.out)
   go_wp2_with fail
   go_ret
   exact⟨by rw [ANS.out];rfl,K3.out.drewN _⟩
  case pos =>
   have hI:(n:Int)<17:=by omega
   have c1:w4.cell? ⟨w1.heap.size,n,none⟩=some (.int .i64 (says A n)):=Q1'.out.cell' (cells_get _ hlt)
   have c2:w4.cell? ⟨w3.heap.size,n,none⟩=some (.int .i64 (says B n)):=Q3.out.cell' (cells_get _ hlt)
   by_cases h:says A n<says B n
   ·have ANS:=Lib.hid (show decide (coversV A B)=false from decide_eq_false (fun hc=>by have:=hc n hlt;omega))
    go_wp2
    go_quiet (fail)
    go_wp2
    go_ret
    exact⟨by rw [ANS.out];rfl,(K3.out.drewN q).drewN _⟩
   ·have HH:=Lib.hid (show says B n≤says A n by omega)
    go_wp2
    go_quiet (fail)
    go_wp2
    go_roundw
    case rel =>
     refine⟨n+1,_,by go_num,by omega,fun i hi=>?_,rfl⟩
     by_cases hin:i=n
     ·rw [hin];exact HH.out
     ·exact HC.out i (by omega)
    case measure=>simp [intOf];omega
theorem rcovers_any {w:World}{va vb:Value}{A B:List Dot}(ha:SlAt dotE w va A) (hb:SlAt dotE w vb B) (hla:A.length≤1000000000) (hlb:B.length≤1000000000) :
  Calls Tryz.prog 66 #[va,vb] w fun e w'=>e=.returned (.bool (decide (coversV A B)))∧Kept (fun _=>False) w w':=(rcovers_grew ha hb hla hlb).mono fun _ _ ⟨he,hg⟩=>⟨he,hg.kept⟩
def lastV (L:List Dot):Nat→Int
 | 0=>0
 | k+1=>match L[k]? with
  | some d=>d.site
  | none=>0
theorem lastV_next {L:List Dot}{n:Nat}{d:Dot}(h:L[n]?=some d):lastV L (n+1)=d.site:=by
 show (match L[n]? with | some d=>d.site | none=>0)=d.site
 rw [h]
theorem rvcheck_drew {w:World}{v:Value}{L:List Dot}(h:SlAt dotE w v L) (hb:L.length≤1000000000):Calls Tryz.prog 51 #[v] w fun e w'=>e=.returned (.int .i64 (chkV 0 L))∧∃q,w'=w.drewN q:=by
 obtain⟨a,c,rfl,_,_⟩:=h.sl
 have HS:=Lib.hid h
 clear h
 go_enter Tryz.func51,Tryz.ntmps51
 go_wp2_with fail
 go_loopw [3] (fun iv wr=>∃n q:Nat,iv=.int .i64 n∧n≤L.length∧chkV 0 L=chkV (lastV L n) (L.drop n)∧(1≤n→1≤lastV L n)∧wr=w.drewN q) (fun iv _=>L.length-(intOf iv).toNat)
 case atStart=>exact⟨0,0,rfl,Nat.zero_le _,rfl,fun h=>absurd h (by decide),rfl⟩
 case round =>
  obtain⟨n,q0,rfl,hn,hch,hl1,rfl⟩:=hrel
  have hn0:(0:Int)≤n:=by omega
  by_cases hlt:n<L.length
  case neg =>
   have hnl:¬(n:Int)<L.length:=by omega
   rw [List.drop_of_length_le (by omega)] at hch
   have CH:=Lib.hid hch
   clear hch hl1
   go_wp2_with fail
   go_ret
   exact⟨by rw [CH.out];rfl,_,rfl⟩
  case pos =>
   have hltI:(n:Int)<L.length:=by omega
   obtain⟨⟨s,q⟩,hd⟩:=get_of_lt hlt
   obtain⟨g,o,c',hv,hg,hc⟩:=SlAt.dot HS.out (by omega)
   cases hv
   obtain⟨c0,c1⟩:=hc n _ hd
   rw [check_step hd] at hch
   simp only at hch c0 c1
   by_cases h1:isSite s
   case neg =>
    rw [if_pos h1] at hch
    have CH:=Lib.hid hch
    clear hch hc hd hl1
    by_cases h2:s<1
    ·clear h1
     go_wp2_with fail
     go_ret
     exact⟨by rw [CH.out];rfl,_,rfl⟩
    ·have h3:16<s:=by unfold isSite at h1;omega
     clear h1
     go_wp2_with fail
     go_ret
     exact⟨by rw [CH.out];rfl,_,rfl⟩
   case pos =>
   rw [if_neg (fun h=>h h1)] at hch
   have s1:¬s<1:=by unfold isSite at h1;omega
   have s2:¬16<s:=by unfold isSite at h1;omega
   clear h1
   by_cases h2:q<1∨2147483647<q
   ·rw [if_pos h2] at hch
    have CH:=Lib.hid hch
    clear hch hc hd hl1
    by_cases h3:q<1
    ·clear h2
     go_wp2_with fail
     go_ret
     exact⟨by rw [CH.out];rfl,_,rfl⟩
    ·have h4:2147483647<q:=h2.resolve_left h3
     clear h2
     go_wp2_with fail
     go_ret
     exact⟨by rw [CH.out];rfl,_,rfl⟩
   rw [if_neg h2] at hch
   have h3:¬q<1:=fun h=>h2 (.inl h)
   have h4:¬2147483647<q:=fun h=>h2 (.inr h)
   clear h2
   have hnext:lastV L (n+1)=s:=lastV_next hd
   have HN:=Lib.hid hnext
   clear hnext
   cases n with
   | zero =>
    have h5:¬s≤lastV L 0:=by show ¬s≤0;omega
    rw [if_neg h5] at hch
    have CH:=Lib.hid hch
    clear hch hc hd hl1 h5
    simp only [Nat.zero_mul,Nat.add_zero,Int.natCast_zero] at *
    go_wp2_with fail
    go_quiet (fail)
    go_wp2_with fail
    go_roundw
    case rel=>exact⟨1,_,by go_num,by omega,by rw [HN.out];exact CH.out,fun _=>by rw [HN.out];omega,rfl⟩
    case measure=>simp [intOf] <;> omega
   | succ m =>
    obtain⟨⟨s',q'⟩,hd'⟩:=get_of_lt (show m<L.length by omega)
    obtain⟨d0,_⟩:=hc m _ hd'
    simp only at d0
    have hlast:lastV L (m+1)=s':=lastV_next hd'
    rw [hlast] at hch
    clear hl1 hlast hc hd hd'
    have hm:IntKind.i64.wrap (m:Int)=m:=by rw [IntKind.wrap_i64];omega
    have hmI:(m:Int)<L.length:=by omega
    have hm0:(0:Int)≤m:=by omega
    have hpos:(0:Int)<(m:Int)+1:=by omega
    by_cases h5:s≤s'
    ·rw [if_pos h5] at hch
     have CH:=Lib.hid hch
     clear hch
     go_wp2_with fail
     go_quiet (fail)
     go_wp2_with fail
     go_ret
     exact⟨by rw [CH.out];rfl,_,World.drewN_drewN _ _ _⟩
    ·rw [if_neg h5] at hch
     have CH:=Lib.hid hch
     clear hch
     go_wp2_with fail
     go_quiet (fail)
     go_wp2_with fail
     go_roundw
     case rel=>exact⟨m+1+1,_,by go_num,by omega,by rw [HN.out];exact CH.out,fun _=>by rw [HN.out];omega,rfl⟩
     case measure=>simp [intOf] <;> omega
theorem rvcheck_any {w:World}{v:Value}{L:List Dot}(h:SlAt dotE w v L) (hb:L.length≤1000000000):Calls Tryz.prog 51 #[v] w fun e w'=>e=.returned (.int .i64 (chkV 0 L))∧Kept (fun _=>False) w w':=(rvcheck_drew h hb).mono fun _ _ ⟨he,q,hq⟩=>⟨he,hq ▸ (Kept.refl _ _).drewN q⟩
theorem rvcheck_grew {w:World}{v:Value}{L:List Dot}(h:SlAt dotE w v L) (hb:L.length≤1000000000):Calls Tryz.prog 51 #[v] w fun e w'=>e=.returned (.int .i64 (chkV 0 L))∧Grew w w':=(rvcheck_drew h hb).mono fun _ _ ⟨he,q,hq⟩=>⟨he,hq ▸ ⟨q,#[],rfl⟩⟩
end Go.Proofs.YtjohljmpcblpjaaGreatDoor
namespace Go.Proofs.YtjohljmpcblpjaaGreatDoor.Pa
open Go.RowKit Go.Proofs.YtjohljmpcblpjaaGreatDoor.St Go.Proofs.YtjohljmpcblpjaaGreatDoor
def uptoL (B:List Dot) (l:List Ent):List Ent:=l.filter fun e=>decide (hasV B e.v.dot)
theorem upto_snoc (B:List Dot) (l:List Ent) (x:Ent):uptoL B (l++[x])=if hasV B x.v.dot then uptoL B l++[x] else uptoL B l:=by
 unfold uptoL
 rw [List.filter_append]
 by_cases h:hasV B x.v.dot
 ·rw [if_pos h,List.filter_cons_of_pos (by simpa using h)]
  rfl
 ·rw [if_neg h,List.filter_cons_of_neg (by simpa using h)]
  simp
theorem grow1_kept {w w':World}{v v':Value}(h:Grow1 w w' v v'):Kept (fun b=>v.ownBlock=some b) w w':=by
 rcases h with ⟨_,h⟩|⟨_,h⟩
 ·exact h
 ·exact h.mono (fun _ _ h=>h.elim)
theorem rupto_any {w:World}{lv bv:Value}{l:List Ent}{B:List Dot}(hl:SlAt entE w lv l) (hlen:l.length≤1000000) (hB:SlAt dotE w bv B) (hBl:B.length≤1000000000) (hc:chkV 0 B=0) :
  Calls Tryz.prog 16 #[lv,bv] w fun e w'=>(∃u,e=.returned u∧w'.ownsRow w.heap.size 62 11 u (uptoL B l).length (entE.flat (uptoL B l)))∧Kept (fun _=>False) w w':=by
 obtain⟨la,lc,rfl,_,_⟩:=hl.sl
 obtain⟨ba,bc,rfl,_,_⟩:=hB.sl
 have HL:=Lib.hid hl
 have HB:=Lib.hid hB
 have CK:=Lib.hid (rvcheck_any hB hBl)
 rw [hc] at CK
 clear hl hB hc
 go_enter Tryz.func16,Tryz.ntmps16
 go_wp2_with (go_at_call 51;refine CK.out.mono ?_;rintro e w0 ⟨rfl,hk0⟩)
 have K0:=Lib.hid hk0
 clear hk0
 go_loopw [5,6] (fun uv iv wr=>∃n:Nat,iv=.int .i64 n∧n≤l.length∧Kept (fun _=>False) w wr∧wr.ownsRow w.heap.size 62 11 uv (uptoL B (l.take n)).length (entE.flat (uptoL B (l.take n)))) (fun _ iv _=>l.length-(intOf iv).toNat)
 case atStart=>exact⟨0,rfl,Nat.zero_le _,K0.out,World.ownsRow_nil ..⟩
 case round =>
  obtain⟨n,rfl,hn,hk,ho⟩:=hrel
  have hn0:(0:Int)≤n:=by omega
  obtain⟨ua,uc,hue⟩:=owns_sl ho
  subst hue
  have K1:=Lib.hid hk
  have OU:=Lib.hid ho
  clear hk ho
  by_cases hlt:n<l.length
  case neg =>
   have hnl:¬(n:Int)<l.length:=by omega
   have O9:=OU.out
   rw [List.take_of_length_le (by omega)] at O9
   have OO:=Lib.hid O9
   clear O9
   go_wp2_with fail
   go_ret
   rw [List.take_of_length_le (by omega)]
   exact⟨⟨_,rfl,OO.out⟩,K1.out⟩
  case pos =>
   have hnl:(n:Int)<l.length:=by omega
   obtain⟨x,hx⟩:=get_of_lt hlt
   have htk:l.take (n+1)=l.take n++[x]:=by rw [List.take_add_one,hx];rfl
   obtain⟨lg,lo,lc',e2,hcs⟩:=SlAt.opc (HL.out.kept K1.out) (by omega)
   cases e2
   have hc:=hcs n x hx
   have UP:=Lib.hid (upto_snoc B (l.take n) x)
   rw [←htk] at UP
   obtain⟨⟨⟨ds,dq⟩,⟨da,dn,dc⟩,kd,⟨it,is⟩,⟨rt,rs⟩,tx,⟨ga,gn,gc⟩,st⟩,D,G⟩:=x
   obtain⟨c0,c1,c2,c3,c4,c5,c6,c7,c8,c9,c10⟩:=hc
   have e1:IntKind.i64.wrap ((n:Int)+1)=(n:Int)+1:=IntWalk.i64_in _ (by omega)
   have HS:=Lib.hid (rhasV_any (HB.out.kept K1.out) hBl ⟨ds,dq⟩)
   have ML:Hid ((uptoL B (l.take n)).length≤1000000):=Lib.hid (by
    have h1:(uptoL B (l.take n)).length≤(l.take n).length:=List.length_filter_le _ _
    rw [List.length_take] at h1
    omega)
   clear hcs hx htk
   by_cases hh:hasV B ⟨ds,dq⟩
   case neg =>
    rw [decide_eq_false hh] at HS
    have EQ:Hid (uptoL B (l.take (n+1))=uptoL B (l.take n)):=Lib.hid (UP.out.trans (if_neg hh))
    clear hh
    go_wp2_with (go_at_call 52;refine HS.out.mono ?_;rintro e w2 ⟨rfl,hk2⟩)
    go_roundw
    case rel=>exact⟨n+1,by go_num,by omega,K1.out.trans hk2 fun _ _ h=>h,by rw [EQ.out];exact owns_keep OU.out hk2 fun _ _ h=>h⟩
    case measure=>simp [intOf];omega
   case pos =>
    rw [decide_eq_true hh] at HS
    have EQ:Hid (uptoL B (l.take (n+1))=uptoL B (l.take n)++[⟨⟨⟨ds,dq⟩,⟨da,dn,dc⟩,kd,⟨it,is⟩,⟨rt,rs⟩,tx,⟨ga,gn,gc⟩,st⟩,D,G⟩]):=Lib.hid (UP.out.trans (if_pos hh))
    clear hh
    go_upto_region 8 with (go_at_call 52;refine HS.out.mono ?_;rintro e w2 ⟨rfl,hk2⟩;have K2:=Lib.hid hk2;have c0:=hk2.cell c0;have c1:=hk2.cell c1;have c2:=hk2.cell c2;have c3:=hk2.cell c3;have c4:=hk2.cell c4;have c5:=hk2.cell c5;have c6:=hk2.cell c6;have c7:=hk2.cell c7;have c8:=hk2.cell c8;have c9:=hk2.cell c9;have c10:=hk2.cell c10;clear hk2)
    have LIT:Hid (SlAt entE (w2.alloc (.cells #[.int .i64 ds,.int .i64 dq,.slice da dn dc,.int .i64 kd,.int .i64 it,.int .i64 is,.int .i64 rt,.int .i64 rs,.string tx,.slice ga gn gc,.int .i64 st] 62)) (.slice (some ⟨w2.heap.size,0,none⟩) 1 1) [(⟨⟨⟨ds,dq⟩,⟨da,dn,dc⟩,kd,⟨it,is⟩,⟨rt,rs⟩,tx,⟨ga,gn,gc⟩,st⟩,D,G⟩:Ent)]):=Lib.hid (SlAt.lit (E:=entE) [⟨⟨⟨ds,dq⟩,⟨da,dn,dc⟩,kd,⟨it,is⟩,⟨rt,rs⟩,tx,⟨ga,gn,gc⟩,st⟩,D,G⟩] _ rfl (by show 1≤maxLen;decide))
    have kx:Kept (fun _=>False) w2 (w2.alloc (.cells #[.int .i64 ds,.int .i64 dq,.slice da dn dc,.int .i64 kd,.int .i64 it,.int .i64 is,.int .i64 rt,.int .i64 rs,.string tx,.slice ga gn gc,.int .i64 st] 62)):=(Kept.refl _ _).alloc _
    have KX:=Lib.hid ((K1.out.trans K2.out fun _ _ h=>h).trans kx fun _ _ h=>h)
    have OX:=Lib.hid (owns_keep (owns_keep OU.out K2.out fun _ _ h=>h) kx fun _ _ h=>h)
    clear kx
    go_wp2_with (at_builtin;refine wpList_append_keeps entE rfl (.tmp 24) (.tmp 29) 22 rfl w.heap.size 62 _ 128 Tryz.underlying22 info_op rfl (by decide) rfl rfl OX.out LIT.out ML.out KX.out.size ?_;intro v3 w3 ho3 hg3)
    go_roundw
    case rel=>exact⟨n+1,by go_num,by omega,KX.out.over (grow1_kept hg3) fun b hb=>owns_new OX.out b hb,by rw [EQ.out,List.length_append];exact ho3⟩
    case measure=>simp [intOf];omega
def uptoS (B:List Dot) (l:List Ent):List Ent:=if chkV 0 B=0 then uptoL B l else []
theorem Ent.At.kept {w w':World}{e:Ent}(h:e.At w) (hk:Kept (fun _=>False) w w'):e.At w':=⟨h.deps.kept hk,h.gone.kept hk⟩
def ApartE (e:Ent) (u:Value):Prop:=(e.D≠[]→∀b,e.v.deps.v.ownBlock=some b→u.ownBlock≠some b)∧(e.G≠[]→∀b,e.v.gone.v.ownBlock=some b→u.ownBlock≠some b)
theorem at_grown {w w':World}{e:Ent}{u v:Value}(h:e.At w) (ha:ApartE e u) (hg:Grow1 w w' u v):e.At w'∧ApartE e v:=by
 have hk:=grow1_kept hg
 refine⟨⟨Tr.sl_keep0 h.deps hk fun b hb _ hn e=>ha.1 hn b hb e,Tr.sl_keep0 h.gone hk fun b hb _ hn e=>ha.2 hn b hb e⟩,fun hn b hb=>?_,fun hn b hb=>?_⟩
 ·rcases hg with ⟨h1,_⟩ | ⟨h1,_⟩
  ·rw [h1];exact ha.1 hn b hb
  ·obtain⟨g,o,c,h2,_,_,h3,_⟩:=h.deps.one (List.length_pos_iff.2 hn)
   rw [h2] at hb
   cases hb
   rw [h1]
   intro h4
   injection h4 with h4
   have h5:w.heap.size=g:=h4
   omega
 ·rcases hg with ⟨h1,_⟩ | ⟨h1,_⟩
  ·rw [h1];exact ha.2 hn b hb
  ·obtain⟨g,o,c,h2,_,_,h3,_⟩:=h.gone.one (List.length_pos_iff.2 hn)
   rw [h2] at hb
   cases hb
   rw [h1]
   intro h4
   injection h4 with h4
   have h5:w.heap.size=g:=h4
   omega
theorem upto_past {w:World}{lv bv:Value}{l:List Ent}{B:List Dot}(hl:SlAt entE w lv l) (hat:∀e∈l,e.At w) (hlen:l.length≤1000000) (hdl:∀e∈l,e.D.length≤1000000∧e.G.length≤1000000) (hB:SlAt dotE w bv B) (hBl:B.length≤1000000000) :
  Calls Tryz.prog 15 #[lv,bv] w fun e w'=>(∃u l',e=.returned u∧SlAt entE w' u l'∧l'.map keyE=(uptoS B l).map keyE∧∀e∈l',e.At w')∧Kept (fun _=>False) w w':=by
 obtain⟨la,lc,rfl,_,_⟩:=hl.sl
 obtain⟨ba,bc,rfl,_,_⟩:=hB.sl
 have HL:=Lib.hid hl
 have HB:=Lib.hid hB
 have HAT:=Lib.hid hat
 have HDL:=Lib.hid hdl
 have CK:=Lib.hid (vcheck_any hB hBl)
 clear hl hB hat hdl
 by_cases hc:chkV 0 B=0
 case neg =>
  have hs:uptoS B l=[]:=by unfold uptoS;rw [if_neg hc]
  rw [hs]
  obtain⟨c,hcc⟩:∃c,chkV 0 B=c:=⟨_,rfl⟩
  rw [hcc] at CK hc
  clear hs hcc HL HB HAT HDL
  go_enter Tryz.func15,Tryz.ntmps15
  go_wp2_with (go_at_call 47;refine CK.out.mono ?_;rintro e w0 ⟨rfl,hk0⟩)
  go_ret
  exact⟨⟨_,[],rfl,.inl ⟨rfl,rfl⟩,rfl,fun e he=>by simp at he⟩,hk0⟩
 case pos =>
  have hs:uptoS B l=uptoL B l:=by unfold uptoS;rw [if_pos hc]
  rw [hs]
  rw [hc] at CK
  clear hc hs
  go_enter Tryz.func15,Tryz.ntmps15
  go_wp2_with (go_at_call 47;refine CK.out.mono ?_;rintro e w0 ⟨rfl,hk0⟩)
  have K0:=Lib.hid hk0
  clear hk0
  go_loopw [5,13] (fun uv iv wr=>∃(n:Nat) (l':List Ent),iv=.int .i64 n∧n≤l.length∧Kept (fun _=>False) w wr∧wr.ownsRow w.heap.size 62 11 uv l'.length (entE.flat l')∧l'.map keyE=(uptoL B (l.take n)).map keyE∧∀e∈l',e.At wr∧ApartE e uv) (fun _ iv _=>l.length-(intOf iv).toNat)
  case atStart=>exact⟨0,[],rfl,Nat.zero_le _,K0.out,World.ownsRow_nil ..,rfl,fun e he=>by simp at he⟩
  case round =>
   obtain⟨n,l',rfl,hn,hk,ho,hkey,hat⟩:=hrel
   have hn0:(0:Int)≤n:=by omega
   have K1:=Lib.hid hk
   have OU:=Lib.hid ho
   have HKEY:=Lib.hid hkey
   have HA:=Lib.hid hat
   clear hk ho hkey hat
   by_cases hlt:n<l.length
   case neg =>
    have hnl:¬(n:Int)<l.length:=by omega
    have hk9:=HKEY.out
    rw [List.take_of_length_le (by omega)] at hk9
    have HK9:=Lib.hid hk9
    clear hk9
    go_wp2_with fail
    go_ret
    exact⟨⟨_,rfl,l',owns_slAt (E:=entE) OU.out,HK9.out,fun e he=>(HA.out e he).1⟩,K1.out⟩
   case pos =>
    have hnl:(n:Int)<l.length:=by omega
    obtain⟨x,hx⟩:=get_of_lt hlt
    have htk:l.take (n+1)=l.take n++[x]:=by rw [List.take_add_one,hx];rfl
    obtain⟨lg,lo,lc',e2,hcs⟩:=SlAt.opc (HL.out.kept K1.out) (by omega)
    cases e2
    have hc:=hcs n x hx
    have UP:=Lib.hid (upto_snoc B (l.take n) x)
    rw [←htk] at UP
    have XA:=Lib.hid (HAT.out x (List.mem_of_getElem? hx))
    have XD:=Lib.hid (HDL.out x (List.mem_of_getElem? hx))
    obtain⟨⟨⟨ds,dq⟩,⟨da,dn,dc⟩,kd,⟨it,is⟩,⟨rt,rs⟩,tx,⟨ga,gn,gc⟩,st⟩,D,G⟩:=x
    obtain⟨c0,c1,c2,c3,c4,c5,c6,c7,c8,c9,c10⟩:=hc
    have e1:IntKind.i64.wrap ((n:Int)+1)=(n:Int)+1:=IntWalk.i64_in _ (by omega)
    have HS:=Lib.hid (fun W (h:Kept (fun _=>False) wr W)=>hasV_grew ((HB.out.kept K1.out).kept h) hBl ⟨ds,dq⟩)
    have k1:Kept (fun _=>False) wr (wr.alloc (.cells #[.int .i64 ds,.int .i64 dq,.slice da dn dc,.int .i64 kd,.int .i64 it,.int .i64 is,.int .i64 rt,.int .i64 rs,.string tx,.slice ga gn gc,.int .i64 st] 62)):=(Kept.refl _ _).alloc _
    have b1:=Blk.new wr 62 #[.int .i64 ds,.int .i64 dq,.slice da dn dc,.int .i64 kd,.int .i64 it,.int .i64 is,.int .i64 rt,.int .i64 rs,.string tx,.slice ga gn gc,.int .i64 st]
    clear hcs hx htk
    go_upto_region 7 with fail
    obtain⟨z,hz⟩:∃z,wr.heap.size=z:=⟨_,rfl⟩
    obtain⟨W1,hW1⟩:∃W1,wr.alloc (.cells #[.int .i64 ds,.int .i64 dq,.slice da dn dc,.int .i64 kd,.int .i64 it,.int .i64 is,.int .i64 rt,.int .i64 rs,.string tx,.slice ga gn gc,.int .i64 st] 62)=W1:=⟨_,rfl⟩
    rw [hW1] at k1 b1 ⊢
    rw [hz] at b1 ⊢
    have z0:W1.cell? ⟨z,0,none⟩=some (.int .i64 ds):=b1.cell' rfl
    have z1:W1.cell? ⟨z,1,none⟩=some (.int .i64 dq):=b1.cell' rfl
    have KZ:=Lib.hid k1
    have BZ:=Lib.hid b1
    have HZ:=Lib.hid hz
    have H1:=HS.out W1 k1
    clear hW1 hz k1 b1 c0 c1 c2 c3 c4 c5 c6 c7 c8 c9 c10
    by_cases hh:hasV B ⟨ds,dq⟩
    case neg =>
     rw [decide_eq_false hh] at H1
     have H2:=Lib.hid H1
     have EQ:Hid (uptoL B (l.take (n+1))=uptoL B (l.take n)):=Lib.hid (UP.out.trans (if_neg hh))
     clear hh H1
     go_wp2_with (go_at_call 48;refine H2.out.mono ?_;rintro e w2 ⟨rfl,hk2⟩)
     have K9:=Lib.hid (KZ.out.trans hk2.kept fun _ _ h=>h)
     clear hk2
     go_roundw
     case rel=>exact⟨n+1,l',by go_num,by omega,K1.out.trans K9.out fun _ _ h=>h,owns_keep OU.out K9.out fun _ _ h=>h,by rw [EQ.out];exact HKEY.out,fun e he=>⟨Ent.At.kept (HA.out e he).1 K9.out,(HA.out e he).2⟩⟩
     case measure=>simp [intOf];omega
    case pos =>
     rw [decide_eq_true hh] at H1
     have H2:=Lib.hid H1
     have EQ:Hid (uptoL B (l.take (n+1))=uptoL B (l.take n)++[⟨⟨⟨ds,dq⟩,⟨da,dn,dc⟩,kd,⟨it,is⟩,⟨rt,rs⟩,tx,⟨ga,gn,gc⟩,st⟩,D,G⟩]):=Lib.hid (UP.out.trans (if_pos hh))
     clear hh H1
     go_upto_region 8 with (go_at_call 48;refine H2.out.mono ?_;rintro e w2 ⟨rfl,hk2⟩)
     have B2:=hk2.kept.blk (fun h=>h) BZ.out
     have z2:w2.cell? ⟨z,2,none⟩=some (.slice da dn dc):=B2.cell' rfl
     have KW2:=Lib.hid ((K1.out.trans KZ.out fun _ _ h=>h).trans hk2.kept fun _ _ h=>h)
     have KR2:=Lib.hid (KZ.out.trans hk2.kept fun _ _ h=>h)
     have CD:=Lib.hid (clone_dot ((XA.out.deps).kept KW2.out) (by have:=XD.out.1;simp only at this ⊢;omega))
     have BB2:=Lib.hid B2
     clear hk2 B2 z0 z1
     go_upto_region 9 with (go_at_call 49;refine Calls.mono CD.out ?_;rintro e w3 ⟨v3,rfl,ho3,hk3⟩;obtain⟨a3,c3,rfl,_,_⟩:=(owns_slAt (E:=dotE) ho3).sl;have q3:=hk3.cell z2;have fz3:=(hk3.blk (fun h=>h) BB2.out).frozen 2)
     have b4:=(hk3.blk (fun h=>h) BB2.out).set_ 2 (.slice a3 D.length c3)
     have k34:Kept (fun b=>b=z) w3 (w3.setCell ⟨z,2,none⟩ (.slice a3 D.length c3)):=(Kept.refl (fun b=>b=z) w3).setCell (p:=⟨z,2,none⟩) (fun _=>rfl) _
     have sd4:SlAt dotE (w3.setCell ⟨z,2,none⟩ (.slice a3 D.length c3)) (.slice a3 D.length c3) D:=owns_slAt (E:=dotE) (owns_keep ho3 k34 fun b hb h9=>by have h1:=Tr.owns_lt ho3 b hb;have h2:=BB2.out.lt;omega)
     have KR4:=Lib.hid ((KR2.out.trans hk3 fun _ _ h=>h).trans k34 fun i hi h=>by have:=HZ.out;omega)
     obtain⟨W4,hW4⟩:∃W4,w3.setCell ⟨z,2,none⟩ (.slice a3 D.length c3)=W4:=⟨_,rfl⟩
     rw [hW4] at b4 sd4 KR4 ⊢
     simp only [List.setIfInBounds_toArray,List.set_cons_zero,List.set_cons_succ] at b4
     have z9:W4.cell? ⟨z,9,none⟩=some (.slice ga gn gc):=b4.cell' rfl
     have KW4:=Lib.hid (K1.out.trans KR4.out fun _ _ h=>h)
     have CR:=Lib.hid (clone_run ((XA.out.gone).kept KW4.out) (by have:=XD.out.2;simp only at this ⊢;omega))
     have BB4:=Lib.hid b4
     have SD4:=Lib.hid sd4
     have HO3:Hid (∀b,(Value.slice a3 D.length c3).ownBlock=some b→z<b):=Lib.hid fun b hb=>by have h1:=Tr.owns_lt ho3 b hb;have h2:=BB2.out.lt;omega
     clear hW4 b4 k34 sd4 ho3 hk3 q3 fz3 z2
     go_upto_region 10 with (go_at_call 50;refine Calls.mono CR.out ?_;rintro e w5 ⟨v5,rfl,ho5,hk5⟩;obtain⟨a5,c5,rfl,_,_⟩:=(owns_slAt (E:=runE) ho5).sl;have q5:=hk5.cell z9;have fz5:=(hk5.blk (fun h=>h) BB4.out).frozen 9)
     have b6:=(hk5.blk (fun h=>h) BB4.out).set_ 9 (.slice a5 G.length c5)
     have k56:Kept (fun b=>b=z) w5 (w5.setCell ⟨z,9,none⟩ (.slice a5 G.length c5)):=(Kept.refl (fun b=>b=z) w5).setCell (p:=⟨z,9,none⟩) (fun _=>rfl) _
     have sr6:SlAt runE (w5.setCell ⟨z,9,none⟩ (.slice a5 G.length c5)) (.slice a5 G.length c5) G:=owns_slAt (E:=runE) (owns_keep ho5 k56 fun b hb h9=>by have h1:=Tr.owns_lt ho5 b hb;have h2:=BB4.out.lt;omega)
     have sd6:SlAt dotE (w5.setCell ⟨z,9,none⟩ (.slice a5 G.length c5)) (.slice a3 D.length c3) D:=(SD4.out.kept hk5).keep k56 fun b hb _ e=>by have:=HO3.out b hb;omega
     have HO5:Hid (∀b,(Value.slice a5 G.length c5).ownBlock=some b→z<b):=Lib.hid fun b hb=>by have h1:=Tr.owns_lt ho5 b hb;have h2:=BB4.out.lt;omega
     have KR6:=Lib.hid ((KR4.out.trans hk5 fun _ _ h=>h).trans k56 fun i hi h=>by have:=HZ.out;omega)
     obtain⟨W6,hW6⟩:∃W6,w5.setCell ⟨z,9,none⟩ (.slice a5 G.length c5)=W6:=⟨_,rfl⟩
     rw [hW6] at b6 sd6 sr6 KR6 ⊢
     simp only [List.setIfInBounds_toArray,List.set_cons_zero,List.set_cons_succ] at b6
     have BB6:Hid (Blk W6 z 62 #[.int .i64 ds,.int .i64 dq,.slice a3 D.length c3,.int .i64 kd,.int .i64 it,.int .i64 is,.int .i64 rt,.int .i64 rs,.string tx,.slice a5 G.length c5,.int .i64 st]):=Lib.hid b6
     have k7:Kept (fun _=>False) W6 (W6.alloc (.cells #[.int .i64 ds,.int .i64 dq,.slice a3 D.length c3,.int .i64 kd,.int .i64 it,.int .i64 is,.int .i64 rt,.int .i64 rs,.string tx,.slice a5 G.length c5,.int .i64 st] 62)):=(Kept.refl _ _).alloc _
     have LIT:Hid (SlAt entE (W6.alloc (.cells #[.int .i64 ds,.int .i64 dq,.slice a3 D.length c3,.int .i64 kd,.int .i64 it,.int .i64 is,.int .i64 rt,.int .i64 rs,.string tx,.slice a5 G.length c5,.int .i64 st] 62)) (.slice (some ⟨W6.heap.size,0,none⟩) 1 1) [⟨⟨⟨ds,dq⟩,⟨a3,D.length,c3⟩,kd,⟨it,is⟩,⟨rt,rs⟩,tx,⟨a5,G.length,c5⟩,st⟩,D,G⟩]):=Lib.hid (SlAt.lit ([⟨⟨⟨ds,dq⟩,⟨a3,D.length,c3⟩,kd,⟨it,is⟩,⟨rt,rs⟩,tx,⟨a5,G.length,c5⟩,st⟩,D,G⟩]:List Ent) _ rfl (by show 1≤maxLen;decide))
     have KX:=Lib.hid ((K1.out.trans KR6.out fun _ _ h=>h).trans k7 fun _ _ h=>h)
     have KRX:=Lib.hid (KR6.out.trans k7 fun _ _ h=>h)
     have OX:=Lib.hid (owns_keep OU.out KRX.out fun _ _ h=>h)
     have ML:Hid (l'.length≤1000000):=Lib.hid (by
      have h0:=congrArg List.length HKEY.out
      rw [List.length_map,List.length_map] at h0
      have h1:(uptoL B (l.take n)).length≤(l.take n).length:=List.length_filter_le _ _
      rw [List.length_take] at h1
      omega)
     have AT7:Hid (Ent.At (W6.alloc (.cells #[.int .i64 ds,.int .i64 dq,.slice a3 D.length c3,.int .i64 kd,.int .i64 it,.int .i64 is,.int .i64 rt,.int .i64 rs,.string tx,.slice a5 G.length c5,.int .i64 st] 62)) ⟨⟨⟨ds,dq⟩,⟨a3,D.length,c3⟩,kd,⟨it,is⟩,⟨rt,rs⟩,tx,⟨a5,G.length,c5⟩,st⟩,D,G⟩):=Lib.hid ⟨sd6.kept k7,sr6.kept k7⟩
     clear hW6 b6 k56 sd6 sr6 hk5 ho5 q5 fz5 z9 k7
     go_wp2_with (first
      | (refine wpList_load_row rfl 62 _ rfl z rfl 62 _ (0,0) _ BB6.out Tryz.underlying62 rfl size_op ?_)
      | (at_builtin;refine wpList_append_keeps entE rfl (.tmp 29) (.tmp 31) 22 rfl w.heap.size 62 _ 128 Tryz.underlying22 info_op rfl (by decide) rfl rfl OX.out LIT.out ML.out KX.out.size ?_;intro v8 w8 ho8 hg8))
     have hown:∀b,u5.ownBlock=some b→w.heap.size≤b:=fun b hb=>owns_new OX.out b hb
     have ul:∀b,u5.ownBlock=some b→b<z:=fun b hb=>by have h1:=(Tr.owns_lt OU.out b hb).2;have:=HZ.out;omega
     have NEW:=at_grown AT7.out ⟨fun _ b hb h9=>by have h1:=HO3.out b hb;have h2:=ul b h9;omega,fun _ b hb h9=>by have h1:=HO5.out b hb;have h2:=ul b h9;omega⟩ hg8
     have OLD:∀e∈l',e.At w8∧ApartE e v8:=fun e he=>at_grown (Ent.At.kept (HA.out e he).1 KRX.out) (HA.out e he).2 hg8
     have KW8:=KX.out.over (grow1_kept hg8) hown
     have FIN:Hid (∃l2:List Ent,Kept (fun _=>False) w w8∧w8.ownsRow w.heap.size 62 11 v8 l2.length (entE.flat l2)∧l2.map keyE=(uptoL B (l.take (n+1))).map keyE∧∀e∈l2,e.At w8∧ApartE e v8):=Lib.hid ⟨l'++[⟨⟨⟨ds,dq⟩,⟨a3,D.length,c3⟩,kd,⟨it,is⟩,⟨rt,rs⟩,tx,⟨a5,G.length,c5⟩,st⟩,D,G⟩],KW8,by rw [List.length_append];exact ho8,by rw [EQ.out,List.map_append,List.map_append,HKEY.out];rfl,fun e he=>by
      rcases List.mem_append.1 he with h|h
      ·exact OLD e h
      ·rw [List.mem_singleton.1 h];exact NEW⟩
     clear hown ul NEW OLD KW8 ho8 hg8
     go_roundw
     case rel =>
      obtain⟨l2,f1,f2,f3,f4⟩:=FIN.out
      exact⟨n+1,l2,by go_num,by omega,f1,f2,f3,f4⟩
     case measure=>simp [intOf];omega
end Go.Proofs.YtjohljmpcblpjaaGreatDoor.Pa
namespace Go.Proofs.YtjohljmpcblpjaaGreatDoor.Pa
open Go.RowKit Go.Proofs.YtjohljmpcblpjaaGreatDoor.St Go.Proofs.YtjohljmpcblpjaaGreatDoor
attribute [local go_sem] Oper.semAt_some
def TwE (b0:Nat) (w:World) (e:Ent):Prop:=∃gd cd gg cg,e.v.deps=⟨some ⟨gd,0,none⟩,e.D.length,cd⟩∧OwnAt dotE w 29 gd cd (e.D++[⟨77,77⟩])∧e.v.gone=⟨some ⟨gg,0,none⟩,e.G.length,cg⟩∧OwnAt runE w 89 gg cg (e.G++[⟨⟨0,0⟩,77⟩])∧b0≤gd∧b0≤gg
def TwA (e:Ent) (u:Value):Prop:=∀b,(e.v.deps.v.ownBlock=some b∨e.v.gone.v.ownBlock=some b)→u.ownBlock≠some b
theorem TwE.lt {b0:Nat}{w:World}{e:Ent}(h:TwE b0 w e){b:Nat}(hb:e.v.deps.v.ownBlock=some b∨e.v.gone.v.ownBlock=some b):b0≤b∧b<w.heap.size:=by
 obtain⟨gd,cd,gg,cg,h1,h2,h3,h4,h5,h6⟩:=h
 rw [h1,h3] at hb
 rcases hb with hb|hb
 ·have hb:some gd=some b:=hb
  cases hb
  exact⟨h5,h2.lt⟩
 ·have hb:some gg=some b:=hb
  cases hb
  exact⟨h6,h4.lt⟩
theorem TwE.keep {b0:Nat}{w w':World}{e:Ent}{S:Nat→Prop}(h:TwE b0 w e) (hk:Kept S w w') (hs:∀b,(e.v.deps.v.ownBlock=some b∨e.v.gone.v.ownBlock=some b)→¬S b):TwE b0 w' e:=by
 obtain⟨gd,cd,gg,cg,h1,h2,h3,h4,h5,h6⟩:=h
 exact⟨gd,cd,gg,cg,h1,h2.keep hk (hs gd (.inl (by rw [h1];rfl))),h3,h4.keep hk (hs gg (.inr (by rw [h3];rfl))),h5,h6⟩
theorem TwE.at_ {b0:Nat}{w:World}{e:Ent}(h:TwE b0 w e):e.At w:=by
 obtain⟨gd,cd,gg,cg,h1,h2,h3,h4,_,_⟩:=h
 have e1:(e.D++[(⟨77,77⟩:Dot)]).take e.D.length=e.D:=by simp
 have e2:(e.G++[(⟨⟨0,0⟩,77⟩:Run)]).take e.G.length=e.G:=by simp
 have q1:=(h2.take e.D.length).slAt
 have q2:=(h4.take e.G.length).slAt
 rw [e1] at q1
 rw [e2] at q2
 exact⟨by rw [h1];exact q1,by rw [h3];exact q2⟩
theorem tw_grown {b0:Nat}{w w':World}{e:Ent}{u v:Value}(h:TwE b0 w e) (ha:TwA e u) (hg:Grow1 w w' u v):TwE b0 w' e∧TwA e v:=by
 refine⟨h.keep (grow1_kept hg) fun b hb e=>ha b hb e,fun b hb=>?_⟩
 rcases hg with ⟨h1,_⟩|⟨h1,_⟩
 ·rw [h1];exact ha b hb
 ·rw [h1]
  intro h4
  have h5:w.heap.size=b:=Option.some.inj h4
  have h6:=(h.lt hb).2
  omega
def markE:Ent:=⟨⟨⟨0,0⟩,⟨none,0,0⟩,77,⟨0,0⟩,⟨0,0⟩,⟨#[]⟩,⟨none,0,0⟩,0⟩,[],[]⟩
def TwinL (b0:Nat) (w:World) (u:Value) (l l':List Ent):Prop:=∃g cap,u=.slice (some ⟨g,0,none⟩) l.length cap∧OwnAt entE w 62 g cap (l'++[markE])∧b0≤g∧l'.map keyE=l.map keyE∧∀e∈l',TwE b0 w e∧TwA e u
theorem lit_run77 (w:World) (c:Int):SlAt runE (w.alloc (.cells #[.int .i64 0,.int .i64 0,.int .i64 c] 89)) (.slice (some ⟨w.heap.size,0,none⟩) 1 1) [(⟨⟨0,0⟩,c⟩:Run)] :=
 SlAt.lit (E:=runE) [⟨⟨0,0⟩,c⟩] _ rfl (by show 1≤maxLen;decide)
theorem twin_any {w:World}{lv:Value}{l:List Ent}(hl:SlAt entE w lv l) (hat:∀e∈l,e.At w) (hlen:l.length≤1000) (hdl:∀e∈l,e.D.length≤1000000∧e.G.length≤1000000) :
  Calls Tryz.prog 11 #[lv] w fun e w'=>(∃u l',e=.returned u∧TwinL w.heap.size w' u l l')∧Kept (fun _=>False) w w':=by
 obtain⟨la,lc,rfl,_,_⟩:=hl.sl
 have HL:=Lib.hid hl
 have HAT:=Lib.hid hat
 have HDL:=Lib.hid hdl
 clear hl hat hdl
 go_enter Tryz.func11,Tryz.ntmps11
 go_wp2_with fail
 go_loopw [3,4] (fun uv iv wr=>∃(n:Nat) (l':List Ent),iv=.int .i64 n∧n≤l.length∧Kept (fun _=>False) w wr∧wr.ownsRow w.heap.size 62 11 uv l'.length (entE.flat l')∧l'.map keyE=(l.take n).map keyE∧∀e∈l',TwE w.heap.size wr e∧TwA e uv) (fun _ iv _=>l.length-(intOf iv).toNat)
 case atStart=>exact⟨0,[],rfl,Nat.zero_le _,Kept.refl _ _,World.ownsRow_nil ..,rfl,fun e he=>by simp at he⟩
 case round =>
  obtain⟨n,l',rfl,hn,hk,ho,hkey,ht⟩:=hrel
  have hn0:(0:Int)≤n:=by omega
  have hll:l'.length=n:=by
   have h1:=congrArg List.length hkey
   rw [List.length_map,List.length_map,List.length_take] at h1
   omega
  obtain⟨oa,oc,rfl⟩:=owns_sl ho
  have K1:=Lib.hid hk
  have OU:=Lib.hid ho
  have HKEY:=Lib.hid hkey
  have HT:=Lib.hid ht
  clear hk ho hkey ht
  by_cases hlt:n<l.length
  case neg =>
   have hnl:¬(n:Int)<l.length:=by omega
   have HK9:Hid (l'.map keyE=l.map keyE):=Lib.hid (by have h9:=HKEY.out;rwa [List.take_of_length_le (by omega)] at h9)
   have hnn:n=l.length:=by omega
   have LN:Hid (l'.length=l.length):=Lib.hid (by omega)
   have ML:Hid (l'.length≤1000000):=Lib.hid (by omega)
   have k7:Kept (fun _=>False) wr (wr.alloc (.cells #[.int .i64 0,.int .i64 0,.slice none 0 0,.int .i64 77,.int .i64 0,.int .i64 0,.int .i64 0,.int .i64 0,.string ⟨#[]⟩,.slice none 0 0,.int .i64 0] 62)):=(Kept.refl _ _).alloc _
   have LIT:Hid (SlAt entE (wr.alloc (.cells #[.int .i64 0,.int .i64 0,.slice none 0 0,.int .i64 77,.int .i64 0,.int .i64 0,.int .i64 0,.int .i64 0,.string ⟨#[]⟩,.slice none 0 0,.int .i64 0] 62)) (.slice (some ⟨wr.heap.size,0,none⟩) 1 1) [markE]):=Lib.hid (SlAt.lit ([markE]:List Ent) _ rfl (by show 1≤maxLen;decide))
   have OX:=Lib.hid (owns_keep OU.out k7 fun _ _ h=>h)
   have KX:=Lib.hid (K1.out.trans k7 fun _ _ h=>h)
   have HT7:Hid (∀e∈l',TwE w.heap.size (wr.alloc (.cells #[.int .i64 0,.int .i64 0,.slice none 0 0,.int .i64 77,.int .i64 0,.int .i64 0,.int .i64 0,.int .i64 0,.string ⟨#[]⟩,.slice none 0 0,.int .i64 0] 62)) e∧TwA e (.slice oa l'.length oc)):=Lib.hid fun e he=>⟨(HT.out e he).1.keep k7 fun _ _ h=>h,(HT.out e he).2⟩
   clear k7 hnl hll
   go_upto_region 16 with (at_builtin;refine wpList_append_keeps entE rfl (.tmp 50) (.tmp 52) 22 rfl w.heap.size 62 _ 128 Tryz.underlying22 info_op rfl (by decide) rfl rfl OX.out LIT.out ML.out KX.out.size ?_;intro v8 w8 ho8 hg8)
   have K8:=KX.out.over (grow1_kept hg8) fun b hb=>owns_new OX.out b hb
   have T8:∀e∈l',TwE w.heap.size w8 e∧TwA e v8:=fun e he=>tw_grown (HT7.out e he).1 (HT7.out e he).2 hg8
   have ho9:w8.ownsRow w.heap.size 62 entE.k v8 (l'++[markE]).length (entE.flat (l'++[markE])):=by rw [List.length_append];exact ho8
   obtain⟨_,⟨_,hno⟩ | ⟨g,cap,hv,hbg,hO⟩⟩:=own_of (E:=entE) ho9
   ·simp at hno
   have hm:(l'++[markE]).length=l.length+1:=by rw [List.length_append,LN.out];rfl
   rw [hm] at hv
   subst hv
   have hc1:l.length+1≤cap:=by have h1:=hO.le.1;rw [hm] at h1;exact h1
   have hcI:(l.length:Int)≤cap:=by omega
   have FIN:Hid (TwinL w.heap.size w8 (.slice (some ⟨g,0,none⟩) l.length cap) l l'):=Lib.hid ⟨g,cap,rfl,hO,hbg,HK9.out,T8⟩
   have HK8:=Lib.hid K8
   clear K8 T8 ho9 hO hbg hm ho8 hg8 hc1
   go_wp2_with fail
   go_ret
   exact⟨⟨_,rfl,l',FIN.out⟩,HK8.out⟩
  case pos =>
   have hnl:(n:Int)<l.length:=by omega
   have ML:Hid (l'.length≤1000000):=Lib.hid (by omega)
   clear hll
   obtain⟨x,hx⟩:=get_of_lt hlt
   have htk:l.take (n+1)=l.take n++[x]:=by rw [List.take_add_one,hx];rfl
   obtain⟨lg,lo,lc',e2,hcs⟩:=SlAt.opc (HL.out.kept K1.out) (by omega)
   cases e2
   have hc:=hcs n x hx
   have XA:=Lib.hid (HAT.out x (List.mem_of_getElem? hx))
   have XD:=Lib.hid (HDL.out x (List.mem_of_getElem? hx))
   have HTK:=Lib.hid htk
   clear hcs hx htk
   obtain⟨⟨⟨ds,dq⟩,⟨da,dn,dc⟩,kd,⟨it,is⟩,⟨rt,rs⟩,tx,⟨ga,gn,gc⟩,st⟩,D,G⟩:=x
   obtain⟨rfl⟩:dn=D.length:=by obtain⟨a,c,h1,_⟩:=XA.out.deps.sl;exact (Value.slice.inj h1).2.1
   obtain⟨rfl⟩:gn=G.length:=by obtain⟨a,c,h1,_⟩:=XA.out.gone.sl;exact (Value.slice.inj h1).2.1
   obtain⟨c0,c1,c2,c3,c4,c5,c6,c7,c8,c9,c10⟩:=hc
   have e1:IntKind.i64.wrap ((n:Int)+1)=(n:Int)+1:=IntWalk.i64_in _ (by omega)
   have k5:Kept (fun _=>False) wr (wr.alloc (.cells #[.int .i64 ds,.int .i64 dq,.slice da D.length dc,.int .i64 kd,.int .i64 it,.int .i64 is,.int .i64 rt,.int .i64 rs,.string tx,.slice ga G.length gc,.int .i64 st] 62)):=(Kept.refl _ _).alloc _
   have b5:=Blk.new wr 62 #[.int .i64 ds,.int .i64 dq,.slice da D.length dc,.int .i64 kd,.int .i64 it,.int .i64 is,.int .i64 rt,.int .i64 rs,.string tx,.slice ga G.length gc,.int .i64 st]
   go_upto_region 6 with fail
   obtain⟨z,hz⟩:∃z,wr.heap.size=z:=⟨_,rfl⟩
   obtain⟨W,hW⟩:∃W,wr.alloc (.cells #[.int .i64 ds,.int .i64 dq,.slice da D.length dc,.int .i64 kd,.int .i64 it,.int .i64 is,.int .i64 rt,.int .i64 rs,.string tx,.slice ga G.length gc,.int .i64 st] 62)=W:=⟨_,rfl⟩
   rw [hW] at k5 b5 ⊢
   rw [hz] at b5 ⊢
   have K5:=Lib.hid k5
   have B5:=Lib.hid b5
   have HZ:=Lib.hid hz
   have x2:W.cell? ⟨z,2,none⟩=some (.slice da D.length dc):=b5.cell' rfl
   have x9:W.cell? ⟨z,9,none⟩=some (.slice ga G.length gc):=b5.cell' rfl
   have HD:Hid (SlAt dotE W (.slice da D.length dc) D):=Lib.hid ((XA.out.deps.kept K1.out).kept k5)
   have HG:Hid (SlAt runE W (.slice ga G.length gc) G):=Lib.hid ((XA.out.gone.kept K1.out).kept k5)
   have hDl:D.length≤1000000:=XD.out.1
   have hGl:G.length≤1000000:=XD.out.2
   clear hW hz k5 b5 c0 c1 c2 c3 c4 c5 c6 c7 c8 c9 c10
   have NW:Hid (W.ownsRow W.heap.size 29 dotE.k (.slice none 0 0) ([]:List Dot).length (dotE.flat [])):=Lib.hid (World.ownsRow_nil _ _ _ _)
   go_upto_region 8 with (at_builtin;(refine wpList_append_row dotE rfl (.tmp 18) (.tmp 20) 24 rfl W.heap.size 29 _ 16 Tryz.underlying24 info_dot rfl rfl rfl NW.out HD.out (by unfold maxLen;simp;omega) (by simp;omega) (Nat.le_refl _) ?_);(intro v1 w1 ho1 hk1;rw [List.nil_append] at ho1;have KA:Hid (Kept (fun _=>False) W w1):=Lib.hid (hk1.mono (fun b _ e=>by have e:(Value.slice none 0 0).ownBlock=some b:=e;cases e));have O1:=Lib.hid ho1;have N1:=Lib.hid (owns_new ho1);clear ho1 hk1))
   have LD:=Lib.hid (lit_dot w1 77 77)
   have O1a:=Lib.hid (show (w1.alloc (.cells #[.int .i64 77,.int .i64 77] 29)).ownsRow W.heap.size 29 dotE.k v1 D.length (dotE.flat D) from O1.out.alloc _)
   have KAa:=Lib.hid (KA.out.alloc (.cells #[.int .i64 77,.int .i64 77] 29))
   go_upto_region 9 with (at_builtin;(refine wpList_append_row dotE rfl (.tmp 22) (.tmp 24) 24 rfl W.heap.size 29 _ 16 Tryz.underlying24 info_dot rfl rfl rfl O1a.out LD.out (by unfold maxLen;simp;omega) (by simp;omega) KAa.out.size ?_);(intro v2 w2 ho2 hk2;have K2:Hid (Kept (fun _=>False) W w2):=Lib.hid (KAa.out.over hk2 N1.out);have O2:=Lib.hid ho2;clear ho2 hk2))
   have x9:=K2.out.cell x9
   have x2:=K2.out.cell x2
   have HG2:=Lib.hid (HG.out.kept K2.out)
   clear O1 O1a KA KAa N1 LD NW HG HD
   have NW:Hid (w2.ownsRow w2.heap.size 89 runE.k (.slice none 0 0) ([]:List Run).length (runE.flat [])):=Lib.hid (World.ownsRow_nil _ _ _ _)
   go_upto_region 11 with (at_builtin;(refine wpList_append_row runE rfl (.tmp 26) (.tmp 28) 60 rfl w2.heap.size 89 _ 24 Tryz.underlying60 info_run rfl rfl rfl NW.out HG2.out (by unfold maxLen;simp;omega) (by simp;omega) (Nat.le_refl _) ?_);(intro v3 w3 ho3 hk3;rw [List.nil_append] at ho3;have K3:Hid (Kept (fun _=>False) w2 w3):=Lib.hid (hk3.mono (fun b _ e=>by have e:(Value.slice none 0 0).ownBlock=some b:=e;cases e));have O3:=Lib.hid ho3;have N3:=Lib.hid (owns_new ho3);clear ho3 hk3))
   have LR:=Lib.hid (lit_run77 w3 77)
   have O3a:=Lib.hid (show (w3.alloc (.cells #[.int .i64 0,.int .i64 0,.int .i64 77] 89)).ownsRow w2.heap.size 89 runE.k v3 G.length (runE.flat G) from O3.out.alloc _)
   have K3a:=Lib.hid (K3.out.alloc (.cells #[.int .i64 0,.int .i64 0,.int .i64 77] 89))
   go_upto_region 12 with (at_builtin;(refine wpList_append_row runE rfl (.tmp 30) (.tmp 32) 60 rfl w2.heap.size 89 _ 24 Tryz.underlying60 info_run rfl rfl rfl O3a.out LR.out (by unfold maxLen;simp;omega) (by simp;omega) K3a.out.size ?_);(intro v4 w4 ho4 hk4;have K4:Hid (Kept (fun _=>False) w2 w4):=Lib.hid (K3a.out.over hk4 N3.out);have O4:=Lib.hid ho4;clear ho4 hk4))
   have x9:=K4.out.cell x9
   have x2:=K4.out.cell x2
   obtain⟨hl0,⟨_,hno⟩ | ⟨gd,cd,hv,hzd,hOd⟩⟩:=own_of (E:=dotE) O2.out
   ·simp at hno
   have hm:(D++[(⟨77,77⟩:Dot)]).length=D.length+1:=by simp
   rw [hm] at hv
   subst hv
   clear hl0
   obtain⟨hl0,⟨_,hno⟩ | ⟨gz,cz,hv,hzz,hOz⟩⟩:=own_of (E:=runE) O4.out
   ·simp at hno
   have hm2:(G++[(⟨⟨0,0⟩,77⟩:Run)]).length=G.length+1:=by simp
   rw [hm2] at hv
   subst hv
   have K24:=Lib.hid (K2.out.trans K4.out (fun _ _ h=>h))
   have B4:=Lib.hid (K24.out.blk (fun h=>h) B5.out)
   have OD:=Lib.hid (hOd.keep K4.out (fun h=>h))
   have OZ:=Lib.hid hOz
   have KWW:=Lib.hid (K5.out.trans K24.out (fun _ _ h=>h))
   have f2:=B4.out.frozen 2
   have f9:=B4.out.frozen 9
   have hd1:D.length≤cd:=by have:=hOd.le.1;rw [hm] at this;omega
   have hz1:G.length≤cz:=by have:=hOz.le.1;rw [hm2] at this;omega
   have hdI:(D.length:Int)≤cd:=by omega
   have hzI:(G.length:Int)≤cz:=by omega
   have FAR:Hid (z<gd∧z<gz∧w.heap.size≤z):=Lib.hid (by have h1:=B5.out.lt;have h2:=K2.out.size;have h3:=K1.out.size;have h4:=HZ.out;omega)
   have k6:Kept (fun b=>b=z) w4 ((w4.setCell ⟨z,2,none⟩ (.slice (some ⟨gd,0,none⟩) D.length cd)).setCell ⟨z,9,none⟩ (.slice (some ⟨gz,0,none⟩) G.length cz)):=((Kept.refl (fun b=>b=z) w4).setCell (p:=⟨z,2,none⟩) (fun _=>rfl) _).setCell (p:=⟨z,9,none⟩) (fun _=>rfl) _
   have B6:Hid (Blk ((w4.setCell ⟨z,2,none⟩ (.slice (some ⟨gd,0,none⟩) D.length cd)).setCell ⟨z,9,none⟩ (.slice (some ⟨gz,0,none⟩) G.length cz)) z 62 #[.int .i64 ds,.int .i64 dq,.slice (some ⟨gd,0,none⟩) D.length cd,.int .i64 kd,.int .i64 it,.int .i64 is,.int .i64 rt,.int .i64 rs,.string tx,.slice (some ⟨gz,0,none⟩) G.length cz,.int .i64 st]):=Lib.hid ((B4.out.set_ 2 (.slice (some ⟨gd,0,none⟩) D.length cd)).set_ 9 (.slice (some ⟨gz,0,none⟩) G.length cz))
   have OD6:=Lib.hid (OD.out.keep k6 (fun h=>by have h:gd=z:=h;have:=FAR.out;omega))
   have OZ6:=Lib.hid (OZ.out.keep k6 (fun h=>by have h:gz=z:=h;have:=FAR.out;omega))
   have K6:=Lib.hid (KWW.out.over k6 (fun b h=>by have h:b=z:=h;have:=HZ.out;omega))
   clear hOd hOz hzd hzz hm hm2 hl0 k6 O2 O4 K2 K4 B4 OD OZ K3 K3a O3 O3a LR NW HG2
   go_upto_region 14 with fail
   clear x2 x9 f2 f9
   obtain⟨W6,hW6⟩:∃W6,((w4.setCell ⟨z,2,none⟩ (.slice (some ⟨gd,0,none⟩) D.length cd)).setCell ⟨z,9,none⟩ (.slice (some ⟨gz,0,none⟩) G.length cz))=W6:=⟨_,rfl⟩
   rw [hW6] at B6 OD6 OZ6 K6 ⊢
   have k7:Kept (fun _=>False) W6 (W6.alloc (.cells #[.int .i64 ds,.int .i64 dq,.slice (some ⟨gd,0,none⟩) D.length cd,.int .i64 kd,.int .i64 it,.int .i64 is,.int .i64 rt,.int .i64 rs,.string tx,.slice (some ⟨gz,0,none⟩) G.length cz,.int .i64 st] 62)):=(Kept.refl _ _).alloc _
   have LIT:Hid (SlAt entE (W6.alloc (.cells #[.int .i64 ds,.int .i64 dq,.slice (some ⟨gd,0,none⟩) D.length cd,.int .i64 kd,.int .i64 it,.int .i64 is,.int .i64 rt,.int .i64 rs,.string tx,.slice (some ⟨gz,0,none⟩) G.length cz,.int .i64 st] 62)) (.slice (some ⟨W6.heap.size,0,none⟩) 1 1) [⟨⟨⟨ds,dq⟩,⟨some ⟨gd,0,none⟩,D.length,cd⟩,kd,⟨it,is⟩,⟨rt,rs⟩,tx,⟨some ⟨gz,0,none⟩,G.length,cz⟩,st⟩,D,G⟩]):=Lib.hid (SlAt.lit ([⟨⟨⟨ds,dq⟩,⟨some ⟨gd,0,none⟩,D.length,cd⟩,kd,⟨it,is⟩,⟨rt,rs⟩,tx,⟨some ⟨gz,0,none⟩,G.length,cz⟩,st⟩,D,G⟩]:List Ent) _ rfl (by show 1≤maxLen;decide))
   have KRX:=Lib.hid (K6.out.trans k7 fun _ _ h=>h)
   have KX:=Lib.hid (K1.out.trans KRX.out fun _ _ h=>h)
   have OX:=Lib.hid (owns_keep OU.out KRX.out fun _ _ h=>h)
   have NE:Hid (TwE w.heap.size (W6.alloc (.cells #[.int .i64 ds,.int .i64 dq,.slice (some ⟨gd,0,none⟩) D.length cd,.int .i64 kd,.int .i64 it,.int .i64 is,.int .i64 rt,.int .i64 rs,.string tx,.slice (some ⟨gz,0,none⟩) G.length cz,.int .i64 st] 62)) ⟨⟨⟨ds,dq⟩,⟨some ⟨gd,0,none⟩,D.length,cd⟩,kd,⟨it,is⟩,⟨rt,rs⟩,tx,⟨some ⟨gz,0,none⟩,G.length,cz⟩,st⟩,D,G⟩):=Lib.hid ⟨gd,cd,gz,cz,rfl,OD6.out.keep k7 fun h=>h,rfl,OZ6.out.keep k7 fun h=>h,by have:=FAR.out;omega,by have:=FAR.out;omega⟩
   clear hW6 k7
   go_wp2_with (first
    | (refine wpList_load_row rfl 62 _ rfl z rfl 62 _ (0,0) _ B6.out Tryz.underlying62 rfl size_op ?_)
    | (at_builtin;refine wpList_append_keeps entE rfl (.tmp 46) (.tmp 48) 22 rfl w.heap.size 62 _ 128 Tryz.underlying22 info_op rfl (by decide) rfl rfl OX.out LIT.out ML.out KX.out.size ?_;intro v8 w8 ho8 hg8))
   have ul:∀b,(Value.slice oa l'.length oc).ownBlock=some b→b<z:=fun b hb=>by have h1:=(Tr.owns_lt OU.out b hb).2;have:=HZ.out;omega
   have NEW:=tw_grown NE.out (fun b hb h9=>by
    have h2:=ul b h9
    have h3:=FAR.out
    rcases hb with hb|hb
    ·have hb:some gd=some b:=hb
     cases hb
     omega
    ·have hb:some gz=some b:=hb
     cases hb
     omega) hg8
   have OLD:∀e∈l',TwE w.heap.size w8 e∧TwA e v8:=fun e he=>tw_grown ((HT.out e he).1.keep KRX.out fun _ _ h=>h) (HT.out e he).2 hg8
   have KW8:=KX.out.over (grow1_kept hg8) fun b hb=>owns_new OX.out b hb
   have FIN:Hid (∃l2:List Ent,Kept (fun _=>False) w w8∧w8.ownsRow w.heap.size 62 11 v8 l2.length (entE.flat l2)∧l2.map keyE=(l.take (n+1)).map keyE∧∀e∈l2,TwE w.heap.size w8 e∧TwA e v8):=Lib.hid ⟨l'++[⟨⟨⟨ds,dq⟩,⟨some ⟨gd,0,none⟩,D.length,cd⟩,kd,⟨it,is⟩,⟨rt,rs⟩,tx,⟨some ⟨gz,0,none⟩,G.length,cz⟩,st⟩,D,G⟩],KW8,by rw [List.length_append];exact ho8,by rw [HTK.out,List.map_append,List.map_append,HKEY.out];rfl,fun e he=>by
    rcases List.mem_append.1 he with h|h
    ·exact OLD e h
    ·rw [List.mem_singleton.1 h];exact NEW⟩
   clear ul NEW OLD KW8 ho8 hg8
   go_roundw
   case rel =>
    obtain⟨l2,f1,f2,f3,f4⟩:=FIN.out
    exact⟨n+1,l2,by go_num,by omega,f1,f2,f3,f4⟩
   case measure=>simp [intOf];omega
end Go.Proofs.YtjohljmpcblpjaaGreatDoor.Pa
