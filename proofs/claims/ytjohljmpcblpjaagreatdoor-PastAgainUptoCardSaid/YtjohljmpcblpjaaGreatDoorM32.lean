/- hearsayref24.Row: the document's row of a closed set. -/
import Derived.Test.YtjohljmpcblpjaaGreatDoorM31
set_option maxRecDepth 100000
set_option maxHeartbeats 8000000
namespace Go.Proofs.YtjohljmpcblpjaaGreatDoor.Pa
open Go.RowKit Go.Proofs.YtjohljmpcblpjaaGreatDoor.St Go.Proofs.YtjohljmpcblpjaaGreatDoor Go.Proofs.YtjohljmpcblpjaaGreatDoor.Tr
attribute [local go_sem] Oper.semAt_some
def boolE:Enc Bool:=⟨1,fun b=>[.bool b],fun _=>rfl,by decide,fun b u hu=>by rw [List.mem_singleton.1 hu];rfl⟩
def lenV:Value→Nat
 | .slice _ n _=>n
 | _=>0
theorem made_bool (w:World) (t:TypeId) (n:Nat) (hn:n≤maxLen):OwnAt boolE (w.alloc (.cells (madeCells #[.bool false] n) t)) t w.heap.size n (List.replicate n false):=by
 refine⟨_,Blk.new w t _,by rw [size_madeCells];exact (Nat.mul_one n).symm,by simp,hn,fun i x hx j u hu=>?_⟩
 have hi:=(List.getElem?_eq_some_iff.1 hx).1
 rw [List.length_replicate] at hi
 rw [List.getElem?_replicate,if_pos hi] at hx
 cases hx
 have hj:j=0:=by have h9:=(List.getElem?_eq_some_iff.1 hu).1;have h8:(boolE.enc false).length=1:=rfl;omega
 subst hj
 have hu2:u=.bool false:=by have h9:(some (Value.bool false))=some u:=hu;exact (Option.some.inj h9).symm
 subst hu2
 show (madeCells #[Value.bool false] n)[i * 1+0]?=_
 unfold madeCells
 simp [hi,Nat.mod_one]
theorem info_bool:(Tryz.prog.info? 4).map (fun i=>(i.zero,i.size,i.bytes))=some (some (.bool false),1,1):=by kernel_rfl
theorem run_mkbool (w:World) (n:Nat) (hn:n≤1000):(Instr.makeSlice 209 (.int .i64 (n:Int)) (.int .i64 (n:Int))).run Tryz.prog w=.ok (.slice (some ⟨w.heap.size,0,none⟩) n n) (w.alloc (.cells (madeCells #[.bool false] n) 4)):=by
 obtain⟨i,hi,hz,hs,hb⟩:=info_parts info_bool
 have hb9:((i.bytes:Nat):Int)=1:=by rw [hb];rfl
 have h:=run_make (P:=Tryz.prog) w 209 4 i (.bool false) Tryz.underlying209 hi hz .i64 .i64 (n:Int) (n:Int) (by omega) (Int.le_refl _) (by rw [hb9];omega) (by omega)
 rw [hs,Nat.mul_one] at h
 simp only [Int.toNat_natCast] at h
 exact h
theorem rrow_any {w:World}{lv:Value}{l:List Ent}(hl:SlAt entE w lv l) (hd:∀e∈l,SlAt dotE w e.v.deps.v e.D) (hcl:ClosedP dotOf depOf l) (hlen:l.length≤1000) (hdl:∀e∈l,e.D.length≤1000000) :
  Calls Tryz.prog 96 #[lv] w fun e w'=>(∃u,e=.returned u∧w'.ownsRow w.heap.size 62 11 u (rowL l).length (entE.flat (rowL l)))∧Kept (fun _=>False) w w':=by
 obtain⟨la,lc,rfl,_,_⟩:=hl.sl
 have HL:=Lib.hid hl
 have HD:=Lib.hid hd
 have HC:=Lib.hid hcl
 clear hl hd hcl
 go_enter Tryz.func96,Tryz.ntmps96
 have hmk:=run_mkbool w l.length hlen
 have MB:=Lib.hid (made_bool w 4 l.length (by unfold maxLen;omega))
 have kb:Kept (fun _=>False) w (w.alloc (.cells (madeCells #[.bool false] l.length) 4)):=(Kept.refl _ _).alloc _
 have KB:=Lib.hid kb
 clear kb
 go_upto_region 2 with fail
 clear hmk
 obtain⟨wb,hwb⟩:∃wb,w.alloc (.cells (madeCells #[.bool false] l.length) 4)=wb:=⟨_,rfl⟩
 obtain⟨gb,hgb⟩:∃gb,w.heap.size=gb:=⟨_,rfl⟩
 rw [hwb] at MB KB ⊢
 have GB:=Lib.hid hgb
 rw [hgb] at MB ⊢
 clear hwb hgb
 go_wp2_with fail
 go_loopw [4,5] (fun vv ov wr=>∃(R:List Ent) (V:List Dot) (g:List Bool),SlAt dotE wr vv V∧V.length≤17∧(∀b,vv.ownBlock=some b→b≠gb∧ov.ownBlock≠some b)∧wr.ownsRow (gb+1) 62 11 ov R.length (entE.flat R)∧R.length≤l.length∧OutR l R V g∧OwnAt boolE wr 4 gb l.length g∧Kept (fun _=>False) w wr) (fun _ ov _=>l.length-lenV ov)
 case atStart=>exact⟨[],[],List.replicate l.length false,.inl ⟨rfl,rfl⟩,Nat.zero_le _,(fun b h=>by cases h),World.ownsRow_nil ..,Nat.zero_le _,OutR.start HC.out,MB.out,KB.out⟩
 case round =>
  obtain⟨R,V,g,hv,hvl,hap,ho,hRl,hR,hg,hk⟩:=hrel
  obtain⟨oa,oc,rfl⟩:=owns_sl ho
  obtain⟨va,vc,rfl,_,_⟩:=hv.sl
  have HV:=Lib.hid hv
  have HAP:=Lib.hid hap
  have HO:=Lib.hid ho
  have HR:=Lib.hid hR
  have HG:=Lib.hid hg
  have HK:=Lib.hid hk
  clear hv hap ho hR hg hk
  by_cases hfull:(R.length:Int)<l.length
  case neg =>
   have FIN:Hid (wr.ownsRow w.heap.size 62 11 (.slice oa R.length oc) (rowL l).length (entE.flat (rowL l))):=Lib.hid (by rw [HR.out.full HC.out (by omega)];exact Tr.owns_base9 HO.out (by have:=GB.out;omega))
   go_wp2_with fail
   go_ret
   exact⟨⟨_,rfl,FIN.out⟩,HK.out⟩
  case pos =>
   obtain⟨wo,rfl⟩:∃wo,wo=wr:=⟨_,rfl⟩
   go_wp2_with fail
   go_loopw [6,7] (fun kv iv wi=>∃(i:Nat) (k:Int),kv=.int .i64 k∧iv=.int .i64 i∧i≤l.length∧InnR l V g i k∧Kept (fun _=>False) wo wi) (fun _ iv _=>l.length-(intOf iv).toNat)
   case atStart=>exact⟨0,-1,rfl,rfl,Nat.zero_le _,InnR.start,Kept.refl _ _⟩
   case round =>
    obtain⟨i,k,rfl,rfl,hi,hinn,hki⟩:=hrel
    have INN:=Lib.hid hinn
    have KI:=Lib.hid hki
    have hi0:(0:Int)≤i:=by omega
    clear hinn hki
    by_cases hlt:i<l.length
    case pos =>
     have hltI:(i:Int)<l.length:=by omega
     obtain⟨e,he⟩:=get_of_lt hlt
     obtain⟨lg,lo,lc',e2,hcs⟩:=SlAt.opc (HL.out.kept (HK.out.trans KI.out fun _ _ h=>h)) (by omega)
     cases e2
     have hce:∀W,Kept (fun _=>False) wr W→∀(n:Nat) (x:Ent),l[n]?=some x→W.cell? ⟨lg,lo+n * 11,none⟩=some (.int .i64 x.v.dot.site)∧W.cell? ⟨lg,lo+n * 11+1,none⟩=some (.int .i64 x.v.dot.seq)∧W.cell? ⟨lg,lo+n * 11+2,none⟩=some (.slice x.v.deps.a x.v.deps.n x.v.deps.c):=fun W hk n x hx=>by
      have h9:=hcs n x hx
      exact⟨hk.cell h9.1,hk.cell h9.2.1,hk.cell h9.2.2.1⟩
     have hdp:=HD.out e (List.mem_of_getElem? he)
     have hdn:=hdl e (List.mem_of_getElem? he)
     have CV:Hid (∀W,Kept (fun _=>False) wr W→Calls Tryz.prog 66 #[.slice va V.length vc,e.v.deps.v] W fun r W'=>r=.returned (.bool (decide (coversV V e.D)))∧Kept (fun _=>False) wr W'):=Lib.hid fun W hk=>(rcovers_any (HV.out.kept (KI.out.trans hk fun _ _ h=>h)) (hdp.kept ((HK.out.trans KI.out fun _ _ h=>h).trans hk fun _ _ h=>h)) (by omega) (by omega)).mono fun r W' ⟨h1,h2⟩=>⟨h1,hk.trans h2 fun _ _ h=>h⟩
     obtain⟨b,hb⟩:∃b,g[i]?=some b:=⟨_,List.getElem?_eq_getElem (by rw [HR.out.len];exact hlt)⟩
     have hgc:∀W,Kept (fun _=>False) wr W→W.cell? ⟨gb,i,none⟩=some (.bool b):=fun W hk=>by
      have h9:=(HG.out.keep (KI.out.trans hk fun _ _ h=>h) (fun h=>h)).cell hb (j:=0) (u:=.bool b) rfl
      rw [show boolE.k=1 from rfl,Nat.mul_one,Nat.add_zero] at h9
      exact h9
     have KD:=Lib.hid (Kept.refl (fun _=>False) wr).drew
     have ei:IntKind.i64.wrap ((i:Int)+1)=(i:Int)+1:=IntWalk.i64_in _ (by omega)
     have HE:=Lib.hid he
     have HB:=Lib.hid hb
     have hdv:e.v.deps.v=.slice e.v.deps.a e.v.deps.n e.v.deps.c:=rfl
     rw [hdv] at CV
     clear hcs hdp hdn hdv
     have HGC:=Lib.hid hgc
     have HCE:=Lib.hid hce
     clear hce hgc he hb
     cases b with
     | true =>
      have NO:Hid (InnR l V g (i+1) k):=Lib.hid (INN.out.skip fun x hx=>by have h9:=hx.2.1;rw [HB.out] at h9;simp at h9)
      clear CV HCE
      go_upto_region 9 with fail
      refine wp_region_held_drew (S:=fun W=>Kept (fun _=>False) wr W) (by kernel_rfl) KD.out (fun hHeld=>?_)
      refine tV 0 22 ?_
      try simp only [Act.put,zq1,zq2,zq3]
      refine tV 1 23 ?_
      try simp only [Act.put,zq1,zq2,zq3]
      refine tV 2 24 ?_
      try simp only [Act.put,zq1,zq2,zq3]
      refine tV 3 25 ?_ (hy:=by intro w hSw;have h9:=HGC.out w hSw;clear hSw;go_simp;first | done | with_reducible rfl)
      try simp only [Act.put,zq1,zq2,zq3]
      refine tV 4 26 ?_
      try simp only [Act.put,zq1,zq2,zq3]
      refine tV 5 27 ?_
      try simp only [Act.put,zq1,zq2,zq3]
      refine tU 6 28 ?_
      try simp only [Act.put,zq1,zq2,zq3]
      refine tU 7 29 ?_
      try simp only [Act.put,zq1,zq2,zq3]
      refine tU 8 30 ?_
      try simp only [Act.put,zq1,zq2,zq3]
      refine tU 9 31 ?_
      try simp only [Act.put,zq1,zq2,zq3]
      refine tU 10 32 ?_
      try simp only [Act.put,zq1,zq2,zq3]
      refine tU 11 33 ?_
      try simp only [Act.put,zq1,zq2,zq3]
      refine tU 12 34 ?_
      try simp only [Act.put,zq1,zq2,zq3]
      refine tV 13 35 ?_
      try simp only [Act.put,zq1,zq2,zq3]
      refine tV 14 36 ?_
      try simp only [Act.put,zq1,zq2,zq3]
      refine tU 15 37 ?_
      try simp only [Act.put,zq1,zq2,zq3]
      refine tU 16 38 ?_
      try simp only [Act.put,zq1,zq2,zq3]
      refine tU 17 39 ?_
      try simp only [Act.put,zq1,zq2,zq3]
      refine tU 18 40 ?_
      try simp only [Act.put,zq1,zq2,zq3]
      refine tU 19 41 ?_
      try simp only [Act.put,zq1,zq2,zq3]
      refine tU 20 42 ?_
      try simp only [Act.put,zq1,zq2,zq3]
      refine tU 21 43 ?_
      try simp only [Act.put,zq1,zq2,zq3]
      refine tU 22 44 ?_
      try simp only [Act.put,zq1,zq2,zq3]
      refine tU 23 45 ?_
      try simp only [Act.put,zq1,zq2,zq3]
      refine tU 24 46 ?_
      try simp only [Act.put,zq1,zq2,zq3]
      refine tU 25 47 ?_
      try simp only [Act.put,zq1,zq2,zq3]
      refine tU 26 48 ?_
      try simp only [Act.put,zq1,zq2,zq3]
      refine tU 27 49 ?_
      try simp only [Act.put,zq1,zq2,zq3]
      refine tU 28 50 ?_
      try simp only [Act.put,zq1,zq2,zq3]
      refine tU 29 51 ?_
      try simp only [Act.put,zq1,zq2,zq3]
      refine tV 30 52 ?_
      try simp only [Act.put,zq1,zq2,zq3]
      refine wpAnyH_done (by kernel_rfl) ?_ _
      go_wp2_with fail
      go_roundw
      case rel=>exact⟨i+1,k,rfl,by go_num,by omega,NO.out,KI.out.trans hHeld fun _ _ h=>h⟩
      case measure=>simp [intOf];omega
     | false =>
      by_cases hcov:coversV V e.D
      case neg =>
       rw [decide_eq_false hcov] at CV
       have NO:Hid (InnR l V g (i+1) k):=Lib.hid (INN.out.skip fun x hx=>by
        have h9:=hx.1
        rw [HE.out] at h9
        cases h9
        exact hcov hx.2.2)
       clear hcov
       go_upto_region 9 with fail
       refine wp_region_held_drew (S:=fun W=>Kept (fun _=>False) wr W) (by kernel_rfl) KD.out (fun hHeld=>?_)
       refine tV 0 22 ?_
       try simp only [Act.put,zq1,zq2,zq3]
       refine tV 1 23 ?_
       try simp only [Act.put,zq1,zq2,zq3]
       refine tV 2 24 ?_
       try simp only [Act.put,zq1,zq2,zq3]
       refine tV 3 25 ?_ (hy:=by intro w hSw;have h9:=HGC.out w hSw;clear hSw;go_simp;first | done | with_reducible rfl)
       try simp only [Act.put,zq1,zq2,zq3]
       refine tV 4 26 ?_
       try simp only [Act.put,zq1,zq2,zq3]
       refine tV 5 27 ?_
       try simp only [Act.put,zq1,zq2,zq3]
       refine tV 6 28 ?_
       try simp only [Act.put,zq1,zq2,zq3]
       refine tV 7 29 ?_
       try simp only [Act.put,zq1,zq2,zq3]
       refine tV 8 30 ?_
       try simp only [Act.put,zq1,zq2,zq3]
       refine tV 9 31 ?_
       try simp only [Act.put,zq1,zq2,zq3]
       refine tV 10 32 ?_
       try simp only [Act.put,zq1,zq2,zq3]
       refine tV 11 33 ?_ (hy:=by intro w hSw;have h9:=HCE.out w hSw i e HE.out;obtain⟨_,_,h8⟩:=h9;clear hSw;go_simp;first | done | with_reducible rfl)
       try simp only [Act.put,zq1,zq2,zq3]
       refine wpAnyH_one (i:=12) (by kernel_rfl) ?_
       refine StepH.call (d:=(some 34)) (f:=?_) (args:=?_) (w':=?_) rfl rfl (by rfl) ?_ ?_
       rotate_left 3
       focus (go_simp;first | done | with_reducible rfl | ((repeat' apply And.intro) <;> with_reducible rfl))
       refine Calls.mono (CV.out _ hHeld) ?_
       rintro e1 Wc ⟨rfl,KC⟩
       refine⟨_,rfl,?_,fun hHeld=>?_⟩
       focus (exact KC)
       try simp only [Act.put,zq1,zq2,zq3]
       refine tV 13 35 ?_
       try simp only [Act.put,zq1,zq2,zq3]
       refine tV 14 36 ?_
       try simp only [Act.put,zq1,zq2,zq3]
       refine tU 15 37 ?_
       try simp only [Act.put,zq1,zq2,zq3]
       refine tU 16 38 ?_
       try simp only [Act.put,zq1,zq2,zq3]
       refine tU 17 39 ?_
       try simp only [Act.put,zq1,zq2,zq3]
       refine tU 18 40 ?_
       try simp only [Act.put,zq1,zq2,zq3]
       refine tU 19 41 ?_
       try simp only [Act.put,zq1,zq2,zq3]
       refine tU 20 42 ?_
       try simp only [Act.put,zq1,zq2,zq3]
       refine tU 21 43 ?_
       try simp only [Act.put,zq1,zq2,zq3]
       refine tU 22 44 ?_
       try simp only [Act.put,zq1,zq2,zq3]
       refine tU 23 45 ?_
       try simp only [Act.put,zq1,zq2,zq3]
       refine tU 24 46 ?_
       try simp only [Act.put,zq1,zq2,zq3]
       refine tU 25 47 ?_
       try simp only [Act.put,zq1,zq2,zq3]
       refine tU 26 48 ?_
       try simp only [Act.put,zq1,zq2,zq3]
       refine tU 27 49 ?_
       try simp only [Act.put,zq1,zq2,zq3]
       refine tU 28 50 ?_
       try simp only [Act.put,zq1,zq2,zq3]
       refine tU 29 51 ?_
       try simp only [Act.put,zq1,zq2,zq3]
       refine tV 30 52 ?_
       try simp only [Act.put,zq1,zq2,zq3]
       refine wpAnyH_done (by kernel_rfl) ?_ _
       go_wp2_with fail
       go_roundw
       case rel=>exact⟨i+1,k,rfl,by go_num,by omega,NO.out,KI.out.trans hHeld fun _ _ h=>h⟩
       case measure=>simp [intOf];omega
      case pos =>
       rw [decide_eq_true hcov] at CV
       have CAN:Hid (CandE l V g i e):=Lib.hid ⟨HE.out,HB.out,hcov⟩
       clear hcov
       by_cases hk0:k<0
       case pos =>
        have NO:Hid (InnR l V g (i+1) i):=Lib.hid (INN.out.first hk0 CAN.out)
        go_upto_region 9 with fail
        refine wp_region_held_drew (S:=fun W=>Kept (fun _=>False) wr W) (by kernel_rfl) KD.out (fun hHeld=>?_)
        refine tV 0 22 ?_
        try simp only [Act.put,zq1,zq2,zq3]
        refine tV 1 23 ?_
        try simp only [Act.put,zq1,zq2,zq3]
        refine tV 2 24 ?_
        try simp only [Act.put,zq1,zq2,zq3]
        refine tV 3 25 ?_ (hy:=by intro w hSw;have h9:=HGC.out w hSw;clear hSw;go_simp;first | done | with_reducible rfl)
        try simp only [Act.put,zq1,zq2,zq3]
        refine tV 4 26 ?_
        try simp only [Act.put,zq1,zq2,zq3]
        refine tV 5 27 ?_
        try simp only [Act.put,zq1,zq2,zq3]
        refine tV 6 28 ?_
        try simp only [Act.put,zq1,zq2,zq3]
        refine tV 7 29 ?_
        try simp only [Act.put,zq1,zq2,zq3]
        refine tV 8 30 ?_
        try simp only [Act.put,zq1,zq2,zq3]
        refine tV 9 31 ?_
        try simp only [Act.put,zq1,zq2,zq3]
        refine tV 10 32 ?_
        try simp only [Act.put,zq1,zq2,zq3]
        refine tV 11 33 ?_ (hy:=by intro w hSw;have h9:=HCE.out w hSw i e HE.out;obtain⟨_,_,h8⟩:=h9;clear hSw;go_simp;first | done | with_reducible rfl)
        try simp only [Act.put,zq1,zq2,zq3]
        refine wpAnyH_one (i:=12) (by kernel_rfl) ?_
        refine StepH.call (d:=(some 34)) (f:=?_) (args:=?_) (w':=?_) rfl rfl (by rfl) ?_ ?_
        rotate_left 3
        focus (go_simp;first | done | with_reducible rfl | ((repeat' apply And.intro) <;> with_reducible rfl))
        refine Calls.mono (CV.out _ hHeld) ?_
        rintro e1 Wc ⟨rfl,KC⟩
        refine⟨_,rfl,?_,fun hHeld=>?_⟩
        focus (exact KC)
        try simp only [Act.put,zq1,zq2,zq3]
        refine tV 13 35 ?_
        try simp only [Act.put,zq1,zq2,zq3]
        refine tV 14 36 ?_
        try simp only [Act.put,zq1,zq2,zq3]
        refine tV 15 37 ?_
        try simp only [Act.put,zq1,zq2,zq3]
        refine tV 16 38 ?_
        try simp only [Act.put,zq1,zq2,zq3]
        refine tV 17 39 ?_
        try simp only [Act.put,zq1,zq2,zq3]
        refine tU 18 40 ?_
        try simp only [Act.put,zq1,zq2,zq3]
        refine tU 19 41 ?_
        try simp only [Act.put,zq1,zq2,zq3]
        refine tU 20 42 ?_
        try simp only [Act.put,zq1,zq2,zq3]
        refine tU 21 43 ?_
        try simp only [Act.put,zq1,zq2,zq3]
        refine tU 22 44 ?_
        try simp only [Act.put,zq1,zq2,zq3]
        refine tU 23 45 ?_
        try simp only [Act.put,zq1,zq2,zq3]
        refine tU 24 46 ?_
        try simp only [Act.put,zq1,zq2,zq3]
        refine tU 25 47 ?_
        try simp only [Act.put,zq1,zq2,zq3]
        refine tU 26 48 ?_
        try simp only [Act.put,zq1,zq2,zq3]
        refine tU 27 49 ?_
        try simp only [Act.put,zq1,zq2,zq3]
        refine tU 28 50 ?_
        try simp only [Act.put,zq1,zq2,zq3]
        refine tV 29 51 ?_
        try simp only [Act.put,zq1,zq2,zq3]
        refine tV 30 52 ?_
        try simp only [Act.put,zq1,zq2,zq3]
        refine wpAnyH_done (by kernel_rfl) ?_ _
        go_wp2_with fail
        go_roundw
        case rel=>exact⟨i+1,i,rfl,by go_num,by omega,NO.out,KI.out.trans hHeld fun _ _ h=>h⟩
        case measure=>simp [intOf];omega
       case neg =>
        obtain⟨m,bm,hkm,hmi,hbm⟩:=INN.out.idx (by omega)
        have hml:(m:Int)<l.length:=by omega
        have hm0:(0:Int)≤m:=by omega
        have HBM:=Lib.hid hbm
        have BL:Hid (∀W,Kept (fun _=>False) wr W→Calls Tryz.prog 135 #[.agg #[.int .i64 e.v.dot.site,.int .i64 e.v.dot.seq],.agg #[.int .i64 bm.v.dot.site,.int .i64 bm.v.dot.seq]] W fun r W'=>r=.returned (.bool (decide (belowP e.v.dot bm.v.dot)))∧Kept (fun _=>False) wr W'):=Lib.hid fun W hk=>(rbelow_any e.v.dot bm.v.dot W).mono fun r W' ⟨h1,h2⟩=>⟨h1,hk.trans h2 fun _ _ h=>h⟩
        have HMI:=Lib.hid hmi
        have HKM:=Lib.hid hkm
        by_cases hbl:belowP e.v.dot bm.v.dot
        case pos =>
         rw [decide_eq_true hbl] at BL
         have NO:Hid (InnR l V g (i+1) i):=Lib.hid (INN.out.less hkm hbm CAN.out hbl)
         clear hbl hbm hmi
         subst hkm
         go_upto_region 9 with fail
         refine wp_region_held_drew (S:=fun W=>Kept (fun _=>False) wr W) (by kernel_rfl) KD.out (fun hHeld=>?_)
         refine tV 0 22 ?_
         try simp only [Act.put,zq1,zq2,zq3]
         refine tV 1 23 ?_
         try simp only [Act.put,zq1,zq2,zq3]
         refine tV 2 24 ?_
         try simp only [Act.put,zq1,zq2,zq3]
         refine tV 3 25 ?_ (hy:=by intro w hSw;have h9:=HGC.out w hSw;clear hSw;go_simp;first | done | with_reducible rfl)
         try simp only [Act.put,zq1,zq2,zq3]
         refine tV 4 26 ?_
         try simp only [Act.put,zq1,zq2,zq3]
         refine tV 5 27 ?_
         try simp only [Act.put,zq1,zq2,zq3]
         refine tV 6 28 ?_
         try simp only [Act.put,zq1,zq2,zq3]
         refine tV 7 29 ?_
         try simp only [Act.put,zq1,zq2,zq3]
         refine tV 8 30 ?_
         try simp only [Act.put,zq1,zq2,zq3]
         refine tV 9 31 ?_
         try simp only [Act.put,zq1,zq2,zq3]
         refine tV 10 32 ?_
         try simp only [Act.put,zq1,zq2,zq3]
         refine tV 11 33 ?_ (hy:=by intro w hSw;have h9:=HCE.out w hSw i e HE.out;obtain⟨_,_,h8⟩:=h9;clear hSw;go_simp;first | done | with_reducible rfl)
         try simp only [Act.put,zq1,zq2,zq3]
         refine wpAnyH_one (i:=12) (by kernel_rfl) ?_
         refine StepH.call (d:=(some 34)) (f:=?_) (args:=?_) (w':=?_) rfl rfl (by rfl) ?_ ?_
         rotate_left 3
         focus (go_simp;first | done | with_reducible rfl | ((repeat' apply And.intro) <;> with_reducible rfl))
         refine Calls.mono (CV.out _ hHeld) ?_
         rintro e1 Wc ⟨rfl,KC⟩
         refine⟨_,rfl,?_,fun hHeld=>?_⟩
         focus (exact KC)
         try simp only [Act.put,zq1,zq2,zq3]
         refine tV 13 35 ?_
         try simp only [Act.put,zq1,zq2,zq3]
         refine tV 14 36 ?_
         try simp only [Act.put,zq1,zq2,zq3]
         refine tV 15 37 ?_
         try simp only [Act.put,zq1,zq2,zq3]
         refine tV 16 38 ?_
         try simp only [Act.put,zq1,zq2,zq3]
         refine tV 17 39 ?_
         try simp only [Act.put,zq1,zq2,zq3]
         refine tV 18 40 ?_
         try simp only [Act.put,zq1,zq2,zq3]
         refine tV 19 41 ?_
         try simp only [Act.put,zq1,zq2,zq3]
         refine tV 20 42 ?_
         try simp only [Act.put,zq1,zq2,zq3]
         refine tV 21 43 ?_
         try simp only [Act.put,zq1,zq2,zq3]
         refine tV 22 44 ?_ (hy:=by intro w hSw;have h9:=HCE.out w hSw i e HE.out;obtain⟨h7,h8,_⟩:=h9;clear hSw;go_simp;first | done | with_reducible rfl)
         try simp only [Act.put,zq1,zq2,zq3]
         refine tV 23 45 ?_
         try simp only [Act.put,zq1,zq2,zq3]
         refine tV 24 46 ?_
         try simp only [Act.put,zq1,zq2,zq3]
         refine tV 25 47 ?_
         try simp only [Act.put,zq1,zq2,zq3]
         refine tV 26 48 ?_
         try simp only [Act.put,zq1,zq2,zq3]
         refine tV 27 49 ?_ (hy:=by intro w hSw;have h9:=HCE.out w hSw m bm HBM.out;obtain⟨h7,h8,_⟩:=h9;clear hSw;go_simp;first | done | with_reducible rfl)
         try simp only [Act.put,zq1,zq2,zq3]
         refine wpAnyH_one (i:=28) (by kernel_rfl) ?_
         refine StepH.call (d:=(some 50)) (f:=?_) (args:=?_) (w':=?_) rfl rfl (by rfl) ?_ ?_
         rotate_left 3
         focus (go_simp;first | done | with_reducible rfl | ((repeat' apply And.intro) <;> with_reducible rfl))
         refine Calls.mono (BL.out _ hHeld) ?_
         rintro e2 Wd ⟨rfl,KC⟩
         refine⟨_,rfl,?_,fun hHeld=>?_⟩
         focus (exact KC)
         try simp only [Act.put,zq1,zq2,zq3]
         refine tV 29 51 ?_
         try simp only [Act.put,zq1,zq2,zq3]
         refine tV 30 52 ?_
         try simp only [Act.put,zq1,zq2,zq3]
         refine wpAnyH_done (by kernel_rfl) ?_ _
         go_wp2_with fail
         go_roundw
         case rel=>exact⟨i+1,i,rfl,by go_num,by omega,NO.out,KI.out.trans hHeld fun _ _ h=>h⟩
         case measure=>simp [intOf];omega
        case neg =>
         rw [decide_eq_false hbl] at BL
         have NO:Hid (InnR l V g (i+1) k):=Lib.hid (INN.out.more HC.out.nd hkm hbm hmi HE.out hbl)
         clear hbl hbm hmi
         subst hkm
         go_upto_region 9 with fail
         refine wp_region_held_drew (S:=fun W=>Kept (fun _=>False) wr W) (by kernel_rfl) KD.out (fun hHeld=>?_)
         refine tV 0 22 ?_
         try simp only [Act.put,zq1,zq2,zq3]
         refine tV 1 23 ?_
         try simp only [Act.put,zq1,zq2,zq3]
         refine tV 2 24 ?_
         try simp only [Act.put,zq1,zq2,zq3]
         refine tV 3 25 ?_ (hy:=by intro w hSw;have h9:=HGC.out w hSw;clear hSw;go_simp;first | done | with_reducible rfl)
         try simp only [Act.put,zq1,zq2,zq3]
         refine tV 4 26 ?_
         try simp only [Act.put,zq1,zq2,zq3]
         refine tV 5 27 ?_
         try simp only [Act.put,zq1,zq2,zq3]
         refine tV 6 28 ?_
         try simp only [Act.put,zq1,zq2,zq3]
         refine tV 7 29 ?_
         try simp only [Act.put,zq1,zq2,zq3]
         refine tV 8 30 ?_
         try simp only [Act.put,zq1,zq2,zq3]
         refine tV 9 31 ?_
         try simp only [Act.put,zq1,zq2,zq3]
         refine tV 10 32 ?_
         try simp only [Act.put,zq1,zq2,zq3]
         refine tV 11 33 ?_ (hy:=by intro w hSw;have h9:=HCE.out w hSw i e HE.out;obtain⟨_,_,h8⟩:=h9;clear hSw;go_simp;first | done | with_reducible rfl)
         try simp only [Act.put,zq1,zq2,zq3]
         refine wpAnyH_one (i:=12) (by kernel_rfl) ?_
         refine StepH.call (d:=(some 34)) (f:=?_) (args:=?_) (w':=?_) rfl rfl (by rfl) ?_ ?_
         rotate_left 3
         focus (go_simp;first | done | with_reducible rfl | ((repeat' apply And.intro) <;> with_reducible rfl))
         refine Calls.mono (CV.out _ hHeld) ?_
         rintro e1 Wc ⟨rfl,KC⟩
         refine⟨_,rfl,?_,fun hHeld=>?_⟩
         focus (exact KC)
         try simp only [Act.put,zq1,zq2,zq3]
         refine tV 13 35 ?_
         try simp only [Act.put,zq1,zq2,zq3]
         refine tV 14 36 ?_
         try simp only [Act.put,zq1,zq2,zq3]
         refine tV 15 37 ?_
         try simp only [Act.put,zq1,zq2,zq3]
         refine tV 16 38 ?_
         try simp only [Act.put,zq1,zq2,zq3]
         refine tV 17 39 ?_
         try simp only [Act.put,zq1,zq2,zq3]
         refine tV 18 40 ?_
         try simp only [Act.put,zq1,zq2,zq3]
         refine tV 19 41 ?_
         try simp only [Act.put,zq1,zq2,zq3]
         refine tV 20 42 ?_
         try simp only [Act.put,zq1,zq2,zq3]
         refine tV 21 43 ?_
         try simp only [Act.put,zq1,zq2,zq3]
         refine tV 22 44 ?_ (hy:=by intro w hSw;have h9:=HCE.out w hSw i e HE.out;obtain⟨h7,h8,_⟩:=h9;clear hSw;go_simp;first | done | with_reducible rfl)
         try simp only [Act.put,zq1,zq2,zq3]
         refine tV 23 45 ?_
         try simp only [Act.put,zq1,zq2,zq3]
         refine tV 24 46 ?_
         try simp only [Act.put,zq1,zq2,zq3]
         refine tV 25 47 ?_
         try simp only [Act.put,zq1,zq2,zq3]
         refine tV 26 48 ?_
         try simp only [Act.put,zq1,zq2,zq3]
         refine tV 27 49 ?_ (hy:=by intro w hSw;have h9:=HCE.out w hSw m bm HBM.out;obtain⟨h7,h8,_⟩:=h9;clear hSw;go_simp;first | done | with_reducible rfl)
         try simp only [Act.put,zq1,zq2,zq3]
         refine wpAnyH_one (i:=28) (by kernel_rfl) ?_
         refine StepH.call (d:=(some 50)) (f:=?_) (args:=?_) (w':=?_) rfl rfl (by rfl) ?_ ?_
         rotate_left 3
         focus (go_simp;first | done | with_reducible rfl | ((repeat' apply And.intro) <;> with_reducible rfl))
         refine Calls.mono (BL.out _ hHeld) ?_
         rintro e2 Wd ⟨rfl,KC⟩
         refine⟨_,rfl,?_,fun hHeld=>?_⟩
         focus (exact KC)
         try simp only [Act.put,zq1,zq2,zq3]
         refine tV 29 51 ?_
         try simp only [Act.put,zq1,zq2,zq3]
         refine tV 30 52 ?_
         try simp only [Act.put,zq1,zq2,zq3]
         refine wpAnyH_done (by kernel_rfl) ?_ _
         go_wp2_with fail
         go_roundw
         case rel=>exact⟨i+1,m,rfl,by go_num,by omega,NO.out,KI.out.trans hHeld fun _ _ h=>h⟩
         case measure=>simp [intOf];omega
    case neg =>
     obtain rfl:i=l.length:=by omega
     by_cases hk0:k<0
     case pos =>
      obtain rfl:=INN.out.neg hk0
      have FIN:Hid (wr.ownsRow w.heap.size 62 11 (.slice oa R.length oc) (rowL l).length (entE.flat (rowL l))):=Lib.hid (by rw [HR.out.done INN.out];exact Tr.owns_base9 (owns_keep HO.out KI.out fun _ _ h=>h) (by have:=GB.out;omega))
      clear hk0 INN
      go_wp2_with fail
      go_ret
      exact⟨⟨_,rfl,FIN.out⟩,HK.out.trans KI.out fun _ _ h=>h⟩
     case neg =>
      obtain⟨m,bm,hkm,hm,hbm⟩:=INN.out.idx (by omega)
      obtain⟨hs1,hs2⟩:=HR.out.step HC.out INN.out hkm hbm
      subst hkm
      have HS2:=Lib.hid hs2
      have HBM:=Lib.hid hbm
      have hmI:(m:Int)<l.length:=by omega
      have hm0:(0:Int)≤m:=by omega
      obtain⟨bb,hbb⟩:∃b,g[m]?=some b:=⟨_,List.getElem?_eq_getElem (by rw [HR.out.len];exact hm)⟩
      have hga:=HG.out.keep KI.out fun h=>h
      have hst:=hga.set1of3 (m:=0) (y:=true) (b:=.bool true) hbb (by decide) rfl
      have hgc:wr.cell? ⟨gb,m,none⟩=some (.bool bb):=by
       have h9:=hga.cell hbb (j:=0) (u:=.bool bb) rfl
       rwa [show boolE.k=1 from rfl,Nat.mul_one,Nat.add_zero] at h9
      have hgf:=hga.frozen m
      rw [show boolE.k=1 from rfl,Nat.mul_one,Nat.add_zero] at hst
      have HGL:=Lib.hid hga.lt
      have kst:Kept (fun b=>b=gb) wr (wr.setCell ⟨gb,m,none⟩ (.bool true)):=(Kept.refl (fun b=>b=gb) wr).setCell (p:=⟨gb,m,none⟩) (fun _=>rfl) _
      have HST:=Lib.hid hst
      have KST:=Lib.hid kst
      clear hs2 hbm hbb hga hst kst INN hk0
      go_upto_region 14 with fail
      clear hgc hgf
      obtain⟨W1,hW1⟩:∃W1,wr.setCell ⟨gb,m,none⟩ (.bool true)=W1:=⟨_,rfl⟩
      rw [hW1] at HST KST ⊢
      clear hW1
      have K1:Hid (Kept (fun _=>False) w W1):=Lib.hid ((HK.out.trans KI.out fun _ _ h=>h).trans KST.out fun i hi h=>by have:=GB.out;omega)
      have hl1:SlAt entE W1 _ l:=HL.out.kept K1.out
      obtain⟨lg1,lo1,lc1,e3,hcs1⟩:=SlAt.opc hl1 (by omega)
      cases e3
      have hc:=hcs1 m bm HBM.out
      clear hcs1 hl1
      have HO1:Hid (W1.ownsRow (gb+1) 62 11 (.slice oa R.length oc) R.length (entE.flat R)):=Lib.hid (owns_keep (owns_keep HO.out KI.out fun _ _ h=>h) KST.out fun b hb h9=>by have h1:=owns_new HO.out b hb;omega)
      have HV1:Hid (SlAt dotE W1 (.slice va V.length vc) V):=Lib.hid ((HV.out.kept KI.out).keep KST.out fun b hb _=>(HAP.out b hb).1)
      obtain⟨⟨⟨ds,dq⟩,⟨da,dn,dc⟩,kd,⟨it,is⟩,⟨rt,rs⟩,tx,⟨ga,gn,gc⟩,st⟩,D,G⟩:=bm
      obtain⟨c0,c1,c2,c3,c4,c5,c6,c7,c8,c9,c10⟩:=hc
      have k7:Kept (fun _=>False) W1 (W1.alloc (.cells #[.int .i64 ds,.int .i64 dq,.slice da dn dc,.int .i64 kd,.int .i64 it,.int .i64 is,.int .i64 rt,.int .i64 rs,.string tx,.slice ga gn gc,.int .i64 st] 62)):=(Kept.refl _ _).alloc _
      have LIT:Hid (SlAt entE (W1.alloc (.cells #[.int .i64 ds,.int .i64 dq,.slice da dn dc,.int .i64 kd,.int .i64 it,.int .i64 is,.int .i64 rt,.int .i64 rs,.string tx,.slice ga gn gc,.int .i64 st] 62)) (.slice (some ⟨W1.heap.size,0,none⟩) 1 1) [⟨⟨⟨ds,dq⟩,⟨da,dn,dc⟩,kd,⟨it,is⟩,⟨rt,rs⟩,tx,⟨ga,gn,gc⟩,st⟩,D,G⟩]):=Lib.hid (SlAt.lit ([⟨⟨⟨ds,dq⟩,⟨da,dn,dc⟩,kd,⟨it,is⟩,⟨rt,rs⟩,tx,⟨ga,gn,gc⟩,st⟩,D,G⟩]:List Ent) _ rfl (by show 1≤maxLen;decide))
      have OX:=Lib.hid (owns_keep HO1.out k7 fun _ _ h=>h)
      have K7:=Lib.hid k7
      have ML:Hid (R.length≤1000000):=Lib.hid (by omega)
      have BZ:Hid (gb+1≤(W1.alloc (.cells #[.int .i64 ds,.int .i64 dq,.slice da dn dc,.int .i64 kd,.int .i64 it,.int .i64 is,.int .i64 rt,.int .i64 rs,.string tx,.slice ga gn gc,.int .i64 st] 62)).heap.size):=Lib.hid (by have h1:=HGL.out;have h2:=KST.out.size;have h3:=k7.size;omega)
      clear k7
      go_upto_region 15 with (at_builtin;refine wpList_append_keeps entE rfl (.tmp 60) (.tmp 65) 22 rfl (gb+1) 62 _ 128 Tryz.underlying22 info_op rfl (by decide) rfl rfl OX.out LIT.out ML.out BZ.out ?_;intro v8 w8 ho8 hg8;obtain⟨oa8,oc8,rfl⟩:=owns_sl ho8)
      clear c0 c1 c2 c3 c4 c5 c6 c7 c8 c9 c10
      obtain⟨W7,hW7⟩:∃W7,W1.alloc (.cells #[.int .i64 ds,.int .i64 dq,.slice da dn dc,.int .i64 kd,.int .i64 it,.int .i64 is,.int .i64 rt,.int .i64 rs,.string tx,.slice ga gn gc,.int .i64 st] 62)=W7:=⟨_,rfl⟩
      rw [hW7] at K7 hg8
      clear hW7 LIT OX BZ
      have HOW:Hid (∀b,(Value.slice oa R.length oc).ownBlock=some b→gb<b):=Lib.hid fun b hb=>by have h1:=owns_new HO1.out b hb;omega
      have h8k:Kept (fun b=>(Value.slice oa R.length oc).ownBlock=some b) W7 w8:=grow1_kept hg8
      have K8:Hid (Kept (fun _=>False) w w8):=Lib.hid ((K1.out.trans K7.out fun _ _ h=>h).over h8k fun b hb=>by have h1:=HOW.out b hb;have:=GB.out;omega)
      have HG8:Hid (OwnAt boolE w8 4 gb l.length (g.set m true)):=Lib.hid ((HST.out.keep K7.out fun h=>h).keep h8k fun h=>by have h1:=HOW.out gb h;omega)
      have HV8:Hid (SlAt dotE w8 (.slice va V.length vc) V):=Lib.hid ((HV1.out.kept K7.out).keep h8k fun b hb _ h=>(HAP.out b hb).2 h)
      have HO8:=Lib.hid ho8
      have hl8:SlAt entE w8 _ l:=HL.out.kept K8.out
      obtain⟨lg2,lo2,lc2,e4,hcs2⟩:=SlAt.opdot hl8 (by omega)
      cases e4
      obtain⟨c0,c1⟩:=hcs2 m _ HBM.out
      have k9:Kept (fun _=>False) w8 (w8.alloc (.cells #[.int .i64 ds,.int .i64 dq] 29)):=(Kept.refl _ _).alloc _
      have K9:=Lib.hid k9
      have MG:=Lib.hid (rmerge_any (HV8.out.kept k9) (SlAt.lit (E:=dotE) (w:=w8) (t:=29) [⟨ds,dq⟩] #[.int .i64 ds,.int .i64 dq] rfl (by show 1≤maxLen;decide)) (by omega) (by show 1≤1000000000;decide))
      have H8L:Hid (∀b,(Value.slice oa8 (R.length+1) oc8).ownBlock=some b→b<w8.heap.size):=Lib.hid fun b hb=>(Tr.owns_lt ho8 b hb).2
      have VL:Hid ((mergeV V [⟨ds,dq⟩]).length≤17):=Lib.hid (vecOf_len _ _)
      clear k9 hcs2 hl8 h8k ho8 hg8
      go_wp2_with (go_at_call 38;refine MG.out.mono ?_;rintro e w2 ⟨v',rfl,ho,hk2⟩;(obtain⟨va2,vc2,rfl⟩:=owns_sl ho))
      have K2:Hid (Kept (fun _=>False) w8 w2):=Lib.hid (K9.out.trans hk2 fun _ _ h=>h)
      have HOO:=Lib.hid ho
      clear ho hk2
      go_roundw
      case rel =>
       refine⟨R++[⟨⟨⟨ds,dq⟩,⟨da,dn,dc⟩,kd,⟨it,is⟩,⟨rt,rs⟩,tx,⟨ga,gn,gc⟩,st⟩,D,G⟩],mergeV V [⟨ds,dq⟩],g.set m true,owns_slAt (E:=dotE) HOO.out,VL.out,fun b hb=>?_,?_,?_,HS2.out,HG8.out.keep K2.out fun h=>h,K8.out.trans K2.out fun _ _ h=>h⟩
       ·have h1:=(Tr.owns_lt HOO.out b hb).1
        have h2:=K9.out.size
        have h3:=K8.out.size
        have h4:=HG8.out.lt
        exact⟨by omega,fun h=>by have:=H8L.out b h;omega⟩
       ·rw [List.length_append]
        exact owns_keep HO8.out K2.out fun _ _ h=>h
       ·rw [List.length_append];exact hs1
      case measure=>simp [lenV];omega
end Go.Proofs.YtjohljmpcblpjaaGreatDoor.Pa
