/- hearsayref11: turned, Delete, Settle. hearsayref11: Delete, Settle, Len, Kept, At, Find. hearsayref11.Collect. -/
import Derived.Test.YtjohljmpcblpjaaGreatDoorM31
set_option maxRecDepth 100000
set_option maxHeartbeats 8000000
namespace Go.Proofs.YtjohljmpcblpjaaGreatDoor.Tr
open Go.RowKit Go.Sort Go.Proofs.YtjohljmpcblpjaaGreatDoor.St
theorem rturned_any {w:World}{v rv:Value}{L:List Nd}{rs:List Run}(h:SlAt nodeE w v L) (hr:SlAt runE w rv rs) (hin:∀r∈rs,r.In) (hrl:rs.length≤1000000) (hlen:L.length≤900000) (hID:∀n∈L,0≤n.id.t∧n.id.t≤2147483647) (fr tz:Int) :
  Calls Tryz.prog 114 #[.agg #[v],rv,.int .i64 fr,.int .i64 tz] w fun e w'=>(∃u,e=.returned (.tuple #[.agg #[u],.int .i64 (turnN rs fr L)])∧w'.ownsRow w.heap.size 84 6 u L.length (nodeE.flat (L.map (turnF rs fr tz))))∧Kept (fun _=>False) w w':=by
 obtain⟨a,c,rfl,_,_⟩:=h.sl
 have hk0:Kept (fun _=>False) w ((w.alloc (.cells #[.slice a L.length c] 108)).alloc (.cells #[.slice none 0 0] 108)):=((Kept.refl _ _).alloc _).alloc _
 have HL:=Lib.hid (h.kept hk0)
 have HR:=Lib.hid (hr.kept hk0)
 have HI:=Lib.hid hin
 have HD:=Lib.hid hID
 have K0:=Lib.hid hk0
 have b0:=(Blk.new w 108 #[.slice a L.length c]).alloc (.cells #[.slice none 0 0] 108)
 have b1:=Blk.new (w.alloc (.cells #[.slice a L.length c] 108)) 108 #[.slice none 0 0]
 rw [World.size_alloc] at b1
 obtain⟨ra,rc,rfl,_,_⟩:=hr.sl
 clear h hk0 hr hin hID
 go_enter Tryz.func114,Tryz.ntmps114
 go_upto_region 1 with fail
 obtain⟨z,hz⟩:∃z,w.heap.size=z:=⟨_,rfl⟩
 obtain⟨W0,hW0⟩:∃W0,((w.alloc (.cells #[.slice a L.length c] 108)).alloc (.cells #[.slice none 0 0] 108))=W0:=⟨_,rfl⟩
 rw [hW0] at HL HR K0 b0 b1 ⊢
 rw [hz] at b0 b1 ⊢
 have B0:=Lib.hid b0
 have B1:=Lib.hid b1
 have HZ:=Lib.hid hz
 clear hW0 hz b0 b1
 go_wp2_with fail
 go_loopw [10,11,12] (fun ov nv kv wr=>∃n:Nat,kv=.int .i64 n∧nv=.int .i64 (turnN rs fr (L.take n))∧n≤L.length∧wr.ownsRow W0.heap.size 84 6 ov n (nodeE.flat ((L.take n).map (turnF rs fr tz)))∧Kept (fun _=>False) W0 wr) (fun _ _ kv _=>L.length-(intOf kv).toNat)
 case atStart=>exact⟨0,rfl,by simp [turnN],Nat.zero_le _,World.ownsRow_nil ..,Kept.refl _ _⟩
 case round =>
  obtain⟨n,rfl,rfl,hn,ho,hk⟩:=hrel
  obtain⟨ua,uc,rfl⟩:=owns_sl ho
  have HO:=Lib.hid ho
  have KW:=Lib.hid hk
  have hn0:(0:Int)≤n:=by omega
  have c0:=(hk.blk (fun h=>h) B0.out).cell' (i:=0) (v:=.slice a L.length c) rfl
  clear ho hk
  by_cases hlt:n<L.length
  case neg =>
   have hnl:¬(n:Int)<L.length:=by omega
   have hn9:n=L.length:=by omega
   subst hn9
   have OW:=HO.out
   rw [List.take_length] at OW ⊢
   have O9:=Lib.hid OW
   have hb1:=KW.out.blk (fun h=>h) B1.out
   have f1:=hb1.frozen 0
   have c1:=hb1.cell' (i:=0) (v:=.slice none 0 0) rfl
   have HB1:=Lib.hid hb1
   have hzl:z+1<W0.heap.size:=B1.out.lt
   clear OW hb1
   go_wp2_with fail
   have c9:=(HB1.out.set_ 0 (.slice ua L.length uc)).cell' (i:=0) (v:=(.slice ua L.length uc)) (by simp)
   exact bodyPost_ret (v:=.tuple #[.agg #[(.slice ua L.length uc)],.int .i64 (turnN rs fr L)]) (by simp [results,Tryz.results114,go_sem,c9]) rfl ⟨⟨(.slice ua L.length uc),rfl,owns_base9 (owns_keep O9.out (kept_cell wr (z+1) (.slice ua L.length uc)) (fun b hb h9=>by have:=owns_new O9.out b hb;omega)) K0.out.size⟩,(K0.out.trans KW.out fun _ _ h=>h).trans (kept_cell wr (z+1) (.slice ua L.length uc)) (fun b hb h9=>by have:=HZ.out;omega)⟩
  case pos =>
   have hnl:(n:Int)<L.length:=by omega
   obtain⟨x,hx⟩:=get_of_lt hlt
   have hxm:=List.mem_of_getElem? hx
   obtain⟨g,o,c',e1,_,h1⟩:=SlAt.node (HL.out.kept KW.out) (by omega)
   cases e1
   obtain⟨r0,r1,r2,r3,r4,r5⟩:=h1 n x hx
   have e1:IntKind.i64.wrap ((n:Int)+1)=(n:Int)+1:=IntWalk.i64_in _ (by omega)
   have htk:L.take (n+1)=L.take n++[x]:=by rw [List.take_add_one,hx];rfl
   have hidx:=HD.out x hxm
   have T1:Hid (turnN rs fr (L.take (n+1))=turnN rs fr (L.take n)+if turnB rs fr x then 1 else 0):=Lib.hid (by rw [htk,turnN_snoc])
   have T2:Hid ((L.take (n+1)).map (turnF rs fr tz)=(L.take n).map (turnF rs fr tz)++[turnF rs fr tz x]):=Lib.hid (by rw [htk,List.map_append];rfl)
   have hml:((L.take n).map (turnF rs fr tz)).length=n:=by rw [List.length_map,List.length_take];omega
   have ML:=Lib.hid hml
   have htn:=turnN_le rs fr (L.take n)
   have htl:=List.length_take_le n L
   obtain⟨tn,htne⟩:∃tn,turnN rs fr (L.take n)=tn:=⟨_,rfl⟩
   rw [htne] at T1 htn ⊢
   have e2:IntKind.i64.wrap (tn+1)=tn+1:=IntWalk.i64_in _ (by omega)
   have kx:Kept (fun _=>False) wr (wr.alloc (.cells #[.int .i64 x.id.t,.int .i64 x.id.s,.int .i64 x.ref.t,.int .i64 x.ref.s,.int .i32 x.rune,.int .i64 x.st] 84)):=(Kept.refl _ _).alloc _
   have hB2:=Blk.new wr 84 #[.int .i64 x.id.t,.int .i64 x.id.s,.int .i64 x.ref.t,.int .i64 x.ref.s,.int .i32 x.rune,.int .i64 x.st]
   have K1:=Lib.hid (KW.out.trans kx fun _ _ h=>h)
   have O1:=Lib.hid (owns_keep HO.out kx fun _ _ h=>h)
   obtain⟨xt,hxt⟩:∃xt,turnF rs fr tz x=xt:=⟨_,rfl⟩
   have XT:=Lib.hid hxt
   rw [hxt] at T2
   clear hx htk hml htne hxt h1 hxm
   go_upto_region 7 with fail
   obtain⟨W1,hW1⟩:∃W1,(wr.alloc (.cells #[.int .i64 x.id.t,.int .i64 x.id.s,.int .i64 x.ref.t,.int .i64 x.ref.s,.int .i32 x.rune,.int .i64 x.st] 84))=W1:=⟨_,rfl⟩
   obtain⟨zb,hzb⟩:∃zb,wr.heap.size=zb:=⟨_,rfl⟩
   rw [hzb] at hB2 ⊢
   rw [hW1] at hB2 K1 O1 ⊢
   have ZB:Hid (W0.heap.size≤zb):=Lib.hid (by rw [←hzb];exact KW.out.size)
   have OL:Hid (∀b,(Value.slice ua n uc).ownBlock=some b→b<zb):=Lib.hid (fun b hb=>by rw [←hzb];exact (owns_lt HO.out b hb).2)
   clear hW1 hzb kx r0 r1 r2 r3 r4 r5 c0
   have z0:=hB2.cell' (i:=0) (v:=.int .i64 x.id.t) rfl
   have z1:=hB2.cell' (i:=1) (v:=.int .i64 x.id.s) rfl
   have z5:=hB2.cell' (i:=5) (v:=.int .i64 x.st) rfl
   have BX:=Lib.hid hB2
   clear hB2
   have FIN:Hid (∀(W3:World),Kept (fun b=>b=zb) W1 W3→Kept (fun _=>False) W0 W3∧W3.ownsRow W0.heap.size 84 6 (.slice ua n uc) n (nodeE.flat ((L.take n).map (turnF rs fr tz)))):=Lib.hid (fun W3 hk3 =>
    ⟨K1.out.trans hk3 (fun b hb h9=>by have:=ZB.out;omega),owns_keep O1.out hk3 (fun b hb h9=>by have:=OL.out b hb;omega)⟩)
   clear HO KW
   have RN:Hid (∀W',Kept (fun _=>False) W1 W'→Calls Tryz.prog 152 #[.slice ra rs.length rc,.agg #[.int .i64 x.id.t,.int .i64 x.id.s]] W' fun e w'=>e=.returned (.bool (nameL rs x.id))∧Kept (fun _=>False) W' w'):=Lib.hid (fun W' hk'=>rnamed_any (HR.out.kept ((K1.out).trans hk' fun _ _ h=>h)) HI.out hrl x.id hidx)
   have hturn:(x.st=fr∧nameL rs x.id=true∧xt=⟨x.id,x.ref,x.rune,tz⟩∧turnB rs fr x=true)∨(x.st=fr∧nameL rs x.id=false∧xt=x∧turnB rs fr x=false)∨(¬x.st=fr∧xt=x∧turnB rs fr x=false):=by
    have hx9:=XT.out
    unfold turnF turnB at hx9
    by_cases h1:x.st=fr
    ·cases h2:nameL rs x.id
     ·refine .inr (.inl ⟨h1,rfl,?_,by unfold turnB;rw [h2,Bool.and_false]⟩)
      rw [h2,Bool.and_false,if_neg (by decide)] at hx9
      exact hx9.symm
     ·refine .inl ⟨h1,rfl,?_,by unfold turnB;rw [h2,decide_eq_true h1];rfl⟩
      rw [h2,decide_eq_true h1,if_pos (by decide)] at hx9
      exact hx9.symm
    ·refine .inr (.inr ⟨h1,?_,by unfold turnB;rw [decide_eq_false h1];rfl⟩)
     rw [decide_eq_false h1,Bool.false_and,if_neg (by decide)] at hx9
     exact hx9.symm
   rcases hturn with ⟨q1,q2,q3,q4⟩|⟨q1,q2,q3,q4⟩|⟨q1,q3,q4⟩
   case inl =>
    rw [q2] at RN
    rw [q1] at z5
    have T1':Hid (turnN rs fr (L.take (n+1))=tn+1):=Lib.hid (by rw [T1.out,q4];rfl)
    subst q3
    clear T1 q4 q1 q2
    go_upto_region 10 with (go_at_call 152;refine (RN.out _ (Kept.refl _ _)).mono ?_;rintro e w' ⟨rfl,hk2⟩;have hb2:=hk2.blk (fun h=>h) BX.out;have y5:=hb2.cell' (i:=5) (v:=.int .i64 x.st) rfl;have f5:=hb2.frozen 5;have BX2:=Lib.hid hb2;have KX:=Lib.hid hk2;clear hk2 hb2)
    have hb3:Blk (w'.setCell ⟨zb,5,none⟩ (.int .i64 tz)) zb 84 #[.int .i64 x.id.t,.int .i64 x.id.s,.int .i64 x.ref.t,.int .i64 x.ref.s,.int .i32 x.rune,.int .i64 tz]:=(by have h9:=BX2.out.set_ 5 (.int .i64 tz);simpa using h9)
    have kk:=FIN.out ((w'.setCell ⟨zb,5,none⟩ (.int .i64 tz))) ((KX.out.mono fun _ _ h=>h.elim).trans ((Kept.refl (fun b=>b=zb) w').setCell (p:=⟨zb,5,none⟩) (fun _=>rfl) _) (fun _ _ h=>h))
    have v0:=hb3.cell' (i:=0) (v:=.int .i64 x.id.t) rfl
    have v1:=hb3.cell' (i:=1) (v:=.int .i64 x.id.s) rfl
    have v2:=hb3.cell' (i:=2) (v:=.int .i64 x.ref.t) rfl
    have v3:=hb3.cell' (i:=3) (v:=.int .i64 x.ref.s) rfl
    have v4:=hb3.cell' (i:=4) (v:=.int .i32 x.rune) rfl
    have v5:=hb3.cell' (i:=5) (v:=.int .i64 tz) rfl
    obtain⟨W3,hW3⟩:∃W3,(w'.setCell ⟨zb,5,none⟩ (.int .i64 tz))=W3:=⟨_,rfl⟩
    rw [hW3] at kk v0 v1 v2 v3 v4 v5 ⊢
    have LD:Hid (SlAt nodeE (W3.alloc (.cells #[.int .i64 x.id.t,.int .i64 x.id.s,.int .i64 x.ref.t,.int .i64 x.ref.s,.int .i32 x.rune,.int .i64 tz] 84)) (.slice (some ⟨W3.heap.size,0,none⟩) 1 1) [(⟨x.id,x.ref,x.rune,tz⟩:Nd)]):=Lib.hid (SlAt.lit (E:=nodeE) [(⟨x.id,x.ref,x.rune,tz⟩:Nd)] _ rfl (by simp [maxLen]))
    have O2:=Lib.hid (owns_keep kk.2 ((Kept.refl (fun _=>False) W3).alloc (.cells #[.int .i64 x.id.t,.int .i64 x.id.s,.int .i64 x.ref.t,.int .i64 x.ref.s,.int .i32 x.rune,.int .i64 tz] 84)) (fun _ _ h=>h))
    have K2:=Lib.hid (kk.1.alloc (.cells #[.int .i64 x.id.t,.int .i64 x.id.s,.int .i64 x.ref.t,.int .i64 x.ref.s,.int .i32 x.rune,.int .i64 tz] 84))
    clear hW3 kk hb3 FIN RN
    go_wp2_with (at_builtin;refine wpList_append_row nodeE rfl (.tmp 40) (.tmp 42) 51 rfl W0.heap.size 84 _ 48 Tryz.underlying51 info_node rfl (D:=(L.take n).map (turnF rs fr tz)) rfl rfl (by rw [ML.out];exact O2.out) LD.out (by rw [ML.out];show n+1≤maxLen;unfold maxLen;omega) (by rw [ML.out];show (n+1) * 48≤140737488355328;omega) K2.out.size ?_;intro v9 w9 ho9 hk9)
    go_roundw
    case rel=>exact⟨n+1,by go_num,by rw [T1'.out],by omega,by rw [T2.out];have h9:=ho9;rw [List.length_append,ML.out] at h9;exact h9,K2.out.over hk9 (fun b hb=>owns_new O2.out b hb)⟩
    case measure=>simp [intOf];omega
   case inr.inl =>
    rw [q2] at RN
    rw [q1] at z5
    have T1':Hid (turnN rs fr (L.take (n+1))=tn):=Lib.hid (by rw [T1.out,q4];simp)
    have q3':=q3.symm
    subst q3'
    clear T1 q4 q1 q2
    go_upto_region 10 with (go_at_call 152;refine (RN.out _ (Kept.refl _ _)).mono ?_;rintro e w' ⟨rfl,hk2⟩;have hb2:=hk2.blk (fun h=>h) BX.out;have y5:=hb2.cell' (i:=5) (v:=.int .i64 x.st) rfl;have f5:=hb2.frozen 5;have BX2:=Lib.hid hb2;have KX:=Lib.hid hk2;clear hk2 hb2)
    have hb3:Blk w' zb 84 #[.int .i64 x.id.t,.int .i64 x.id.s,.int .i64 x.ref.t,.int .i64 x.ref.s,.int .i32 x.rune,.int .i64 x.st]:=BX2.out
    have kk:=FIN.out (w') (KX.out.mono fun _ _ h=>h.elim)
    have v0:=hb3.cell' (i:=0) (v:=.int .i64 x.id.t) rfl
    have v1:=hb3.cell' (i:=1) (v:=.int .i64 x.id.s) rfl
    have v2:=hb3.cell' (i:=2) (v:=.int .i64 x.ref.t) rfl
    have v3:=hb3.cell' (i:=3) (v:=.int .i64 x.ref.s) rfl
    have v4:=hb3.cell' (i:=4) (v:=.int .i32 x.rune) rfl
    have v5:=hb3.cell' (i:=5) (v:=.int .i64 x.st) rfl
    obtain⟨W3,hW3⟩:∃W3,w'=W3:=⟨_,rfl⟩
    rw [hW3] at kk v0 v1 v2 v3 v4 v5 ⊢
    have LD:Hid (SlAt nodeE (W3.alloc (.cells #[.int .i64 x.id.t,.int .i64 x.id.s,.int .i64 x.ref.t,.int .i64 x.ref.s,.int .i32 x.rune,.int .i64 x.st] 84)) (.slice (some ⟨W3.heap.size,0,none⟩) 1 1) [(x:Nd)]):=Lib.hid (SlAt.lit (E:=nodeE) [(x:Nd)] _ rfl (by simp [maxLen]))
    have O2:=Lib.hid (owns_keep kk.2 ((Kept.refl (fun _=>False) W3).alloc (.cells #[.int .i64 x.id.t,.int .i64 x.id.s,.int .i64 x.ref.t,.int .i64 x.ref.s,.int .i32 x.rune,.int .i64 x.st] 84)) (fun _ _ h=>h))
    have K2:=Lib.hid (kk.1.alloc (.cells #[.int .i64 x.id.t,.int .i64 x.id.s,.int .i64 x.ref.t,.int .i64 x.ref.s,.int .i32 x.rune,.int .i64 x.st] 84))
    clear hW3 kk hb3 FIN RN
    go_wp2_with (at_builtin;refine wpList_append_row nodeE rfl (.tmp 40) (.tmp 42) 51 rfl W0.heap.size 84 _ 48 Tryz.underlying51 info_node rfl (D:=(L.take n).map (turnF rs fr tz)) rfl rfl (by rw [ML.out];exact O2.out) LD.out (by rw [ML.out];show n+1≤maxLen;unfold maxLen;omega) (by rw [ML.out];show (n+1) * 48≤140737488355328;omega) K2.out.size ?_;intro v9 w9 ho9 hk9)
    go_roundw
    case rel=>exact⟨n+1,by go_num,by rw [T1'.out],by omega,by rw [T2.out];have h9:=ho9;rw [List.length_append,ML.out] at h9;exact h9,K2.out.over hk9 (fun b hb=>owns_new O2.out b hb)⟩
    case measure=>simp [intOf];omega
   case inr.inr =>
    have q6:(x.st == fr)=false:=by simpa using q1
    have T1':Hid (turnN rs fr (L.take (n+1))=tn):=Lib.hid (by rw [T1.out,q4];simp)
    have q3':=q3.symm
    subst q3'
    clear T1 q4 q1
    go_upto_region 10 with fail
    have hb3:Blk W1 zb 84 #[.int .i64 x.id.t,.int .i64 x.id.s,.int .i64 x.ref.t,.int .i64 x.ref.s,.int .i32 x.rune,.int .i64 x.st]:=BX.out
    have kk:=FIN.out (W1) (Kept.refl _ _)
    have v0:=hb3.cell' (i:=0) (v:=.int .i64 x.id.t) rfl
    have v1:=hb3.cell' (i:=1) (v:=.int .i64 x.id.s) rfl
    have v2:=hb3.cell' (i:=2) (v:=.int .i64 x.ref.t) rfl
    have v3:=hb3.cell' (i:=3) (v:=.int .i64 x.ref.s) rfl
    have v4:=hb3.cell' (i:=4) (v:=.int .i32 x.rune) rfl
    have v5:=hb3.cell' (i:=5) (v:=.int .i64 x.st) rfl
    obtain⟨W3,hW3⟩:∃W3,W1=W3:=⟨_,rfl⟩
    rw [hW3] at kk v0 v1 v2 v3 v4 v5 ⊢
    have LD:Hid (SlAt nodeE (W3.alloc (.cells #[.int .i64 x.id.t,.int .i64 x.id.s,.int .i64 x.ref.t,.int .i64 x.ref.s,.int .i32 x.rune,.int .i64 x.st] 84)) (.slice (some ⟨W3.heap.size,0,none⟩) 1 1) [(x:Nd)]):=Lib.hid (SlAt.lit (E:=nodeE) [(x:Nd)] _ rfl (by simp [maxLen]))
    have O2:=Lib.hid (owns_keep kk.2 ((Kept.refl (fun _=>False) W3).alloc (.cells #[.int .i64 x.id.t,.int .i64 x.id.s,.int .i64 x.ref.t,.int .i64 x.ref.s,.int .i32 x.rune,.int .i64 x.st] 84)) (fun _ _ h=>h))
    have K2:=Lib.hid (kk.1.alloc (.cells #[.int .i64 x.id.t,.int .i64 x.id.s,.int .i64 x.ref.t,.int .i64 x.ref.s,.int .i32 x.rune,.int .i64 x.st] 84))
    clear hW3 kk hb3 FIN RN
    go_wp2_with (at_builtin;refine wpList_append_row nodeE rfl (.tmp 40) (.tmp 42) 51 rfl W0.heap.size 84 _ 48 Tryz.underlying51 info_node rfl (D:=(L.take n).map (turnF rs fr tz)) rfl rfl (by rw [ML.out];exact O2.out) LD.out (by rw [ML.out];show n+1≤maxLen;unfold maxLen;omega) (by rw [ML.out];show (n+1) * 48≤140737488355328;omega) K2.out.size ?_;intro v9 w9 ho9 hk9)
    go_roundw
    case rel=>exact⟨n+1,by go_num,by rw [T1'.out],by omega,by rw [T2.out];have h9:=ho9;rw [List.length_append,ML.out] at h9;exact h9,K2.out.over hk9 (fun b hb=>owns_new O2.out b hb)⟩
    case measure=>simp [intOf];omega
theorem rdelete_any {w:World}{v rv:Value}{L:List Nd}{rs:List Run}(h:SlAt nodeE w v L) (hr:SlAt runE w rv rs) (hin:∀r∈rs,r.In) (hrl:rs.length≤1000000) (hlen:L.length≤900000) (hID:∀n∈L,0≤n.id.t∧n.id.t≤2147483647) :
  Calls Tryz.prog 98 #[.agg #[v],rv] w fun e w'=>(∃u,e=.returned (.tuple #[.agg #[u],.int .i64 (turnN rs 1 L)])∧w'.ownsRow w.heap.size 84 6 u L.length (nodeE.flat (L.map (turnF rs 1 2))))∧Kept (fun _=>False) w w':=by
 obtain⟨a,c,rfl,_,_⟩:=h.sl
 have k0:Kept (fun _=>False) w ((w.alloc (.cells #[.slice a L.length c] 108)).alloc (.cells #[.slice none 0 0] 108)):=((Kept.refl _ _).alloc _).alloc _
 have b0:=(Blk.new w 108 #[.slice a L.length c]).alloc (.cells #[.slice none 0 0] 108)
 have b1:=Blk.new (w.alloc (.cells #[.slice a L.length c] 108)) 108 #[.slice none 0 0]
 rw [World.size_alloc] at b1
 have TN:=Lib.hid (rturned_any (h.kept k0) (hr.kept k0) hin hrl hlen hID 1 2)
 have K0:=Lib.hid k0
 have B1:=Lib.hid b1
 have c0:=b0.cell' (i:=0) (v:=.slice a L.length c) rfl
 obtain⟨ra,rc,rfl,_,_⟩:=hr.sl
 clear h hr k0 b1 b0
 go_enter Tryz.func98,Tryz.ntmps98
 go_wp2_with (go_at_call 114;refine TN.out.mono ?_;rintro e w1 ⟨⟨u,rfl,ho⟩,hk⟩;obtain⟨ua,uc,rfl⟩:=owns_sl ho;have hb:=hk.blk (fun h=>h) B1.out;have f0:=hb.frozen 0;have d0:=hb.cell' (i:=0) (v:=.slice none 0 0) rfl;have HB:=Lib.hid hb;have HO:=Lib.hid ho;have K1:=Lib.hid (K0.out.trans hk fun _ _ h=>h);have SZ:=Lib.hid K0.out.size;have LTB:=Lib.hid hb.lt;clear hb ho hk)
 have e0:=(HB.out.set_ 0 (.slice ua L.length uc)).cell' (i:=0) (v:=.slice ua L.length uc) (by simp)
 exact bodyPost_ret (v:=.tuple #[.agg #[.slice ua L.length uc],.int .i64 (turnN rs 1 L)]) (by simp [results,Tryz.results98,go_sem,e0]) rfl ⟨⟨_,rfl,owns_base9 (owns_keep HO.out (kept_cell w1 (w.heap.size+1) _) (fun b hb h9=>by have h8:=owns_new HO.out b hb;simp at h8;omega)) SZ.out⟩,K1.out.trans (kept_cell w1 (w.heap.size+1) _) (fun b hb h9=>by omega)⟩
theorem rsettle_any {w:World}{v rv:Value}{L:List Nd}{rs:List Run}(h:SlAt nodeE w v L) (hr:SlAt runE w rv rs) (hin:∀r∈rs,r.In) (hrl:rs.length≤1000000) (hlen:L.length≤900000) (hID:∀n∈L,0≤n.id.t∧n.id.t≤2147483647) :
  Calls Tryz.prog 68 #[.agg #[v],rv] w fun e w'=>(∃u,e=.returned (.tuple #[.agg #[u],.int .i64 (turnN rs 2 L)])∧w'.ownsRow w.heap.size 84 6 u L.length (nodeE.flat (L.map (turnF rs 2 3))))∧Kept (fun _=>False) w w':=by
 obtain⟨a,c,rfl,_,_⟩:=h.sl
 have k0:Kept (fun _=>False) w ((w.alloc (.cells #[.slice a L.length c] 108)).alloc (.cells #[.slice none 0 0] 108)):=((Kept.refl _ _).alloc _).alloc _
 have b0:=(Blk.new w 108 #[.slice a L.length c]).alloc (.cells #[.slice none 0 0] 108)
 have b1:=Blk.new (w.alloc (.cells #[.slice a L.length c] 108)) 108 #[.slice none 0 0]
 rw [World.size_alloc] at b1
 have TN:=Lib.hid (rturned_any (h.kept k0) (hr.kept k0) hin hrl hlen hID 2 3)
 have K0:=Lib.hid k0
 have B1:=Lib.hid b1
 have c0:=b0.cell' (i:=0) (v:=.slice a L.length c) rfl
 obtain⟨ra,rc,rfl,_,_⟩:=hr.sl
 clear h hr k0 b1 b0
 go_enter Tryz.func68,Tryz.ntmps68
 go_wp2_with (go_at_call 114;refine TN.out.mono ?_;rintro e w1 ⟨⟨u,rfl,ho⟩,hk⟩;obtain⟨ua,uc,rfl⟩:=owns_sl ho;have hb:=hk.blk (fun h=>h) B1.out;have f0:=hb.frozen 0;have d0:=hb.cell' (i:=0) (v:=.slice none 0 0) rfl;have HB:=Lib.hid hb;have HO:=Lib.hid ho;have K1:=Lib.hid (K0.out.trans hk fun _ _ h=>h);have SZ:=Lib.hid K0.out.size;have LTB:=Lib.hid hb.lt;clear hb ho hk)
 have e0:=(HB.out.set_ 0 (.slice ua L.length uc)).cell' (i:=0) (v:=.slice ua L.length uc) (by simp)
 exact bodyPost_ret (v:=.tuple #[.agg #[.slice ua L.length uc],.int .i64 (turnN rs 2 L)]) (by simp [results,Tryz.results68,go_sem,e0]) rfl ⟨⟨_,rfl,owns_base9 (owns_keep HO.out (kept_cell w1 (w.heap.size+1) _) (fun b hb h9=>by have h8:=owns_new HO.out b hb;simp at h8;omega)) SZ.out⟩,K1.out.trans (kept_cell w1 (w.heap.size+1) _) (fun b hb h9=>by omega)⟩
end Go.Proofs.YtjohljmpcblpjaaGreatDoor.Tr
namespace Go.Proofs.YtjohljmpcblpjaaGreatDoor.Tr
open Go.RowKit Go.Sort Go.Proofs.YtjohljmpcblpjaaGreatDoor.St
attribute [local go_sem] Oper.semAt_some
def headRef (B:List Nd) (i:ID):Bool:=match B with | []=>false | m::_=>decide (m.ref=i)
theorem collR_cons (x:Nd) (r:List Nd):collR (x::r)=if x.st=3∧headRef (collR r) x.id=false then collR r else x::collR r:=by
 have e:(∀m,(collR r).head?=some m→m.ref≠x.id)↔headRef (collR r) x.id=false:=by
  unfold headRef
  cases collR r with
  | nil=>simp
  | cons m B=>simp
 show (if x.st=3∧(∀m,(collR r).head?=some m→m.ref≠x.id) then collR r else x::collR r)=_
 by_cases c:x.st=3∧headRef (collR r) x.id=false
 ·rw [if_pos c,if_pos ⟨c.1,e.2 c.2⟩]
 ·rw [if_neg c,if_neg (fun h=>c ⟨h.1,e.1 h.2⟩)]
theorem collN_cons (x:Nd) (r:List Nd):collN (x::r)=if x.st=3∧headRef (collR r) x.id=false then collN r+1 else collN r:=by
 unfold collN
 rw [collR_cons]
 split
 ·simp only [List.length_cons];omega
 ·simp only [List.length_cons];omega
theorem collN_le (L:List Nd):0≤collN L∧collN L≤L.length:=by
 unfold collN
 have:=collR_len L
 omega
theorem rcollect_any {w:World}{v:Value}{L:List Nd}(h:SlAt nodeE w v L) (hlen:L.length≤900000) :
  Calls Tryz.prog 69 #[.agg #[v]] w fun e w'=>(∃u,e=.returned (.tuple #[.agg #[u],.int .i64 (collN L)])∧w'.ownsRow w.heap.size 84 6 u (collR L).length (nodeE.flat (collR L)))∧Kept (fun _=>False) w w':=by
 obtain⟨a,c,rfl,_,_⟩:=h.sl
 have hk0:Kept (fun _=>False) w ((w.alloc (.cells #[.slice a L.length c] 108)).alloc (.cells #[.slice none 0 0] 108)):=((Kept.refl _ _).alloc _).alloc _
 have HL:=Lib.hid (h.kept hk0)
 have K0:=Lib.hid hk0
 have b0:=(Blk.new w 108 #[.slice a L.length c]).alloc (.cells #[.slice none 0 0] 108)
 have b1:=Blk.new (w.alloc (.cells #[.slice a L.length c] 108)) 108 #[.slice none 0 0]
 rw [World.size_alloc] at b1
 clear h hk0
 go_enter Tryz.func69,Tryz.ntmps69
 go_upto_region 1 with fail
 obtain⟨z,hz⟩:∃z,w.heap.size=z:=⟨_,rfl⟩
 obtain⟨W0,hW0⟩:∃W0,((w.alloc (.cells #[.slice a L.length c] 108)).alloc (.cells #[.slice none 0 0] 108))=W0:=⟨_,rfl⟩
 rw [hW0] at HL K0 b0 b1 ⊢
 rw [hz] at b0 b1 ⊢
 have B0:=Lib.hid b0
 have B1:=Lib.hid b1
 have HZ:=Lib.hid hz
 have c0':=b0.cell' (i:=0) (v:=.slice a L.length c) rfl
 have hLI:(L.length:Int)≤900000:=by omega
 have ewL:IntKind.i64.wrap ((L.length:Int) - 1)=(L.length:Int) - 1:=IntWalk.i64_in _ (by omega)
 clear hW0 hz b0 b1
 go_wp2_with fail
 clear c0' ewL
 go_loopw [4,5,6] (fun bv nv iv wr=>∃k:Nat,iv=.int .i64 ((k:Int) - 1)∧nv=.int .i64 (collN (L.drop k))∧k≤L.length∧wr.ownsRow W0.heap.size 84 6 bv (collR (L.drop k)).length (nodeE.flat (collR (L.drop k)).reverse)∧Kept (fun _=>False) W0 wr) (fun _ _ iv _=>(intOf iv+1).toNat)
 case atStart=>exact⟨L.length,rfl,by rw [List.drop_length];rfl,Nat.le_refl _,by rw [List.drop_length];exact World.ownsRow_nil ..,Kept.refl _ _⟩
 case round =>
  obtain⟨k,rfl,rfl,hk,ho,hkw⟩:=hrel
  obtain⟨ua,uc,rfl⟩:=owns_sl ho
  have HO:=Lib.hid ho
  have KW:=Lib.hid hkw
  have c0:=(hkw.blk (fun h=>h) B0.out).cell' (i:=0) (v:=.slice a L.length c) rfl
  have hcl:=collR_len (L.drop k)
  have hcd:(L.drop k).length≤L.length:=by rw [List.length_drop];omega
  have hcn:=collN_le (L.drop k)
  clear ho hkw
  by_cases hk0:k=0
  case pos =>
   have hnl:¬(0:Int)≤(k:Int) - 1:=by omega
   have EB:Hid (L.drop k=L):=Lib.hid (by rw [hk0];rfl)
   rw [EB.out] at HO hcl hcn ⊢
   obtain⟨C,hC⟩:∃C,collR L=C:=⟨_,rfl⟩
   obtain⟨cn,hcnn⟩:∃cn,collN L=cn:=⟨_,rfl⟩
   obtain⟨n1,hn1⟩:∃n1,C.length=n1:=⟨_,rfl⟩
   rw [hC,hn1] at HO hcl ⊢
   rw [hcnn] at hcn ⊢
   have HC:=Lib.hid hC
   have HCN:=Lib.hid hcnn
   have HN1:=Lib.hid hn1
   have hnI:(n1:Int)≤900000:=by omega
   have ewn:IntKind.i64.wrap ((n1:Int) - 1)=(n1:Int) - 1:=IntWalk.i64_in _ (by omega)
   obtain⟨w9,hw9⟩:∃w9,wr=w9:=⟨_,rfl⟩
   rw [hw9] at HO KW ⊢
   clear hC hcnn hn1 hw9 c0
   go_wp2_with fail
   clear ewn
   go_loopw [9,10] (fun ov iv wx=>∃k:Nat,iv=.int .i64 ((k:Int) - 1)∧k≤n1∧wx.ownsRow w9.heap.size 84 6 ov (C.reverse.drop k).length (nodeE.flat (C.reverse.drop k).reverse)∧Kept (fun _=>False) w9 wx) (fun _ iv _=>(intOf iv+1).toNat)
   case atStart=>exact⟨n1,rfl,Nat.le_refl _,by rw [List.drop_of_length_le (by rw [List.length_reverse,HN1.out];exact Nat.le_refl _)];exact World.ownsRow_nil ..,Kept.refl _ _⟩
   case round =>
    obtain⟨k2,rfl,hk2,ho2,hkw2⟩:=hrel
    obtain⟨va,vc,rfl⟩:=owns_sl ho2
    have HO2:=Lib.hid ho2
    have KW2:=Lib.hid hkw2
    clear ho2 hkw2
    by_cases hk20:k2=0
    case pos =>
     have hnl2:¬(0:Int)≤(k2:Int) - 1:=by omega
     have e9:C.reverse.drop k2=C.reverse:=by rw [hk20];rfl
     rw [e9,List.reverse_reverse,List.length_reverse,HN1.out] at HO2
     rw [e9,List.length_reverse,HN1.out]
     have KT:=Lib.hid (KW.out.trans KW2.out fun _ _ h=>h)
     have hb1:=KT.out.blk (fun h=>h) B1.out
     have f1:=hb1.frozen 0
     have c1:=hb1.cell' (i:=0) (v:=.slice none 0 0) rfl
     have HB1:=Lib.hid hb1
     have hzl:z+1<W0.heap.size:=B1.out.lt
     clear hb1 e9
     go_wp2_with fail
     have c9:=(HB1.out.set_ 0 (.slice va n1 vc)).cell' (i:=0) (v:=(.slice va n1 vc)) (by simp)
     refine bodyPost_ret (v:=.tuple #[.agg #[(.slice va n1 vc)],.int .i64 cn]) (by simp [results,Tryz.results69,go_sem,c9]) rfl ⟨⟨(.slice va n1 vc),by rw [HCN.out],?_⟩,(K0.out.trans KT.out fun _ _ h=>h).trans (kept_cell wr (z+1) (.slice va n1 vc)) (fun b hb h9=>by have:=HZ.out;omega)⟩
     rw [HC.out,HN1.out]
     have hsz9:=KW.out.size
     exact owns_base9 (owns_keep HO2.out (kept_cell wr (z+1) (.slice va n1 vc)) (fun b hb h9=>by have:=owns_new HO2.out b hb;omega)) (Nat.le_trans K0.out.size hsz9)
    case neg =>
     obtain⟨j,rfl⟩:∃j,k2=j+1:=⟨k2-1,by omega⟩
     have ej:(((j+1:Nat):Int) - 1)=(j:Int):=by omega
     rw [ej]
     have hj0:(0:Int)≤j:=by omega
     have hjl:(j:Int)<n1:=by omega
     obtain⟨_,⟨_,hno⟩ | ⟨g',cap,hv,_,hO⟩⟩:=own_of (E:=nodeE) HO.out
     ·have:=congrArg List.length hno;rw [List.length_reverse,HN1.out] at this;simp at this;omega
     injection hv with q1 _ q3
     subst q1 q3
     obtain⟨y,hy⟩:=get_of_lt (show j<C.reverse.length by rw [List.length_reverse,HN1.out];omega)
     have hd:C.reverse.drop j=y::C.reverse.drop (j+1):=by rw [List.drop_eq_getElem_cons (by rw [List.length_reverse,HN1.out];omega),(List.getElem?_eq_some_iff.1 hy).2]
     obtain⟨D,hD⟩:∃D,C.reverse.drop (j+1)=D:=⟨_,rfl⟩
     rw [hD] at HO2 hd ⊢
     have hDl:D.length≤900000:=by rw [←hD,List.length_drop,List.length_reverse,HN1.out];omega
     obtain⟨dl,hdl⟩:∃dl,D.length=dl:=⟨_,rfl⟩
     rw [hdl] at HO2 hDl ⊢
     have HDD:=Lib.hid hd
     have HDL:=Lib.hid hdl
     have HDB:=Lib.hid hDl
     have hO9:=hO.keep KW2.out (fun h=>h)
     have y0:wr.cell? ⟨g',j * 6,none⟩=some (.int .i64 y.id.t):=hO9.cell hy (j:=0) rfl
     have y1:wr.cell? ⟨g',j * 6+1,none⟩=some (.int .i64 y.id.s):=hO9.cell hy (j:=1) rfl
     have y2:wr.cell? ⟨g',j * 6+2,none⟩=some (.int .i64 y.ref.t):=hO9.cell hy (j:=2) rfl
     have y3:wr.cell? ⟨g',j * 6+3,none⟩=some (.int .i64 y.ref.s):=hO9.cell hy (j:=3) rfl
     have y4:wr.cell? ⟨g',j * 6+4,none⟩=some (.int .i32 y.rune):=hO9.cell hy (j:=4) rfl
     have y5:wr.cell? ⟨g',j * 6+5,none⟩=some (.int .i64 y.st):=hO9.cell hy (j:=5) rfl
     have ewj:IntKind.i64.wrap ((j:Int) - 1)=(j:Int) - 1:=IntWalk.i64_in _ (by omega)
     have LD:Hid (SlAt nodeE (wr.alloc (.cells #[.int .i64 y.id.t,.int .i64 y.id.s,.int .i64 y.ref.t,.int .i64 y.ref.s,.int .i32 y.rune,.int .i64 y.st] 84)) (.slice (some ⟨wr.heap.size,0,none⟩) 1 1) [y]):=Lib.hid (SlAt.lit (E:=nodeE) [y] _ rfl (by simp [maxLen]))
     have kal:Kept (fun _=>False) wr (wr.alloc (.cells #[.int .i64 y.id.t,.int .i64 y.id.s,.int .i64 y.ref.t,.int .i64 y.ref.s,.int .i32 y.rune,.int .i64 y.st] 84)):=(Kept.refl _ _).alloc _
     have O3:=Lib.hid (owns_keep HO2.out kal fun _ _ h=>h)
     have K3:=Lib.hid (KW2.out.trans kal fun _ _ h=>h)
     have RL:Hid (D.reverse.length=dl):=Lib.hid (by rw [List.length_reverse];exact HDL.out)
     clear hO hO9 hy hd hD hDl hdl kal
     go_wp2_with (at_builtin;refine wpList_append_row nodeE rfl (.tmp 59) (.tmp 64) 51 rfl w9.heap.size 84 _ 48 Tryz.underlying51 info_node rfl (D:=D.reverse) rfl rfl (by rw [RL.out];exact O3.out) LD.out (by rw [RL.out];have:=HDB.out;show dl+1≤maxLen;unfold maxLen;omega) (by rw [RL.out];have:=HDB.out;show (dl+1) * 48≤140737488355328;omega) K3.out.size ?_;intro v9 w10 ho9 hk9)
     go_roundw
     case rel=>exact⟨j,rfl,by omega,by rw [HDD.out,List.reverse_cons,List.length_cons,HDL.out];have h9:=ho9;rw [List.length_append,RL.out] at h9;exact h9,K3.out.over hk9 (fun b hb=>owns_new O3.out b hb)⟩
     case measure=>simp [intOf] <;> omega
  case neg =>
   obtain⟨j,rfl⟩:∃j,k=j+1:=⟨k-1,by omega⟩
   have ej:(((j+1:Nat):Int) - 1)=(j:Int):=by omega
   rw [ej]
   have hj0:(0:Int)≤j:=by omega
   have hjl:(j:Int)<L.length:=by omega
   obtain⟨x,hx⟩:=get_of_lt (show j<L.length by omega)
   have hd:L.drop j=x::L.drop (j+1):=by rw [List.drop_eq_getElem_cons (by omega),(List.getElem?_eq_some_iff.1 hx).2]
   obtain⟨B,hB⟩:∃B,collR (L.drop (j+1))=B:=⟨_,rfl⟩
   obtain⟨cn,hcnn⟩:∃cn,collN (L.drop (j+1))=cn:=⟨_,rfl⟩
   rw [hB] at HO hcl ⊢
   rw [hcnn] at hcn ⊢
   have hcR:=collR_cons x (L.drop (j+1))
   have hcN:=collN_cons x (L.drop (j+1))
   rw [←hd,hB] at hcR hcN
   rw [hcnn] at hcN
   have CR:=Lib.hid hcR
   have CN:=Lib.hid hcN
   have hBl:B.length≤900000:=by omega
   have HBL:=Lib.hid hBl
   obtain⟨g,o,c',e1,_,h1⟩:=SlAt.node (HL.out.kept KW.out) (by omega)
   cases e1
   obtain⟨r0,r1,r2,r3,r4,r5⟩:=h1 j x hx
   have ewj:IntKind.i64.wrap ((j:Int) - 1)=(j:Int) - 1:=IntWalk.i64_in _ (by omega)
   have ewc:IntKind.i64.wrap (cn+1)=cn+1:=IntWalk.i64_in _ (by omega)
   have kx:Kept (fun _=>False) wr (wr.alloc (.cells #[.int .i64 x.id.t,.int .i64 x.id.s,.int .i64 x.ref.t,.int .i64 x.ref.s,.int .i32 x.rune,.int .i64 x.st] 84)):=(Kept.refl _ _).alloc _
   have hB2:=Blk.new wr 84 #[.int .i64 x.id.t,.int .i64 x.id.s,.int .i64 x.ref.t,.int .i64 x.ref.s,.int .i32 x.rune,.int .i64 x.st]
   have K1:=Lib.hid (KW.out.trans kx fun _ _ h=>h)
   have O1:=Lib.hid (owns_keep HO.out kx fun _ _ h=>h)
   clear hd hB hcnn hcR hcN h1 hx hcl hcd hBl
   go_upto_region 7 with fail
   obtain⟨W1,hW1⟩:∃W1,(wr.alloc (.cells #[.int .i64 x.id.t,.int .i64 x.id.s,.int .i64 x.ref.t,.int .i64 x.ref.s,.int .i32 x.rune,.int .i64 x.st] 84))=W1:=⟨_,rfl⟩
   obtain⟨zb,hzb⟩:∃zb,wr.heap.size=zb:=⟨_,rfl⟩
   rw [hzb] at hB2 ⊢
   rw [hW1] at hB2 K1 O1 ⊢
   clear hW1 hzb kx r0 r1 r2 r3 r4 r5 c0 HO KW
   have z0:=hB2.cell' (i:=0) (v:=.int .i64 x.id.t) rfl
   have z1:=hB2.cell' (i:=1) (v:=.int .i64 x.id.s) rfl
   have BX:=Lib.hid hB2
   clear hB2
   obtain⟨n1,hn1⟩:∃n1,B.length=n1:=⟨_,rfl⟩
   rw [hn1] at O1 ⊢
   have HN1:=Lib.hid hn1
   clear hn1
   go_cut [8] (fun v wx=>v=.bool (headRef B x.id)∧∃q,wx=W1.drewN q)
   case first =>
    cases B with
    | nil =>
     obtain rfl:n1=0:=HN1.out.symm
     go_wp2_with fail
     go_quiet (fail)
     go_wp2_with fail
     go_meet
     case rel=>exact⟨rfl,_,rfl⟩
    | cons m B' =>
     obtain⟨_,⟨_,hno⟩ | ⟨g',cap,hv,_,hO⟩⟩:=own_of (E:=nodeE) O1.out
     ·simp at hno
     injection hv with q1 _ q3
     subst q1 q3
     obtain⟨bn,hbn⟩:∃bn,B'.length=bn:=⟨_,rfl⟩
     have hlast:((m::B').reverse)[bn]?=some m:=by rw [List.reverse_cons,List.getElem?_append_right (by simp;omega)];simp [hbn]
     have y0:W1.cell? ⟨g',bn * 6+2,none⟩=some (.int .i64 m.ref.t):=hO.cell hlast (j:=2) rfl
     have y1:W1.cell? ⟨g',bn * 6+3,none⟩=some (.int .i64 m.ref.s):=hO.cell hlast (j:=3) rfl
     have hn1:bn+1=n1:=by rw [←HN1.out];simp [hbn]
     have hbb:(bn:Int)≤900000:=by have:=HBL.out;simp at this;omega
     have heq:=eq_id m.ref x.id
     have ew1:IntKind.i64.wrap ((n1:Int) - 1)=(bn:Int):=by rw [IntWalk.i64_in _ (by omega)];omega
     have hn1p:(0:Int)<n1:=by omega
     have hn1n:0<n1:=by omega
     have hg1:decide (0<n1)=true:=decide_eq_true hn1n
     have hg2:decide ((0:Int)<n1)=true:=decide_eq_true hn1p
     have hbn1:(bn:Int)<n1:=by omega
     have hbn0:(0:Int)≤bn:=by omega
     clear hO hlast hbn hn1
     go_wp2_with fail
     go_quiet (fail)
     go_wp2_with fail
     go_meet
     case rel=>exact⟨rfl,_,rfl⟩
   case' rest =>
   obtain⟨rfl,q,rfl⟩:=hcut
   have hBX:=(Kept.refl (fun _=>False) W1).drewN q |>.blk (fun h=>h) BX.out
   have z0:=hBX.cell' (i:=0) (v:=.int .i64 x.id.t) rfl
   have z1:=hBX.cell' (i:=1) (v:=.int .i64 x.id.s) rfl
   have z2:=hBX.cell' (i:=2) (v:=.int .i64 x.ref.t) rfl
   have z3:=hBX.cell' (i:=3) (v:=.int .i64 x.ref.s) rfl
   have z4:=hBX.cell' (i:=4) (v:=.int .i32 x.rune) rfl
   have z5:=hBX.cell' (i:=5) (v:=.int .i64 x.st) rfl
   have K2:=Lib.hid (K1.out.drewN q)
   have O2:=Lib.hid (owns_keep O1.out ((Kept.refl (fun _=>False) W1).drewN q) fun _ _ h=>h)
   obtain⟨W2,hW2⟩:∃W2,W1.drewN q=W2:=⟨_,rfl⟩
   rw [hW2] at z0 z1 z2 z3 z4 z5 K2 O2 ⊢
   obtain⟨bh,hbh⟩:∃bh,headRef B x.id=bh:=⟨_,rfl⟩
   rw [hbh] at CR CN ⊢
   clear hW2 hBX hbh
   by_cases hgo:x.st=3∧bh=false
   ·obtain⟨hs3,hbf⟩:=hgo
    subst hbf
    have CR2:Hid (collR (L.drop j)=B):=Lib.hid (by rw [CR.out,if_pos ⟨hs3,rfl⟩])
    have CN2:Hid (collN (L.drop j)=cn+1):=Lib.hid (by rw [CN.out,if_pos ⟨hs3,rfl⟩])
    rw [hs3] at z5
    go_wp2_with fail
    go_roundw
    case rel=>exact⟨j,rfl,by rw [CN2.out],by omega,by rw [CR2.out,HN1.out];exact O2.out,K2.out⟩
    case measure=>simp [intOf] <;> omega
   ·have CR2:Hid (collR (L.drop j)=x::B):=Lib.hid (by rw [CR.out,if_neg hgo])
    have CN2:Hid (collN (L.drop j)=cn):=Lib.hid (by rw [CN.out,if_neg hgo])
    have LD:Hid (SlAt nodeE (W2.alloc (.cells #[.int .i64 x.id.t,.int .i64 x.id.s,.int .i64 x.ref.t,.int .i64 x.ref.s,.int .i32 x.rune,.int .i64 x.st] 84)) (.slice (some ⟨W2.heap.size,0,none⟩) 1 1) [x]):=Lib.hid (SlAt.lit (E:=nodeE) [x] _ rfl (by simp [maxLen]))
    have kal:Kept (fun _=>False) W2 (W2.alloc (.cells #[.int .i64 x.id.t,.int .i64 x.id.s,.int .i64 x.ref.t,.int .i64 x.ref.s,.int .i32 x.rune,.int .i64 x.st] 84)):=(Kept.refl _ _).alloc _
    have O3:=Lib.hid (owns_keep O2.out kal fun _ _ h=>h)
    have K3:=Lib.hid (K2.out.trans kal fun _ _ h=>h)
    have RL:Hid (B.reverse.length=n1):=Lib.hid (by rw [List.length_reverse];exact HN1.out)
    have hst:(x.st=3∧bh=true)∨¬x.st=3:=by
     by_cases h3:x.st=3
     ·exact .inl ⟨h3,by cases bh;exact absurd ⟨h3,rfl⟩ hgo;rfl⟩
     ·exact .inr h3
    clear kal hgo
    rcases hst with ⟨h3,hb3⟩|h3
    case' inl =>
     subst hb3
     obtain⟨xi,xr,xc,xs⟩:=x
     simp only at h3 LD CR2 O3 K3 z0 z1 z2 z3 z4 z5
     subst h3
    case' inr=>have h3b:(x.st == 3)=false:=by simpa using h3
    all_goals
     go_wp2_with (at_builtin;refine wpList_append_row nodeE rfl (.tmp 48) (.tmp 50) 51 rfl W0.heap.size 84 _ 48 Tryz.underlying51 info_node rfl (D:=B.reverse) rfl rfl (by rw [RL.out];exact O3.out) LD.out (by rw [RL.out];have:=HBL.out;have:=HN1.out;show n1+1≤maxLen;unfold maxLen;omega) (by rw [RL.out];have:=HBL.out;have:=HN1.out;show (n1+1) * 48≤140737488355328;omega) K3.out.size ?_;intro v9 w9 ho9 hk9)
     go_roundw
     case rel=>exact⟨j,rfl,by rw [CN2.out],by omega,by rw [CR2.out,List.reverse_cons,List.length_cons,HN1.out];have h9:=ho9;rw [List.length_append,RL.out] at h9;exact h9,K3.out.over hk9 (fun b hb=>owns_new O3.out b hb)⟩
     case measure=>simp [intOf] <;> omega
end Go.Proofs.YtjohljmpcblpjaaGreatDoor.Tr
