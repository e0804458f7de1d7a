/- hearsayref11: end. hearsayref11: place. isRune; rows of nodes compared. hearsayref1: IsRune, Encode, Text. Parts of the proof. -/
import Derived.Test.YtjohljmpcblpjaaGreatDoorM31
set_option maxRecDepth 100000
set_option maxHeartbeats 8000000
namespace Go.Proofs.YtjohljmpcblpjaaGreatDoor.Tr
open Go.RowKit Go.Sort Go.Proofs.YtjohljmpcblpjaaGreatDoor.St
theorem endGo_cons (m:Nd) (R:List Nd) (U:List ID):endGo (m::R) U=if m.ref∈U then endGo R (U++[m.id])+1 else 0:=rfl
theorem rend_any {w:World}{v:Value}{L:List Nd}(h:SlAt nodeE w v L) (hlen:L.length≤900000) (i:Nat) (hi:i<L.length) :
  Calls Tryz.prog 163 #[v,.int .i64 i] w fun e w'=>e=.returned (.int .i64 (endP L i))∧Kept (fun _=>False) w w':=by
 obtain⟨x0,hx0⟩:=get_of_lt hi
 obtain⟨g,o,c,rfl,_,h1⟩:=SlAt.node h (by omega)
 obtain⟨r0,r1,_⟩:=h1 i x0 hx0
 have hi0:(0:Int)≤i:=by omega
 have hil:(i:Int)<L.length:=by omega
 have e0:IntKind.i64.wrap ((i:Int)+1)=(i:Int)+1:=IntWalk.i64_in _ (by omega)
 have hE0:endP L i=i+1+endGo (L.drop (i+1)) [x0.id]:=by unfold endP;rw [hx0]
 obtain⟨E,hE⟩:∃E,endP L i=E:=⟨_,rfl⟩
 rw [hE] at hE0 ⊢
 have EE:=Lib.hid hE0
 have HL:=Lib.hid h
 obtain⟨⟨xt,xs⟩,xr,xc,xst⟩:=x0
 simp only at r0 r1 EE
 have U0:Hid ((w.alloc (.cells #[.int .i64 xt,.int .i64 xs] 59)).ownsRow w.heap.size 59 2 (.slice (some ⟨w.heap.size,0,none⟩) 1 1) [(⟨xt,xs⟩:ID)].length (idE.flat [(⟨xt,xs⟩:ID)])):=Lib.hid
  ⟨by simp [idE,Enc.flat],.inr ⟨_,1,_,rfl,Nat.le_refl _,Blk.new w _ _,Nat.le_refl _,by simp [maxLen],by simp,by simp [idE,Enc.flat]⟩⟩
 have K0:Hid (Kept (fun _=>False) w (w.alloc (.cells #[.int .i64 xt,.int .i64 xs] 59))):=Lib.hid ((Kept.refl _ _).alloc _)
 clear h h1 hx0 hE0 hE
 go_enter Tryz.func163,Tryz.ntmps163
 go_wp2_with fail
 clear r0 r1 e0 hil hi0
 go_loopw [5,6] (fun uv kv wr=>∃(k:Nat) (U:List ID),kv=.int .i64 k∧k≤L.length∧U.length≤k+1∧E=k+endGo (L.drop k) U∧wr.ownsRow w.heap.size 59 2 uv U.length (idE.flat U)∧Kept (fun _=>False) w wr) (fun _ kv _=>L.length-(intOf kv).toNat)
 case atStart=>exact⟨i+1,_,by push_cast;rfl,by omega,by simp,EE.out,U0.out,K0.out⟩
 case round =>
  obtain⟨k,U,rfl,hk,hUk,hEk,ho,hkw⟩:=hrel
  have EK:=Lib.hid hEk
  have HO:=Lib.hid ho
  have KW:=Lib.hid hkw
  obtain⟨ua,uc,rfl⟩:=owns_sl ho
  have hk0:(0:Int)≤k:=by omega
  clear hEk ho hkw U0 K0 EE
  by_cases hlt:k<L.length
  case neg =>
   have hnl:¬(k:Int)<L.length:=by omega
   have EN:Hid (E=k):=Lib.hid (by rw [EK.out,List.drop_of_length_le (by omega)];rfl)
   go_wp2_with fail
   go_ret
   exact⟨by rw [EN.out];rfl,KW.out⟩
  case pos =>
   have hnl:(k:Int)<L.length:=by omega
   obtain⟨x,hx⟩:=get_of_lt hlt
   obtain⟨g',o',c',e1,_,h1⟩:=SlAt.node (HL.out.kept KW.out) (by omega)
   cases e1
   obtain⟨r0,r1,r2,r3,r4,r5⟩:=h1 k x hx
   have EX:Hid (E=k+if x.ref∈U then endGo (L.drop (k+1)) (U++[x.id])+1 else 0):=Lib.hid (by
    rw [EK.out,List.drop_eq_getElem_cons hlt,(List.getElem?_eq_some_iff.1 hx).2,endGo_cons])
   have hUb:U.length≤900001:=by omega
   have e1:IntKind.i64.wrap ((U.length:Int) - 1)=(U.length:Int) - 1:=IntWalk.i64_in _ (by omega)
   have e2:IntKind.i64.wrap ((k:Int)+1)=(k:Int)+1:=IntWalk.i64_in _ (by omega)
   have SU:=Lib.hid (owns_slAt HO.out)
   clear hx h1
   go_wp2_with fail
   go_loopw [7,8] (fun fv jv w2=>∃(p q:Nat) (b:Bool),fv=.bool b∧jv=.int .i64 ((p:Int) - 1)∧p≤U.length∧(b=true→x.ref∈U)∧(b=false→∀y∈U.drop p,y≠x.ref)∧w2=wr.drewN q) (fun fv jv _=>(intOf jv+1).toNat)
   case atStart=>exact⟨U.length,0,false,rfl,rfl,Nat.le_refl _,(fun h=>by cases h),(fun _ y hy=>by simp at hy),rfl⟩
   case round =>
    obtain⟨p,q,b,rfl,rfl,hp,ht,hf,rfl⟩:=hrel
    cases b with
    | true =>
     have HT:=Lib.hid (ht rfl)
     clear hf
     by_cases hp0:(0:Int)≤(p:Int) - 1
     case pos =>
      have KW2:Hid (Kept (fun _=>False) w ((wr.drewN q).alloc (.cells #[.int .i64 x.id.t,.int .i64 x.id.s] 59))):=Lib.hid ((KW.out.drewN q).alloc _)
      have O2:Hid (((wr.drewN q).alloc (.cells #[.int .i64 x.id.t,.int .i64 x.id.s] 59)).ownsRow w.heap.size 59 2 (.slice ua U.length uc) U.length (idE.flat U)):=Lib.hid (owns_keep HO.out (((Kept.refl (fun _=>False) wr).drewN q).alloc _) (fun _ _ h=>h))
      have LD:Hid (SlAt idE ((wr.drewN q).alloc (.cells #[.int .i64 x.id.t,.int .i64 x.id.s] 59)) (.slice (some ⟨(wr.drewN q).heap.size,0,none⟩) 1 1) [x.id]):=Lib.hid (SlAt.lit (E:=idE) [x.id] _ rfl (by simp [maxLen]))
      go_wp2_with (at_builtin;refine wpList_append_row idE rfl (.tmp 44) (.tmp 50) 39 rfl w.heap.size 59 _ 16 Tryz.underlying39 info_id2 rfl (D:=U) rfl rfl O2.out LD.out (by show U.length+1≤maxLen;unfold maxLen;omega) (by show (U.length+1) * 16≤140737488355328;omega) KW2.out.size ?_;intro v9 w9 ho9 hk9)
      go_roundw
      case rel=>exact⟨k+1,U++[x.id],by go_num,by omega,by rw [List.length_append];simp;omega,by rw [EX.out,if_pos (ht rfl)];omega,ho9,KW2.out.over hk9 (fun b hb=>owns_new O2.out b hb)⟩
      case measure=>simp [intOf];omega
     case neg =>
      have KW2:Hid (Kept (fun _=>False) w ((wr.drewN q).alloc (.cells #[.int .i64 x.id.t,.int .i64 x.id.s] 59))):=Lib.hid ((KW.out.drewN q).alloc _)
      have O2:Hid (((wr.drewN q).alloc (.cells #[.int .i64 x.id.t,.int .i64 x.id.s] 59)).ownsRow w.heap.size 59 2 (.slice ua U.length uc) U.length (idE.flat U)):=Lib.hid (owns_keep HO.out (((Kept.refl (fun _=>False) wr).drewN q).alloc _) (fun _ _ h=>h))
      have LD:Hid (SlAt idE ((wr.drewN q).alloc (.cells #[.int .i64 x.id.t,.int .i64 x.id.s] 59)) (.slice (some ⟨(wr.drewN q).heap.size,0,none⟩) 1 1) [x.id]):=Lib.hid (SlAt.lit (E:=idE) [x.id] _ rfl (by simp [maxLen]))
      go_wp2_with (at_builtin;refine wpList_append_row idE rfl (.tmp 44) (.tmp 50) 39 rfl w.heap.size 59 _ 16 Tryz.underlying39 info_id2 rfl (D:=U) rfl rfl O2.out LD.out (by show U.length+1≤maxLen;unfold maxLen;omega) (by show (U.length+1) * 16≤140737488355328;omega) KW2.out.size ?_;intro v9 w9 ho9 hk9)
      go_roundw
      case rel=>exact⟨k+1,U++[x.id],by go_num,by omega,by rw [List.length_append];simp;omega,by rw [EX.out,if_pos (ht rfl)];omega,ho9,KW2.out.over hk9 (fun b hb=>owns_new O2.out b hb)⟩
      case measure=>simp [intOf];omega
    | false =>
     have HF:=Lib.hid (hf rfl)
     clear ht hf
     by_cases hp0:(0:Int)≤(p:Int) - 1
     case neg =>
      have EN:Hid (E=k):=Lib.hid (by
       have hn9:x.ref∉U:=fun hm=>by
        have h9:=HF.out x.ref (by rw [show p=0 by omega,List.drop_zero];exact hm)
        exact h9 rfl
       rw [EX.out,if_neg hn9];rfl)
      go_wp2_with fail
      go_ret
      exact⟨by rw [EN.out];rfl,KW.out.drewN q⟩
     case pos =>
      obtain⟨j,rfl⟩:∃j,p=j+1:=⟨p-1,by omega⟩
      have e3:((j+1:Nat):Int) - 1=j:=by omega
      rw [e3] at hp0 ⊢
      have hjl:j<U.length:=by omega
      have hjI:(j:Int)<U.length:=by omega
      have e4:IntKind.i64.wrap ((j:Int) - 1)=(j:Int) - 1:=IntWalk.i64_in _ (by omega)
      obtain⟨y,hy⟩:=get_of_lt hjl
      obtain⟨g2,o2,c2,e5,_,h2⟩:=SlAt.id SU.out (by omega)
      cases e5
      obtain⟨s0,s1⟩:=h2 j y hy
      have heq:=eq_id y x.ref
      have YM:=Lib.hid (List.mem_of_getElem? hy)
      have YD:Hid (U.drop j=y::U.drop (j+1)):=Lib.hid (by rw [List.drop_eq_getElem_cons hjl,(List.getElem?_eq_some_iff.1 hy).2])
      clear hy h2
      by_cases he:y=x.ref
      ·rw [decide_eq_true he] at heq
       have HE:=Lib.hid he
       clear he
       go_wp2_with fail
       go_quiet (fail)
       go_wp2_with fail
       go_roundw
       case rel=>exact⟨j,_,true,rfl,rfl,by omega,fun _=>by rw [←HE.out];exact YM.out,(fun h=>by cases h),rfl⟩
       case measure=>simp [intOf]
      ·rw [decide_eq_false he] at heq
       have HE:=Lib.hid he
       clear he
       go_wp2_with fail
       go_quiet (fail)
       go_wp2_with fail
       go_roundw
       case rel=>exact⟨j,_,false,rfl,rfl,by omega,(fun h=>by cases h),fun _ z hz=>by
        rw [YD.out] at hz
        rcases List.mem_cons.1 hz with rfl|hz
        ·exact HE.out
        ·exact HF.out z hz,rfl⟩
       case measure=>simp [intOf]
theorem endGo_le:∀(R:List Nd) (U:List ID),endGo R U≤R.length
 | [],_=>Nat.le_refl _
 | m::R,U=>by
  rw [endGo_cons]
  split
  ·have:=endGo_le R (U++[m.id]);rw [List.length_cons];omega
  ·exact Nat.zero_le _
theorem endP_in {L:List Nd}{k:Nat}(hk:k<L.length):k<endP L k∧endP L k≤L.length:=by
 unfold endP
 rw [List.getElem?_eq_getElem hk]
 simp only
 have:=endGo_le (L.drop (k+1)) [L[k].id]
 rw [List.length_drop] at this
 omega
theorem placeGo_at {L:List Nd}{k f:Nat}{x:Nd}{ref i:ID}(hx:L[k]?=some x) (hf:L.length≤f+k):∃f',f=f'+1∧placeGo f L ref i k=if x.ref=ref∧i.lt x.id then placeGo f' L ref i (endP L k) else k:=by
 have hk:=(List.getElem?_eq_some_iff.1 hx).1
 obtain⟨f',rfl⟩:∃f',f=f'+1:=⟨f-1,by omega⟩
 refine⟨f',rfl,?_⟩
 show (match L[k]? with | none=>k | some n=>_)=_
 rw [hx]
theorem placeGo_end {L:List Nd}{k f:Nat}{ref i:ID}(hk:L.length≤k):placeGo f L ref i k=k:=by
 cases f with
 | zero=>rfl
 | succ f =>
  show (match L[k]? with | none=>k | some n=>_)=_
  rw [List.getElem?_eq_none hk]
theorem findIdx_first {p:Nd→Bool}:∀ {L:List Nd}{n:Nat}{x:Nd},L[n]?=some x→p x=true→(∀m∈L.take n,p m=false)→L.findIdx p=n
 | [],n,x,h,_,_=>by simp at h
 | y::L,0,x,h,hp,_=>by
  simp at h
  subst h
  rw [List.findIdx_cons,hp]
  rfl
 | y::L,n+1,x,h,hp,hn=>by
  have hy:p y=false:=hn y (by simp)
  rw [List.findIdx_cons,hy]
  have h2:=findIdx_first (L:=L) (n:=n) (x:=x) (by simpa using h) hp fun m hm=>hn m (by simp [hm])
  rw [h2]
  rfl
theorem findIdx_not {p:Nd→Bool}:∀ {L:List Nd},(∀m∈L,p m=false)→L.findIdx p=L.length
 | [],_=>rfl
 | y::L,h=>by
  rw [List.findIdx_cons,h y List.mem_cons_self,findIdx_not (L:=L) fun m hm=>h m (List.mem_cons_of_mem _ hm)]
  rfl
theorem rplace_any {w:World}{v:Value}{L:List Nd}(h:SlAt nodeE w v L) (hlen:L.length≤900000) (i ref:ID) :
  Calls Tryz.prog 139 #[v,idV i,idV ref] w fun e w'=>e=.returned (.int .i64 (placeP L i ref))∧Kept (fun _=>False) w w':=by
 obtain⟨it,is⟩:=i
 obtain⟨rt,rs⟩:=ref
 show Calls _ _ #[_,.agg #[.int .i64 it,.int .i64 is],.agg #[.int .i64 rt,.int .i64 rs]] _ _
 obtain⟨PP,hPP⟩:∃PP,placeP L ⟨it,is⟩ ⟨rt,rs⟩=PP:=⟨_,rfl⟩
 rw [hPP]
 have PE:=Lib.hid hPP
 obtain⟨a,c,rfl,_,_⟩:=h.sl
 have hk0:Kept (fun _=>False) w ((w.alloc (.cells #[.int .i64 it,.int .i64 is] 59)).alloc (.cells #[.int .i64 rt,.int .i64 rs] 59)):=((Kept.refl _ _).alloc _).alloc _
 have b0:=(Blk.new w 59 #[.int .i64 it,.int .i64 is]).alloc (.cells #[.int .i64 rt,.int .i64 rs] 59)
 have b1:=Blk.new (w.alloc (.cells #[.int .i64 it,.int .i64 is] 59)) 59 #[.int .i64 rt,.int .i64 rs]
 rw [World.size_alloc] at b1
 have HL:=Lib.hid (h.kept hk0)
 have K0:=Lib.hid hk0
 clear h hk0 hPP
 go_enter Tryz.func139,Tryz.ntmps139
 go_upto_region 1 with fail
 obtain⟨z,hz⟩:∃z,w.heap.size=z:=⟨_,rfl⟩
 obtain⟨W0,hW0⟩:∃W0,((w.alloc (.cells #[.int .i64 it,.int .i64 is] 59)).alloc (.cells #[.int .i64 rt,.int .i64 rs] 59))=W0:=⟨_,rfl⟩
 rw [hW0] at HL K0 b0 b1 ⊢
 rw [hz] at b0 b1 ⊢
 have B0:=Lib.hid b0
 have B1:=Lib.hid b1
 clear hW0 hz b0 b1
 have c1:=B1.out.cell' (i:=0) (v:=.int .i64 rt) rfl
 have c2:=B1.out.cell' (i:=1) (v:=.int .i64 rs) rfl
 have hne:=ne_id ⟨rt,rs⟩ ⟨0,0⟩ W0
 by_cases hz:(⟨rt,rs⟩:ID)=ID.zero
 case' pos =>
  have P0:Hid (PP=placeGo L.length L ⟨rt,rs⟩ ⟨it,is⟩ 0):=Lib.hid (by rw [←PE.out];unfold placeP;rw [if_pos hz])
  have h0:rt=0:=congrArg ID.t hz
  have h1:rs=0:=congrArg ID.s hz
  clear hne PE hz
  go_wp2_with fail
  clear c1 c2 h0 h1
 case' neg =>
  have PZ:Hid (PP=placeGo L.length L ⟨rt,rs⟩ ⟨it,is⟩ (L.findIdx (fun n=>decide (n.id=⟨rt,rs⟩))+1)):=Lib.hid (by rw [←PE.out];unfold placeP;rw [if_neg hz])
  clear PE hne
  go_upto_region 2 with fail
  go_cut [10] (fun v wx=>v=.bool true∧W0=wx)
  case first =>
   by_cases h0:rt=0
   ·subst h0
    have h1:¬rs=0:=fun h=>hz (by rw [h];rfl)
    clear hz
    go_wp2_with fail
    go_meet
    case rel=>exact⟨rfl,rfl⟩
   ·clear hz
    go_wp2_with fail
    go_meet
    case rel=>exact⟨rfl,rfl⟩
  case' rest =>
   obtain⟨rfl,rfl⟩:=hcut
   clear hz
   go_upto_if 10 with fail
   go_cut [7] (fun v wx=>∃(k q:Nat),v=.int .i64 k∧k≤L.length+1∧PP=placeGo L.length L ⟨rt,rs⟩ ⟨it,is⟩ k∧wx=W0.drewN q)
   case first =>
    go_wp2_with fail
    go_loopw [7] (fun kv wr=>∃n q:Nat,kv=.int .i64 n∧n≤L.length∧(∀m∈L.take n,m.id≠⟨rt,rs⟩)∧wr=W0.drewN q) (fun kv _=>L.length-(intOf kv).toNat)
    case atStart=>exact⟨0,0,rfl,Nat.zero_le _,fun m hm=>by simp at hm,rfl⟩
    case round =>
     obtain⟨n,q,rfl,hn,hno,rfl⟩:=hrel
     have NO:=Lib.hid hno
     clear hno
     have hn0:(0:Int)≤n:=by omega
     have e1:IntKind.i64.wrap ((n:Int)+1)=(n:Int)+1:=IntWalk.i64_in _ (by omega)
     by_cases hlt:n<L.length
     case neg =>
      have hnl:¬(n:Int)<L.length:=by omega
      have FI:Hid (PP=placeGo L.length L ⟨rt,rs⟩ ⟨it,is⟩ (n+1)):=Lib.hid (by
       rw [PZ.out,findIdx_not fun m hm=>decide_eq_false (NO.out m (by rw [List.take_of_length_le (by omega)];exact hm)),show n=L.length by omega])
      go_wp2_with fail
      go_quiet (fail)
      go_wp2_with fail
      go_meet
      case rel=>exact⟨n+1,_,by go_num,by omega,FI.out,rfl⟩
     case pos =>
      have hnl:(n:Int)<L.length:=by omega
      obtain⟨x,hx⟩:=get_of_lt hlt
      obtain⟨g,o,c',e5,_,h1⟩:=SlAt.node HL.out (by omega)
      cases e5
      obtain⟨r0,r1,r2,r3,r4,r5⟩:=h1 n x hx
      have heq:=ne_id x.id ⟨rt,rs⟩
      have HX:=Lib.hid hx
      simp only at heq
      clear hx h1
      by_cases he:x.id=⟨rt,rs⟩
      ·rw [decide_eq_true he] at heq
       have FI:Hid (PP=placeGo L.length L ⟨rt,rs⟩ ⟨it,is⟩ (n+1)):=Lib.hid (by
        rw [PZ.out,findIdx_first HX.out (decide_eq_true he) fun m hm=>decide_eq_false (NO.out m hm)])
       clear he
       go_wp2_with fail
       go_quiet (fail)
       go_wp2_with fail
       go_meet
       case rel=>exact⟨n+1,_,by go_num,by omega,FI.out,rfl⟩
      ·rw [decide_eq_false he] at heq
       have HE:=Lib.hid he
       clear he
       go_wp2_with fail
       go_quiet (fail)
       go_wp2_with fail
       go_roundw
       case rel =>
        refine⟨n+1,_,by go_num,by omega,fun m hm=>?_,rfl⟩
        rw [List.take_add_one,HX.out] at hm
        rcases List.mem_append.1 hm with hm|hm
        ·exact NO.out m hm
        ·have h9:m=x:=by simpa using hm
         rw [h9]
         exact HE.out
       case measure=>simp [intOf];omega
   case' rest =>
    obtain⟨k0,q0,rfl,hk0,hP0,rfl⟩:=hcut
    have P0:=Lib.hid hP0
    clear hP0 PZ
    go_wp2_with fail
    clear c1 c2
 all_goals
  go_loopw [7] (fun kv wr=>∃k f:Nat,kv=.int .i64 k∧k≤L.length+1∧PP=placeGo f L ⟨rt,rs⟩ ⟨it,is⟩ k∧L.length≤f+k∧Kept (fun _=>False) W0 wr) (fun kv _=>L.length-(intOf kv).toNat)
  case atStart=>first | exact⟨0,L.length,rfl,Nat.zero_le _,P0.out,by omega,Kept.refl _ _⟩ | exact⟨k0,L.length,rfl,hk0,P0.out,by omega,(Kept.refl _ _).drewN _⟩
  case round =>
   obtain⟨k,f,rfl,hkl,hP,hf,hg⟩:=hrel
   have HG:=Lib.hid hg
   have HP:=Lib.hid hP
   have hk1:(0:Int)≤k:=by omega
   have hb0:=hg.blk (fun h=>h) B0.out
   have hb1:=hg.blk (fun h=>h) B1.out
   have d0:=hb0.cell' (i:=0) (v:=.int .i64 it) rfl
   have d1:=hb0.cell' (i:=1) (v:=.int .i64 is) rfl
   have d2:=hb1.cell' (i:=0) (v:=.int .i64 rt) rfl
   have d3:=hb1.cell' (i:=1) (v:=.int .i64 rs) rfl
   have hmix:Tryz.prog.follows .mixedOrders=true:=by kernel_rfl
   clear hg hP
   by_cases hlt:k<L.length
   case neg =>
    have hnl:¬(k:Int)<L.length:=by omega
    have AN:Hid (PP=k):=Lib.hid (by rw [HP.out];exact placeGo_end (by omega))
    clear hb0 hb1
    go_wp2_with fail
    go_quiet (fail)
    go_wp2_with fail
    go_ret
    exact⟨by rw [AN.out];rfl,(K0.out.trans HG.out fun _ _ h=>h).drewN _⟩
   case pos =>
    have hnl:(k:Int)<L.length:=by omega
    obtain⟨x,hx⟩:=get_of_lt hlt
    obtain⟨f',hfe,hpe⟩:=placeGo_at (ref:=⟨rt,rs⟩) (i:=⟨it,is⟩) hx hf
    subst hfe
    have PX:=Lib.hid (HP.out.trans hpe)
    have hsl:=HL.out.kept HG.out
    have HSL:=Lib.hid hsl
    obtain⟨g,o,c',e5,hgl,h1⟩:=SlAt.node hsl (by omega)
    cases e5
    obtain⟨r0,r1,r2,r3,r4,r5⟩:=h1 k x hx
    have heq:=eq_id x.ref ⟨rt,rs⟩
    simp only at heq
    clear hx h1 hpe hsl
    by_cases he:x.ref=⟨rt,rs⟩
    case neg =>
     rw [decide_eq_false he] at heq
     have AN:Hid (PP=k):=Lib.hid (by rw [PX.out,if_neg (fun h=>he h.1)])
     clear he hb0 hb1
     go_wp2_with fail
     go_quiet (fail)
     go_wp2_with fail
     go_ret
     exact⟨by rw [AN.out];rfl,(K0.out.trans HG.out fun _ _ h=>h).drewN _⟩
    case pos =>
     rw [decide_eq_true he] at heq
     have HE:=Lib.hid he
     obtain⟨lb,hlb⟩:∃b,decide ((⟨it,is⟩:ID).lt x.id)=b:=⟨_,rfl⟩
     have HLW:Hid (∀W',Grew wr W'→Calls Tryz.prog 137 #[.agg #[.int .i64 it,.int .i64 is],.agg #[.int .i64 x.id.t,.int .i64 x.id.s]] W' fun e w''=>e=.returned (.bool lb)∧Grew W' w''):=Lib.hid (fun W' _=>by rw [←hlb];exact lower_any ⟨it,is⟩ x.id W')
     have LB:=Lib.hid hlb
     have cg0:=cell_grown (a:=⟨z,0,none⟩) hb0.lt d0
     have cg1:=cell_grown (a:=⟨z,1,none⟩) hb0.lt d1
     have cg2:=cell_grown (a:=⟨z+1,0,none⟩) hb1.lt d2
     have cg3:=cell_grown (a:=⟨z+1,1,none⟩) hb1.lt d3
     have cg4:=cell_grown (a:=⟨g,o+k * 6,none⟩) hgl r0
     have cg5:=cell_grown (a:=⟨g,o+k * 6+1,none⟩) hgl r1
     have cg6:=cell_grown (a:=⟨g,o+k * 6+2,none⟩) hgl r2
     have cg7:=cell_grown (a:=⟨g,o+k * 6+3,none⟩) hgl r3
     clear he hb0 hb1 hlb r4 r5
     go_wp2_with fail
     go_quiet_grown ((go_at_call 137;exact grown_call HLW.out _ _))
     have hg2:Grew wr (grow (wr.drewN nq) osq):=grew_grown _ _
     generalize grow (wr.drewN nq) osq=W2 at *
     have G2:=Lib.hid hg2
     clear cg0 cg1 cg2 cg3 cg4 cg5 cg6 cg7 hmix HLW hg2
     cases lb
     case false =>
      have AN:Hid (PP=k):=Lib.hid (by rw [PX.out,if_neg (fun h=>of_decide_eq_false LB.out h.2)])
      go_wp2_with fail
      go_ret
      exact⟨by rw [AN.out];rfl,K0.out.trans (HG.out.trans G2.out.kept fun _ _ h=>h) fun _ _ h=>h⟩
     case true =>
      have EN:=Lib.hid (rend_any (HSL.out.kept G2.out.kept) hlen k hlt)
      obtain⟨y1,y2⟩:=endP_in hlt
      have PN:Hid (PP=placeGo f' L ⟨rt,rs⟩ ⟨it,is⟩ (endP L k)):=Lib.hid (by rw [PX.out,if_pos ⟨HE.out,of_decide_eq_true LB.out⟩])
      obtain⟨ke,hke⟩:∃ke,endP L k=ke:=⟨_,rfl⟩
      rw [hke] at EN PN y1 y2
      clear hke
      go_wp2_with (go_at_call 163;refine EN.out.mono ?_;rintro e w5 ⟨rfl,hk5⟩)
      go_roundw
      case rel=>exact⟨ke,f',rfl,by omega,PN.out,by omega,(HG.out.trans G2.out.kept fun _ _ h=>h).trans hk5 fun _ _ h=>h⟩
      case measure=>simp [intOf];omega
end Go.Proofs.YtjohljmpcblpjaaGreatDoor.Tr
namespace Go.Proofs.YtjohljmpcblpjaaGreatDoor.Tr
open Go.RowKit Go.Proofs.YtjohljmpcblpjaaGreatDoor.St
theorem valid_iff (r:Int):Utf8.valid r=true↔isRuneP r:=by
 unfold Utf8.valid isRuneP
 simp only [Bool.or_eq_true,Bool.and_eq_true,decide_eq_true_eq]
 omega
end Go.Proofs.YtjohljmpcblpjaaGreatDoor.Tr
namespace Go.Proofs.YtjohljmpcblpjaaGreatDoor.Tr
open Go.RowKit Go.Sort Go.Proofs.YtjohljmpcblpjaaGreatDoor.St Go.Proofs.YtjohljmpcblpjaaGreatDoor
attribute [local go_sem] Oper.semAt_some
theorem ris_rune {r:Int}(hr:isRuneP r) (w:World):Calls Tryz.prog 162 #[.int .i32 r] w fun e w'=>e=.returned (.bool true)∧w'=w:=by
 unfold isRuneP at hr
 have h0:0≤r:=by omega
 have h1:r≤1114111:=by omega
 by_cases h2:r<55296
 ·clear hr
  go_enter Tryz.func162,Tryz.ntmps162
  go_wp2_with fail
  go_ret
  exact⟨rfl,rfl⟩
 ·have h3:57343<r:=by omega
  clear hr
  go_enter Tryz.func162,Tryz.ntmps162
  go_wp2_with fail
  go_ret
  exact⟨rfl,rfl⟩
def bE:Enc UInt8:=⟨1,fun b=>[.int .u8 b.toNat],fun _=>rfl,by decide,fun x u hu=>by simp at hu;subst hu;rfl⟩
theorem bE_flat (l:List UInt8):bE.flat l=l.map fun b=>Value.int .u8 (b.toNat:Int):=by
 induction l with
 | nil=>rfl
 | cons b l ih =>
  show bE.enc b++bE.flat l=_
  rw [ih]
  rfl
theorem byte_nums1 (l:List UInt8):(l.map fun b=>((b.toNat:Nat):Int)).map (fun n=>UInt8.ofNat n.toNat)=l:=by
 rw [List.map_map]
 conv=>rhs;rw [←List.map_id l]
 apply List.map_congr_left
 intro b _
 show UInt8.ofNat ((b.toNat:Nat):Int).toNat=b
 simp
theorem fold_push:∀(l:List Int) (s:ByteArray),l.foldl (fun r n=>r.push (UInt8.ofNat n.toNat)) s=⟨(s.data.toList++l.map fun n=>UInt8.ofNat n.toNat).toArray⟩
 | [],s=>by cases s;simp
 | n::l,s=>by
  rw [List.foldl_cons,fold_push l]
  simp [ByteArray.push]
theorem conv_bytes1 {w:World}{v:Value}{L:List UInt8}(h:SlAt bE w v L) :
  (convert 144 9 v).run Tryz.prog w=.ok (.string ⟨L.toArray⟩) w:=by
 have h0:=h
 rcases h with ⟨rfl,rfl⟩|⟨x,d,rfl,h1,h2,h3,h4⟩
 ·exact run_convert_bytes_nil (P:=Tryz.prog) w 144 5 Tryz.underlying144 Tryz.underlying5 0 0 9 Tryz.underlying9
 ·rw [run_convert_bytes_string w 144 9 5 (some x) L.length d Tryz.underlying144 Tryz.underlying5 Tryz.underlying9]
  have hc:=(h0.at_).2
  have hl:=run_loadCells_list (P:=Tryz.prog) w x (bE.flat L) hc
  rw [run_bytesToString w x L.length d (L.map fun b=>((b.toNat:Nat):Int)) (by
   have e:(L.map fun b=>((b.toNat:Nat):Int)).map (Value.int .u8)=bE.flat L:=by rw [bE_flat,List.map_map];rfl
   rw [e]
   have e2:(bE.flat L).length=L.length:=by rw [bE_flat,List.length_map]
   rw [e2] at hl
   exact hl)]
  rw [fold_push,byte_nums1]
  rfl
theorem u8_cell {x:Int}{n:Nat}(h:x=n) (hn:n<256):Value.int .u8 (((UInt8.ofNat n).toNat:Nat):Int)=.int .u8 x:=by
 rw [h]
 congr 2
 simp
 omega
theorem enc_flat {r:Int}(hr:isRuneP r):bE.flat (encB r)=if r<128 then [.int .u8 r] else if r<2048 then [.int .u8 (192+r / 64),.int .u8 (128+r % 64)] else if r<65536 then [.int .u8 (224+r / 4096),.int .u8 (128+r / 64 % 64),.int .u8 (128+r % 64)] else
  [.int .u8 (240+r / 262144),.int .u8 (128+r / 4096 % 64),.int .u8 (128+r / 64 % 64),.int .u8 (128+r % 64)]:=by
 have hv:Utf8.valid r=true:=(Gl.valid_iff r).2 (by unfold isRuneP at hr;omega)
 unfold isRuneP at hr
 obtain⟨c,rfl⟩:∃c:Nat,r=c:=⟨r.toNat,by omega⟩
 rw [bE_flat]
 unfold encB Utf8.encode
 dsimp only
 rw [if_pos hv,show ((c:Int)).toNat=c by omega]
 by_cases h1:c<128
 ·rw [if_pos h1,if_pos (show (c:Int)<128 by omega)]
  simp only [List.map_cons,List.map_nil]
  rw [u8_cell rfl (by omega)]
 ·rw [if_neg h1,if_neg (show ¬(c:Int)<128 by omega)]
  by_cases h2:c<2048
  ·rw [if_pos h2,if_pos (show (c:Int)<2048 by omega)]
   simp only [List.map_cons,List.map_nil]
   rw [u8_cell (x:=192+(c:Int) / 64) (by omega) (by omega),u8_cell (x:=128+(c:Int) % 64) (by omega) (by omega)]
  ·rw [if_neg h2,if_neg (show ¬(c:Int)<2048 by omega)]
   by_cases h3:c<65536
   ·rw [if_pos h3,if_pos (show (c:Int)<65536 by omega)]
    simp only [List.map_cons,List.map_nil]
    rw [u8_cell (x:=224+(c:Int) / 4096) (by omega) (by omega),u8_cell (x:=128+(c:Int) / 64 % 64) (by omega) (by omega),u8_cell (x:=128+(c:Int) % 64) (by omega) (by omega)]
   ·rw [if_neg h3,if_neg (show ¬(c:Int)<65536 by omega)]
    simp only [List.map_cons,List.map_nil]
    rw [u8_cell (x:=240+(c:Int) / 262144) (by omega) (by omega),u8_cell (x:=128+(c:Int) / 4096 % 64) (by omega) (by omega),u8_cell (x:=128+(c:Int) / 64 % 64) (by omega) (by omega),u8_cell (x:=128+(c:Int) % 64) (by omega) (by omega)]
theorem enc_lit {r:Int}{cs:Array Value}(w:World) (hc:cs=(bE.flat (encB r)).toArray) (n:Nat) (hn:n=(encB r).length):(convert 144 9 (.slice (some ⟨w.heap.size,0,none⟩) n n)).run Tryz.prog (w.alloc (.cells cs 5))=.ok (.string ⟨(encB r).toArray⟩) (w.alloc (.cells cs 5)):=by
 subst hn
 exact conv_bytes1 (SlAt.lit (E:=bE) (encB r) cs hc (by have:=encB_len r;unfold maxLen;omega))
theorem enc_count {r:Int}{n:Nat}(h:(bE.flat (encB r)).length=n):n=(encB r).length:=by rw [←h,bE_flat,List.length_map]
theorem rencode_any {r:Int}(hr:isRuneP r) (w:World):Calls Tryz.prog 134 #[.int .i32 r] w fun e w'=>e=.returned (.string ⟨(encB r).toArray⟩)∧Kept (fun _=>False) w w':=by
 have IS:=Lib.hid (ris_rune hr)
 have hf:=enc_flat hr
 have hrr:=hr
 unfold isRuneP at hrr
 obtain⟨S,hS⟩:∃S:ByteArray,(⟨(encB r).toArray⟩:ByteArray)=S:=⟨_,rfl⟩
 by_cases h1:r<128
 ·have h0:0≤r:=by omega
  rw [if_pos h1] at hf
  have CV:=Lib.hid (enc_lit w (cs:=#[.int .u8 r]) (by rw [hf]) 1 (enc_count (by rw [hf];rfl)))
  rw [hS] at CV ⊢
  clear hf hS hrr hr
  go_enter Tryz.func134,Tryz.ntmps134
  go_upto_region 11 with (go_at_call 162;refine (IS.out _).mono ?_;rintro e w' ⟨rfl,rfl⟩)
  have cv:=CV.out
  go_wp2_with fail
  go_ret
  exact⟨rfl,(Kept.refl _ _).alloc _⟩
 rw [if_neg h1] at hf
 by_cases h2:r<2048
 ·rw [if_pos h2] at hf
  have CV:=Lib.hid (enc_lit w (cs:=#[.int .u8 (192+r / 64),.int .u8 (128+r % 64)]) (by rw [hf]) 2 (enc_count (by rw [hf];rfl)))
  rw [hS] at CV ⊢
  clear hf hS hrr hr
  go_enter Tryz.func134,Tryz.ntmps134
  go_upto_region 11 with (go_at_call 162;refine (IS.out _).mono ?_;rintro e w' ⟨rfl,rfl⟩)
  have cv:=CV.out
  go_wp2_with fail
  go_ret
  exact⟨rfl,(Kept.refl _ _).alloc _⟩
 rw [if_neg h2] at hf
 by_cases h3:r<65536
 ·rw [if_pos h3] at hf
  have CV:=Lib.hid (enc_lit w (cs:=#[.int .u8 (224+r / 4096),.int .u8 (128+r / 64 % 64),.int .u8 (128+r % 64)]) (by rw [hf]) 3 (enc_count (by rw [hf];rfl)))
  rw [hS] at CV ⊢
  clear hf hS hrr hr
  go_enter Tryz.func134,Tryz.ntmps134
  go_upto_region 11 with (go_at_call 162;refine (IS.out _).mono ?_;rintro e w' ⟨rfl,rfl⟩)
  have cv:=CV.out
  go_wp2_with fail
  go_ret
  exact⟨rfl,(Kept.refl _ _).alloc _⟩
 ·rw [if_neg h3] at hf
  have h4:r≤1114111:=by omega
  have CV:=Lib.hid (enc_lit w (cs:=#[.int .u8 (240+r / 262144),.int .u8 (128+r / 4096 % 64),.int .u8 (128+r / 64 % 64),.int .u8 (128+r % 64)]) (by rw [hf]) 4 (enc_count (by rw [hf];rfl)))
  rw [hS] at CV ⊢
  clear hf hS hrr hr
  go_enter Tryz.func134,Tryz.ntmps134
  go_upto_region 11 with (go_at_call 162;refine (IS.out _).mono ?_;rintro e w' ⟨rfl,rfl⟩)
  have cv:=CV.out
  go_wp2_with fail
  go_ret
  exact⟨rfl,(Kept.refl _ _).alloc _⟩
theorem flat_len1 (rs:List Int):(rs.flatMap encB).length≤4 * rs.length:=by
 induction rs with
 | nil=>simp
 | cons r rs ih=>have:=(encB_len r).2;simp only [List.flatMap_cons,List.length_append,List.length_cons];omega
def i32E:Enc Int:=⟨1,fun r=>[.int .i32 r],fun _=>rfl,by decide,fun x u hu=>by rw [List.mem_singleton.1 hu];rfl⟩
theorem SlAt.i32 {w:World}{v:Value}{L:List Int}(h:SlAt i32E w v L) (hn:0<L.length):∃g o c,v=.slice (some ⟨g,o,none⟩) L.length c∧∀(i:Nat) (x:Int),L[i]?=some x→w.cell? ⟨g,o+i,none⟩=some (.int .i32 x):=by
 obtain⟨g,o,c,rfl,_,_,_,hc⟩:=h.one hn
 refine⟨g,o,c,rfl,fun i x hx=>?_⟩
 have:=hc i x hx 0 _ rfl
 simp only [i32E,Nat.mul_one,Nat.add_zero] at this
 exact this
theorem info_i32:(Tryz.prog.info? 21).map (fun i=>(i.zero,i.size,i.bytes))=some (some (.int .i32 0),1,4):=by kernel_rfl
theorem info_u81:(Tryz.prog.info? 5).map (fun i=>(i.zero,i.size,i.bytes))=some (some (.int .u8 0),1,1):=by kernel_rfl
theorem str_cells1 (s:ByteArray):Lib.strCells s=bE.flat s.data.toList:=by rw [bE_flat];rfl
theorem rtext1_any {w:World}{v:Value}{L:List Int}(h:SlAt i32E w v L) (hr:∀r∈L,isRuneP r) (hlen:L.length≤1000000) :
  Calls Tryz.prog 95 #[v] w fun e w'=>e=.returned (.string ⟨(L.flatMap encB).toArray⟩)∧Kept (fun _=>False) w w':=by
 obtain⟨a,c,rfl,_,_⟩:=h.sl
 have HL:=Lib.hid h
 have HR:=Lib.hid hr
 obtain⟨i0,hi0,hz0,hz1,hz2⟩:=info_parts info_u81
 have I:=Lib.hid hi0
 have Z0:=Lib.hid hz0
 have Z1:=Lib.hid hz1
 have Z2:=Lib.hid hz2
 clear h hr hi0 hz0 hz1 hz2
 go_enter Tryz.func95,Tryz.ntmps95
 go_wp2_with fail
 go_loopw [3,4] (fun bv kv wr=>∃n:Nat,kv=.int .i64 n∧n≤L.length∧wr.ownsRow w.heap.size 5 1 bv ((L.take n).flatMap encB).length (bE.flat ((L.take n).flatMap encB))∧Kept (fun _=>False) w wr) (fun _ kv _=>L.length-(intOf kv).toNat)
 case atStart=>exact⟨0,rfl,Nat.zero_le _,World.ownsRow_nil ..,Kept.refl _ _⟩
 case round =>
  obtain⟨n,rfl,hn,ho,hk⟩:=hrel
  have HO:=Lib.hid ho
  have KW:=Lib.hid hk
  have hn0:(0:Int)≤n:=by omega
  clear ho hk
  by_cases hlt:n<L.length
  case neg =>
   have hnl:¬(n:Int)<L.length:=by omega
   have OW:=HO.out
   rw [List.take_of_length_le (by omega)] at OW
   have cv:=conv_bytes1 (owns_slAt (E:=bE) OW)
   clear OW
   go_wp2_with fail
   go_ret
   exact⟨rfl,KW.out⟩
  case pos =>
   have hnl:(n:Int)<L.length:=by omega
   obtain⟨x,hx⟩:=get_of_lt hlt
   obtain⟨g,o,c',e1,h1⟩:=SlAt.i32 (HL.out.kept KW.out) (by omega)
   cases e1
   have c0:=h1 n x hx
   have EN:=Lib.hid (rencode_any (HR.out x (List.mem_of_getElem? hx)))
   have htk:(L.take (n+1)).flatMap encB=(L.take n).flatMap encB++encB x:=by rw [List.take_add_one,hx];simp
   have TK:=Lib.hid htk
   have hb:((L.take n).flatMap encB).length≤4000000:=by
    have h9:=flat_len1 (L.take n)
    have:=List.length_take_le n L
    omega
   have HB:=Lib.hid hb
   obtain⟨S,hS⟩:∃S:ByteArray,(⟨(encB x).toArray⟩:ByteArray)=S:=⟨_,rfl⟩
   have hsz:S.size=(encB x).length:=by rw [←hS];rfl
   have hsl:S.data.toList=encB x:=by rw [←hS]
   rw [hS] at EN
   have SZ:=Lib.hid hsz
   have SL:=Lib.hid hsl
   have EL:=Lib.hid (encB_len x)
   clear htk hx h1 hb hS hsz hsl
   go_wp2_with (first
    | (go_at_call 134;refine (EN.out _).mono ?_;rintro e w1 ⟨rfl,hk⟩;have K1:=Lib.hid (KW.out.trans hk fun _ _ h=>h);have O1:=Lib.hid (owns_keep HO.out hk fun _ _ h=>h);clear hk)
    | (at_builtin;refine wpList_append_string_at rfl (.tmp 11) (.tmp 16) 144 9 rfl w.heap.size 5 i0 Tryz.underlying144 Tryz.underlying9 I.out Z0.out Z1.out Z2.out _ _ _ rfl O1.out S rfl (by have:=HB.out;have:=SZ.out;have:=EL.out;omega) K1.out.size ?_;intro v3 w3 ho3 hg3 hb3))
   go_roundw
   case rel =>
    refine⟨n+1,by go_num,by omega,?_,K1.out.over (Kept.grown (Kept.refl (fun b=>u3.ownBlock=some b) _) hg3 (fun k e _=>e)) (fun x hx=>owns_new O1.out x hx)⟩
    rw [TK.out,List.length_append,Enc.flat_append,←SZ.out,←SL.out,←str_cells1]
    exact ho3
   case measure=>simp [intOf];omega
end Go.Proofs.YtjohljmpcblpjaaGreatDoor.Tr
namespace Go.Proofs.YtjohljmpcblpjaaGreatDoor.Gl
open Go.RowKit
def lowP (s:ByteArray) (i n:Nat):Prop:=∀j,j<n→i+j<s.size∧128≤byteAt s (i+j)∧byteAt s (i+j)≤191
instance (s:ByteArray) (i n:Nat):Decidable (lowP s i n):=by unfold lowP;infer_instance
theorem lo_hi (a:Int):128≤loB a∧hiB a≤191:=by
 unfold loB hiB
 constructor
 ·split
  ·omega
  ·split <;> omega
 ·split
  ·omega
  ·split <;> omega
theorem runeW_low {s:ByteArray}{i n:Nat}(h1:194≤byteAt s i) (h2:byteAt s i≤244) (hn:tailN (byteAt s i)=n) (h0:1≤n) (h3:n≤3):runeW s i=if lowP s (i+1) n∧loB (byteAt s i)≤byteAt s (i+1)∧byteAt s (i+1)≤hiB (byteAt s i) then n+1 else 0:=by
 have hlh:=lo_hi (byteAt s i)
 have key:(inB s (i+1) (loB (byteAt s i)) (hiB (byteAt s i))∧(2≤n→inB s (i+2) 128 191)∧(3≤n→inB s (i+3) 128 191))↔(lowP s (i+1) n∧loB (byteAt s i)≤byteAt s (i+1)∧byteAt s (i+1)≤hiB (byteAt s i)):=by
  unfold inB lowP
  constructor
  ·rintro⟨⟨a1,a2,a3⟩,b,c⟩
   refine⟨fun j hj=>?_,a2,a3⟩
   match j,hj with
   | 0,_=>exact⟨a1,by rw [Nat.add_zero];omega,by rw [Nat.add_zero];omega⟩
   | 1,hj=>exact b (by omega)
   | 2,hj=>exact c (by omega)
   | j+3,hj=>omega
  ·rintro⟨a,b,c⟩
   exact⟨⟨(a 0 (by omega)).1,b,c⟩,fun h=>a 1 (by omega),fun h=>a 2 (by omega)⟩
 unfold runeW
 rw [if_neg (by omega),if_neg (by omega),hn]
 by_cases hf:lowP s (i+1) n∧loB (byteAt s i)≤byteAt s (i+1)∧byteAt s (i+1)≤hiB (byteAt s i)
 ·rw [if_pos hf,if_pos (key.2 hf)]
 ·rw [if_neg hf,if_neg (fun h=>hf (key.1 h))]
theorem runeW_low1 {s:ByteArray}{i:Nat}(h1:194≤byteAt s i) (h2:byteAt s i≤223):runeW s i=if lowP s (i+1) 1∧loB (byteAt s i)≤byteAt s (i+1)∧byteAt s (i+1)≤hiB (byteAt s i) then 2 else 0 :=
 runeW_low (n:=1) h1 (by omega) (if_pos (by omega)) (by omega) (by omega)
theorem runeW_low2 {s:ByteArray}{i:Nat}(h1:224≤byteAt s i) (h2:byteAt s i≤239):runeW s i=if lowP s (i+1) 2∧loB (byteAt s i)≤byteAt s (i+1)∧byteAt s (i+1)≤hiB (byteAt s i) then 3 else 0 :=
 runeW_low (n:=2) (by omega) (by omega) (by unfold tailN;rw [if_neg (by omega),if_pos (by omega)]) (by omega) (by omega)
theorem runeW_low3 {s:ByteArray}{i:Nat}(h1:240≤byteAt s i) (h2:byteAt s i≤244):runeW s i=if lowP s (i+1) 3∧loB (byteAt s i)≤byteAt s (i+1)∧byteAt s (i+1)≤hiB (byteAt s i) then 4 else 0 :=
 runeW_low (n:=3) (by omega) (by omega) (by unfold tailN;rw [if_neg (by omega),if_neg (by omega)]) (by omega) (by omega)
end Go.Proofs.YtjohljmpcblpjaaGreatDoor.Gl
namespace Go.Proofs.YtjohljmpcblpjaaGreatDoor.Gl
theorem runeW_one {s:ByteArray}{i:Nat}(h:runeW s i=1):byteAt s i<128:=by
 unfold runeW at h
 by_cases h1:byteAt s i<128
 ·exact h1
 ·rw [if_neg h1] at h
  by_cases h2:byteAt s i<194∨244<byteAt s i
  ·rw [if_pos h2] at h;cases h
  ·rw [if_neg h2] at h
   have ht:1≤tailN (byteAt s i):=by unfold tailN;split;exact Nat.le_refl _;split <;> decide
   split at h <;> omega
theorem decode_val {s:ByteArray}{i k:Nat}(hk:runeW s i=k) (h0:k≠0) :
  (k=1→((Utf8.decode s i).1:Int)=byteAt s i)∧(k=2→((Utf8.decode s i).1:Int)=(byteAt s i-192) * 64+(byteAt s (i+1) - 128)) ∧
  (k=3→((Utf8.decode s i).1:Int)=(byteAt s i-224) * 4096+(byteAt s (i+1) - 128) * 64+(byteAt s (i+2) - 128)) ∧
  (k=4→((Utf8.decode s i).1:Int)=(byteAt s i-240) * 262144+(byteAt s (i+1) - 128) * 4096+(byteAt s (i+2) - 128) * 64+(byteAt s (i+3) - 128)):=by
 have h2:=(decode_runeW s i).1
 have h1:k=1→byteAt s i<128:=fun e=>runeW_one (hk.trans e)
 rw [hk,if_neg h0] at h2
 unfold byteAt at h1 ⊢
 have b0:=(s.get! i).toNat_lt
 have b1:=(s.get! (i+1)).toNat_lt
 have b2:=(s.get! (i+2)).toNat_lt
 have b3:=(s.get! (i+3)).toNat_lt
 obtain⟨x,hx⟩:∃x,Utf8.decode s i=x:=⟨_,rfl⟩
 rw [hx] at h2 ⊢
 simp only [Utf8.decode,Nat.add_zero] at hx
 simp only [Bool.and_eq_true,beq_iff_eq,decide_eq_true_iff] at hx
 generalize (s.get! i).toNat=a at *
 generalize (s.get! (i+1)).toNat=b at *
 generalize (s.get! (i+2)).toNat=c at *
 generalize (s.get! (i+3)).toNat=d at *
 repeat' split at hx
 all_goals
  subst hx
  dsimp only at h2 ⊢
  refine⟨?_,?_,?_,?_⟩ <;> (intro hkk;have:=h1;omega)
end Go.Proofs.YtjohljmpcblpjaaGreatDoor.Gl
