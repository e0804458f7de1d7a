/- hearsayref1: Decode, Pieces (with the runes), BadAt, Good and Count. A rising row, and one more put in. Plain. hearsayref6.sorted. Parts of the proof. -/
import Derived.Test.YtjohljmpcblpjaaGreatDoorM35
import Derived.Test.YtjohljmpcblpjaaGreatDoorM33
set_option maxRecDepth 100000
set_option maxHeartbeats 4000000
namespace Go.Proofs.YtjohljmpcblpjaaGreatDoor
open Go.RowKit Go.Proofs.YtjohljmpcblpjaaGreatDoor.Gl
theorem rdecode_any {s:ByteArray}{i:Nat}(hs:s.size≤1000000) (hi:i<s.size) (w:World):Calls Tryz.prog 153 #[.string s,.int .i64 i] w fun e w'=>e=.returned (.tuple #[.int .i32 ((Utf8.decode s i).1:Nat),.int .i64 (stepW s i),.bool (decide (runeW s i≠0))])∧Kept (fun _=>False) w w':=by
 have hiI:(i:Int)<s.size:=by omega
 have hi0:(0:Int)≤i:=by omega
 have HB:=Lib.hid (begins_any hs hi w)
 clear hs
 by_cases h0:runeW s i=0
 ·rw [h0] at HB
  have A3:=Lib.hid ((decode_runeW s i).2 h0)
  have A1:=Lib.hid (show stepW s i=1 from if_pos h0)
  have A2:=Lib.hid (show decide (runeW s i≠0)=false from decide_eq_false (fun h=>h h0))
  clear h0
  go_enter Tryz.func153,Tryz.ntmps153
  go_wp2_with (go_at_call 179;refine HB.out.mono ?_;rintro e w' ⟨⟨r,rfl,_⟩,q,rfl⟩)
  go_ret3
  exact⟨by rw [A1.out,A2.out,A3.out];rfl,(Kept.refl _ _).drewN _⟩
 ·obtain⟨n,hn⟩:∃n,runeW s i=n:=⟨_,rfl⟩
  rw [hn] at HB
  have A1:=Lib.hid (show stepW s i=n by unfold stepW;rw [if_neg h0,hn])
  have A2:=Lib.hid (show decide (runeW s i≠0)=true from decide_eq_true h0)
  have hnb:((n:Int) == 0)=false:=beq_eq_false_iff_ne.2 (by omega)
  have A3:=Lib.hid (show n≠0 by omega)
  obtain⟨d,hd⟩:∃d,(Utf8.decode s i).1=d:=⟨_,rfl⟩
  rw [hd] at HB ⊢
  clear h0 hn hd
  go_enter Tryz.func153,Tryz.ntmps153
  go_wp2_with (go_at_call 179;refine HB.out.mono ?_;rintro e w' ⟨⟨r,rfl,hr⟩,q,rfl⟩;obtain rfl:=hr A3.out;clear hr)
  go_ret3
  exact⟨by rw [A1.out,A2.out];rfl,(Kept.refl _ _).drewN _⟩
namespace Gl
structure Pc where
 at_:Int
 r:Int
 n:Int
 ok:Bool
def pcE:Enc Pc:=⟨4,fun p=>[.int .i64 p.at_,.int .i32 p.r,.int .i64 p.n,.bool p.ok],fun _=>rfl,by decide,fun p u hu=>by
 simp at hu
 rcases hu with rfl|rfl|rfl|rfl <;> rfl⟩
def pcOf (s:ByteArray) (j:Nat):Int × Int × Bool:=((j:Int),(((Utf8.decode s j).1:Nat):Int),decide (runeW s j≠0))
def Pc.say (p:Pc):Int × Int × Bool:=(p.at_,p.r,p.ok)
end Gl
theorem info_pc:(Tryz.prog.info? 193).map (fun i=>(i.zero,i.size,i.bytes))=some (some (.agg #[.int .i64 0,.int .i32 0,.int .i64 0,.bool false]),4,32):=by kernel_rfl
theorem lit_pc (w:World) (p:Pc):SlAt pcE (w.alloc (.cells #[.int .i64 p.at_,.int .i32 p.r,.int .i64 p.n,.bool p.ok] 193)) (.slice (some ⟨w.heap.size,0,none⟩) 1 1) [p]:=SlAt.lit (E:=pcE) [p] _ rfl (by show 1≤maxLen;decide)
theorem rpieces_any {s:ByteArray}(hs:s.size≤1000000) (w:World):Calls Tryz.prog 116 #[.string s] w fun e w'=>∃v,e=.returned v∧∃L,w'.ownsRow w.heap.size 193 4 v L.length (pcE.flat L)∧L.map Pc.say=(pieces s 0).map (pcOf s)∧Kept (fun _=>False) w w':=by
 have hcl:=countR_le s
 go_enter Tryz.func116,Tryz.ntmps116
 go_wp2_with fail
 go_loopw [3,4] (fun lv iv wr=>∃(i:Nat) (L:List Pc),iv=.int .i64 i∧i≤s.size∧wr.ownsRow w.heap.size 193 4 lv L.length (pcE.flat L)∧L.map Pc.say++(pieces s i).map (pcOf s)=(pieces s 0).map (pcOf s)∧Kept (fun _=>False) w wr) (fun _ iv _=>s.size-(intOf iv).toNat)
 case atStart=>exact⟨0,[],rfl,Nat.zero_le _,World.ownsRow_nil _ _ _ _,rfl,Kept.refl _ _⟩
 case round =>
  obtain⟨i,L,rfl,hi,ho,hp,hk⟩:=hrel
  have HP:=Lib.hid hp
  have HO:=Lib.hid ho
  have KW:=Lib.hid hk
  have hi0:(0:Int)≤i:=by omega
  have hLl:L.length≤1000000:=by
   have h1:=congrArg List.length hp
   rw [List.length_append,List.length_map,List.length_map,List.length_map] at h1
   unfold countR at hcl
   omega
  have HLL:=Lib.hid hLl
  clear hp ho hk hLl
  by_cases hlt:i<s.size
  case neg =>
   have hltI:¬(i:Int)<s.size:=by omega
   have HE:=Lib.hid (pieces_end hlt)
   clear hlt
   go_wp2_with fail
   go_ret
   exact⟨_,rfl,L,HO.out,by have:=HP.out;rw [HE.out,List.map_nil,List.append_nil] at this;exact this,KW.out⟩
  case pos =>
   have hltI:(i:Int)<s.size:=by omega
   have hin:=stepW_in hlt
   have hsp:=stepW_pos s i
   have HN:=Lib.hid (pieces_next hlt)
   have HD:=Lib.hid (fun w'=>rdecode_any hs hlt w')
   obtain⟨st,hst⟩:∃n,stepW s i=n:=⟨_,rfl⟩
   obtain⟨b,hb⟩:∃b,decide (runeW s i≠0)=b:=⟨_,rfl⟩
   obtain⟨d,hd⟩:∃d,(Utf8.decode s i).1=d:=⟨_,rfl⟩
   obtain⟨m,hm⟩:∃m,i+st=m:=⟨_,rfl⟩
   have hw:IntKind.i64.wrap ((i:Int)+(st:Int))=(m:Int):=by rw [IntKind.wrap_i64];omega
   have PO:=Lib.hid (show pcOf s i=((i:Int),(d:Int),b) by unfold pcOf;rw [hb,hd])
   rw [hst] at hin hsp
   rw [hst] at HD HN
   rw [hb,hd] at HD
   have HM:=Lib.hid hm
   have HIN:=Lib.hid hin
   have HSP:=Lib.hid hsp
   clear hb hst hm hin hsp hcl hd
   go_upto_region 5 with (go_at_call 153;refine (HD.out _).mono ?_;rintro e w1 ⟨rfl,hk1⟩)
   have LD:=Lib.hid (lit_pc w1 ⟨i,d,st,b⟩)
   have k2:Kept (fun _=>False) w1 (w1.alloc (.cells #[.int .i64 i,.int .i32 d,.int .i64 st,.bool b] 193)):=(Kept.refl _ _).alloc _
   have O2:=Lib.hid (owns_keep (owns_keep HO.out hk1 (fun _ _ h=>h)) k2 (fun _ _ h=>h))
   have K2:=Lib.hid ((KW.out.trans hk1 (fun _ _ h=>h)).trans k2 (fun _ _ h=>h))
   clear hk1 k2
   go_wp2_with (at_builtin;refine wpList_append_row pcE rfl (.tmp 19) (.tmp 25) 190 rfl w.heap.size 193 _ 32 Tryz.underlying190 info_pc rfl rfl rfl O2.out LD.out (by have:=HLL.out;show L.length+1≤maxLen;unfold maxLen;omega) (by have:=HLL.out;show (L.length+1) * 32≤140737488355328;omega) K2.out.size ?_;intro v3 w3 ho3 hk3)
   go_roundw
   case rel =>
    refine⟨m,L++[(⟨i,d,st,b⟩:Pc)],rfl,by have:=HIN.out;have:=HM.out;omega,by exact ho3,?_,K2.out.over hk3 (fun x hx=>owns_new O2.out x hx)⟩
    have h1:=HP.out
    rw [HN.out,List.map_cons,PO.out,HM.out] at h1
    rw [List.map_append,List.append_assoc]
    exact h1
   case measure=>have:=HM.out;have:=HSP.out;simp [intOf];omega
theorem bad_step {s:ByteArray}{L:List Pc}{P:List Nat}(h:L.map Pc.say=P.map (pcOf s)):(L.find? fun p=>!p.ok).map (·.at_)=(P.find? fun j=>decide (runeW s j=0)).map (fun j=>(j:Int)):=by
 induction P generalizing L with
 | nil =>
  obtain rfl:L=[]:=by simpa using h
  rfl
 | cons j P ih =>
  cases L with
  | nil=>simp at h
  | cons p L =>
   rw [List.map_cons,List.map_cons] at h
   injection h with h1 h2
   have e1:p.at_=(pcOf s j).1:=congrArg Prod.fst h1
   have e2:p.ok=(pcOf s j).2.2:=congrArg (fun x=>x.2.2) h1
   unfold pcOf at e1 e2
   simp only at e1 e2
   by_cases hz:runeW s j=0
   ·have e3:p.ok=false:=by rw [e2];exact decide_eq_false (fun h=>h hz)
    rw [List.find?_cons_of_pos (by simp [e3]),List.find?_cons_of_pos (by simpa using hz)]
    simp [e1]
   ·have e3:p.ok=true:=by rw [e2];exact decide_eq_true hz
    rw [List.find?_cons_of_neg (by simp [e3]),List.find?_cons_of_neg (by simpa using hz)]
    exact ih h2
def badL (L:List Pc):Int:=match L.find? (fun p=>!p.ok) with
 | some p=>p.at_
 | none=>-1
theorem badL_eq {s:ByteArray}{L:List Pc}(h:L.map Pc.say=(pieces s 0).map (pcOf s)):badL L=badFrom s 0:=by
 have h1:=bad_step h
 unfold badL badFrom
 cases h2:L.find? fun p=>!p.ok with
 | none =>
  rw [h2] at h1
  cases h3:(pieces s 0).find? fun j=>decide (runeW s j=0) with
  | none=>rfl
  | some j=>rw [h3] at h1;cases h1
 | some p =>
  rw [h2] at h1
  cases h3:(pieces s 0).find? fun j=>decide (runeW s j=0) with
  | none=>rw [h3] at h1;cases h1
  | some j =>
   rw [h3] at h1
   have : p.at_=j:=by simpa using h1
   exact this
theorem rbadAt_any {s:ByteArray}(hs:s.size≤1000000) (w:World):Calls Tryz.prog 115 #[.string s] w fun e w'=>e=.returned (.int .i64 (badFrom s 0))∧Kept (fun _=>False) w w':=by
 have HPC:=Lib.hid (rpieces_any hs w)
 have hcl:=countR_le s
 unfold countR at hcl
 go_enter Tryz.func115,Tryz.ntmps115
 go_upto_region 2 with (go_at_call 116;refine HPC.out.mono ?_;rintro e w1 ⟨v,rfl,L,ho,hp,hk⟩)
 have hLl:L.length≤1000000:=by
  have h1:=congrArg List.length hp
  rw [List.length_map,List.length_map] at h1
  omega
 have BL:=Lib.hid (badL_eq hp)
 obtain⟨a,c,rfl⟩:=owns_sl ho
 have HO:=Lib.hid ho
 have KW:=Lib.hid hk
 clear hp ho hk hcl HPC hs
 generalize hm:L.length=m at *
 have HM:=Lib.hid hm
 clear hm
 go_wp2_with fail
 go_loopw [4] (fun iv wr=>∃k:Nat,iv=.int .i64 k∧k≤m∧badL (L.drop k)=badL L∧wr=w1) (fun iv _=>m-(intOf iv).toNat)
 case atStart=>exact⟨0,rfl,Nat.zero_le _,rfl,rfl⟩
 case round =>
  obtain⟨k,rfl,hk,hb,rfl⟩:=hrel
  have hk0:(0:Int)≤k:=by omega
  have HB:=Lib.hid hb
  clear hb
  by_cases hlt:k<m
  case neg =>
   have hltI:¬(k:Int)<m:=by omega
   have ANS:=Lib.hid (show badFrom s 0=-1 by rw [←BL.out,←HB.out,List.drop_eq_nil_of_le (by rw [HM.out];omega)];rfl)
   go_wp2_with fail
   go_ret
   exact⟨by rw [ANS.out];rfl,KW.out⟩
  case pos =>
   have hltI:(k:Int)<m:=by omega
   obtain⟨_,⟨_,hno⟩ | ⟨g,cap,hv,_,hO⟩⟩:=own_of (E:=pcE) HO.out
   ·have h1:=HM.out
    rw [hno] at h1;simp at h1;omega
   injection hv with e1 _ e2
   subst e1 e2
   have hkl:k<L.length:=by rw [HM.out];exact hlt
   obtain⟨x,hx⟩:∃x,L[k]?=some x:=⟨_,List.getElem?_eq_getElem hkl⟩
   have hd:L.drop k=x::L.drop (k+1):=by
    rw [List.drop_eq_getElem_cons hkl]
    congr 1
    rw [List.getElem?_eq_getElem hkl] at hx
    injection hx
   have c0:wr.cell? ⟨g,k * 4+0,none⟩=some (.int .i64 x.at_):=hO.cell hx (j:=0) rfl
   have c3:wr.cell? ⟨g,k * 4+3,none⟩=some (.bool x.ok):=hO.cell hx (j:=3) rfl
   rw [Nat.add_zero] at c0
   obtain⟨x0,x1,x2,xo⟩:=x
   have HDR:=Lib.hid hd
   clear hd hx hO hkl
   simp only at c0 c3
   cases xo
   ·have ANS:=Lib.hid (show badFrom s 0=x0 by rw [←BL.out,←HB.out,HDR.out];rfl)
    go_wp2_with fail
    go_ret
    exact⟨by rw [ANS.out];rfl,KW.out⟩
   ·have HB2:=Lib.hid (show badL (L.drop (k+1))=badL L by rw [←HB.out,HDR.out];rfl)
    go_wp2_with fail
    go_roundw
    case rel=>exact⟨k+1,by go_num,by omega,HB2.out,trivial⟩
    case measure=>simp [intOf] <;> omega
theorem rgood_any {s:ByteArray}(hs:s.size≤1000000) (w:World):Calls Tryz.prog 71 #[.string s] w fun e w'=>e=.returned (.bool (decide (badFrom s 0<0)))∧Kept (fun _=>False) w w':=by
 have HB:=Lib.hid (rbadAt_any hs w)
 clear hs
 generalize badFrom s 0=n at *
 go_enter Tryz.func71,Tryz.ntmps71
 go_wp2_with (go_at_call 115;refine HB.out.mono ?_;rintro e w1 ⟨rfl,hk⟩)
 go_ret
 exact⟨rfl,hk⟩
end Go.Proofs.YtjohljmpcblpjaaGreatDoor
namespace Go.Proofs.YtjohljmpcblpjaaGreatDoor.St
end Go.Proofs.YtjohljmpcblpjaaGreatDoor.St
namespace Go.Proofs.YtjohljmpcblpjaaGreatDoor.St
open Go.RowKit
end Go.Proofs.YtjohljmpcblpjaaGreatDoor.St
namespace Go.Proofs.YtjohljmpcblpjaaGreatDoor.Tr
open Go.RowKit Go.Sort Go.Proofs.YtjohljmpcblpjaaGreatDoor.St Go.Proofs.YtjohljmpcblpjaaGreatDoor Go.Proofs.YtjohljmpcblpjaaGreatDoor.Gl
attribute [local go_sem] Oper.semAt_some
theorem runes_of {s:ByteArray}{L:List Gl.Pc}(h:L.map Gl.Pc.say=(pieces s 0).map (pcOf s)):L.map Gl.Pc.r=runesL s 0:=by
 have h1:=congrArg (List.map fun x:Int × Int × Bool=>x.2.1) h
 rw [List.map_map,List.map_map] at h1
 exact h1
theorem rrunes_any {s:ByteArray}(hs:s.size≤1000000) (w:World):Calls Tryz.prog 72 #[.string s] w fun e w'=>∃v,e=.returned v∧w'.ownsRow w.heap.size 21 1 v (runesL s 0).length (i32E.flat (runesL s 0))∧Kept (fun _=>False) w w':=by
 have HPC:=Lib.hid (rpieces_any hs w)
 have hrl:=runesL_len s
 have hcl:=countR_le s
 have hro:∀L:List Gl.Pc,L.map Gl.Pc.say=(pieces s 0).map (pcOf s)→L.map Gl.Pc.r=runesL s 0:=fun L h=>runes_of h
 obtain⟨R,hRR⟩:∃R,runesL s 0=R:=⟨_,rfl⟩
 rw [hRR] at hrl ⊢
 rw [hRR] at hro
 go_enter Tryz.func72,Tryz.ntmps72
 go_upto_region 3 with (go_at_call 116;refine HPC.out.mono ?_;rintro e w1 ⟨v,rfl,L,ho,hp,hk⟩)
 have hR:=hro L hp
 have hLl:L.length=R.length:=by rw [←hR,List.length_map]
 have hlen:R.length≤1000000:=by omega
 obtain⟨a,c,rfl⟩:=owns_sl ho
 rw [hLl] at ho ⊢
 have HO:=Lib.hid ho
 have K1:=Lib.hid hk
 have HR:=Lib.hid hR
 have HLN:=Lib.hid hlen
 have EL:=Lib.hid hLl
 have hlenI:(R.length:Int)≤1000000:=by omega
 clear hp ho hk hcl HPC hs hrl hR hLl hlen hRR hro
 go_wp2_with fail
 go_loopw [3,5] (fun lv iv wr=>∃k:Nat,iv=.int .i64 k∧k≤R.length∧wr.ownsRow w1.heap.size 21 1 lv (R.take k).length (i32E.flat (R.take k))∧Kept (fun _=>False) w1 wr) (fun _ iv _=>R.length-(intOf iv).toNat)
 case atStart=>exact⟨0,rfl,Nat.zero_le _,World.ownsRow_nil ..,Kept.refl _ _⟩
 case round =>
  obtain⟨k,rfl,hk,ho,hkw⟩:=hrel
  have hk0:(0:Int)≤k:=by omega
  have HO2:=Lib.hid ho
  have KW:=Lib.hid hkw
  clear ho hkw
  by_cases hlt:k<R.length
  case neg =>
   have hltI:¬(k:Int)<R.length:=by omega
   have OW:=HO2.out
   rw [List.take_of_length_le (by omega)] at OW
   have O9:=Lib.hid OW
   clear OW
   go_wp2_with fail
   go_ret
   exact⟨_,rfl,owns_base9 O9.out K1.out.size,K1.out.trans KW.out fun _ _ h=>h⟩
  case pos =>
   have hltI:(k:Int)<R.length:=by omega
   obtain⟨_,⟨_,hno⟩ | ⟨g,cap,hv,_,hO⟩⟩:=own_of (E:=Gl.pcE) HO.out
   ·have h1:=EL.out
    rw [hno] at h1;simp at h1;omega
   injection hv with e1 _ e2
   subst e1 e2
   obtain⟨x,hx⟩:=get_of_lt (show k<L.length by rw [EL.out];exact hlt)
   have c1:wr.cell? ⟨g,k * 4+1,none⟩=some (.int .i32 x.r):=(hO.keep KW.out (fun h=>h)).cell hx (j:=1) rfl
   have hRx:R[k]?=some x.r:=by rw [←HR.out,List.getElem?_map,hx];rfl
   obtain⟨y,hy⟩:∃y,x.r=y:=⟨_,rfl⟩
   rw [hy] at c1 hRx
   have htk:R.take (k+1)=R.take k++[y]:=by rw [List.take_add_one,hRx];rfl
   have TK:=Lib.hid htk
   have hdl:(R.take k).length≤1000000:=by have:=List.length_take_le k R;have:=HLN.out;omega
   have DL:=Lib.hid hdl
   have LD:Hid (SlAt i32E (wr.alloc (.cells #[.int .i32 y] 21)) (.slice (some ⟨wr.heap.size,0,none⟩) 1 1) [y]):=Lib.hid (SlAt.lit (E:=i32E) [y] _ rfl (by simp [maxLen]))
   have k2:Kept (fun _=>False) wr (wr.alloc (.cells #[.int .i32 y] 21)):=(Kept.refl _ _).alloc _
   have O2:Hid ((wr.alloc (.cells #[.int .i32 y] 21)).ownsRow w1.heap.size 21 1 u3 (R.take k).length (i32E.flat (R.take k))):=Lib.hid (owns_keep HO2.out k2 (fun _ _ h=>h))
   have K2:=Lib.hid (KW.out.trans k2 (fun _ _ h=>h))
   clear k2 htk hx hdl hO hy hRx
   go_wp2_with (at_builtin;refine wpList_append_row i32E rfl (.tmp 14) (.tmp 20) 73 rfl w1.heap.size 21 _ 4 Tryz.underlying73 info_i32 rfl rfl rfl O2.out LD.out (by have:=DL.out;show _+1≤maxLen;unfold maxLen;omega) (by have:=DL.out;show (_+1) * 4≤140737488355328;omega) K2.out.size ?_;intro v3 w3 ho3 hk3)
   go_roundw
   case rel=>exact⟨k+1,by go_num,by omega,by rw [TK.out];exact ho3,K2.out.over hk3 (fun x hx=>owns_new O2.out x hx)⟩
   case measure=>simp [intOf];omega
theorem rtext_any {w:World}{v:Value}{L:List Nd}(h:SlAt nodeE w v L) (hlen:L.length≤900000) (hr:∀n∈L,isRuneP n.rune) :
  Calls Tryz.prog 55 #[.agg #[v]] w fun e w'=>e=.returned (.string ⟨(textB (shL L)).toArray⟩)∧Kept (fun _=>False) w w':=by
 obtain⟨a,c,rfl,_,_⟩:=h.sl
 have hk0:Kept (fun _=>False) w (w.alloc (.cells #[.slice a L.length c] 108)):=(Kept.refl _ _).alloc _
 have HL:=Lib.hid (h.kept hk0)
 have K0:=Lib.hid hk0
 have B0:=Lib.hid (Blk.new w 108 #[.slice a L.length c])
 have HR:=Lib.hid hr
 clear h hk0 hr
 go_enter Tryz.func55,Tryz.ntmps55
 go_upto_region 1 with fail
 obtain⟨z,hz⟩:∃z,w.heap.size=z:=⟨_,rfl⟩
 obtain⟨W0,hW0⟩:∃W0,(w.alloc (.cells #[.slice a L.length c] 108))=W0:=⟨_,rfl⟩
 rw [hW0] at HL K0 B0 ⊢
 rw [hz] at B0 ⊢
 clear hW0 hz
 go_wp2_with fail
 go_loopw [3,4] (fun ov kv wr=>∃n:Nat,kv=.int .i64 n∧n≤L.length∧wr.ownsRow W0.heap.size 21 1 ov ((shL (L.take n)).map Nd.rune).length (i32E.flat ((shL (L.take n)).map Nd.rune))∧Kept (fun _=>False) W0 wr) (fun _ kv _=>L.length-(intOf kv).toNat)
 case atStart=>exact⟨0,rfl,Nat.zero_le _,World.ownsRow_nil ..,Kept.refl _ _⟩
 case round =>
  obtain⟨n,rfl,hn,ho,hk⟩:=hrel
  have HO:=Lib.hid ho
  have KW:=Lib.hid hk
  have hn0:(0:Int)≤n:=by omega
  have c0:=(hk.blk (fun h=>h) B0.out).cell' (i:=0) (v:=.slice a L.length c) rfl
  clear ho hk
  by_cases hlt:n<L.length
  case neg =>
   have hnl:¬(n:Int)<L.length:=by omega
   have OW:=HO.out
   rw [List.take_of_length_le (by omega)] at OW
   have TX:=Lib.hid (rtext1_any (owns_slAt (E:=i32E) OW) (fun r hr=>by obtain⟨m,hm,rfl⟩:=List.mem_map.1 hr;exact HR.out m (List.mem_filter.1 hm).1) (by rw [List.length_map];have:=shL_le L;omega))
   rw [List.flatMap_map] at TX
   clear OW
   go_wp2_with (go_at_call 95;refine TX.out.mono ?_;rintro e w2 ⟨rfl,hk⟩;have K2:=Lib.hid (KW.out.trans hk fun _ _ h=>h);clear hk)
   go_ret
   exact⟨rfl,K0.out.trans K2.out fun _ _ h=>h⟩
  case pos =>
   have hnl:(n:Int)<L.length:=by omega
   obtain⟨x,hx⟩:=get_of_lt hlt
   obtain⟨g,o,c',e1,_,h1⟩:=SlAt.node (HL.out.kept KW.out) (by omega)
   cases e1
   obtain⟨r0,r1,r2,r3,r4,r5⟩:=h1 n x hx
   have htk:L.take (n+1)=L.take n++[x]:=by rw [List.take_add_one,hx];rfl
   by_cases hst:x.st=1
   case neg =>
    have q6:(x.st == 1)=false:=by simpa using hst
    have E9:Hid (shL (L.take (n+1))=shL (L.take n)):=Lib.hid (by rw [htk,shL_snoc2,if_neg hst])
    clear htk hx h1 hst
    go_wp2_with fail
    go_roundw
    case rel=>exact⟨n+1,by go_num,by omega,by rw [E9.out];exact HO.out,KW.out⟩
    case measure=>simp [intOf];omega
   case pos =>
    have E9:Hid ((shL (L.take (n+1))).map Nd.rune=(shL (L.take n)).map Nd.rune++[x.rune]):=Lib.hid (by rw [htk,shL_snoc2,if_pos hst];simp)
    obtain⟨y,hy⟩:∃y,x.rune=y:=⟨_,rfl⟩
    rw [hst] at r5
    rw [hy] at r4 E9
    have hdl:((shL (L.take n)).map Nd.rune).length≤900000:=by rw [List.length_map];have:=shL_le (L.take n);have:=List.length_take_le n L;omega
    have DL:=Lib.hid hdl
    have LD:Hid (SlAt i32E (wr.alloc (.cells #[.int .i32 y] 21)) (.slice (some ⟨wr.heap.size,0,none⟩) 1 1) [y]):=Lib.hid (SlAt.lit (E:=i32E) [y] _ rfl (by simp [maxLen]))
    have k2:Kept (fun _=>False) wr (wr.alloc (.cells #[.int .i32 y] 21)):=(Kept.refl _ _).alloc _
    have O2:=Lib.hid (owns_keep HO.out k2 (fun _ _ h=>h))
    have K2:=Lib.hid (KW.out.trans k2 (fun _ _ h=>h))
    clear k2 htk hx h1 hdl hy hst
    go_wp2_with (at_builtin;refine wpList_append_row i32E rfl (.tmp 19) (.tmp 26) 73 rfl W0.heap.size 21 _ 4 Tryz.underlying73 info_i32 rfl rfl rfl O2.out LD.out (by have:=DL.out;show _+1≤maxLen;unfold maxLen;omega) (by have:=DL.out;show (_+1) * 4≤140737488355328;omega) K2.out.size ?_;intro v3 w3 ho3 hk3)
    go_roundw
    case rel=>exact⟨n+1,by go_num,by omega,by rw [E9.out];exact ho3,K2.out.over hk3 (fun x hx=>owns_new O2.out x hx)⟩
    case measure=>simp [intOf];omega
theorem sl_void {α:Type}{E:Enc α}{w:World}(a:Addr){c:Nat}(hc:c≤maxLen):SlAt E w (.slice (some a) 0 c) []:=.inr ⟨a,c,rfl,Nat.zero_le _,hc,fun h=>absurd rfl h,fun i y hy=>by simp at hy⟩
end Go.Proofs.YtjohljmpcblpjaaGreatDoor.Tr
namespace Go.Proofs.YtjohljmpcblpjaaGreatDoor.Tr
open Go.RowKit Go.Sort Go.Proofs.YtjohljmpcblpjaaGreatDoor.St
variable {w W W':World} {z q:Nat} {stop:Int} {v:Value} {Ws:List Nd} {i:Nat} {ok over:Bool}
end Go.Proofs.YtjohljmpcblpjaaGreatDoor.Tr
namespace Go.Proofs.YtjohljmpcblpjaaGreatDoor.Tr
open Go.RowKit Go.Sort Go.Proofs.YtjohljmpcblpjaaGreatDoor.St
theorem step_append_goes {P:Program}{α:Type}(E:Enc α){ops:Array Oper}{o:Oper}{a:Act}{w:World}{K:Act→World→Prop}{Q:Exit→Act→World→Prop}{G:Prop}(hgd:o.guard=none) (s y:Operand) (t:TypeId)
  (hop:o.op=Op.call { callee:=Callee.builtin Builtin.append,args:=#[s,y],argTypes:=#[t,t] }) (base:Nat) (e:TypeId) (z:Value) (bytes:Nat) (ht:P.underlying t=some (.slice e))
  (hinfo:(P.info? e).map (fun i=>(i.zero,i.size,i.bytes))=some (some z,E.k,bytes)) (hzs:z.cells.size=E.k) (hb4:bytes≤4096) {v:Value} {D:List α} {x:α} {ad:Addr} {c:Nat} (hs:a.eval s=v) (hx:a.eval y=.slice (some ad) 1 c)
  (hown:w.ownsRow base e E.k v D.length (E.flat D)) (hL:SlAt E w (.slice (some ad) 1 c) [x]) (h63:D.length≤1000000) (hbase:base≤w.heap.size)
  (hK:∀v' w',w'.ownsRow base e E.k v' (D.length+1) (E.flat (D++[x]))→Grow1 w w' v v'→K (a.put o.dst v') w'):if Region.wanted o (yielded ops a.tmps)=true then Oper.wp P o a w K Q else G:=by
 have hw:Region.wanted o (yielded ops a.tmps)=true:=by simp [Region.wanted,hgd]
 rw [if_pos hw]
 obtain⟨v',w',hr,h2,h3⟩:=run_append_keeps (P:=P) E t o.type e base z bytes ht hinfo hzs hb4 hown hL h63 hbase
 unfold Oper.wp
 simp [execOp,hop,resolve,invoke,builtin,hs,hx,hr,Result.andThen]
 exact hK v' w' h2 h3
theorem grow_goes {w w':World}{v v':Value}(h:Grow1 w w' v v'):Kept (fun b=>v.ownBlock=some b) w w':=by
 rcases h with ⟨_,h⟩|⟨_,h⟩
 ·exact h
 ·exact h.mono (fun _ _ h=>h.elim)
end Go.Proofs.YtjohljmpcblpjaaGreatDoor.Tr
