/- vector.Has: the growing form. op.of and op.Check of a join. Runes in bytes, plainly: how many bytes the rune that begins at a place has. Parts of the proof. -/
import Derived.Test.YtjohljmpcblpjaaGreatDoorM5
import Derived.Laws.RangeAny
import Derived.Lib.RuneCount
import Derived.IntWalk
set_option maxRecDepth 100000
set_option maxHeartbeats 8000000
namespace Go.Proofs.YtjohljmpcblpjaaGreatDoor
open Go.RowKit Go.Proofs.YtjohljmpcblpjaaGreatDoor.St
open Go.Sort (grow)
theorem hasV_grew {w:World}{v:Value}{L:List Dot}(h:SlAt dotE w v L) (hb:L.length≤1000000000) (d:Dot):Calls Tryz.prog 48 #[v,.agg #[.int .i64 d.site,.int .i64 d.seq]] w fun e w'=>e=.returned (.bool (decide (hasV L d)))∧Grew w w':=by
 have hmix:Tryz.prog.follows .mixedOrders=true:=by kernel_rfl
 have hB:=Blk.new w 29 #[.int .i64 d.site,.int .i64 d.seq]
 have k0:Grew w (w.alloc (.cells #[.int .i64 d.site,.int .i64 d.seq] 29)):=(Grew.refl _).alloc _
 obtain⟨W,hW,hz⟩:∃W,w.alloc (.cells #[.int .i64 d.site,.int .i64 d.seq] 29)=W∧W.heap.size=w.heap.size+1:=⟨_,rfl,by simp⟩
 rw [hW] at hB k0
 have b0:=cell_grown (w:=W) (by show w.heap.size<_;omega) (show W.cell? ⟨w.heap.size,0,none⟩=some (.int .i64 d.site) from hB.cell' (i:=0) rfl)
 have b1:=cell_grown (w:=W) (by show w.heap.size<_;omega) (show W.cell? ⟨w.heap.size,1,none⟩=some (.int .i64 d.seq) from hB.cell' (i:=1) rfl)
 have HG:=Lib.hid (fun (w':World) (hk:Grew W w')=>get_grew (h.kept (k0.trans hk).kept) hb d.site)
 have K0:=Lib.hid k0
 have HW:=Lib.hid hW
 unfold hasV
 clear hB h k0 hz hW
 by_cases h1:1≤d.seq
 ·have hd1:decide (1≤d.seq)=true:=decide_eq_true h1
  have e2:decide (1≤d.seq∧d.seq≤getV L d.site)=decide (d.seq≤getV L d.site):=decide_eq_decide.2 ⟨fun h=>h.2,fun h=>⟨h1,h⟩⟩
  rw [e2]
  generalize getV L d.site=gv at *
  go_enter Tryz.func48,Tryz.ntmps48
  go_wp2_with fail
  rw [HW.out]
  go_quiet_grown (first
   | (go_at_call 85;exact grown_call HG.out _ _))
  go_wp2_with fail
  go_ret
  exact⟨rfl,K0.out.trans (Grew.grown _ _)⟩
 ·have hd1:decide (1≤d.seq)=false:=decide_eq_false h1
  have e2:decide (1≤d.seq∧d.seq≤getV L d.site)=false:=decide_eq_false fun h=>h1 h.1
  rw [e2]
  go_enter Tryz.func48,Tryz.ntmps48
  go_wp2_with fail
  rw [HW.out]
  go_quiet_grown (first
   | (go_at_call 85;exact grown_call HG.out _ _))
  go_wp2_with fail
  go_ret
  exact⟨rfl,K0.out.trans (Grew.grown _ _)⟩
end Go.Proofs.YtjohljmpcblpjaaGreatDoor
namespace Go.Proofs.YtjohljmpcblpjaaGreatDoor
open Go.RowKit Go.Proofs.YtjohljmpcblpjaaGreatDoor.St
theorem of_join {w:World}{x:OpV}(hk:x.kind=3):Calls Tryz.prog 119 #[.agg (opA x)] w fun e w'=>e=.returned (.iface 233 (.agg #[.int .i64 x.site]))∧Grew w w':=by
 have hB:=Blk.new w 62 (opA x)
 have k0:Grew w (w.alloc (.cells (opA x) 62)):=(Grew.refl _).alloc _
 have b3:(w.alloc (.cells (opA x) 62)).cell? ⟨w.heap.size,3,none⟩=some (.int .i64 3):=by rw [←hk];exact hB.cell' (i:=3) rfl
 have b10:(w.alloc (.cells (opA x) 62)).cell? ⟨w.heap.size,10,none⟩=some (.int .i64 x.site):=hB.cell' (i:=10) rfl
 clear hB
 go_enter Tryz.func119,Tryz.ntmps119
 go_wp2_with fail
 go_ret
 exact⟨rfl,k0⟩
theorem rest_any {w:World}(x:OpV):Calls Tryz.prog 219 #[.agg (opA x)] w fun e w'=>e=.returned (.agg #[.int .i64 x.id.t,.int .i64 x.id.s,.int .i64 x.ref.t,.int .i64 x.ref.s,.string x.text,.int .i64 x.site])∧Grew w w':=by
 have hB:=(Blk.new w 62 (opA x)).alloc (.cells #[.int .i64 0,.int .i64 0,.int .i64 0,.int .i64 0,.string ⟨#[]⟩,.int .i64 0] 292)
 have hR:=Blk.new (w.alloc (.cells (opA x) 62)) 292 #[.int .i64 0,.int .i64 0,.int .i64 0,.int .i64 0,.string ⟨#[]⟩,.int .i64 0]
 have k0:Grew w ((w.alloc (.cells (opA x) 62)).alloc (.cells #[.int .i64 0,.int .i64 0,.int .i64 0,.int .i64 0,.string ⟨#[]⟩,.int .i64 0] 292)):=((Grew.refl _).alloc _).alloc _
 rw [World.size_alloc] at hR
 go_enter Tryz.func219,Tryz.ntmps219
 go_upto_region 1 with fail
 generalize ((w.alloc (.cells (opA x) 62)).alloc (.cells #[.int .i64 0,.int .i64 0,.int .i64 0,.int .i64 0,.string ⟨#[]⟩,.int .i64 0] 292))=W at *
 have b4:W.cell? ⟨w.heap.size,4,none⟩=some (.int .i64 x.id.t):=hB.cell' (i:=4) rfl
 have b5:W.cell? ⟨w.heap.size,5,none⟩=some (.int .i64 x.id.s):=hB.cell' (i:=5) rfl
 have b6:W.cell? ⟨w.heap.size,6,none⟩=some (.int .i64 x.ref.t):=hB.cell' (i:=6) rfl
 have b7:W.cell? ⟨w.heap.size,7,none⟩=some (.int .i64 x.ref.s):=hB.cell' (i:=7) rfl
 have b8:W.cell? ⟨w.heap.size,8,none⟩=some (.string x.text):=hB.cell' (i:=8) rfl
 have b10:W.cell? ⟨w.heap.size,10,none⟩=some (.int .i64 x.site):=hB.cell' (i:=10) rfl
 have HR:=Lib.hid hR
 have K0:=Lib.hid k0
 have SZ:(Tryz.prog.info? 292).map (·.size)=some 6:=by kernel_rfl
 have HZ:=Lib.hid SZ
 clear hB hR k0 SZ
 go_wp2_with (refine wpList_store_row rfl 292 _ _ rfl (w.heap.size+1) #[.int .i64 x.id.t,.int .i64 x.id.s,.int .i64 x.ref.t,.int .i64 x.ref.s,.string x.text,.int .i64 x.site] rfl rfl 292 #[.int .i64 0,.int .i64 0,.int .i64 0,.int .i64 0,.string ⟨#[]⟩,.int .i64 0] HR.out HZ.out rfl (by simp [Value.oneCell']) ?_)
 exact bodyPost_ret (Blk.result rfl _ (HR.out.row _) rfl Tryz.underlying292 rfl HZ.out) rfl ⟨rfl,K0.out.setRow (by omega) _⟩
end Go.Proofs.YtjohljmpcblpjaaGreatDoor
namespace Go.Proofs.YtjohljmpcblpjaaGreatDoor.Gl
def byteAt (s:ByteArray) (i:Nat):Int:=(s.get! i).toNat
theorem get_bang {s:ByteArray}{i:Nat}(h:i<s.size):s.get! i=s[i]:=by
 simp [ByteArray.get!,getElem!_pos,h]
 rfl
theorem byteAt_get {s:ByteArray}{i:Nat}(h:i<s.size):((s[i]).toNat:Int)=byteAt s i:=by
 unfold byteAt
 rw [get_bang h]
theorem byteAt_bd (s:ByteArray) (i:Nat):0≤byteAt s i∧byteAt s i≤255:=by
 unfold byteAt
 have:=(s.get! i).toNat_lt
 omega
def inB (s:ByteArray) (i:Nat) (lo hi:Int):Prop:=i<s.size∧lo≤byteAt s i∧byteAt s i≤hi
instance (s:ByteArray) (i:Nat) (lo hi:Int):Decidable (inB s i lo hi):=by unfold inB;infer_instance
def loB (a:Int):Int:=if a=224 then 160 else if a=240 then 144 else 128
def hiB (a:Int):Int:=if a=237 then 159 else if a=244 then 143 else 191
def tailN (a:Int):Nat:=if a<224 then 1 else if a<240 then 2 else 3
def runeW (s:ByteArray) (i:Nat):Nat :=
 if byteAt s i<128 then 1 else
 if byteAt s i<194∨244<byteAt s i then 0 else
 if inB s (i+1) (loB (byteAt s i)) (hiB (byteAt s i))∧(2≤tailN (byteAt s i)→inB s (i+2) 128 191)∧(3≤tailN (byteAt s i)→inB s (i+3) 128 191) then tailN (byteAt s i)+1 else 0
def runeN (a b c d:Int) (p q r:Prop) [Decidable p] [Decidable q] [Decidable r]:Nat :=
 if a<128 then 1 else
 if a<194∨244<a then 0 else
 if (p∧loB a≤b∧b≤hiB a)∧(2≤tailN a→q∧128≤c∧c≤191)∧(3≤tailN a→r∧128≤d∧d≤191) then tailN a+1 else 0
theorem runeN_eq (s:ByteArray) (i:Nat):runeW s i=runeN (byteAt s i) (byteAt s (i+1)) (byteAt s (i+2)) (byteAt s (i+3)) (i+1<s.size) (i+2<s.size) (i+3<s.size):=rfl
section
variable {a b c d:Nat} {p q r:Prop} [Decidable p] [Decidable q] [Decidable r]
theorem runeN_1 (h:a<128):runeN a b c d p q r=1:=if_pos (by omega)
theorem runeN_none (h:128≤a) (h2:a<194∨244<a):runeN a b c d p q r=0:=by
 unfold runeN
 rw [if_neg (by omega),if_pos (by omega)]
theorem runeN_2 (h:194≤a) (h2:a<224):runeN a b c d p q r=if p∧128≤b∧b≤191 then 2 else 0:=by
 unfold runeN
 have e1:tailN (a:Int)=1:=if_pos (by omega)
 have e2:loB (a:Int)=128:=by unfold loB;rw [if_neg (by omega),if_neg (by omega)]
 have e3:hiB (a:Int)=191:=by unfold hiB;rw [if_neg (by omega),if_neg (by omega)]
 rw [if_neg (by omega),if_neg (by omega),e1,e2,e3]
 by_cases hp:p∧128≤b∧b≤191
 ·rw [if_pos hp,if_pos ⟨⟨hp.1,by omega,by omega⟩,fun h=>by omega,fun h=>by omega⟩]
 ·rw [if_neg hp,if_neg (fun h=>hp ⟨h.1.1,by omega,by omega⟩)]
theorem runeN_3 (h:224≤a) (h2:a<240):runeN a b c d p q r=if (p∧(if a=224 then 160 else 128)≤b∧b≤(if a=237 then 159 else 191))∧q∧128≤c∧c≤191 then 3 else 0:=by
 unfold runeN
 have e1:tailN (a:Int)=2:=by unfold tailN;rw [if_neg (by omega),if_pos (by omega)]
 have e2:loB (a:Int)=((if a=224 then 160 else 128:Nat):Int):=by unfold loB;split <;> split <;> first | rfl | omega | (split <;> first | rfl | omega)
 have e3:hiB (a:Int)=((if a=237 then 159 else 191:Nat):Int):=by unfold hiB;split <;> split <;> first | rfl | omega | (split <;> first | rfl | omega)
 rw [if_neg (by omega),if_neg (by omega),e1,e2,e3]
 generalize (if a=224 then 160 else 128:Nat)=lo
 generalize (if a=237 then 159 else 191:Nat)=hi
 by_cases hp:(p∧lo≤b∧b≤hi)∧q∧128≤c∧c≤191
 ·rw [if_pos hp,if_pos ⟨⟨hp.1.1,by omega,by omega⟩,fun _=>⟨hp.2.1,by omega,by omega⟩,fun h=>by omega⟩]
 ·rw [if_neg hp,if_neg (fun h=>hp ⟨⟨h.1.1,by omega,by omega⟩,(h.2.1 (by omega)).1,by have:=h.2.1 (by omega);omega,by have:=h.2.1 (by omega);omega⟩)]
theorem runeN_4 (h:240≤a) (h2:a≤244):runeN a b c d p q r=if (p∧(if a=240 then 144 else 128)≤b∧b≤(if a=244 then 143 else 191))∧(q∧128≤c∧c≤191)∧r∧128≤d∧d≤191 then 4 else 0:=by
 unfold runeN
 have e1:tailN (a:Int)=3:=by unfold tailN;rw [if_neg (by omega),if_neg (by omega)]
 have e2:loB (a:Int)=((if a=240 then 144 else 128:Nat):Int):=by unfold loB;split <;> split <;> first | rfl | omega | (split <;> first | rfl | omega)
 have e3:hiB (a:Int)=((if a=244 then 143 else 191:Nat):Int):=by unfold hiB;split <;> split <;> first | rfl | omega | (split <;> first | rfl | omega)
 rw [if_neg (by omega),if_neg (by omega),e1,e2,e3]
 generalize (if a=240 then 144 else 128:Nat)=lo
 generalize (if a=244 then 143 else 191:Nat)=hi
 by_cases hp:(p∧lo≤b∧b≤hi)∧(q∧128≤c∧c≤191)∧r∧128≤d∧d≤191
 ·rw [if_pos hp,if_pos ⟨⟨hp.1.1,by omega,by omega⟩,fun _=>⟨hp.2.1.1,by omega,by omega⟩,fun _=>⟨hp.2.2.1,by omega,by omega⟩⟩]
 ·rw [if_neg hp,if_neg (fun h=>hp ⟨⟨h.1.1,by omega,by omega⟩,⟨(h.2.1 (by omega)).1,by have:=h.2.1 (by omega);omega,by have:=h.2.1 (by omega);omega⟩,(h.2.2 (by omega)).1,by have:=h.2.2 (by omega);omega,by have:=h.2.2 (by omega);omega⟩)]
end
theorem valid_iff (n:Int):Utf8.valid n=true↔(0≤n∧n<55296)∨(57344≤n∧n≤1114111):=by
 unfold Utf8.valid
 rw [Bool.or_eq_true,Bool.and_eq_true,Bool.and_eq_true,decide_eq_true_iff,decide_eq_true_iff,decide_eq_true_iff,decide_eq_true_iff]
theorem decode_runeW (s:ByteArray) (i:Nat):(Utf8.decode s i).2=(if runeW s i=0 then 1 else runeW s i)∧(runeW s i=0→(Utf8.decode s i).1=65533):=by
 have h0:=(s.get! i).toNat_lt
 have h1:=(s.get! (i+1)).toNat_lt
 have h2:=(s.get! (i+2)).toNat_lt
 have h3:=(s.get! (i+3)).toNat_lt
 rw [runeN_eq]
 unfold byteAt
 obtain⟨x,hx⟩:∃x,Utf8.decode s i=x:=⟨_,rfl⟩
 rw [hx]
 simp only [Utf8.decode,Nat.add_zero] at hx
 simp only [Bool.and_eq_true,beq_iff_eq,decide_eq_true_iff,valid_iff] at hx
 generalize (s.get! i).toNat=a at *
 generalize (s.get! (i+1)).toNat=b at *
 generalize (s.get! (i+2)).toNat=c at *
 generalize (s.get! (i+3)).toNat=d at *
 have hE:Utf8.runeError=65533:=rfl
 rw [hE] at hx
 have bad:∀ {n:Nat},n=0→x=(65533,1)→x.2=(if n=0 then 1 else n)∧(n=0→x.1=65533):=fun h1 h2=>by subst h1 h2;exact⟨rfl,fun _=>rfl⟩
 have good:∀ {n m r:Nat},n=m→m≠0→x=(r,m)→x.2=(if n=0 then 1 else n)∧(n=0→x.1=65533):=fun h1 h2 h3=>by subst h1 h3;exact⟨by rw [if_neg h2],fun h=>absurd h h2⟩
 by_cases c1:a<128
 ·rw [if_pos c1] at hx
  exact good (runeN_1 c1) (by decide) hx.symm
 rw [if_neg c1] at hx
 by_cases c2:a<224
 ·rw [if_neg (show ¬((a / 16=14∧_)∧_) by omega),if_neg (show ¬(((a / 8=30∧_)∧_)∧_) by omega)] at hx
  by_cases c3:a / 32=6∧i+1<s.size∧b / 64=2
  ·rw [if_pos c3] at hx
   by_cases c4:a<194
   ·rw [if_neg (by omega)] at hx
    exact bad (runeN_none (by omega) (by omega)) hx.symm
   ·rw [if_pos (by omega)] at hx
    refine good (m:=2) ?_ (by decide) hx.symm
    rw [runeN_2 (by omega) c2,if_pos ⟨c3.2.1,by omega,by omega⟩]
  ·rw [if_neg c3] at hx
   refine bad ?_ hx.symm
   by_cases c4:a<194
   ·exact runeN_none (by omega) (by omega)
   ·rw [runeN_2 (by omega) c2,if_neg (fun h=>c3 ⟨by omega,h.1,by omega⟩)]
 by_cases c3:a<240
 ·rw [if_neg (show ¬(a / 32=6∧_) by omega),if_neg (show ¬(((a / 8=30∧_)∧_)∧_) by omega)] at hx
  by_cases c4:(a / 16=14∧i+1<s.size∧b / 64=2)∧i+2<s.size∧c / 64=2
  ·rw [if_pos c4] at hx
   by_cases c5:(if a=224 then 160 else 128)≤b∧b≤(if a=237 then 159 else 191)
   ·rw [if_pos (by split at c5 <;> split at c5 <;> omega)] at hx
    refine good (m:=3) ?_ (by decide) hx.symm
    rw [runeN_3 (by omega) c3,if_pos ⟨⟨c4.1.2.1,c5⟩,c4.2.1,by omega,by omega⟩]
   ·rw [if_neg (by split at c5 <;> split at c5 <;> omega)] at hx
    refine bad ?_ hx.symm
    rw [runeN_3 (by omega) c3,if_neg (fun h=>c5 h.1.2)]
  ·rw [if_neg c4] at hx
   refine bad ?_ hx.symm
   rw [runeN_3 (by omega) c3,if_neg (fun h=>c4 ⟨⟨by omega,h.1.1,by have:=h.1.2;split at this <;> split at this <;> omega⟩,h.2.1,by omega⟩)]
 ·rw [if_neg (show ¬(a / 32=6∧_) by omega),if_neg (show ¬((a / 16=14∧_)∧_) by omega)] at hx
  by_cases c4:((a / 8=30∧i+1<s.size∧b / 64=2)∧i+2<s.size∧c / 64=2)∧i+3<s.size∧d / 64=2
  ·rw [if_pos c4] at hx
   by_cases c6:a≤244
   ·by_cases c5:(if a=240 then 144 else 128)≤b∧b≤(if a=244 then 143 else 191)
    ·rw [if_pos (by split at c5 <;> split at c5 <;> omega)] at hx
     refine good (m:=4) ?_ (by decide) hx.symm
     rw [runeN_4 (by omega) c6,if_pos ⟨⟨c4.1.1.2.1,c5⟩,⟨c4.1.2.1,by omega,by omega⟩,c4.2.1,by omega,by omega⟩]
    ·rw [if_neg (by split at c5 <;> split at c5 <;> omega)] at hx
     refine bad ?_ hx.symm
     rw [runeN_4 (by omega) c6,if_neg (fun h=>c5 h.1.2)]
   ·rw [if_neg (by omega)] at hx
    exact bad (runeN_none (by omega) (by omega)) hx.symm
  ·rw [if_neg c4] at hx
   refine bad ?_ hx.symm
   by_cases c6:a≤244
   ·rw [runeN_4 (by omega) c6,if_neg (fun h=>c4 ⟨⟨⟨by omega,h.1.1,by have:=h.1.2;split at this <;> split at this <;> omega⟩,h.2.1.1,by omega⟩,h.2.2.1,by omega⟩)]
   ·exact runeN_none (by omega) (by omega)
theorem byteAt_extract (s:ByteArray) (i j:Nat) (h:i≤s.size):byteAt (s.extract i s.size) j=byteAt s (i+j):=by
 have hs:(s.extract i s.size).size=s.size-i:=by simp
 unfold byteAt
 by_cases hj:i+j<s.size
 ·rw [get_bang hj,get_bang (by rw [hs];omega)]
  simp [ByteArray.getElem_extract]
 ·have e1:s.get! (i+j)=default:=by
   show s.data[i+j]! = default
   exact getElem!_neg _ _ (by simpa using hj)
  have e2:(s.extract i s.size).get! j=default:=by
   show (s.extract i s.size).data[j]! = default
   refine getElem!_neg _ _ ?_
   have : (s.extract i s.size).data.size=s.size-i:=hs
   rw [this]
   omega
  rw [e1,e2]
theorem runeW_extract (s:ByteArray) (i:Nat) (h:i≤s.size):runeW (s.extract i s.size) 0=runeW s i:=by
 have hs:(s.extract i s.size).size=s.size-i:=by simp
 have key:∀ {a b c d:Int} {p q r p' q' r':Prop} [Decidable p] [Decidable q] [Decidable r] [Decidable p'] [Decidable q'] [Decidable r'],(p↔p')→(q↔q')→(r↔r')→runeN a b c d p q r=runeN a b c d p' q' r':=by
  intro a b c d p q r p' q' r' _ _ _ _ _ _ h1 h2 h3
  unfold runeN
  simp only [h1,h2,h3]
 rw [runeN_eq,runeN_eq,byteAt_extract s i _ h,byteAt_extract s i _ h,byteAt_extract s i _ h,byteAt_extract s i _ h,Nat.zero_add,Nat.zero_add,Nat.zero_add,Nat.add_zero]
 refine key ?_ ?_ ?_ <;> rw [hs] <;> omega
end Go.Proofs.YtjohljmpcblpjaaGreatDoor.Gl
namespace Go.Proofs.YtjohljmpcblpjaaGreatDoor
open Go.RowKit Go.Proofs.YtjohljmpcblpjaaGreatDoor.Gl
def followsP (t:ByteArray) (n:Nat) (lo hi:Int):Prop:=n≤t.size∧lo≤byteAt t 0∧byteAt t 0≤hi∧∀j,1≤j→j<n→128≤byteAt t j∧byteAt t j≤191
instance (t:ByteArray) (n:Nat) (lo hi:Int):Decidable (followsP t n lo hi):=by
 unfold followsP
 have : Decidable (∀j,1≤j→j<n→128≤byteAt t j∧byteAt t j≤191):=decidable_of_iff (∀j,j<n→1≤j→128≤byteAt t j∧byteAt t j≤191) ⟨fun h j a b=>h j b a,fun h j a b=>h j b a⟩
 infer_instance
theorem and192 {b:Int}(h0:0≤b) (h1:b≤255):(bits BinOp.and IntKind.u8 b 192 != 128)=decide (¬(128≤b∧b≤191)):=by
 have key:∀n:Fin 256,(bits BinOp.and IntKind.u8 (n.val:Int) 192 != 128)=decide (¬(128≤(n.val:Int)∧(n.val:Int)≤191)):=by decide +kernel
 have:=key ⟨b.toNat,by omega⟩
 have e:((b.toNat:Nat):Int)=b:=by omega
 simpa only [e] using this
theorem follows_any (t:ByteArray) (n:Nat) (lo hi:Int) (hn1:1≤n) (hn:n≤3) (ht:t.size≤maxLen) (w:World):Calls Tryz.prog 180 #[.string t,.int .i64 n,.int .u8 lo,.int .u8 hi] w fun e w'=>e=.returned (.bool (decide (followsP t n lo hi)))∧w'=w:=by
 unfold maxLen at ht
 by_cases h1:t.size<n
 ·have ANS:=Lib.hid (show decide (followsP t n lo hi)=false from decide_eq_false (fun h=>by have:=h.1;omega))
  have h1I:(t.size:Int)<n:=by omega
  go_enter Tryz.func180,Tryz.ntmps180
  go_wp2_with fail
  go_ret
  exact⟨by rw [ANS.out];rfl,rfl⟩
 have h1I:¬(t.size:Int)<n:=by omega
 have h0:0<t.size:=by omega
 have hb0:=byteAt_get h0
 by_cases h2:byteAt t 0<lo
 ·have ANS:=Lib.hid (show decide (followsP t n lo hi)=false from decide_eq_false (fun h=>by have:=h.2.1;omega))
  go_enter Tryz.func180,Tryz.ntmps180
  go_wp2_with fail
  go_ret
  exact⟨by rw [ANS.out];rfl,rfl⟩
 by_cases h3:hi<byteAt t 0
 ·have ANS:=Lib.hid (show decide (followsP t n lo hi)=false from decide_eq_false (fun h=>by have:=h.2.2.1;omega))
  go_enter Tryz.func180,Tryz.ntmps180
  go_wp2_with fail
  go_ret
  exact⟨by rw [ANS.out];rfl,rfl⟩
 go_enter Tryz.func180,Tryz.ntmps180
 go_wp2_with fail
 clear hb0
 have hlo:lo≤byteAt t 0:=by omega
 have hhi:byteAt t 0≤hi:=by omega
 have hnt:n≤t.size:=by omega
 clear h1 h1I h2 h3
 go_loop [9] (fun i=>∃k:Nat,i=.int .i64 k∧1≤k∧k≤n∧∀j,1≤j→j<k→128≤byteAt t j∧byteAt t j≤191) (fun i=>n-(intOf i).toNat)
 case atStart=>exact⟨1,rfl,Nat.le_refl _,hn1,fun j a b=>by omega⟩
 case round =>
  obtain⟨k,rfl,hk1,hkn,hlow⟩:=hrel
  have LOW:=Lib.hid hlow
  clear hlow
  by_cases hlt:k<n
  case neg =>
   obtain rfl:k=n:=by omega
   have hltI:¬(k:Int)<k:=by omega
   have ANS:=Lib.hid (show decide (followsP t k lo hi)=true from decide_eq_true ⟨hnt,hlo,hhi,LOW.out⟩)
   go_wp2_with fail
   go_ret
   exact⟨by rw [ANS.out];rfl,rfl⟩
  case pos =>
   have hltI:(k:Int)<n:=by omega
   have hkt:(k:Int)<t.size:=by omega
   have hk0:(0:Int)≤k:=by omega
   have hbk:=byteAt_get (show k<t.size by omega)
   have hbd:=byteAt_bd t k
   have ha:=and192 hbd.1 hbd.2
   by_cases hl:128≤byteAt t k∧byteAt t k≤191
   ·rw [decide_eq_false (fun h=>h hl)] at ha
    have HL:=Lib.hid hl
    clear hl hbd
    go_wp2_with fail
    go_round
    case rel =>
     refine⟨k+1,by go_num,by omega,by omega,fun j a b=>?_⟩
     by_cases hj:j=k
     ·rw [hj];exact HL.out
     ·exact LOW.out j a (by omega)
    case measure=>simp [intOf];omega
   ·rw [decide_eq_true hl] at ha
    have ANS:=Lib.hid (show decide (followsP t n lo hi)=false from decide_eq_false (fun h=>hl (h.2.2.2 k hk1 hlt)))
    clear hl hbd
    go_wp2_with fail
    go_ret
    exact⟨by rw [ANS.out];rfl,rfl⟩
theorem follows_runeW {s:ByteArray}(h0:0<s.size) (h1:194≤byteAt s 0) (h2:byteAt s 0≤244) :
  runeW s 0=if followsP (s.extract 1 s.size) (tailN (byteAt s 0)) (loB (byteAt s 0)) (hiB (byteAt s 0)) then tailN (byteAt s 0)+1 else 0:=by
 have hs:(s.extract 1 s.size).size=s.size-1:=by simp
 have hx:=fun j=>byteAt_extract s 1 j (by omega)
 have ht:1≤tailN (byteAt s 0)∧tailN (byteAt s 0)≤3:=by unfold tailN;split <;> (try split) <;> omega
 have e:(inB s (0+1) (loB (byteAt s 0)) (hiB (byteAt s 0))∧(2≤tailN (byteAt s 0)→inB s (0+2) 128 191)∧(3≤tailN (byteAt s 0)→inB s (0+3) 128 191))↔followsP (s.extract 1 s.size) (tailN (byteAt s 0)) (loB (byteAt s 0)) (hiB (byteAt s 0)):=by
  unfold followsP inB
  rw [hs]
  simp only [hx,Nat.zero_add,Nat.add_zero]
  generalize tailN (byteAt s 0)=n at *
  constructor
  ·rintro⟨⟨a1,a2,a3⟩,b,c⟩
   refine⟨?_,a2,a3,fun j hj1 hj2=>?_⟩
   ·by_cases h3:3≤n
    ·have:=(c h3).1;omega
    ·by_cases h4:2≤n
     ·have:=(b h4).1;omega
     ·omega
   ·by_cases hj:j=1
    ·subst hj;exact (b (by omega)).2
    ·have : j=2:=by omega
     subst this;exact (c (by omega)).2
  ·rintro⟨a,b,c,d⟩
   exact⟨⟨by omega,b,c⟩,fun h=>⟨by omega,d 1 (Nat.le_refl _) (by omega)⟩,fun h=>⟨by omega,d 2 (by omega) (by omega)⟩⟩
 unfold runeW
 rw [if_neg (by omega),if_neg (by omega)]
 by_cases hf:followsP (s.extract 1 s.size) (tailN (byteAt s 0)) (loB (byteAt s 0)) (hiB (byteAt s 0))
 ·rw [if_pos hf,if_pos (e.2 hf)]
 ·rw [if_neg hf,if_neg (fun h=>hf (e.1 h))]
theorem follows_b (t:ByteArray) (n:Nat) (lo hi:Int) (hn1:1≤n) (hn:n≤3) (ht:t.size≤maxLen){b:Bool}(hb:decide (followsP t n lo hi)=b) (w:World):Calls Tryz.prog 180 #[.string t,.int .i64 n,.int .u8 lo,.int .u8 hi] w fun e w'=>e=.returned (.bool b)∧w'=w:=hb ▸ follows_any t n lo hi hn1 hn ht w
theorem width_any (s:ByteArray) (h0:0<s.size) (hs:s.size≤maxLen) (w:World):Calls Tryz.prog 154 #[.string s] w fun e w'=>e=.returned (.int .i64 (runeW s 0))∧w'=w:=by
 have hbd:=byteAt_bd s 0
 have hb0:=byteAt_get h0
 have hfr:=follows_runeW h0
 have hxs:(s.extract 1 s.size).size≤maxLen:=by simp;omega
 unfold maxLen at hs
 by_cases c1:byteAt s 0<128
 ·have ANS:=Lib.hid (show runeW s 0=1 from if_pos c1)
  clear hfr hbd
  go_enter Tryz.func154,Tryz.ntmps154
  go_wp2_with fail
  go_ret
  exact⟨by rw [ANS.out];rfl,rfl⟩
 by_cases c2:byteAt s 0<194
 ·have ANS:=Lib.hid (show runeW s 0=0 by unfold runeW;rw [if_neg c1,if_pos (.inl c2)])
  clear hfr hbd
  go_enter Tryz.func154,Tryz.ntmps154
  go_wp2_with fail
  go_ret
  exact⟨by rw [ANS.out];rfl,rfl⟩
 by_cases c3:244<byteAt s 0
 ·have ANS:=Lib.hid (show runeW s 0=0 by unfold runeW;rw [if_neg c1,if_pos (.inr c3)])
  clear hfr hbd
  go_enter Tryz.func154,Tryz.ntmps154
  go_wp2_with fail
  go_ret
  exact⟨by rw [ANS.out];rfl,rfl⟩
 have hfr:=hfr (by omega) (by omega)
 obtain⟨n,lo,hi,hn1,hn3,hw,hcase⟩:∃(n:Nat) (lo hi:Int),1≤n∧n≤3∧runeW s 0=(if followsP (s.extract 1 s.size) n lo hi then n+1 else 0) ∧
   ((byteAt s 0<224∧n=1∧lo=128∧hi=191)∨(byteAt s 0=224∧n=2∧lo=160∧hi=191)∨(byteAt s 0=237∧n=2∧lo=128∧hi=159)∨(224<byteAt s 0∧byteAt s 0<240∧byteAt s 0≠237∧n=2∧lo=128∧hi=191) ∨
    (byteAt s 0=240∧n=3∧lo=144∧hi=191)∨(byteAt s 0=244∧n=3∧lo=128∧hi=143)∨(240<byteAt s 0∧byteAt s 0<244∧n=3∧lo=128∧hi=191)):=by
  refine⟨tailN (byteAt s 0),loB (byteAt s 0),hiB (byteAt s 0),?_,?_,hfr,?_⟩
  ·unfold tailN;split <;> (try split) <;> omega
  ·unfold tailN;split <;> (try split) <;> omega
  ·unfold tailN loB hiB
   generalize byteAt s 0=a at *
   split <;> split <;> split <;> omega
 clear hfr
 obtain⟨b,hb⟩:∃b,decide (followsP (s.extract 1 s.size) n lo hi)=b:=⟨_,rfl⟩
 have HF:=Lib.hid (follows_b (s.extract 1 s.size) n lo hi hn1 hn3 hxs hb w)
 have ANS:Hid (runeW s 0=if b=true then n+1 else 0):=Lib.hid (by
  rw [hw,←hb]
  by_cases h:followsP (s.extract 1 s.size) n lo hi
  ·rw [if_pos h,if_pos (decide_eq_true h)]
  ·rw [if_neg h,if_neg (fun e=>h (of_decide_eq_true e))])
 clear hw hb hxs hbd hn1 hn3
 generalize byteAt s 0=a at *
 have fin:∀(e:Ending) (w':World),e=.returned (.int .i64 ((if b=true then n+1 else 0:Nat):Int))→w'=w→e=.returned (.int .i64 (runeW s 0))∧w'=w:=fun _ _ h1 h2=>⟨by rw [ANS.out];exact h1,h2⟩
 have FIN:=Lib.hid fin
 clear fin ANS
 rcases hcase with ⟨e1,rfl,rfl,rfl⟩|⟨rfl,rfl,rfl,rfl⟩|⟨rfl,rfl,rfl,rfl⟩|⟨e1,e2,e3,rfl,rfl,rfl⟩|⟨rfl,rfl,rfl,rfl⟩|⟨rfl,rfl,rfl,rfl⟩|⟨e1,e2,rfl,rfl,rfl⟩
 rotate_left 3
 ·have f1:(a == 224)=false:=beq_eq_false_iff_ne.2 (by omega)
  have f2:(a == 237)=false:=beq_eq_false_iff_ne.2 e3
  have f3:¬a<224:=by omega
  clear e1 e3
  cases b
  all_goals
   go_enter Tryz.func154,Tryz.ntmps154
   go_wp2_with (go_at_call 180;refine HF.out.mono ?_;rintro e w' ⟨rfl,rfl⟩)
   go_ret
   exact FIN.out _ _ rfl rfl
 rotate_left 2
 ·have f1:(a == 224)=false:=beq_eq_false_iff_ne.2 (by omega)
  have f2:(a == 237)=false:=beq_eq_false_iff_ne.2 (by omega)
  have f3:¬a<224:=by omega
  have f4:¬a<240:=by omega
  have f5:(a == 240)=false:=beq_eq_false_iff_ne.2 (by omega)
  have f6:(a == 244)=false:=beq_eq_false_iff_ne.2 (by omega)
  clear e1 e2
  cases b
  all_goals
   go_enter Tryz.func154,Tryz.ntmps154
   go_wp2_with (go_at_call 180;refine HF.out.mono ?_;rintro e w' ⟨rfl,rfl⟩)
   go_ret
   exact FIN.out _ _ rfl rfl
 all_goals
  cases b
  all_goals
   go_enter Tryz.func154,Tryz.ntmps154
   go_wp2_with (go_at_call 180;refine HF.out.mono ?_;rintro e w' ⟨rfl,rfl⟩)
   go_ret
   exact FIN.out _ _ rfl rfl
end Go.Proofs.YtjohljmpcblpjaaGreatDoor
