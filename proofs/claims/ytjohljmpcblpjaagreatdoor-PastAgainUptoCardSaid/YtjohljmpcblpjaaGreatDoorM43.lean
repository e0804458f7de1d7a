/- much: what the law plays is little. Words of 32 bits as sets of sites. They speak of no program. Parts of the proof. -/
import Derived.Laws.BitsLemmas
import Derived.Laws.Entries
import Derived.Test.YtjohljmpcblpjaaGreatDoorM27
set_option maxRecDepth 100000
set_option maxHeartbeats 4000000
namespace Go.Proofs.YtjohljmpcblpjaaGreatDoor.Pa
open Go.RowKit Go.Proofs.YtjohljmpcblpjaaGreatDoor.St Go.Proofs.YtjohljmpcblpjaaGreatDoor Go.Proofs.YtjohljmpcblpjaaGreatDoor.Tr
attribute [local go_sem] Oper.semAt_some
def sizeE (e:Ent):Nat:=e.v.text.size+e.v.deps.n+10 * e.v.gone.n
def muchN (l:List Ent):Nat:=(l.map sizeE).sum
theorem muchN_snoc (L:List Ent) (x:Ent):muchN (L++[x])=muchN L+sizeE x:=by simp [muchN]
theorem sum_le {α:Type}(f g:α→Nat) (h:∀x,f x≤g x):∀L:List α,(L.map f).sum≤(L.map g).sum
 | []=>Nat.le_refl _
 | x::L=>by have:=sum_le f g h L;have:=h x;simp only [List.map_cons,List.sum_cons];omega
theorem textN_much (l:List Ent):textN l≤muchN l:=sum_le _ _ (fun e=>by unfold sizeE;omega) l
structure FewE (l:List Ent) (n:Nat):Prop where
 len:l.length≤60
 vec:n≤20000
 each:∀e∈l,e.v.text.size≤20000∧e.v.deps.n≤20000∧e.v.gone.n≤20000
 all:muchN l≤20000
def MuchPost (w:World) (L:List Ent) (vn:Nat) (r:Ending) (w':World):Prop:=(∃b,r=.returned (.bool b)∧(b=false↔FewE L vn))∧Kept (fun _=>False) w w'
theorem much_any {w:World}{v va:Value}{vs:Option Addr}{vn vc:Nat}{L:List Ent}(h:SlAt entE w v L) (hvn:va=.slice vs vn vc) (ht:∀s∈L,s.v.text.size≤maxLen) :
  Calls Tryz.prog 9 #[v,va] w (MuchPost w L vn):=by
 subst hvn
 obtain⟨a,c,rfl,_,_⟩:=h.sl
 have HL:=Lib.hid h
 have HT:=Lib.hid ht
 clear h ht
 by_cases h1:60<L.length
 ·have e1:(60:Int)<L.length:=by omega
  go_enter Tryz.func9,Tryz.ntmps9
  go_wp2_with fail
  go_ret
  exact⟨⟨true,rfl,fun h=>(by cases h),fun h=>absurd h.len (by omega)⟩,Kept.refl _ _⟩
 have e1:¬(60:Int)<L.length:=by omega
 by_cases h2:20000<vn
 ·have e2:(20000:Int)<vn:=by omega
  clear h1
  go_enter Tryz.func9,Tryz.ntmps9
  go_wp2_with fail
  go_ret
  exact⟨⟨true,rfl,fun h=>(by cases h),fun h=>absurd h.vec (by omega)⟩,Kept.refl _ _⟩
 have e2:¬(20000:Int)<vn:=by omega
 go_enter Tryz.func9,Tryz.ntmps9
 go_wp2_with fail
 clear e1 e2
 go_loopw [5,6] (fun kv iv wr=>∃n:Nat,iv=.int .i64 n∧kv=.int .i64 (muchN (L.take n))∧n≤L.length∧muchN (L.take n)≤240000 * n∧(∀s∈L.take n,s.v.text.size≤20000∧s.v.deps.n≤20000∧s.v.gone.n≤20000)∧Kept (fun _=>False) w wr) (fun _ iv _=>L.length-(intOf iv).toNat)
 case atStart=>exact⟨0,rfl,by simp [muchN],Nat.zero_le _,by simp [muchN],fun s hs=>by simp at hs,Kept.refl _ _⟩
 case round =>
  obtain⟨n,rfl,rfl,hn,hnt,hno,hk⟩:=hrel
  have NO:=Lib.hid hno
  have HK:=Lib.hid hk
  clear hno
  have hn0:(0:Int)≤n:=by omega
  by_cases hlt:n<L.length
  case neg =>
   have hltI:¬(n:Int)<L.length:=by omega
   have hn9:n=L.length:=by omega
   have e9:L.take n=L:=by rw [hn9,List.take_length]
   have NO2:=Lib.hid (e9 ▸ NO.out)
   rw [e9] at hnt ⊢
   obtain⟨mn,hmn⟩:∃mn,muchN L=mn:=⟨_,rfl⟩
   rw [hmn] at hnt ⊢
   have HM:=Lib.hid hmn
   clear hn9 e9 hmn hk
   by_cases q3:(20000:Int)<mn
   ·go_wp2_with fail
    go_ret
    exact⟨⟨true,rfl,fun h=>(by cases h),fun h=>absurd h.all (by rw [HM.out];omega)⟩,HK.out⟩
   ·go_wp2_with fail
    go_ret
    exact⟨⟨false,rfl,fun _=>⟨by omega,by omega,NO2.out,by rw [HM.out];omega⟩,fun _=>rfl⟩,HK.out⟩
  case pos =>
   have hltI:(n:Int)<L.length:=by omega
   obtain⟨x,hx⟩:=get_of_lt hlt
   obtain⟨g,o,c',e2,hcs⟩:=SlAt.opc (HL.out.kept hk) (by omega)
   cases e2
   obtain⟨_,_,c2,_,_,_,_,_,c8,c9,_⟩:=hcs n x hx
   have htk:L.take (n+1)=L.take n++[x]:=by rw [List.take_add_one,hx];rfl
   have NX:=Lib.hid (fun h:FewE L vn=>h.each x (List.mem_of_getElem? hx))
   have TN:Hid (muchN (L.take (n+1))=muchN (L.take n)+(x.v.text.size+x.v.deps.n+10 * x.v.gone.n)):=Lib.hid (by rw [htk,muchN_snoc];rfl)
   have EA:Hid (x.v.text.size≤20000∧x.v.deps.n≤20000∧x.v.gone.n≤20000→∀s∈L.take (n+1),s.v.text.size≤20000∧s.v.deps.n≤20000∧s.v.gone.n≤20000):=Lib.hid (fun hh s hs=>by
    rw [htk] at hs
    rcases List.mem_append.1 hs with hs|hs
    ·exact NO.out s hs
    ·rw [List.mem_singleton.1 hs];exact hh)
   obtain⟨tn,htn⟩:∃tn,muchN (L.take n)=tn:=⟨_,rfl⟩
   rw [htn] at TN hnt ⊢
   have hw1:IntKind.i64.wrap ((n:Int)+1)=(n:Int)+1:=IntWalk.i64_in _ (by omega)
   obtain⟨ts,hts⟩:∃ts,x.v.text.size=ts:=⟨_,rfl⟩
   obtain⟨dn,hdn⟩:∃dn,x.v.deps.n=dn:=⟨_,rfl⟩
   obtain⟨gn,hgn⟩:∃gn,x.v.gone.n=gn:=⟨_,rfl⟩
   obtain⟨tx,htx⟩:∃tx,x.v.text=tx:=⟨_,rfl⟩
   rw [htx] at hts c8
   rw [hdn] at c2 TN EA NX
   rw [hgn] at c9 TN EA NX
   rw [htx,hts] at TN EA NX
   clear hcs hx htk htn hdn hgn htx hk
   by_cases q1:(20000:Int)<ts
   ·go_wp2_with fail
    go_ret
    exact⟨⟨true,rfl,fun h=>(by cases h),fun h=>absurd (NX.out h) (by omega)⟩,HK.out⟩
   ·by_cases q2:(20000:Int)<dn
    ·go_wp2_with fail
     go_ret
     exact⟨⟨true,rfl,fun h=>(by cases h),fun h=>absurd (NX.out h) (by omega)⟩,HK.out⟩
    ·by_cases q3:(20000:Int)<gn
     ·go_wp2_with fail
      go_ret
      exact⟨⟨true,rfl,fun h=>(by cases h),fun h=>absurd (NX.out h) (by omega)⟩,HK.out⟩
     ·have hn60:n<60:=by omega
      have a1:IntKind.i64.wrap ((tn:Int)+ts)=(tn:Int)+ts:=IntWalk.i64_in _ (by omega)
      have a2:IntKind.i64.wrap ((tn:Int)+ts+dn)=(tn:Int)+ts+dn:=IntWalk.i64_in _ (by omega)
      have a3:IntKind.i64.wrap (10 * (gn:Int))=10 * (gn:Int):=IntWalk.i64_in _ (by omega)
      have a4:IntKind.i64.wrap ((tn:Int)+ts+dn+10 * gn)=(tn:Int)+ts+dn+10 * gn:=IntWalk.i64_in _ (by omega)
      have NB:Hid (tn+(ts+dn+10 * gn)≤240000 * (n+1)):=Lib.hid (by omega)
      have EB:=Lib.hid (EA.out ⟨by omega,by omega,by omega⟩)
      clear hnt
      go_upto_region 9 with fail
      go_quiet (fail)
      go_wp2
      go_roundw
      case rel=>exact⟨n+1,by go_num,by rw [TN.out];push_cast;rw [Int.add_assoc,Int.add_assoc,Int.add_assoc],by omega,by rw [TN.out];exact NB.out,EB.out,HK.out.drewN _⟩
      case measure=>simp [intOf];omega
theorem much_no {w:World}{v:Value}{vs:Option Addr}{vn vc:Nat}{L:List Ent}(h:SlAt entE w v L) (ht:∀s∈L,s.v.text.size≤maxLen) (hf:FewE L vn) :
  Calls Tryz.prog 9 #[v,.slice vs vn vc] w fun r w'=>r=.returned (.bool false)∧Kept (fun _=>False) w w' :=
 (much_any h rfl ht).mono fun r w' ⟨⟨b,h1,h2⟩,h3⟩=>⟨by rw [h1,h2.2 hf],h3⟩
theorem much_yes {w:World}{v:Value}{vs:Option Addr}{vn vc:Nat}{L:List Ent}(h:SlAt entE w v L) (ht:∀s∈L,s.v.text.size≤maxLen) (hf:¬FewE L vn) :
  Calls Tryz.prog 9 #[v,.slice vs vn vc] w fun r w'=>r=.returned (.bool true)∧Kept (fun _=>False) w w' :=
 (much_any h rfl ht).mono fun r w' ⟨⟨b,h1,h2⟩,h3⟩=>⟨by cases b with | false=>exact absurd (h2.1 rfl) hf | true=>exact h1,h3⟩
end Go.Proofs.YtjohljmpcblpjaaGreatDoor.Pa
namespace Go.Proofs.YtjohljmpcblpjaaGreatDoor.Pa
def u32V (x:BitVec 32):Value:=.int .u32 (x.toNat:Int)
theorem ofInt_u32 (x:BitVec 32):BitVec.ofInt 32 (x.toNat:Int)=x:=by
 rw [BitVec.ofInt_natCast]
 simp
theorem wrap_nat32 (x:BitVec 32):IntKind.u32.wrap (x.toNat:Int)=x.toNat:=by
 have:=x.isLt
 rw [IntKind.wrap_u32]
 omega
theorem and_u32 (x y:BitVec 32):bits .and .u32 (x.toNat:Int) (y.toNat:Int)=((x &&& y).toNat:Int):=by
 show IntKind.u32.wrap _=_
 simp only [IntKind.bits,ofInt_u32]
 exact wrap_nat32 _
theorem or_u32 (x y:BitVec 32):bits .or .u32 (x.toNat:Int) (y.toNat:Int)=((x ||| y).toNat:Int):=by
 show IntKind.u32.wrap _=_
 simp only [IntKind.bits,ofInt_u32]
 exact wrap_nat32 _
theorem andNot_u32 (x y:BitVec 32):bits .andNot .u32 (x.toNat:Int) (y.toNat:Int)=((x &&& ~~~y).toNat:Int):=by
 show IntKind.u32.wrap _=_
 simp only [IntKind.bits,ofInt_u32]
 exact wrap_nat32 _
theorem sub1_u32 {x:BitVec 32}(h:x≠0):IntKind.u32.wrap ((x.toNat:Int) - 1)=((x-1#32).toNat:Int):=by
 have h1:x.toNat≠0:=fun e=>h (BitVec.eq_of_toNat_eq (by simpa using e))
 have h2:=x.isLt
 rw [IntKind.wrap_u32,BitVec.toNat_sub]
 have h3:(1#32).toNat=1:=rfl
 rw [h3]
 omega
theorem neg_u32 (x:BitVec 32):IntKind.u32.wrap (-(x.toNat:Int))=((-x).toNat:Int):=by
 have h2:=x.isLt
 rw [IntKind.wrap_u32,BitVec.toNat_neg]
 omega
theorem bit_u32 {n:Nat}(h:n≤16):IntKind.u32.wrap (1 * 2 ^ n)=((BitVec.twoPow 32 n).toNat:Int):=by
 rw [BitVec.toNat_twoPow_of_lt (by omega),IntKind.wrap_u32]
 have : (2:Nat) ^ n≤2 ^ 16:=Nat.pow_le_pow_right (by decide) h
 have e:((2 ^ n:Nat):Int)=2 ^ n:=by simp
 rw [←e,Int.one_mul]
 have h5:(0:Int)≤((2 ^ n:Nat):Int):=Int.natCast_nonneg _
 have h6:((2 ^ n:Nat):Int)≤65536:=Int.ofNat_le.2 this
 omega
theorem low_bit {x:BitVec 32}{k:Nat}(hk:x.getLsbD k=true) (hl:∀j,j<k→x.getLsbD j=false):x &&& -x=BitVec.twoPow 32 k:=by
 have hk32:k<32:=BitVec.lt_of_getLsbD hk
 refine BitVec.eq_of_getLsbD_eq fun i hi=>?_
 rw [BitVec.getLsbD_and,BitVec.getLsbD_neg,BitVec.getLsbD_twoPow]
 rcases Nat.lt_trichotomy i k with h|rfl|h
 ·rw [hl i h]
  simp
  omega
 ·have hno:¬ ∃j,j<i∧x.getLsbD j=true:=fun⟨j,h1,h2⟩=>by rw [hl j h1] at h2;cases h2
  rw [decide_eq_false hno]
  simp [hk,hi]
 ·have hex:∃j,j<i∧x.getLsbD j=true:=⟨k,h,hk⟩
  have hd:decide (∃j,j<i∧x.getLsbD j=true)=true:=decide_eq_true hex
  rw [hd]
  have : (decide (k<32) && decide (k=i))=false:=by simp;omega
  rw [this]
  cases x.getLsbD i <;> simp [hi]
theorem drop_low {x:BitVec 32}{k:Nat}(hk:x.getLsbD k=true) (hl:∀j,j<k→x.getLsbD j=false) (i:Nat):(x &&& (x-1#32)).getLsbD i=(x.getLsbD i && !decide (i=k)):=by
 rw [←BitVec.not_neg,BitVec.getLsbD_and,BitVec.getLsbD_not,BitVec.getLsbD_neg]
 rcases Nat.lt_trichotomy i k with h|rfl|h
 ·rw [hl i h]
  simp
 ·have hno:¬ ∃j,j<i∧x.getLsbD j=true:=fun⟨j,h1,h2⟩=>by rw [hl j h1] at h2;cases h2
  rw [decide_eq_false hno]
  simp [hk]
 ·have hex:∃j,j<i∧x.getLsbD j=true:=⟨k,h,hk⟩
  have hd:decide (∃j,j<i∧x.getLsbD j=true)=true:=decide_eq_true hex
  rw [hd]
  have h2:¬i=k:=by omega
  by_cases hi:i<32
  ·cases x.getLsbD i <;> simp [hi,h2]
  ·rw [BitVec.getLsbD_of_ge x i (by omega)]
   simp
end Go.Proofs.YtjohljmpcblpjaaGreatDoor.Pa
namespace Go.Proofs.YtjohljmpcblpjaaGreatDoor.Pa
open Go.RowKit Go.Proofs.YtjohljmpcblpjaaGreatDoor.St Go.Proofs.YtjohljmpcblpjaaGreatDoor
def tabL:List Nat:=[0,1,28,2,29,14,24,3,30,22,20,15,25,17,4,8,31,27,13,23,21,19,16,7,26,12,18,6,11,5,10,9]
def TabAt (w:World):Prop:=∀i k:Nat,tabL[i]?=some k→w.cell? ⟨0,i,none⟩=some (.int .u8 (k:Int))
theorem TabAt.kept {w w':World}(h:TabAt w) (hk:Kept (fun _=>False) w w'):TabAt w':=fun i k hi=>hk.cell (h i k hi)
theorem deb_spec:∀k:Nat,k≤16→∃m:Nat,IntKind.u32.wrap (((2 ^ k:Nat):Int) * 125613361)=(m:Int)∧m / 134217728<32∧tabL[m / 134217728]?=some k:=by
 intro k hk
 have : ∀k:Nat,k≤16→(((2 ^ k * 125613361) % 4294967296) / 134217728<32∧tabL[((2 ^ k * 125613361) % 4294967296) / 134217728]?=some k):=by decide
 refine⟨(2 ^ k * 125613361) % 4294967296,?_,(this k hk).1,(this k hk).2⟩
 rw [IntKind.wrap_u32]
 generalize 2 ^ k=p
 omega
theorem tz_any {w:World}(hT:TabAt w){x:BitVec 32}{k:Nat}(hk:k≤16) (hb:x.getLsbD k=true) (hl:∀j,j<k→x.getLsbD j=false) :
  Calls Tryz.prog 176 #[u32V x] w fun e w'=>e=.returned (.int .i64 (k:Int))∧w'=w:=by
 obtain⟨m,h1,h3,h4⟩:=deb_spec k hk
 have hc:=hT _ k h4
 have hx:¬((x.toNat:Int)=0):=fun e=>by
  have e2:x=0#32:=BitVec.eq_of_toNat_eq (by simpa using e)
  rw [e2] at hb
  simp at hb
 have hneg:=neg_u32 x
 have hand:bits .and .u32 (x.toNat:Int) ((-x).toNat:Int)=((2 ^ k:Nat):Int):=by
  rw [and_u32,low_bit hb hl,BitVec.toNat_twoPow_of_lt (by omega)]
 have hi0:(0:Int)≤(m:Int) / 134217728:=by omega
 have hi1:(m:Int) / 134217728<32:=by omega
 have hkw:IntKind.i64.wrap (k:Int)=k:=IntWalk.i64_in _ (by omega)
 obtain⟨nx,hnx⟩:∃nx:Int,((-x).toNat:Int)=nx:=⟨_,rfl⟩
 obtain⟨px,hpx⟩:∃px:Int,((2 ^ k:Nat):Int)=px:=⟨_,rfl⟩
 rw [hnx] at hneg hand
 rw [hpx] at hand h1
 unfold u32V
 obtain⟨xi,hxi⟩:∃xi:Int,(x.toNat:Int)=xi:=⟨_,rfl⟩
 rw [hxi] at hx hneg hand ⊢
 clear hT hb hl hnx hpx hxi h4
 go_enter Tryz.func176,Tryz.ntmps176
 go_wp2
 go_ret
 exact⟨rfl,rfl⟩
end Go.Proofs.YtjohljmpcblpjaaGreatDoor.Pa
namespace Go.Proofs.YtjohljmpcblpjaaGreatDoor.Pa
open Go.RowKit Go.Proofs.YtjohljmpcblpjaaGreatDoor.St Go.Proofs.YtjohljmpcblpjaaGreatDoor Go.Proofs.YtjohljmpcblpjaaGreatDoor.Tr Go.Shelf
attribute [local go_sem] Oper.semAt_some
def bitsL (x:BitVec 32):List Nat:=(List.range 17).filter fun i=>x.getLsbD i
theorem mem_bits {x:BitVec 32}{i:Nat}:i∈bitsL x↔i≤16∧x.getLsbD i=true:=by
 unfold bitsL
 rw [List.mem_filter,List.mem_range]
 constructor
 ·exact fun h=>⟨by omega,h.2⟩
 ·exact fun h=>⟨by omega,h.2⟩
def Few (x:BitVec 32):Prop:=∀i,x.getLsbD i=true→i≤16
theorem bits_none {x:BitVec 32}(hf:Few x) (h:bitsL x=[]):x=0#32:=by
 refine BitVec.eq_of_getLsbD_eq fun i hi=>?_
 cases hx:x.getLsbD i with
 | false=>simp
 | true =>
  have h1:i∈bitsL x:=mem_bits.2 ⟨hf i hx,hx⟩
  rw [h] at h1
  simp at h1
theorem bits_cons {x:BitVec 32}{k:Nat}{r:List Nat}(h:bitsL x=k::r):k≤16∧x.getLsbD k=true∧(∀j,j<k→x.getLsbD j=false)∧bitsL (x &&& (x-1#32))=r:=by
 have hk:=mem_bits.1 (show k∈bitsL x by rw [h];exact List.mem_cons_self)
 have hup:(bitsL x).Pairwise (· < ·):=List.pairwise_lt_range.filter _
 rw [h] at hup
 obtain⟨u1,u2⟩:=List.pairwise_cons.1 hup
 have hl:∀j,j<k→x.getLsbD j=false:=fun j hj=>by
  cases hx:x.getLsbD j with
  | false=>rfl
  | true =>
   have h1:j∈bitsL x:=mem_bits.2 ⟨by omega,hx⟩
   rw [h] at h1
   rcases List.mem_cons.1 h1 with h2|h2
   ·omega
   ·have:=u1 j h2;omega
 refine⟨hk.1,hk.2,hl,?_⟩
 have e1:bitsL (x &&& (x-1#32))=(bitsL x).filter fun i=>!decide (i=k):=by
  unfold bitsL
  rw [List.filter_filter]
  refine List.filter_congr fun i _=>?_
  rw [drop_low hk.2 hl,Bool.and_comm]
 rw [e1,h,List.filter_cons_of_neg (by simp)]
 refine List.filter_eq_self.2 fun i hi=>?_
 have:=u1 i hi
 simp
 omega
theorem few_drop {x:BitVec 32}(h:Few x):Few (x &&& (x-1#32)):=fun i hi=>by
 rw [BitVec.getLsbD_and] at hi
 exact h i (by simp at hi;exact hi.1)
def bitEnc (x:BitVec 32) (i:Nat):Array Value:=#[.int .i64 (((bitsL x)[i]?.getD 0:Nat):Int)]
theorem bitEnc_some {x:BitVec 32}{i k:Nat}(h:(bitsL x)[i]?=some k):bitEnc x i=#[.int .i64 (k:Int)]:=by unfold bitEnc;rw [h];rfl
def SetAt (I:Nat→(Nat→Prop)→World→Prop) (bx:Nat) (x:BitVec 32) (m:Nat) (w:World):Prop :=
 ∃i X y,m=(bitsL x).length-i∧I i X w∧X bx∧Blk w bx 165 #[u32V y]∧Few y∧bitsL y=(bitsL x).drop i∧i≤(bitsL x).length
theorem set1_iter {bx n0:Nat}{x:BitVec 32}(hf:Few x) (h1:1≤n0) :
  IterOkS Fence.wide n0 Tryz.prog 175 #[.pointer (some ⟨bx,0,none⟩)] (bitsL x).length (bitEnc x) TabAt (fun X0 W=>X0 bx∧Blk W bx 165 #[u32V x]):=by
 intro yl I Z X0 w hrd hgr hgz hy hst h0
 have RD:=Lib.hid hrd
 have GR:=Lib.hid hgr
 have GZ:=Lib.hid hgz
 have HY:=Lib.hid hy
 have START:Hid (∃m,SetAt I bx x m w):=Lib.hid ⟨_,0,X0,x,rfl,h0,hst.1,hst.2,hf,rfl,Nat.zero_le _⟩
 clear hrd hgr hgz hy h0 hst
 refine callsIn_of_wp Tryz.func175 rfl trivial ?_ rfl
 simp only [Tryz.ntmps175,List.size_toArray,List.length_cons,List.length_nil,Nat.reduceAdd,Nat.reduceSub,Array.replicate_succ,Array.replicate_zero,List.push_toArray,List.append_toArray,List.nil_append,List.cons_append]
 gi_wp2
 gi_loopw [3] (fun _ wr=>∃m,SetAt I bx x m wr) (fun _ wr=>least (fun m=>SetAt I bx x m wr))
 case atStart=>exact START.out
 case round =>
  obtain⟨i,X,y,hm,hI,hX,hB,hFy,hdr,hi⟩:=least_spec hrel
  have c0:wr.cell? ⟨bx,0,none⟩=some (.int .u32 (y.toNat:Int)):=hB.cell' (i:=0) rfl
  have f0:=hB.frozen 0
  have HM:=Lib.hid hm
  have HI:=Lib.hid hI
  have HX:=Lib.hid hX
  have HB:=Lib.hid hB
  have HFY:=Lib.hid hFy
  have HDR:=Lib.hid hdr
  have HIL:=Lib.hid hi
  have hT:=Lib.hid (RD.out _ _ _ hI)
  clear hm hI hX hB hFy hdr hi hrel START
  cases hb:bitsL y with
  | nil =>
   have hy0:(y.toNat:Int)=0:=by rw [bits_none HFY.out hb];rfl
   have hin:i=(bitsL x).length:=by
    have h9:=HDR.out
    rw [hb] at h9
    have:=List.drop_eq_nil_iff.1 h9.symm
    have:=HIL.out
    omega
   have FIN:=Lib.hid (hin ▸ HI.out)
   rw [hy0] at c0
   clear hb hin hy0
   gi_wp2
   go_end0
   exact⟨⟨_,rfl⟩,.inl ⟨X,FIN.out⟩⟩
  | cons k r =>
   obtain⟨k1,k2,k3,k4⟩:=bits_cons hb
   have hyn:y≠0:=fun e=>by rw [e] at k2;simp at k2
   have hy0:¬(y.toNat:Int)=0:=fun e=>hyn (BitVec.eq_of_toNat_eq (by simpa using e))
   have hki:(bitsL x)[i]?=some k:=by
    have h9:=congrArg (·[0]?) HDR.out
    rw [hb] at h9
    simpa using h9.symm
   have hdr2:bitsL (y &&& (y-1#32))=(bitsL x).drop (i+1):=by
    have h9:=congrArg List.tail HDR.out
    rw [hb,List.tail_drop] at h9
    rw [k4]
    exact h9
   have hyy:=HY.out i _ _ (List.getElem?_eq_some_iff.1 hki).1 HI.out
   rw [bitEnc_some hki] at hyy
   obtain⟨fn,tmps,assign,body,hyd,hR⟩:=hyy
   have TZ:=Lib.hid (tz_any hT.out k1 k2 k3)
   have hs1:=sub1_u32 hyn
   have ha1:=and_u32 y (y-1#32)
   have HRR:=Lib.hid hR
   have HD2:=Lib.hid hdr2
   have HKI:=Lib.hid (List.getElem?_eq_some_iff.1 hki).1
   have HF2:=Lib.hid (few_drop HFY.out)
   obtain⟨y2,hy2⟩:∃y2,y &&& (y-1#32)=y2:=⟨_,rfl⟩
   obtain⟨nx,hnx⟩:∃nx:Int,((y-1#32).toNat:Int)=nx:=⟨_,rfl⟩
   rw [hy2] at ha1 HD2 HF2
   rw [hnx] at hs1 ha1
   unfold u32V at TZ
   clear hR hdr2 hki k1 k2 k3 k4 hyn hb hy2 hnx
   gi_wp2_with (refine⟨trivial,?_⟩;gi_at_call 176;refine (callsIn_wide.2 TZ.out).mono ?_;rintro e w2 ⟨rfl,rfl⟩)
   refine HRR.out.mono ?_
   clear hyd HRR
   rintro e w3 ⟨bb,rfl,hX2,hz2,ht,hf⟩
   cases bb with
   | false =>
    have ZZ:=Lib.hid (hf rfl)
    clear ht hf hX2 hz2 c0 f0 hs1 ha1
    gi_wp2
    refine bodyPost_ret (results_none rfl _ _ _) rfl ?_
    exact⟨⟨_,rfl⟩,.inr ⟨_,ZZ.out⟩⟩
   | true =>
    have I3:=Lib.hid (ht rfl)
    have B3:Blk w3 bx 165 #[u32V y]:=(hX2 bx HX.out).trans HB.out
    have c3:w3.cell? ⟨bx,0,none⟩=some (.int .u32 (y.toNat:Int)):=B3.cell' (i:=0) rfl
    have f3:=B3.frozen 0
    have k4:=kept_cell w3 bx (.int .u32 (y2.toNat:Int))
    have B4:Blk (w3.setCell ⟨bx,0,none⟩ (.int .u32 (y2.toNat:Int))) bx 165 #[u32V y2]:=B3.set_ 0 _
    have NX:Hid (∃m,m<(bitsL x).length-i∧SetAt I bx x m (w3.setCell ⟨bx,0,none⟩ (.int .u32 (y2.toNat:Int)))):=Lib.hid ⟨_,by have:=HKI.out;omega,i+1,_,y2,rfl,GR.out _ _ _ _ I3.out (k4.mono fun b _ h=>by rw [h];exact HX.out),.inl HX.out,B4,HF2.out,HD2.out,HKI.out⟩
    clear ht hf hX2 hz2 c0 f0 k4 B4 B3
    gi_wp2
    go_roundw
    case rel=>obtain⟨m,_,h9⟩:=NX.out;exact⟨m,h9⟩
    case measure =>
     obtain⟨m,h8,h9⟩:=NX.out
     have h10:=least_le (P:=fun m=>SetAt I bx x m (w3.setCell ⟨bx,0,none⟩ (.int .u32 (y2.toNat:Int)))) h9
     have h11:=HM.out
     omega
end Go.Proofs.YtjohljmpcblpjaaGreatDoor.Pa
namespace Go.Proofs.YtjohljmpcblpjaaGreatDoor.Pa
open Go.RowKit Go.Proofs.YtjohljmpcblpjaaGreatDoor.St Go.Proofs.YtjohljmpcblpjaaGreatDoor Go.Proofs.YtjohljmpcblpjaaGreatDoor.Tr Go.Shelf
attribute [local go_sem] Oper.semAt_some
def intsL (l:List Nat):List Int:=l.map fun k:Nat=>(k:Int)
theorem rset_any (x:BitVec 32) (w:World):Calls Tryz.prog 148 #[.int .u32 (x.toNat:Int)] w fun e w'=>e=.returned (.func (.func 175) #[] #[.pointer (some ⟨w.heap.size,0,none⟩)])∧w'=w.alloc (.cells #[.int .u32 (x.toNat:Int)] 165):=by
 go_enter Tryz.func148,Tryz.ntmps148
 go_wp2
 go_ret
 exact⟨rfl,rfl⟩
structure ListJ (w:World) (B z bx:Nat) (x:BitVec 32) (v:Value) (i:Nat) (X:Nat→Prop) (W:World):Prop where
 box:Blk W z 45 #[v]
 row:W.ownsRow (B+2) 3 1 v i (intE.flat (intsL ((bitsL x).take i)))
 far:∀b,v.ownBlock=some b→¬X b
 kept:Kept (fun _=>False) w W
 xs:∀b,X b→(b=bx∨B+2≤b)∧b<W.heap.size
 sz:B+2≤W.heap.size
structure ListA (w:World) (B z bx:Nat):Prop where
 az:w.heap.size≤z∧z<B
 ab:w.heap.size≤bx∧bx<B
 ne:z≠bx
theorem ListJ.far_ {w W W':World}{B z bx i:Nat}{x:BitVec 32}{v:Value}{X Y:Nat→Prop}(h:ListJ w B z bx x v i X W) (ha:ListA w B z bx) (hk:Kept Y W W') (hY:∀b,Y b→X b∨b=B∨b=B+1) :
  ListJ w B z bx x v i X W'∧ListJ w B z bx x v i (fun b=>X b∨(W.heap.size≤b∧b<W'.heap.size)) W':=by
 have hz:=hk.size
 have hYz:¬Y z:=fun hy=>by
  have:=ha.az
  have:=ha.ne
  rcases hY z hy with h1|h1|h1
  ·have:=(h.xs z h1).1;omega
  ·omega
  ·omega
 have hYo:∀b,v.ownBlock=some b→¬Y b:=fun b hb hy=>by
  have h2:=(owns_lt h.row b hb).1
  rcases hY b hy with h1|h1|h1
  ·exact h.far b hb h1
  ·omega
  ·omega
 have kw:Kept (fun _=>False) w W':=h.kept.trans hk fun b hb hy=>by
  have:=ha.az
  have:=ha.ab
  rcases hY b hy with h1|h1|h1
  ·have:=(h.xs b h1).1;omega
  ·omega
  ·omega
 refine⟨⟨hk.blk hYz h.box,owns_keep h.row hk hYo,h.far,kw,fun b hb=>?_,by have:=h.sz;omega⟩,⟨hk.blk hYz h.box,owns_keep h.row hk hYo,fun b hb h9=>?_,kw,fun b hb=>?_,by have:=h.sz;omega⟩⟩
 ·have:=h.xs b hb
  exact⟨this.1,by omega⟩
 ·have:=(owns_lt h.row b hb).2
  rcases h9 with h9|h9
  ·exact h.far b hb h9
  ·omega
 ·rcases hb with hb | hb
  ·have:=h.xs b hb
   exact⟨this.1,by omega⟩
  ·have:=h.sz
   exact⟨.inr (by omega),hb.2⟩
theorem list_grown {W2 W3 w4:World}{v v4:Value}(hk:Kept (fun _=>False) W2 W3) (hg:Grow1 W3 w4 v v4):Kept (fun b=>v.ownBlock=some b) W2 w4:=by
 have hg2:Kept (fun b=>v.ownBlock=some b) W3 w4:=by
  rcases hg with ⟨_,h⟩|⟨_,h⟩
  ·exact h
  ·exact h.mono fun _ _ h=>h.elim
 exact (hk.mono fun _ _ h=>h.elim).trans hg2 fun _ _ h=>h
theorem list_box {w W2 W3 w4:World}{B z bx i:Nat}{x:BitVec 32}{v v4:Value}{X:Nat→Prop}(h:ListJ w B z bx x v i X W2) (ha:ListA w B z bx) (hk:Kept (fun _=>False) W2 W3) (hg:Grow1 W3 w4 v v4):Blk w4 z 45 #[v] :=
 (list_grown hk hg).blk (fun hb=>by have:=(owns_lt h.row z hb).1;have:=ha.az;omega) h.box
theorem list_next {w W2 W3 w4:World}{B z bx i k:Nat}{x:BitVec 32}{v v4:Value}{X:Nat→Prop}(h:ListJ w B z bx x v i X W2) (ha:ListA w B z bx) (hk:Kept (fun _=>False) W2 W3) (hg:Grow1 W3 w4 v v4) (hx:(bitsL x)[i]?=some k) (hl:(intsL ((bitsL x).take i)).length=i)
  (ho:w4.ownsRow (B+2) 3 1 v4 ((intsL ((bitsL x).take i)).length+1) (intE.flat (intsL ((bitsL x).take i)++[(k:Int)]))) :
  (∀b,X b∨b=B∨b=B+1→(w4.setCell ⟨z,0,none⟩ v4).heap[b]?=W2.heap[b]?)∧W2.heap.size≤(w4.setCell ⟨z,0,none⟩ v4).heap.size∧ListJ w B z bx x v4 (i+1) X (w4.setCell ⟨z,0,none⟩ v4):=by
 have hgr:=list_grown hk hg
 have hbox:=list_box h ha hk hg
 have kc:=kept_cell w4 z v4
 have kk:Kept (fun b=>b=z∨v.ownBlock=some b) W2 (w4.setCell ⟨z,0,none⟩ v4):=(hgr.mono fun _ _ h=>.inr h).trans kc fun _ _ h=>.inl h
 have hlow:∀b,v.ownBlock=some b→B+2≤b:=fun b hb=>(owns_lt h.row b hb).1
 have ho2:=owns_keep ho kc fun b hb e=>by have h1:=(owns_lt ho b hb).1;have:=ha.az;omega
 have hsz:=kk.size
 refine⟨fun b hb=>kk.block b ?_ ?_,hsz,⟨hbox.set_ 0 v4,?_,fun b hb hXb=>?_,h.kept.trans kk fun b hlt hb=>?_,fun b hb=>?_,by have:=h.sz;omega⟩⟩
 ·have:=h.sz
  rcases hb with hb|rfl|rfl
  ·exact (h.xs b hb).2
  ·omega
  ·omega
 ·have:=ha.az
  rintro (rfl | h9)
  ·rcases hb with hb | hb | hb
   ·have:=(h.xs b hb).1;have:=ha.ne;omega
   ·omega
   ·omega
  ·rcases hb with hb | hb | hb
   ·exact h.far b h9 hb
   ·have:=hlow b h9;omega
   ·have:=hlow b h9;omega
 ·rw [hl] at ho2
  have e1:intsL ((bitsL x).take (i+1))=intsL ((bitsL x).take i)++[(k:Int)]:=by unfold intsL;rw [List.take_add_one,hx,List.map_append];rfl
  rw [e1]
  exact ho2
 ·rcases hg with ⟨h1,_⟩ | ⟨h1,_⟩
  ·rw [h1] at hb;exact h.far b hb hXb
  ·rw [h1] at hb
   injection hb with hb
   have:=(h.xs b hXb).2
   have:=hk.size
   omega
 ·have:=ha.az
  rcases hb with rfl|hb
  ·omega
  ·have:=hlow b hb;omega
 ·have:=h.xs b hb
  exact⟨this.1,by omega⟩
theorem rlist_any {w:World}(hT:TabAt w){x:BitVec 32}(hf:Few x) :
  Calls Tryz.prog 108 #[u32V x] w fun e w'=>(∃v,e=.returned v∧SlAt intE w' v (intsL (bitsL x)))∧Kept (fun _=>False) w w':=by
 refine (callsIn_wide (n:=6)).1 ?_
 unfold u32V
 refine callsIn_of_wp_marks Tryz.func108 rfl trivial ?_ rfl
 simp only [Tryz.ntmps108,List.size_toArray,List.length_cons,List.length_nil,Nat.reduceAdd,Nat.reduceSub,Array.replicate_succ,Array.replicate_zero,List.push_toArray,List.append_toArray,List.nil_append,List.cons_append]
 gi_wp2_with (refine⟨trivial,?_⟩;gi_at_call 148;refine (callsIn_wide.2 (rset_any x _)).mono ?_;rintro e w1 ⟨rfl,hw1⟩)
 subst hw1
 obtain⟨z,hz⟩:∃z,w.heap.size=z:=⟨_,rfl⟩
 have kw:Kept (fun _=>False) w ((w.alloc (.cells #[.slice none 0 0] 45)).alloc (.cells #[.int .u32 (x.toNat:Int)] 165)):=((Kept.refl _ _).alloc _).alloc _
 have b0:Blk ((w.alloc (.cells #[.slice none 0 0] 45)).alloc (.cells #[.int .u32 (x.toNat:Int)] 165)) w.heap.size 45 #[.slice none 0 0]:=(Blk.new _ _ _).alloc _
 have b1:Blk ((w.alloc (.cells #[.slice none 0 0] 45)).alloc (.cells #[.int .u32 (x.toNat:Int)] 165)) (w.heap.size+1) 165 #[u32V x]:=by have h9:=Blk.new (w.alloc (.cells #[.slice none 0 0] 45)) 165 #[u32V x];simp only [World.size_alloc] at h9;exact h9
 have hs:((w.alloc (.cells #[.slice none 0 0] 45)).alloc (.cells #[.int .u32 (x.toNat:Int)] 165)).heap.size=w.heap.size+2:=by simp
 obtain⟨W0,hW0⟩:∃W0,(w.alloc (.cells #[.slice none 0 0] 45)).alloc (.cells #[.int .u32 (x.toNat:Int)] 165)=W0:=⟨_,rfl⟩
 rw [hW0] at kw b0 b1 hs ⊢
 rw [hz] at b0 b1 hs ⊢
 have HA:ListA w (z+2) z (z+1):=⟨⟨by omega,by omega⟩,⟨by omega,by omega⟩,by omega⟩
 have HHA:=Lib.hid HA
 have HT:=Lib.hid hT
 have KW:=Lib.hid kw
 have B0:=Lib.hid b0
 have B1:=Lib.hid b1
 have HS:=Lib.hid hs
 clear hW0 kw b0 b1 HA hT hs
 refine wpIn_iterS rfl (by decide) (gf:=175) (lb:=#[.pointer (some ⟨z+1,0,none⟩)]) rfl trivial (enters_of Tryz.func175 (by kernel_rfl) rfl) (set1_iter (bx:=z+1) hf (by decide)) (·=z+1) (fun _ _=>rfl) (z+2) HS.out (fun b hb=>by omega) (fun o1 o2=>⟨rfl,(B1.out.alloc o1).alloc o2⟩) (fun i X W=>∃v,ListJ w (z+2) z (z+1) x v i X W) (fun _ _ _=>False) ?hrd ?hgr ?hgx ?hob ?hox ?h0 ?hxl ?hround ?hdone ?hstop
 case hrd=>exact fun i X W ⟨v,hJ⟩=>HT.out.kept hJ.kept
 case hgr=>exact fun i X W W' ⟨v,hJ⟩ hk=>⟨v,(hJ.far_ HHA.out hk fun _ h=>.inl h).2⟩
 case hgx=>exact fun c X W W' h _=>h
 case hob=>exact fun i X W o' ⟨v,hJ⟩=>⟨v,(hJ.far_ HHA.out (kept_put W (z+2+1) o') fun b h=>.inr (.inr h)).1⟩
 case hox=>exact fun c X W o' h=>h
 case hxl=>exact fun i X W ⟨v,hJ⟩ b hb=>(hJ.xs b hb).2
 case hstop=>exact fun c X W h _=>h.elim
 case h0 =>
  intro o1 o2
  have hs4:((W0.alloc o1).alloc o2).heap.size=z+4:=by have:=HS.out;simp;omega
  exact⟨_,(B0.out.alloc o1).alloc o2,World.ownsRow_nil ..,fun b hb=>(by cases hb),(KW.out.alloc o1).alloc o2,fun b hb=>⟨.inl hb,by omega⟩,by omega⟩
 case hdone =>
  intro X W ⟨v,hJ⟩ hK
  have c0:W.cell? ⟨z,0,none⟩=some v:=hJ.box.cell' (i:=0) rfl
  have kp:=kept_put W (z+2) (.deferred none)
  have hr:=hJ.row
  rw [List.take_length] at hr
  have FIN:Hid (SlAt intE (W.putObj (z+2) (.deferred none)) v (intsL (bitsL x))∧Kept (fun _=>False) w (W.putObj (z+2) (.deferred none))):=Lib.hid ⟨owns_slAt (E:=intE) (owns_keep hr kp fun b hb e=>by have:=(owns_lt hr b hb).1;omega),hJ.kept.trans kp fun i hi h=>by omega⟩
  clear hJ kp hr
  gi_wp2
  exact ret_range hK (results_tmp rfl _ _ _) ⟨⟨v,rfl,FIN.out.1⟩,FIN.out.2⟩
 case hround =>
  intro i X W hi hsz ⟨v,hJ⟩
  obtain⟨k,hk⟩:∃k,(bitsL x)[i]?=some k:=⟨_,List.getElem?_eq_getElem hi⟩
  rw [bitEnc_some hk]
  gi_wp2
  refine⟨Kept.refl _ _,fun o'=>?_⟩
  have hJ2:=(hJ.far_ HHA.out (kept_put W (z+2+1) o') fun b h=>.inr (.inr h)).1
  obtain⟨W2,hW2⟩:∃W2,W.putObj (z+2+1) o'=W2:=⟨_,rfl⟩
  rw [hW2] at hJ2 ⊢
  have c0:W2.cell? ⟨z,0,none⟩=some v:=hJ2.box.cell' (i:=0) rfl
  have k3:Kept (fun _=>False) W2 (W2.alloc (.cells #[.int .i64 (k:Int)] 3)):=(Kept.refl _ _).alloc _
  have LIT:=Lib.hid (SlAt.lit (E:=intE) (w:=W2) (t:=3) [(k:Int)] #[.int .i64 (k:Int)] rfl (by show 1≤maxLen;decide))
  have hlen:(intsL ((bitsL x).take i)).length=i:=by unfold intsL;rw [List.length_map,List.length_take];omega
  have h17:(bitsL x).length≤17:=by
   have h9:((List.range 17).filter fun i=>x.getLsbD i).length≤(List.range 17).length:=List.length_filter_le _ _
   rw [List.length_range] at h9
   exact h9
  have OX:Hid ((W2.alloc (.cells #[.int .i64 (k:Int)] 3)).ownsRow (z+2+2) 3 1 v (intsL ((bitsL x).take i)).length (intE.flat (intsL ((bitsL x).take i)))):=Lib.hid (by rw [hlen];exact owns_keep hJ2.row k3 fun _ _ h=>h)
  have ML:Hid ((intsL ((bitsL x).take i)).length≤1000000):=Lib.hid (by omega)
  have HB3:Hid (z+2+2≤(W2.alloc (.cells #[.int .i64 (k:Int)] 3)).heap.size):=Lib.hid (by have:=hJ2.sz;have:=k3.size;omega)
  have f0:W2.frozen? ⟨z,0,none⟩=false:=hJ2.box.frozen 0
  have HJ2:=Lib.hid hJ2
  have HK3:=Lib.hid k3
  have HLE:=Lib.hid hlen
  have HKK:=Lib.hid hk
  clear hJ hJ2 hW2 k3 hk h17 hlen
  gi_wp2_with (gi_at_builtin;(refine wpListIn_append_keeps intE rfl (.tmp 8) (.tmp 10) 45 rfl (z+2+2) 3 (.int .i64 0) 8 Tryz.underlying45 info_i rfl (by decide) rfl rfl OX.out LIT.out ML.out HB3.out ?_);(intro v4 w4 ho4 hg4;have NX:=Lib.hid (list_next HJ2.out HHA.out HK3.out hg4 HKK.out HLE.out ho4);obtain⟨a4,d4,rfl⟩:=owns_sl ho4;have q4:w4.cell? ⟨z,0,none⟩=some v:=(list_box HJ2.out HHA.out HK3.out hg4).cell' (i:=0) rfl;have fz4:=(list_box HJ2.out HHA.out HK3.out hg4).frozen 0))
  exact⟨NX.out.1,NX.out.2.1,_,NX.out.2.2⟩
end Go.Proofs.YtjohljmpcblpjaaGreatDoor.Pa
namespace Go.Proofs.YtjohljmpcblpjaaGreatDoor.Pa
open Go.RowKit Go.Proofs.YtjohljmpcblpjaaGreatDoor.St Go.Proofs.YtjohljmpcblpjaaGreatDoor Go.Proofs.YtjohljmpcblpjaaGreatDoor.Tr
attribute [local go_sem] Oper.semAt_some
theorem rsite_any {n:Int}(h1:1≤n) (h2:n≤16) (w:World):Calls Tryz.prog 146 #[.int .i64 n] w fun e w'=>e=.returned (.bool true)∧w'=w:=by
 go_enter Tryz.func146,Tryz.ntmps146
 go_wp2
 go_ret
 exact⟨rfl,rfl⟩
theorem rhas_any {w:World}{g:Nat}{j l:BitVec 32}{ep:Value}(hB:Blk w g 167 #[u32V j,u32V l,ep]){n:Int}(h1:1≤n) (h2:n≤16) :
  Calls Tryz.prog 147 #[.pointer (some ⟨g,0,none⟩),.int .i64 n] w fun e w'=>(∃b,e=.returned (.bool b))∧∃q,w'=w.drewN q:=by
 have c0:w.cell? ⟨g,0,none⟩=some (.int .u32 (j.toNat:Int)):=hB.cell' (i:=0) rfl
 have c1:w.cell? ⟨g,1,none⟩=some (.int .u32 (l.toNat:Int)):=hB.cell' (i:=1) rfl
 have SI:=Lib.hid (fun W=>rsite_any h1 h2 W)
 have hn0:¬n<0:=by omega
 clear hB
 go_enter Tryz.func147,Tryz.ntmps147
 go_wp2
 go_region_held3 (fun W:World=>W=w.drew) (first | rfl | assumption) (first | (go_at_call 146;refine (SI.out _).mono ?_;rintro e w' ⟨rfl,rfl⟩))
 go_wp2
 go_ret
 refine⟨?_,1,rfl⟩
 generalize (bits .and .u32 (bits .andNot .u32 (j.toNat:Int) (l.toNat:Int) / 2 ^ n.toNat) 1 == 1)=b
 cases b
 ·left;rfl
 ·right;rfl
theorem turnJ_any {w:World}{g:Nat}{j l:BitVec 32}{ep:Int}(hB:Blk w g 167 #[u32V j,u32V l,.int .i64 ep]){n:Int}(h1:1≤n) (h2:n≤16) :
  Calls Tryz.prog 107 #[.pointer (some ⟨g,0,none⟩),.pointer (some ⟨g,0,none⟩),.int .i64 n] w fun e w'=>(∃b,e=.returned (.bool b))∧(∃ep',Blk w' g 167 #[u32V (j ||| BitVec.twoPow 32 n.toNat),u32V l,.int .i64 ep'])∧Kept (·=g) w w':=by
 have SI:=Lib.hid (fun W=>rsite_any h1 h2 W)
 have HH:=Lib.hid (fun (W:World) (j l:BitVec 32) (ep:Int) (h:Blk W g 167 #[u32V j,u32V l,.int .i64 ep])=>rhas_any h h1 h2)
 have HB:=Lib.hid hB
 have hn0:¬n<0:=by omega
 have hsh:IntKind.u32.wrap (2 ^ n.toNat)=((BitVec.twoPow 32 n.toNat).toNat:Int):=by have h9:=bit_u32 (n:=n.toNat) (by omega);rw [Int.one_mul] at h9;exact h9
 have hor:=or_u32 j (BitVec.twoPow 32 n.toNat)
 obtain⟨bt,hbt⟩:∃bt,BitVec.twoPow 32 n.toNat=bt:=⟨_,rfl⟩
 rw [hbt] at hsh hor ⊢
 obtain⟨nj,hnj⟩:∃nj,j ||| bt=nj:=⟨_,rfl⟩
 rw [hnj] at hor ⊢
 clear hB hbt hnj
 go_enter Tryz.func107,Tryz.ntmps107
 go_upto_region 4 with (first
  | (go_at_call 146;refine (SI.out _).mono ?_;rintro e w' ⟨rfl,rfl⟩)
  | (go_at_call 147;refine (HH.out _ _ _ _ HB.out).mono ?_;rintro e w2 ⟨⟨b1,rfl⟩,q2,hw2⟩))
 subst hw2
 obtain⟨W3,hW3⟩:∃W3,(w'.drewN q2).drew=W3:=⟨_,rfl⟩
 have k3:Kept (fun _=>False) w' W3:=by rw [←hW3];exact ((Kept.refl _ _).drewN q2).drew
 have b3:=k3.blk (fun h=>h) HB.out
 refine wp_region_held_drew (S:=fun _=>True) (by kernel_rfl) trivial (fun hHeld=>?_)
 rw [hW3]
 have c0:W3.cell? ⟨g,0,none⟩=some (.int .u32 (j.toNat:Int)):=b3.cell' (i:=0) rfl
 have f0:=b3.frozen 0
 have B3:=Lib.hid b3
 have K3:=Lib.hid k3
 clear hW3 k3 b3
 refine tV 0 14 ?_
 try simp only [Act.put,zq1,zq2,zq3]
 refine tV 1 15 ?_
 try simp only [Act.put,zq1,zq2,zq3]
 refine tV 3 17 ?_
 try simp only [Act.put,zq1,zq2,zq3]
 refine tV 4 18 ?_
 try simp only [Act.put,zq1,zq2,zq3]
 refine wpAnyH_one (i:=2) (by kernel_rfl) ?_
 refine StepH.alloc (d:=(some 16)) (v:=?_) (w':=?_) rfl rfl (by rfl) ?_ ?_ ?_
 rotate_left 2
 focus (go_simp;first | done | with_reducible rfl | ((repeat' apply And.intro) <;> with_reducible rfl))
 focus (trivial)
 intro hHeld
 try simp only [Act.put,zq1,zq2,zq3]
 refine tV 5 19 ?_
 try simp only [Act.put,zq1,zq2,zq3]
 refine tV 6 20 ?_
 try simp only [Act.put,zq1,zq2,zq3]
 refine wpAnyH_one (i:=7) (by kernel_rfl) ?_
 refine StepH.skip (d:=none) (w':=?_) rfl rfl (by rfl) ?_ ?_ ?_
 rotate_left 1
 focus (go_simp;first | done | with_reducible rfl | ((repeat' apply And.intro) <;> with_reducible rfl))
 focus (trivial)
 intro hHeld
 try simp only [Act.put]
 refine wpAnyH_done (by kernel_rfl) ?_ _
 have b4:Blk (W3.setCell ⟨g,0,none⟩ (.int .u32 (nj.toNat:Int))) g 167 #[u32V nj,u32V l,.int .i64 ep]:=B3.out.set_ 0 _
 have k4:Kept (·=g) W3 (W3.setCell ⟨g,0,none⟩ (.int .u32 (nj.toNat:Int))):=(Kept.refl (·=g) W3).setCell (p:=⟨g,0,none⟩) (fun _=>rfl) _
 obtain⟨W4,hW4⟩:∃W4,W3.setCell ⟨g,0,none⟩ (.int .u32 (nj.toNat:Int))=W4:=⟨_,rfl⟩
 rw [hW4] at b4 k4 ⊢
 have B4:=Lib.hid b4
 have K4:=Lib.hid ((K3.out.mono (S':=(·=g)) fun _ _ h=>h.elim).trans k4 fun _ _ h=>h)
 clear hW4 b4 k4 c0 f0 hHeld hor hsh
 go_upto_region 7 with (go_at_call 147;refine (HH.out _ _ _ _ B4.out).mono ?_;rintro e w5 ⟨⟨b2,rfl⟩,q5,hw5⟩)
 all_goals
  subst hw5
  have b6:=B4.out.drewN q5
  have k6:Kept (fun _=>False) W4 (W4.drewN q5):=(Kept.refl _ _).drewN q5
  obtain⟨W6,hW6⟩:∃W6,W4.drewN q5=W6:=⟨_,rfl⟩
  rw [hW6] at b6 k6 ⊢
  have c2:W6.cell? ⟨g,2,none⟩=some (.int .i64 ep):=b6.cell' (i:=2) rfl
  have f2:=b6.frozen 2
  have B6:=Lib.hid b6
  have K6:=Lib.hid (K4.out.trans k6 fun _ _ h=>h.elim)
  clear hW6 b6 k6
 ·go_ret
  exact⟨⟨_,rfl⟩,⟨ep,B6.out⟩,K6.out⟩
 ·go_wp2
  go_ret
  exact⟨⟨_,rfl⟩,⟨_,B6.out.set_ 2 _⟩,K6.out.trans ((Kept.refl (·=g) W6).setCell (p:=⟨g,2,none⟩) (fun _=>rfl) _) fun _ _ h=>h⟩
theorem turnL_any {w:World}{g:Nat}{j l:BitVec 32}{ep:Int}(hB:Blk w g 167 #[u32V j,u32V l,.int .i64 ep]){n:Int}(h1:1≤n) (h2:n≤16) :
  Calls Tryz.prog 107 #[.pointer (some ⟨g,0,none⟩),.pointer (some ⟨g,1,none⟩),.int .i64 n] w fun e w'=>(∃b,e=.returned (.bool b))∧(∃ep',Blk w' g 167 #[u32V j,u32V (l ||| BitVec.twoPow 32 n.toNat),.int .i64 ep'])∧Kept (·=g) w w':=by
 have SI:=Lib.hid (fun W=>rsite_any h1 h2 W)
 have HH:=Lib.hid (fun (W:World) (j l:BitVec 32) (ep:Int) (h:Blk W g 167 #[u32V j,u32V l,.int .i64 ep])=>rhas_any h h1 h2)
 have HB:=Lib.hid hB
 have hn0:¬n<0:=by omega
 have hsh:IntKind.u32.wrap (2 ^ n.toNat)=((BitVec.twoPow 32 n.toNat).toNat:Int):=by have h9:=bit_u32 (n:=n.toNat) (by omega);rw [Int.one_mul] at h9;exact h9
 have hor:=or_u32 l (BitVec.twoPow 32 n.toNat)
 obtain⟨bt,hbt⟩:∃bt,BitVec.twoPow 32 n.toNat=bt:=⟨_,rfl⟩
 rw [hbt] at hsh hor ⊢
 obtain⟨nj,hnj⟩:∃nj,l ||| bt=nj:=⟨_,rfl⟩
 rw [hnj] at hor ⊢
 clear hB hbt hnj
 go_enter Tryz.func107,Tryz.ntmps107
 go_upto_region 4 with (first
  | (go_at_call 146;refine (SI.out _).mono ?_;rintro e w' ⟨rfl,rfl⟩)
  | (go_at_call 147;refine (HH.out _ _ _ _ HB.out).mono ?_;rintro e w2 ⟨⟨b1,rfl⟩,q2,hw2⟩))
 subst hw2
 obtain⟨W3,hW3⟩:∃W3,(w'.drewN q2).drew=W3:=⟨_,rfl⟩
 have k3:Kept (fun _=>False) w' W3:=by rw [←hW3];exact ((Kept.refl _ _).drewN q2).drew
 have b3:=k3.blk (fun h=>h) HB.out
 refine wp_region_held_drew (S:=fun _=>True) (by kernel_rfl) trivial (fun hHeld=>?_)
 rw [hW3]
 have c0:W3.cell? ⟨g,1,none⟩=some (.int .u32 (l.toNat:Int)):=b3.cell' (i:=1) rfl
 have f0:=b3.frozen 1
 have B3:=Lib.hid b3
 have K3:=Lib.hid k3
 clear hW3 k3 b3
 refine tV 0 14 ?_
 try simp only [Act.put,zq1,zq2,zq3]
 refine tV 1 15 ?_
 try simp only [Act.put,zq1,zq2,zq3]
 refine tV 3 17 ?_
 try simp only [Act.put,zq1,zq2,zq3]
 refine tV 4 18 ?_
 try simp only [Act.put,zq1,zq2,zq3]
 refine wpAnyH_one (i:=2) (by kernel_rfl) ?_
 refine StepH.alloc (d:=(some 16)) (v:=?_) (w':=?_) rfl rfl (by rfl) ?_ ?_ ?_
 rotate_left 2
 focus (go_simp;first | done | with_reducible rfl | ((repeat' apply And.intro) <;> with_reducible rfl))
 focus (trivial)
 intro hHeld
 try simp only [Act.put,zq1,zq2,zq3]
 refine tV 5 19 ?_
 try simp only [Act.put,zq1,zq2,zq3]
 refine tV 6 20 ?_
 try simp only [Act.put,zq1,zq2,zq3]
 refine wpAnyH_one (i:=7) (by kernel_rfl) ?_
 refine StepH.skip (d:=none) (w':=?_) rfl rfl (by rfl) ?_ ?_ ?_
 rotate_left 1
 focus (go_simp;first | done | with_reducible rfl | ((repeat' apply And.intro) <;> with_reducible rfl))
 focus (trivial)
 intro hHeld
 try simp only [Act.put]
 refine wpAnyH_done (by kernel_rfl) ?_ _
 have b4:Blk (W3.setCell ⟨g,1,none⟩ (.int .u32 (nj.toNat:Int))) g 167 #[u32V j,u32V nj,.int .i64 ep]:=B3.out.set_ 1 _
 have k4:Kept (·=g) W3 (W3.setCell ⟨g,1,none⟩ (.int .u32 (nj.toNat:Int))):=(Kept.refl (·=g) W3).setCell (p:=⟨g,1,none⟩) (fun _=>rfl) _
 obtain⟨W4,hW4⟩:∃W4,W3.setCell ⟨g,1,none⟩ (.int .u32 (nj.toNat:Int))=W4:=⟨_,rfl⟩
 rw [hW4] at b4 k4 ⊢
 have B4:=Lib.hid b4
 have K4:=Lib.hid ((K3.out.mono (S':=(·=g)) fun _ _ h=>h.elim).trans k4 fun _ _ h=>h)
 clear hW4 b4 k4 c0 f0 hHeld hor hsh
 go_upto_region 7 with (go_at_call 147;refine (HH.out _ _ _ _ B4.out).mono ?_;rintro e w5 ⟨⟨b2,rfl⟩,q5,hw5⟩)
 all_goals
  subst hw5
  have b6:=B4.out.drewN q5
  have k6:Kept (fun _=>False) W4 (W4.drewN q5):=(Kept.refl _ _).drewN q5
  obtain⟨W6,hW6⟩:∃W6,W4.drewN q5=W6:=⟨_,rfl⟩
  rw [hW6] at b6 k6 ⊢
  have c2:W6.cell? ⟨g,2,none⟩=some (.int .i64 ep):=b6.cell' (i:=2) rfl
  have f2:=b6.frozen 2
  have B6:=Lib.hid b6
  have K6:=Lib.hid (K4.out.trans k6 fun _ _ h=>h.elim)
  clear hW6 b6 k6
 ·go_ret
  exact⟨⟨_,rfl⟩,⟨ep,B6.out⟩,K6.out⟩
 ·go_wp2
  go_ret
  exact⟨⟨_,rfl⟩,⟨_,B6.out.set_ 2 _⟩,K6.out.trans ((Kept.refl (·=g) W6).setCell (p:=⟨g,2,none⟩) (fun _=>rfl) _) fun _ _ h=>h⟩
theorem rjoin_any {w:World}{g:Nat}{j l:BitVec 32}{ep:Int}(hB:Blk w g 167 #[u32V j,u32V l,.int .i64 ep]){n:Int}(h1:1≤n) (h2:n≤16) :
  Calls Tryz.prog 60 #[.pointer (some ⟨g,0,none⟩),.int .i64 n] w fun e w'=>(∃b,e=.returned (.bool b))∧(∃ep',Blk w' g 167 #[u32V (j ||| BitVec.twoPow 32 n.toNat),u32V l,.int .i64 ep'])∧Kept (·=g) w w':=by
 have T:=Lib.hid (turnJ_any hB h1 h2)
 clear hB
 go_enter Tryz.func60,Tryz.ntmps60
 go_wp2_with (go_at_call 107;refine T.out.mono ?_;rintro e w2 ⟨⟨b,rfl⟩,h3,h4⟩)
 go_ret
 exact⟨⟨_,rfl⟩,h3,h4⟩
theorem rleave_any {w:World}{g:Nat}{j l:BitVec 32}{ep:Int}(hB:Blk w g 167 #[u32V j,u32V l,.int .i64 ep]){n:Int}(h1:1≤n) (h2:n≤16) :
  Calls Tryz.prog 61 #[.pointer (some ⟨g,0,none⟩),.int .i64 n] w fun e w'=>(∃b,e=.returned (.bool b))∧(∃ep',Blk w' g 167 #[u32V j,u32V (l ||| BitVec.twoPow 32 n.toNat),.int .i64 ep'])∧Kept (·=g) w w':=by
 have T:=Lib.hid (turnL_any hB h1 h2)
 clear hB
 go_enter Tryz.func61,Tryz.ntmps61
 go_wp2_with (go_at_call 107;refine T.out.mono ?_;rintro e w2 ⟨⟨b,rfl⟩,h3,h4⟩)
 go_ret
 exact⟨⟨_,rfl⟩,h3,h4⟩
theorem rmembers_any {w:World}(hT:TabAt w){g:Nat}{j l:BitVec 32}{ep:Value}(hB:Blk w g 167 #[u32V j,u32V l,ep]) (hf:Few (j &&& ~~~l)) :
  Calls Tryz.prog 62 #[.pointer (some ⟨g,0,none⟩)] w fun e w'=>(∃v,e=.returned v∧SlAt intE w' v (intsL (bitsL (j &&& ~~~l))))∧Kept (fun _=>False) w w':=by
 have c0:w.cell? ⟨g,0,none⟩=some (.int .u32 (j.toNat:Int)):=hB.cell' (i:=0) rfl
 have c1:w.cell? ⟨g,1,none⟩=some (.int .u32 (l.toNat:Int)):=hB.cell' (i:=1) rfl
 have han:=andNot_u32 j l
 obtain⟨m,hm⟩:∃m,j &&& ~~~l=m:=⟨_,rfl⟩
 rw [hm] at han hf ⊢
 have LI:=Lib.hid (fun W (hk:Kept (fun _=>False) w W)=>rlist_any (hT.kept hk) hf)
 unfold u32V at LI
 clear hB hm hT
 go_enter Tryz.func62,Tryz.ntmps62
 go_upto_region 3 with fail
 have C0:Hid (∀W,Kept (fun _=>False) w W→W.cell? ⟨g,0,none⟩=some (.int .u32 (j.toNat:Int))):=Lib.hid fun W hk=>hk.cell c0
 have C1:Hid (∀W,Kept (fun _=>False) w W→W.cell? ⟨g,1,none⟩=some (.int .u32 (l.toNat:Int))):=Lib.hid fun W hk=>hk.cell c1
 have hS:Kept (fun _=>False) w w.drew:=(Kept.refl _ _).drew
 clear c0 c1
 refine wp_region_held_drew (S:=fun W=>Kept (fun _=>False) w W) (by kernel_rfl) hS (fun hHeld=>?_)
 refine tV 0 5 ?_
 try simp only [Act.put,zq1,zq2,zq3]
 refine tV 1 6 ?_
 try simp only [Act.put,zq1,zq2,zq3]
 refine tV 2 7 ?_
 try simp only [Act.put,zq1,zq2,zq3]
 refine tV 3 8 ?_ (hy:=by intro w hSw;have h9:=C0.out w hSw;clear hSw;go_simp;first | done | with_reducible rfl)
 try simp only [Act.put,zq1,zq2,zq3]
 refine tV 4 9 ?_
 try simp only [Act.put,zq1,zq2,zq3]
 refine tV 5 10 ?_
 try simp only [Act.put,zq1,zq2,zq3]
 refine tV 6 11 ?_
 try simp only [Act.put,zq1,zq2,zq3]
 refine tV 7 12 ?_ (hy:=by intro w hSw;have h9:=C1.out w hSw;clear hSw;go_simp;first | done | with_reducible rfl)
 try simp only [Act.put,zq1,zq2,zq3]
 refine tV 8 13 ?_
 try simp only [Act.put,zq1,zq2,zq3]
 refine wpAnyH_one (i:=9) (by kernel_rfl) ?_
 refine StepH.call (d:=(some 14)) (f:=?_) (args:=?_) (w':=?_) rfl rfl (by rfl) ?_ ?_
 rotate_left 3
 focus (go_simp;first | done | with_reducible rfl | ((repeat' apply And.intro) <;> with_reducible rfl))
 refine Calls.mono (LI.out _ hHeld) ?_
 rintro e1 Wc ⟨⟨v,rfl,hs⟩,KC⟩
 refine⟨_,rfl,?_,fun hHeld=>?_⟩
 focus (exact Kept.trans hHeld KC (fun _ _ h=>h))
 try simp only [Act.put,zq1,zq2,zq3]
 refine tV 10 2 ?_
 try simp only [Act.put,zq1,zq2,zq3]
 refine wpAnyH_done (by kernel_rfl) ?_ _
 go_wp2
 go_ret
 exact⟨⟨_,rfl,hs⟩,hHeld⟩
end Go.Proofs.YtjohljmpcblpjaaGreatDoor.Pa
