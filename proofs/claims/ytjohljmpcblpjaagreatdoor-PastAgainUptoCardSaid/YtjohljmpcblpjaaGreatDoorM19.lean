/- The map of the sites that have something left: what row's iterator keeps. Plainly. Parts of the proof. -/
import Derived.Shelf.SortM.Plain
import Derived.Test.YtjohljmpcblpjaaGreatDoorM18
namespace Go.Proofs.YtjohljmpcblpjaaGreatDoor.Pa
open Go.RowKit Go.Proofs.YtjohljmpcblpjaaGreatDoor.St Go.Proofs.YtjohljmpcblpjaaGreatDoor
section
variable {α:Type} {f:α→Dot} {D:α→List Dot}
theorem firstP_filter {l:List α}{V:List Dot}(p:Nat→Bool):∀(L:List Nat),(∀s∈L,p s=false→candP f D l V s=none)→firstP f D l V (L.filter p)=firstP f D l V L
 | [],_=>rfl
 | s::r,h=>by
  have ih:=firstP_filter p r (fun t ht=>h t (List.mem_cons_of_mem _ ht))
  cases hp:p s with
  | true =>
   rw [List.filter_cons_of_pos hp]
   show (candP f D l V s).or _=(candP f D l V s).or _
   rw [ih]
  | false =>
   rw [List.filter_cons_of_neg (by rw [hp];simp),ih]
   show _=(candP f D l V s).or _
   rw [h s List.mem_cons_self hp,Option.none_or]
theorem up_eq:∀(A B:List Nat),A.Pairwise (· < ·)→B.Pairwise (· < ·)→(∀x,x∈A↔x∈B)→A=B
 | [],[],_,_,_=>rfl
 | [],b::B,_,_,h=>absurd ((h b).2 List.mem_cons_self) (by simp)
 | a::A,[],_,_,h=>absurd ((h a).1 List.mem_cons_self) (by simp)
 | a::A,b::B,hA,hB,h=>by
  obtain⟨a1,a2⟩:=List.pairwise_cons.1 hA
  obtain⟨b1,b2⟩:=List.pairwise_cons.1 hB
  have e1:a=b:=by
   have h1:=(h a).1 List.mem_cons_self
   have h2:=(h b).2 List.mem_cons_self
   rcases List.mem_cons.1 h1 with h1|h1
   ·exact h1
   ·rcases List.mem_cons.1 h2 with h2 | h2
    ·exact h2.symm
    ·have:=b1 a h1
     have:=a1 b h2
     omega
  subst e1
  rw [up_eq A B a2 b2 (fun x=>⟨fun hx=>?_,fun hx=>?_⟩)]
  ·rcases List.mem_cons.1 ((h x).1 (List.mem_cons_of_mem _ hx)) with rfl | h9
   ·exact absurd (a1 x hx) (by omega)
   ·exact h9
  ·rcases List.mem_cons.1 ((h x).2 (List.mem_cons_of_mem _ hx)) with rfl | h9
   ·exact absurd (b1 x hx) (by omega)
   ·exact h9
structure LeftP (f:α→Dot) (l:List α) (V:List Dot) (lk:List (Int × Value)):Prop where
 nd:KeysOk lk
 val:∀p∈lk,∃s:Nat,1≤s∧s≤16∧p.1=(s:Int)∧p.2=.int .i64 (says V s+1)
 has:∀e∈l,(f e).seq=says V (f e).site.toNat+1→(f e).site∈lk.map (·.1)
theorem getK_of {lk:List (Int × Value)}(h:KeysOk lk){p:Int × Value}(hp:p∈lk):getK lk p.1=some p.2:=by
 cases hg:getK lk p.1 with
 | none=>exact absurd (List.mem_map_of_mem hp) (getK_none.1 hg)
 | some v =>
  unfold getK at hg
  cases hf:lk.find? (fun x=>decide (x.1=p.1)) with
  | none=>rw [hf] at hg;simp at hg
  | some q =>
   rw [hf] at hg
   have h1:=List.find?_some hf
   have h2:=List.mem_of_find?_eq_some hf
   simp only [decide_eq_true_eq] at h1
   have h3:q=p:=inj_nodup (f:=fun x:Int × Value=>x.1) h q h2 p hp h1
   rw [h3] at hg
   simpa using hg.symm
theorem LeftP.get {l:List α}{V:List Dot}{lk:List (Int × Value)}(h:LeftP f l V lk){s:Nat}(hs:(s:Int)∈lk.map (·.1)):getK lk (s:Int)=some (.int .i64 (says V s+1)):=by
 obtain⟨p,hp,h1⟩:=List.mem_map.1 hs
 obtain⟨t,_,_,h2,h3⟩:=h.val p hp
 have h4:=getK_of h.nd hp
 have e:t=s:=by omega
 subst e
 rw [h1,h3] at h4
 exact h4
theorem LeftP.first {l:List α}{V:List Dot}{lk:List (Int × Value)}(h:LeftP f l V lk){ss:List Nat}(hp:(ss.map fun s:Nat=>(s:Int)).Perm (lk.map (·.1))) (hs:ss.Pairwise (· < ·)):firstP f D l V ss=nextP f D l V:=by
 have hm:∀s:Nat,s∈ss↔(s:Int)∈lk.map (·.1):=fun s=>by
  rw [←hp.mem_iff,List.mem_map]
  constructor
  ·exact fun h=>⟨s,h,rfl⟩
  ·rintro⟨t,ht,h9⟩
   have : t=s:=by omega
   exact this ▸ ht
 have e1:sites16.filter (fun s=>decide (s∈ss))=ss:=up_eq _ _ (sites16_up.filter _) hs (fun x=>by
  rw [List.mem_filter,mem_sites16]
  simp only [decide_eq_true_eq]
  refine⟨fun h=>h.2,fun hx=>⟨?_,hx⟩⟩
  obtain⟨p,hp,h1⟩:=List.mem_map.1 ((hm x).1 hx)
  obtain⟨t,h2,h3,h4,_⟩:=h.val p hp
  omega)
 rw [←e1,firstP_filter]
 ·rfl
 ·intro s hs hn
  cases hc:candP f D l V s with
  | none=>rfl
  | some e =>
   obtain⟨h1,h2,_⟩:=candP_some hc
   have h3:=h.has e h1 (by rw [h2];rfl)
   rw [h2] at h3
   have h4:=(hm s).2 h3
   simp [h4] at hn
theorem LeftP.empty {l:List α}{V:List Dot}(h:LeftP f l V []):nextP f D l V=none:=(h.first (ss:=[]) (List.Perm.refl _) List.Pairwise.nil).symm
theorem LeftP.step {l:List α}{V:List Dot}{lk:List (Int × Value)}(hl:ClosedP f D l) (h:LeftP f l V lk){e:α}(he:nextP f D l V=some e) :
  getK lk (f e).site=some (.int .i64 (f e).seq)∧((⟨(f e).site,(f e).seq+1⟩:Dot)∈l.map f→LeftP f l (addV V (f e)) (putK lk (f e).site (.int .i64 ((f e).seq+1)))) ∧
   ((⟨(f e).site,(f e).seq+1⟩:Dot)∉l.map f→LeftP f l (addV V (f e)) (delK (putK lk (f e).site (.int .i64 ((f e).seq+1))) (f e).site)):=by
 obtain⟨h1,_,_,h4⟩:=nextP_some he
 have hok:=(hl.ok e h1).1
 have hs:((f e).site.toNat:Int)=(f e).site:=by unfold Dot.Ok at hok;omega
 have hk:=h.has e h1 h4
 have hg:=h.get (s:=(f e).site.toNat) (by rw [hs];exact hk)
 rw [hs,←h4] at hg
 have hn1:=h.nd.put (f e).site (.int .i64 ((f e).seq+1))
 have hadd:∀s:Nat,says (addV V (f e)) s=if (s:Int)=(f e).site then (f e).seq else says V s:=fun s=>pSays_add hok s
 have hval:∀p∈putK lk (f e).site (.int .i64 ((f e).seq+1)),∃s:Nat,1≤s∧s≤16∧p.1=(s:Int)∧p.2=.int .i64 (says (addV V (f e)) s+1):=fun p hp=>by
  have h9:=getK_of hn1 hp
  rw [getK_put] at h9
  by_cases hc:(f e).site=p.1
  ·rw [if_pos hc] at h9
   refine⟨(f e).site.toNat,?_,?_,by omega,?_⟩
   ·unfold Dot.Ok at hok;omega
   ·unfold Dot.Ok at hok;omega
   ·rw [hadd,if_pos hs]
    exact (Option.some.inj h9).symm
  ·rw [if_neg hc] at h9
   have hm:p.1∈lk.map (·.1):=by
    rcases Decidable.em (p.1∈lk.map (·.1)) with h8|h8
    ·exact h8
    ·rw [getK_none.2 h8] at h9;cases h9
   obtain⟨q,hq,e9⟩:=List.mem_map.1 hm
   obtain⟨s,s1,s2,s3,s4⟩:=h.val q hq
   have h10:=getK_of h.nd hq
   rw [e9,h9] at h10
   refine⟨s,s1,s2,by omega,?_⟩
   rw [Option.some.inj h10,s4,hadd,if_neg (by omega)]
 refine⟨hg,fun hin=>⟨hn1,hval,fun x hx hq=>?_⟩,fun hout=>⟨hn1.del _,fun p hp=>?_,fun x hx hq=>?_⟩⟩
 ·rw [hadd] at hq
  have hxo:=(hl.ok x hx).1
  have hxs:((f x).site.toNat:Int)=(f x).site:=by unfold Dot.Ok at hxo;omega
  rw [hxs] at hq
  refine Decidable.by_contra fun h9=>?_
  have h8:=getK_none.2 h9
  rw [getK_put] at h8
  by_cases hc:(f e).site=(f x).site
  ·rw [if_pos hc] at h8;cases h8
  ·rw [if_neg hc] at h8
   rw [if_neg (fun h=>hc h.symm)] at hq
   exact getK_none.1 h8 (h.has x hx hq)
 ·have h9:=getK_of (hn1.del _) hp
  rw [getK_del hn1] at h9
  by_cases hc:(f e).site=p.1
  ·rw [if_pos hc] at h9;cases h9
  ·rw [if_neg hc] at h9
   have hm:p.1∈(putK lk (f e).site (.int .i64 ((f e).seq+1))).map (·.1):=by
    rcases Decidable.em (p.1∈(putK lk (f e).site (.int .i64 ((f e).seq+1))).map (·.1)) with h8|h8
    ·exact h8
    ·rw [getK_none.2 h8] at h9;cases h9
   obtain⟨q,hq,e9⟩:=List.mem_map.1 hm
   obtain⟨s,s1,s2,s3,s4⟩:=hval q hq
   have h10:=getK_of hn1 hq
   rw [e9,h9] at h10
   exact⟨s,s1,s2,by omega,by rw [Option.some.inj h10,s4]⟩
 ·rw [hadd] at hq
  have hxo:=(hl.ok x hx).1
  have hxs:((f x).site.toNat:Int)=(f x).site:=by unfold Dot.Ok at hxo;omega
  rw [hxs] at hq
  by_cases hc:(f e).site=(f x).site
  ·rw [if_pos hc.symm] at hq
   refine absurd (List.mem_map.2 ⟨x,hx,?_⟩) hout
   exact Dot.ext hc.symm hq
  ·rw [if_neg (fun h=>hc h.symm)] at hq
   refine Decidable.by_contra fun h9=>?_
   have h8:=getK_none.2 h9
   rw [getK_del hn1,if_neg hc,getK_put,if_neg hc] at h8
   exact getK_none.1 h8 (h.has x hx hq)
end
end Go.Proofs.YtjohljmpcblpjaaGreatDoor.Pa
namespace Go.Proofs.YtjohljmpcblpjaaGreatDoor.Pa
def sortInt_ren:Go.Shelf.Ren:=⟨fun | 5=>105 | 8=>144 | 7=>143 | 19=>173 | 20=>174 | 10=>164 | 11=>165 | 12=>166 | 13=>167 | 14=>168 | 15=>169 | 16=>170 | 17=>171 | 18=>172 | 30=>185 | 31=>186 | 32=>187 | 33=>188 | 34=>189 | 35=>190 | 40=>195 | n=>n,fun | 23=>45 | 25=>3 | 3=>3 | 32=>219 | 22=>45 | 0=>0 | 44=>165 | 46=>254 | 4=>4 | 36=>246 | 35=>245 | 41=>236 | 5=>5 | 9=>9 | 53=>263 | 57=>267 | 63=>273 | 64=>274 | n=>n,fun | n=>n⟩
theorem sortInt:Go.Proofs.SlLaysM.n5 Tryz.prog sortInt_ren:={
 mixed:=by kernel_rfl,
 f5:=⟨Tryz.f105.name,by decide,Tryz.func105.trans (congrArg some (by kernel_rfl))⟩,
 f7:=⟨Tryz.f143.name,by decide,Tryz.func143.trans (congrArg some (by kernel_rfl))⟩,
 f8:=Tryz.func144.trans (congrArg some (by kernel_rfl)),
 f10:=⟨Tryz.f164.name,by decide,Tryz.func164.trans (congrArg some (by kernel_rfl))⟩,
 f11:=⟨Tryz.f165.name,by decide,Tryz.func165.trans (congrArg some (by kernel_rfl))⟩,
 f12:=⟨Tryz.f166.name,by decide,Tryz.func166.trans (congrArg some (by kernel_rfl))⟩,
 f13:=⟨Tryz.f167.name,by decide,Tryz.func167.trans (congrArg some (by kernel_rfl))⟩,
 f14:=⟨Tryz.f168.name,by decide,Tryz.func168.trans (congrArg some (by kernel_rfl))⟩,
 f15:=⟨Tryz.f169.name,by decide,Tryz.func169.trans (congrArg some (by kernel_rfl))⟩,
 f16:=⟨Tryz.f170.name,by decide,Tryz.func170.trans (congrArg some (by kernel_rfl))⟩,
 f17:=⟨Tryz.f171.name,by decide,Tryz.func171.trans (congrArg some (by kernel_rfl))⟩,
 f18:=⟨Tryz.f172.name,by decide,Tryz.func172.trans (congrArg some (by kernel_rfl))⟩,
 f19:=Tryz.func173.trans (congrArg some (by kernel_rfl)),
 f20:=Tryz.func174.trans (congrArg some (by kernel_rfl)),
 f30:=⟨Tryz.f185.name,by decide,Tryz.func185.trans (congrArg some (by kernel_rfl))⟩,
 f31:=Tryz.func186.trans (congrArg some (by kernel_rfl)),
 f32:=Tryz.func187.trans (congrArg some (by kernel_rfl)),
 f33:=⟨Tryz.f188.name,by decide,Tryz.func188.trans (congrArg some (by kernel_rfl))⟩,
 f34:=⟨Tryz.f189.name,by decide,Tryz.func189.trans (congrArg some (by kernel_rfl))⟩,
 f35:=⟨Tryz.f190.name,by decide,Tryz.func190.trans (congrArg some (by kernel_rfl))⟩,
 f40:=⟨Tryz.f195.name,by decide,Tryz.func195.trans (congrArg some (by kernel_rfl))⟩,
 t0:=Tryz.underlying0,
 a0:=Tryz.isAgg0,
 z0:=Tryz.sizeOf0,
 v0:=Tryz.zeroValue0,
 t3:=Tryz.underlying3,
 a3:=Tryz.isAgg3,
 z3:=Tryz.sizeOf3,
 v3:=Tryz.zeroValue3,
 t4:=Tryz.underlying4,
 a4:=Tryz.isAgg4,
 z4:=Tryz.sizeOf4,
 v4:=Tryz.zeroValue4,
 t5:=Tryz.underlying5,
 a5:=Tryz.isAgg5,
 z5:=Tryz.sizeOf5,
 v5:=Tryz.zeroValue5,
 t9:=Tryz.underlying9,
 a9:=Tryz.isAgg9,
 z9:=Tryz.sizeOf9,
 v9:=Tryz.zeroValue9,
 t22:=Tryz.underlying45,
 a22:=Tryz.isAgg45,
 z22:=Tryz.sizeOf45,
 v22:=Tryz.zeroValue45,
 t23:=Tryz.underlying45,
 a23:=Tryz.isAgg45,
 z23:=Tryz.sizeOf45,
 v23:=Tryz.zeroValue45,
 t25:=Tryz.underlying3,
 a25:=Tryz.isAgg3,
 z25:=Tryz.sizeOf3,
 v25:=Tryz.zeroValue3,
 t32:=Tryz.underlying219,
 a32:=Tryz.isAgg219,
 z32:=Tryz.sizeOf219,
 v32:=Tryz.zeroValue219,
 t35:=Tryz.underlying245,
 a35:=Tryz.isAgg245,
 z35:=Tryz.sizeOf245,
 v35:=Tryz.zeroValue245,
 t36:=Tryz.underlying246,
 a36:=Tryz.isAgg246,
 z36:=Tryz.sizeOf246,
 v36:=Tryz.zeroValue246,
 t41:=Tryz.underlying236,
 a41:=Tryz.isAgg236,
 z41:=Tryz.sizeOf236,
 v41:=Tryz.zeroValue236,
 t44:=Tryz.underlying165,
 a44:=Tryz.isAgg165,
 z44:=Tryz.sizeOf165,
 v44:=Tryz.zeroValue165,
 t46:=Tryz.underlying254,
 a46:=Tryz.isAgg254,
 z46:=Tryz.sizeOf254,
 v46:=Tryz.zeroValue254,
 t53:=Tryz.underlying263,
 a53:=Tryz.isAgg263,
 z53:=Tryz.sizeOf263,
 v53:=Tryz.zeroValue263,
 t57:=Tryz.underlying267,
 a57:=Tryz.isAgg267,
 z57:=Tryz.sizeOf267,
 v57:=Tryz.zeroValue267,
 t63:=Tryz.underlying273,
 a63:=Tryz.isAgg273,
 z63:=Tryz.sizeOf273,
 v63:=Tryz.zeroValue273,
 t64:=Tryz.underlying274,
 a64:=Tryz.isAgg274,
 z64:=Tryz.sizeOf274,
 v64:=Tryz.zeroValue274 }
end Go.Proofs.YtjohljmpcblpjaaGreatDoor.Pa
namespace Go.Proofs.YtjohljmpcblpjaaGreatDoor.Pa
open Go.RowKit Go.Proofs.YtjohljmpcblpjaaGreatDoor.St Go.Proofs.YtjohljmpcblpjaaGreatDoor
open Go.Sort (grow putRow Holds)
theorem own_holds {w:World}{t:TypeId}{g cap:Nat}{D:List Int}(h:OwnAt intE w t g cap D):Holds (Value.int .i64) w g 0 D.toArray:=by
 intro m hm
 have hm':m<D.length:=by simpa using hm
 rw [Nat.zero_add]
 refine⟨?_,h.frozen m⟩
 have h1:=h.cell (i:=m) (j:=0) (x:=D[m]) (by simp [hm']) (u:=.int .i64 D[m]) rfl
 have hk:intE.k=1:=rfl
 rw [hk,Nat.mul_one,Nat.add_zero] at h1
 rw [getElem!_pos D.toArray m hm]
 simpa using h1
theorem own_sorted {w:World}{t:TypeId}{g cap:Nat}{D D':List Int}(h:OwnAt intE w t g cap D) (hl:D'.length=D.length) (n:Nat) (os:Array Obj) :
  OwnAt intE (grow (putRow (Value.int .i64) (Sort.ahead w n) g 0 D'.toArray) os) t g cap D'∧Kept (·=g) w (grow (putRow (Value.int .i64) (Sort.ahead w n) g 0 D'.toArray) os):=by
 obtain⟨cs,h1,h2,h3,h4,h5⟩:=h
 have hlt:=h1.lt
 refine⟨⟨Go.Sort.putCells (Value.int .i64) 0 D'.toArray cs,?_,?_,by omega,h4,?_⟩,⟨rfl,rfl,rfl,?_,?_⟩⟩
 ·unfold Blk at h1 ⊢
  show (w.heap.modify g (Go.Sort.onCells (Go.Sort.putCells (Value.int .i64) 0 D'.toArray))++os)[g]?=_
  rw [Array.getElem?_append_left (by simpa using hlt),Array.getElem?_modify,if_pos rfl,h1]
  rfl
 ·simp [Go.Sort.putCells,h2]
 ·intro i x hx j u hu
  have hk:intE.k=1:=rfl
  have hi:i<D'.length:=(List.getElem?_eq_some_iff.1 hx).1
  have hx2:D'[i]=x:=(List.getElem?_eq_some_iff.1 hx).2
  have hj:j=0:=by
   have h9:=(List.getElem?_eq_some_iff.1 hu).1
   have h8:(intE.enc x).length=1:=rfl
   omega
  subst hj
  have hu2:u=.int .i64 x:=(Option.some.inj hu).symm
  rw [hk,Nat.mul_one,Nat.add_zero]
  have hm:i<cs.size:=by rw [h2,hk];omega
  simp only [Go.Sort.putCells,Array.getElem?_mapIdx,Array.getElem?_eq_getElem hm,Option.map_some]
  rw [if_pos ⟨Nat.zero_le _,by simpa using hi⟩,Nat.sub_zero,getElem!_pos D'.toArray i (by simpa using hi),hu2,←hx2]
  simp
 ·simp [grow,Go.Sort.putRow,Go.Sort.mapBlock,Go.Sort.ahead]
 ·intro k hk hne
  have : ¬g=k:=fun e=>hne e.symm
  show (w.heap.modify g (Go.Sort.onCells (Go.Sort.putCells (Value.int .i64) 0 D'.toArray))++os)[k]?=_
  rw [Array.getElem?_append_left (by simpa using hk),Array.getElem?_modify,if_neg this]
theorem merge_int (D:List Int):(D.mergeSort fun x y=>decide (x≤y)).Perm D∧(D.mergeSort fun x y=>decide (x≤y)).Pairwise (·≤·):=by
 refine⟨List.mergeSort_perm ..,?_⟩
 have:=List.pairwise_mergeSort (le:=fun x y:Int=>decide (x≤y)) (fun a b c h1 h2=>by
  simp only [decide_eq_true_eq] at *
  omega) (fun a b=>by
  simp only [Bool.or_eq_true,decide_eq_true_eq]
  omega) D
 exact this.imp fun {a b} h=>by simpa using h
theorem sort_int {w:World}{t:TypeId}{g cap:Nat}{D:List Int}(h:OwnAt intE w t g cap D) (hb:D.length≤1000000000) :
  Calls Tryz.prog 105 #[.slice (some ⟨g,0,none⟩) D.length cap] w fun e w'=>e=.returned (.tuple #[])∧∃D',D'.Perm D∧D'.Pairwise (·≤·)∧OwnAt intE w' t g cap D'∧Kept (·=g) w w':=by
 have hcon:=AnyM.slices_Sort_int sortInt g 0 cap D w (own_holds h) h.lt (by omega)
 refine Calls.mono hcon ?_
 rintro e w' ⟨rfl,n,os,rfl⟩
 obtain⟨h1,h2⟩:=merge_int D
 obtain⟨h3,h4⟩:=own_sorted h (D':=D.mergeSort fun x y=>decide (x≤y)) (by simp) n os
 exact⟨rfl,_,h1,h2,h3,h4⟩
end Go.Proofs.YtjohljmpcblpjaaGreatDoor.Pa
namespace Go.Proofs.YtjohljmpcblpjaaGreatDoor.Pa
open Go.RowKit Go.Proofs.YtjohljmpcblpjaaGreatDoor.St Go.Proofs.YtjohljmpcblpjaaGreatDoor
theorem SlAt.same {α:Type}{E:Enc α}{w w':World}{v:Value}{L:List α}(h:SlAt E w v L) (hb:∀b,v.ownBlock=some b→w'.heap[b]?=w.heap[b]?):SlAt E w' v L:=by
 rcases h with h|⟨x,c,rfl,h1,h2,h3,h4⟩
 ·exact .inl h
 ·refine .inr ⟨x,c,rfl,h1,h2,h3,fun i y hy j u hu=>?_⟩
  have h5:=h4 i y hy j u hu
  have h6:=hb x.block rfl
  unfold World.cell? at h5 ⊢
  rw [h6]
  exact h5
theorem MapR.same {P:Program}{kt:TypeId}{κ:Type} [DecidableEq κ] {K:KeyE P kt κ}{w w':World}{b:Nat}{kvs:List (κ × Value)}(h:MapR K w b kvs) (hb:w'.heap[b]?=w.heap[b]?):MapR K w' b kvs:=by
 obtain⟨es,clk,h1,h2⟩:=h
 exact⟨es,clk,hb.trans h1,h2⟩
structure RowRd (tb mb:Nat) (l:List Ent) (w:World):Prop where
 tc:w.cell? ⟨tb,0,none⟩=some (.map (some mb))
 ops:OpsM w mb (kvsOf l)
 rows:∀e∈l,SlAt dotE w e.v.deps.v e.D
structure RowB (tb lb lm gb wb fb:Nat) (X:Nat→Prop) (V:List Dot) (lk:List (Int × Value)) (w:World):Prop where
 lc:Blk w lb 168 #[.map (some lm)]
 left:MapR intK w lm lk
 gc:∃gv,Blk w gb 24 #[gv]∧SlAt dotE w gv V∧∀b,gv.ownBlock=some b→X b∧b≠lm
 wc:Blk w wb 169 #[.func (.func 102) #[] #[.pointer (some ⟨tb,0,none⟩),.pointer (some ⟨lb,0,none⟩),.pointer (some ⟨gb,0,none⟩)]]
 fc:Blk w fb 170 #[.func (.func 104) #[] #[.pointer (some ⟨wb,0,none⟩),.pointer (some ⟨fb,0,none⟩)]]
 own:X lb∧X lm∧X gb∧X wb∧X fb
section
variable {tb mb lb lm gb wb fb:Nat} {X X':Nat→Prop} {V:List Dot} {lk:List (Int × Value)} {w w':World} {l:List Ent}
theorem RowB.same (h:RowB tb lb lm gb wb fb X V lk w) (hs:∀b,X b→w'.heap[b]?=w.heap[b]?) (hX:∀b,X b→X' b):RowB tb lb lm gb wb fb X' V lk w':=by
 obtain⟨gv,g1,g2,g3⟩:=h.gc
 obtain⟨o1,o2,o3,o4,o5⟩:=h.own
 exact⟨(hs lb o1).trans h.lc,MapR.same h.left (hs lm o2),⟨gv,(hs gb o3).trans g1,SlAt.same g2 fun b hb=>hs b (g3 b hb).1,fun b hb=>⟨hX b (g3 b hb).1,(g3 b hb).2⟩⟩,(hs wb o4).trans h.wc,(hs fb o5).trans h.fc,hX _ o1,hX _ o2,hX _ o3,hX _ o4,hX _ o5⟩
theorem RowB.still (h:RowB tb lb lm gb wb fb X V lk w) (hk:Kept (fun _=>False) w w') (hX:∀b,X b→X' b):RowB tb lb lm gb wb fb X' V lk w':=by
 obtain⟨gv,g1,g2,g3⟩:=h.gc
 obtain⟨o1,o2,o3,o4,o5⟩:=h.own
 exact⟨hk.blk (fun h=>h) h.lc,h.left.keep hk (fun h=>h),⟨gv,hk.blk (fun h=>h) g1,g2.kept hk,fun b hb=>⟨hX b (g3 b hb).1,(g3 b hb).2⟩⟩,hk.blk (fun h=>h) h.wc,hk.blk (fun h=>h) h.fc,hX _ o1,hX _ o2,hX _ o3,hX _ o4,hX _ o5⟩
theorem RowB.first (h:RowB tb lb lm gb wb fb X V lk w) (hr:RowRd tb mb l w):FirstS w tb mb lb lm gb wb fb l V lk:=by
 obtain⟨gv,g1,g2,_⟩:=h.gc
 exact⟨⟨hr.tc,hr.ops,hr.rows,h.lc.cell' (i:=0) rfl,h.left.mapK,gv,g1.cell' (i:=0) rfl,g2⟩,h.wc.cell' (i:=0) rfl,h.fc.cell' (i:=0) rfl⟩
end
def rowL (l:List Ent):List Ent:=rowA dotOf depOf l
def rowEnc (l:List Ent) (i:Nat):Array Value:=#[.agg (match (rowL l)[i]? with | some e=>opA e.v | none=>#[])]
theorem rowEnc_some {l:List Ent}{i:Nat}{e:Ent}(h:(rowL l)[i]?=some e):rowEnc l i=#[.agg (opA e.v)]:=by unfold rowEnc;rw [h]
def RowAt (I:Nat→(Nat→Prop)→World→Prop) (tb lb lm gb wb fb:Nat) (l:List Ent) (m:Nat) (w:World):Prop :=
 ∃i X V lk R,m=l.length-i∧I i X w∧RowB tb lb lm gb wb fb X V lk w∧LeftP dotOf l V lk∧GoneP dotOf depOf l R V∧R.length=i∧i≤(rowL l).length∧rowP dotOf depOf l (l.length-i) V=(rowL l).drop i∧V.length≤17
def SitesAt (w:World) (lm r:Nat) (lk:List (Int × Value)) (v:Value) (m:Nat) (W:World):Prop :=
 ∃(done:List Int) (left:List (Int × Value)),m=left.length∧Kept (fun _=>False) w W∧RangeR intK W r lm lk left∧W.ownsRow w.heap.size 3 1 v done.length (intE.flat done)∧(done++left.map (·.1)).Perm (lk.map (·.1))∧v.ownBlock≠some r
def DotsAt (w:World) (mb lb lm r:Nat) (l:List Ent) (m:Nat) (W:World):Prop :=
 ∃(lk:List (Int × Value)) (left:List (Dot × Value)),m=left.length∧Kept (fun _=>False) w W∧RangeR keyD W r mb (kvsOf l) left∧Blk W lb 168 #[.map (some lm)]∧MapR intK W lm lk∧KeysOk lk∧(∀p∈lk,∃s:Nat,1≤s∧s≤16∧p.1=(s:Int)∧p.2=.int .i64 1) ∧
  (∀p∈left,p∈kvsOf l)∧∀e∈l,dotOf e∈left.map (·.1)∨(dotOf e).site∈lk.map (·.1)
theorem mem_put {lk:List (Int × Value)}{k:Int}{v:Value}{p:Int × Value}(h:p∈putK lk k v):p∈lk∨p=(k,v):=by
 induction lk with
 | nil=>exact .inr (List.mem_singleton.1 h)
 | cons x r ih =>
  unfold putK at h
  split at h
  ·rcases List.mem_cons.1 h with h | h
   ·exact .inr h
   ·exact .inl (List.mem_cons_of_mem _ h)
  ·rcases List.mem_cons.1 h with h | h
   ·exact .inl (h ▸ List.mem_cons_self)
   ·rcases ih h with h | h
    ·exact .inl (List.mem_cons_of_mem _ h)
    ·exact .inr h
theorem key_put {lk:List (Int × Value)}{k x:Int}{v:Value}(h:x=k∨x∈lk.map (·.1)):x∈(putK lk k v).map (·.1):=by
 refine Decidable.by_contra fun h9=>?_
 have h8:=getK_none.2 h9
 rw [getK_put] at h8
 by_cases hc:k=x
 ·rw [if_pos hc] at h8;cases h8
 ·rw [if_neg hc] at h8
  rcases h with h|h
  ·exact hc h.symm
  ·exact getK_none.1 h8 h
theorem mem_erase {β:Type}{left:List β}{j:Nat}{x p:β}(hx:left[j]?=some x) (h:p∈left):p=x∨p∈left.eraseIdx j:=by
 obtain⟨i,hi⟩:=List.getElem?_of_mem h
 by_cases hc:i=j
 ·subst hc
  rw [hx] at hi
  exact .inl (Option.some.inj hi).symm
 ·exact .inr (List.mem_eraseIdx_iff_getElem?.2 ⟨i,hc,hi⟩)
theorem dots_next {w wr w3 W4 W5:World}{mb lb lm r j:Nat}{l:List Ent}{lk:List (Int × Value)}{left:List (Dot × Value)}{ds dq:Int}{xv:Value}(hcl:ClosedP dotOf depOf l) (hk:Kept (fun _=>False) w wr) (hk3:Kept (·=r) wr w3) (hk4:Kept (fun _=>False) w3 W4) (hk5:Kept (·=lm) W4 W5)
  (hr:w.heap.size≤r) (hlm:w.heap.size≤lm) (h1:r≠lm) (h2:mb≠lm) (h3:lb≠r) (h4:lb≠lm) (hrr3:RangeR keyD w3 r mb (kvsOf l) (left.eraseIdx j)) (hbl:Blk wr lb 168 #[.map (some lm)]) (hm5:MapR intK W5 lm (putK lk ds (.int .i64 1)))
  (hnd:KeysOk lk) (hval:∀p∈lk,∃s:Nat,1≤s∧s≤16∧p.1=(s:Int)∧p.2=.int .i64 1) (hx:left[j]?=some (⟨ds,dq⟩,xv)) (hsub:∀p∈left,p∈kvsOf l) (hhas:∀e∈l,dotOf e∈left.map (·.1)∨(dotOf e).site∈lk.map (·.1)) :
  ∃m,m<left.length∧DotsAt w mb lb lm r l m W5:=by
 have hj:=(List.getElem?_eq_some_iff.1 hx).1
 have hl:(left.eraseIdx j).length=left.length-1:=by rw [List.length_eraseIdx,if_pos hj]
 refine⟨_,?_,putK lk ds (.int .i64 1),left.eraseIdx j,rfl,?_,?_,?_,hm5,hnd.put _ _,fun p hp=>?_,fun p hp=>hsub p (List.mem_of_mem_eraseIdx hp),fun e he=>?_⟩
 ·omega
 ·exact ((hk.trans hk3 (fun i hi h=>by omega)).trans hk4 (fun _ _ h=>h)).trans hk5 (fun i hi h=>by omega)
 ·exact (hrr3.keep hk4 (fun h=>h) (fun h=>h)).keep hk5 h1 h2
 ·exact hk5.blk h4 (hk4.blk (fun h=>h) (hk3.blk h3 hbl))
 ·rcases mem_put hp with h | rfl
  ·exact hval p h
  ·obtain⟨e,he,h9⟩:=List.mem_map.1 (hsub _ (List.mem_of_getElem? hx))
   have hok:=(hcl.ok e he).1
   have e1:dotOf e=⟨ds,dq⟩:=congrArg Prod.fst h9
   rw [e1] at hok
   unfold Dot.Ok at hok
   dsimp only at hok
   exact⟨ds.toNat,by omega,by omega,by dsimp only;omega,rfl⟩
 ·rcases hhas e he with h | h
  ·obtain⟨p,hp,h9⟩:=List.mem_map.1 h
   rcases mem_erase hx hp with rfl|h8
   ·exact .inr (key_put (.inl (by rw [←h9])))
   ·exact .inl (List.mem_map.2 ⟨p,h8,h9⟩)
  ·exact .inr (key_put (.inr h))
theorem dots_end {l:List Ent}{lk:List (Int × Value)}(hnd:KeysOk lk) (hval:∀p∈lk,∃s:Nat,1≤s∧s≤16∧p.1=(s:Int)∧p.2=.int .i64 1) (hhas:∀e∈l,dotOf e∈([]:List (Dot × Value)).map (·.1)∨(dotOf e).site∈lk.map (·.1)):LeftP dotOf l [] lk :=
 ⟨hnd,fun p hp=>by obtain⟨s,h1,h2,h3,h4⟩:=hval p hp;exact⟨s,h1,h2,h3,h4⟩,fun e he _=>by
  rcases hhas e he with h|h
  ·simp at h
  ·exact h⟩
theorem rowAt_start {I:Nat→(Nat→Prop)→World→Prop}{tb lb lm y:Nat}{l:List Ent}{lk:List (Int × Value)}{X0:Nat→Prop}{w wr W:World}(hcl:ClosedP dotOf depOf l) (h0:I 0 X0 w) (hgr:∀i X w w',I i X w→Kept X w w'→I i (fun b=>X b∨(w.heap.size≤b∧b<w'.heap.size)) w') (hk:Kept (fun _=>False) w wr) (hy:wr.heap.size=y)
  (hbl:Blk wr lb 168 #[.map (some lm)]) (hml:MapR intK wr lm lk) (h1:w.heap.size≤lb) (h2:w.heap.size≤lm) (hL:LeftP dotOf l [] lk)
  (hW:W=((wr.alloc (.cells #[.slice none 0 0] 24)).alloc (.cells #[.func (.func 102) #[] #[.pointer (some ⟨tb,0,none⟩),.pointer (some ⟨lb,0,none⟩),.pointer (some ⟨y,0,none⟩)]] 169)).alloc (.cells #[.func (.func 104) #[] #[.pointer (some ⟨y+1,0,none⟩),.pointer (some ⟨y+1+1,0,none⟩)]] 170)) :
  ∃m,RowAt I tb lb lm y (y+1) (y+1+1) l m W:=by
 have hlb:=hbl.lt
 have hlm:=hml.mapK.lt
 have ka:Kept (fun _=>False) wr W:=by rw [hW];exact (((Kept.refl _ _).alloc _).alloc _).alloc _
 have hs:W.heap.size=y+3:=by rw [hW,←hy];simp
 have kw:=hk.trans ka (fun _ _ h=>h)
 have b0:Blk W y 24 #[.slice none 0 0]:=by rw [hW,←hy];exact ((Blk.new _ _ _).alloc _).alloc _
 have b1:Blk W (y+1) 169 #[.func (.func 102) #[] #[.pointer (some ⟨tb,0,none⟩),.pointer (some ⟨lb,0,none⟩),.pointer (some ⟨y,0,none⟩)]]:=by
  rw [hW]
  have h9:=Blk.new (wr.alloc (.cells #[.slice none 0 0] 24)) 169 #[.func (.func 102) #[] #[.pointer (some ⟨tb,0,none⟩),.pointer (some ⟨lb,0,none⟩),.pointer (some ⟨y,0,none⟩)]]
  simp only [World.size_alloc,hy] at h9
  exact h9.alloc _
 have b2:Blk W (y+1+1) 170 #[.func (.func 104) #[] #[.pointer (some ⟨y+1,0,none⟩),.pointer (some ⟨y+1+1,0,none⟩)]]:=by
  rw [hW]
  have h9:=Blk.new ((wr.alloc (.cells #[.slice none 0 0] 24)).alloc (.cells #[.func (.func 102) #[] #[.pointer (some ⟨tb,0,none⟩),.pointer (some ⟨lb,0,none⟩),.pointer (some ⟨y,0,none⟩)]] 169)) 170 #[.func (.func 104) #[] #[.pointer (some ⟨y+1,0,none⟩),.pointer (some ⟨y+1+1,0,none⟩)]]
  simp only [World.size_alloc,hy] at h9
  exact h9
 refine⟨_,0,_,[],lk,[],rfl,hgr _ _ _ _ h0 (kw.mono fun _ _ h=>h.elim),⟨ka.blk (fun h=>h) hbl,hml.keep ka (fun h=>h),⟨_,b0,.inl ⟨rfl,rfl⟩,fun b hb=>by cases hb⟩,b1,b2,.inr ⟨h1,by omega⟩,.inr ⟨h2,by omega⟩,.inr ⟨by have:=hk.size;omega,by omega⟩,.inr ⟨by have:=hk.size;omega,by omega⟩,.inr ⟨by have:=hk.size;omega,by omega⟩⟩,hL,GoneP.nil hcl,rfl,Nat.zero_le _,?_,Nat.zero_le _⟩
 rw [Nat.sub_zero,List.drop_zero]
 rfl
theorem len_mapR {P:Program}{kt et T:TypeId}{κ:Type} [DecidableEq κ] {K:KeyE P kt κ}{w:World}{b:Nat}{kvs:List (κ × Value)}(ht:P.underlying T=some (.map kt et)) (ty:TypeId) (h:MapR K w b kvs):(Builtin.len_ #[T] ty #[.map (some b)]).run P w=.ok (.int .i64 kvs.length) w:=by
 obtain⟨es,clk,hb,he,_⟩:=h
 have hs:es.size=kvs.length:=by have:=congrArg List.length he;simpa using this
 rw [←hs]
 exact run_len_map w _ _ b es clk (by simp [Program.mapKeyOf,Program.mapElemOf,ht]) hb
theorem erase_perm {β:Type}:∀ {left:List β}{j:Nat}{x:β},left[j]?=some x→(x::left.eraseIdx j).Perm left
 | [],_,_,h=>by simp at h
 | y::r,0,x,h=>by
  have e:y=x:=by simpa using h
  rw [e]
  exact List.Perm.refl _
 | y::r,j+1,x,h=>by
  have ih:=erase_perm (left:=r) (j:=j) (x:=x) (by simpa using h)
  exact (List.Perm.swap y x _).trans (ih.cons y)
theorem info_i:(Tryz.prog.info? 3).map (fun i=>(i.zero,i.size,i.bytes))=some (some (.int .i64 0),1,8):=by kernel_rfl
theorem sites_next {wr W w3 w4 w5:World}{q lm j:Nat}{lk:List (Int × Value)}{v v5:Value}{done:List Int}{left:List (Int × Value)}{k:Int}{kv:Value}(hk:Kept (fun _=>False) wr W) (hq:wr.heap.size=q) (hk3:Kept (·=q) W w3) (hrr3:RangeR intK w3 q lm lk (left.eraseIdx j)) (hk4:Kept (fun _=>False) w3 w4)
  (how:W.ownsRow q 3 1 v done.length (intE.flat done)) (how5:w5.ownsRow q 3 1 v5 (done.length+1) (intE.flat (done++[k]))) (hg:Grow1 w4 w5 v v5) (hp:(done++left.map (·.1)).Perm (lk.map (·.1))) (hx:left[j]?=some (k,kv)) (hv:v.ownBlock≠some q) (hlm:lm<q):∃m,m<left.length∧SitesAt wr lm q lk v5 m w5:=by
 have hj:=(List.getElem?_eq_some_iff.1 hx).1
 have hl:(left.eraseIdx j).length=left.length-1:=by rw [List.length_eraseIdx,if_pos hj]
 have hg2:Kept (fun b=>v.ownBlock=some b) w4 w5:=by
  rcases hg with ⟨_,h⟩|⟨_,h⟩
  ·exact h
  ·exact h.mono fun _ _ h=>h.elim
 have hb:∀b,v.ownBlock=some b→q<b:=fun b hb=>by
  have h1:=(Tr.owns_lt how b hb).1
  have h2:b≠q:=fun e=>hv (e ▸ hb)
  omega
 have hql:q<w4.heap.size:=by have h1:=hrr3.lt;have:=hk4.size;omega
 refine⟨_,?_,done++[k],left.eraseIdx j,rfl,?_,?_,?_,?_,?_⟩
 ·omega
 ·exact ((hk.trans hk3 (fun i hi h=>by omega)).trans hk4 (fun _ _ h=>h)).trans hg2 (fun i hi h=>by have:=hb i h;omega)
 ·exact (hrr3.keep hk4 (fun h=>h) (fun h=>h)).keep hg2 (fun h=>by have:=hb _ h;omega) (fun h=>by have:=hb _ h;omega)
 ·rw [hq,List.length_append]
  exact how5
 ·rw [List.append_assoc]
  refine (List.Perm.append_left done ?_).trans hp
  have h1:=(erase_perm hx).map (·.1)
  exact h1
 ·rcases hg with ⟨h,_⟩ | ⟨h,_⟩
  ·rw [h];exact hv
  ·rw [h]
   intro e
   injection e with e
   omega
theorem sites_sorted {l:List Ent}{V:List Dot}{lk:List (Int × Value)}{D:List Int}(hL:LeftP dotOf l V lk) (hp:D.Perm (lk.map (·.1))) (hs:D.Pairwise (·≤·)) :
  ∃ss:List Nat,(ss.map fun s:Nat=>(s:Int))=D∧ss.Pairwise (· < ·)∧∀s∈ss,getK lk (s:Int)=some (.int .i64 (says V s+1)):=by
 have hpos:∀x∈D,1≤x:=fun x hx=>by
  obtain⟨p,h1,h2⟩:=List.mem_map.1 (hp.mem_iff.1 hx)
  obtain⟨s,s1,_,s3,_⟩:=hL.val p h1
  omega
 have hnd:D.Nodup:=hp.nodup_iff.2 hL.nd
 have e1:((D.map Int.toNat).map fun s:Nat=>(s:Int))=D:=by
  rw [List.map_map]
  conv=>rhs;rw [←List.map_id D]
  refine List.map_congr_left fun x hx=>?_
  have:=hpos x hx
  show ((x.toNat:Nat):Int)=x
  omega
 refine⟨D.map Int.toNat,e1,?_,fun s hs2=>?_⟩
 ·rw [List.pairwise_map]
  have h1:=hs.and hnd
  refine List.Pairwise.imp_of_mem ?_ h1
  intro a b ha hb h
  have:=hpos a ha
  have:=hpos b hb
  obtain⟨h2,h3⟩:=h
  omega
 ·refine hL.get ?_
  have h1:(s:Int)∈((D.map Int.toNat).map fun s:Nat=>(s:Int)):=List.mem_map_of_mem hs2
  rw [e1] at h1
  exact hp.mem_iff.1 h1
theorem at_end {l:List Ent}{i:Nat}{V:List Dot}(hn:nextP dotOf depOf l V=none) (hrow:rowP dotOf depOf l (l.length-i) V=(rowL l).drop i) (hi:i≤(rowL l).length):i=(rowL l).length:=by
 rw [row_none hn] at hrow
 have:=List.drop_eq_nil_iff.1 hrow.symm
 omega
theorem at_some {l:List Ent}{i:Nat}{V:List Dot}{R:List Ent}{e:Ent}(hcl:ClosedP dotOf depOf l) (hg:GoneP dotOf depOf l R V) (hR:R.length=i) (hn:nextP dotOf depOf l V=some e) (hrow:rowP dotOf depOf l (l.length-i) V=(rowL l).drop i) :
  (rowL l)[i]?=some e∧rowP dotOf depOf l (l.length-(i+1)) (addV V (dotOf e))=(rowL l).drop (i+1)∧GoneP dotOf depOf l (R++[e]) (addV V (dotOf e))∧i<l.length:=by
 obtain⟨h1,h2⟩:=hg.step hcl hn
 have h3:l.length-i=(l.length-(i+1))+1:=by omega
 rw [h3,row_some hn] at hrow
 have h4:(rowL l)[i]?=some e:=by
  have:=congrArg (·[0]?) hrow
  simpa using this.symm
 refine⟨h4,?_,h1,by omega⟩
 have:=congrArg List.tail hrow
 rw [List.tail_drop] at this
 exact this
theorem nat_nodup_le:∀(n:Nat) (A:List Int),A.Nodup→(∀x∈A,1≤x∧x≤n)→A.length≤n
 | 0,A,_,h=>by
  cases A with
  | nil=>exact Nat.le_refl _
  | cons a A=>have:=h a List.mem_cons_self;omega
 | n+1,A,hn,h=>by
  have h1:=nat_nodup_le n (A.filter fun x=>decide (x≠(n+1:Nat))) (hn.filter _) (fun x hx=>by
   obtain⟨h2,h3⟩:=List.mem_filter.1 hx
   have h4:=h x h2
   simp only [decide_eq_true_eq] at h3
   omega)
  have h2:A.length≤(A.filter fun x=>decide (x≠((n+1:Nat):Int))).length+1:=by
   clear h h1
   induction A with
   | nil=>simp
   | cons a A ih =>
    obtain⟨a1,a2⟩:=List.nodup_cons.1 hn
    by_cases hc:a=((n+1:Nat):Int)
    ·rw [List.filter_cons_of_neg (by simp [hc]),List.filter_eq_self.2 (fun x hx=>by
      simp only [decide_eq_true_eq]
      rintro rfl
      exact a1 (hc ▸ hx))]
     simp
    ·rw [List.filter_cons_of_pos (by simpa using hc)]
     have:=ih a2
     simp only [List.length_cons]
     omega
  omega
theorem left_len {l:List Ent}{V:List Dot}{lk:List (Int × Value)}(h:LeftP dotOf l V lk):lk.length≤16:=by
 have hnd:(lk.map fun p:Int × Value=>p.1).Nodup:=h.nd
 have:=nat_nodup_le 16 (lk.map fun p:Int × Value=>p.1) hnd (fun x hx=>by
  obtain⟨p,hp,rfl⟩:=List.mem_map.1 hx
  obtain⟨s,h1,h2,h3,_⟩:=h.val p hp
  omega)
 simpa using this
theorem why_next {V:List Dot}{d:Dot}(hd:d.Ok) (hs:d.seq=says V d.site.toNat+1):whyAdd V d=0:=by
 have h1:isSite d.site:=by unfold Dot.Ok at hd;unfold isSite;omega
 unfold whyAdd getV
 unfold Dot.Ok at hd
 rw [if_neg (fun h=>by rcases h with h | h;exact h h1;omega),if_neg (by omega),if_pos h1,if_neg (fun hn=>hn hs)]
section
variable {tb lb lm gb wb fb:Nat} {X X':Nat→Prop} {V V':List Dot} {lk lk':List (Int × Value)} {w w' w9:World}
theorem RowB.added (h:RowB tb lb lm gb wb fb X V lk w) (hk:Kept (fun _=>False) w w9){v9:Value}{n:Nat}(ho:w9.ownsRow w.heap.size 29 2 v9 n (dotE.flat V')) :
  RowB tb lb lm gb wb fb (fun b=>X b∨(w.heap.size≤b∧b<(w9.setCell ⟨gb,0,none⟩ v9).heap.size)) V' lk (w9.setCell ⟨gb,0,none⟩ v9)∧Kept X w (w9.setCell ⟨gb,0,none⟩ v9):=by
 obtain⟨gv,g1,g2,g3⟩:=h.gc
 obtain⟨o1,o2,o3,o4,o5⟩:=h.own
 have k2:Kept (fun b=>b=gb) w9 (w9.setCell ⟨gb,0,none⟩ v9):=Tr.kept_cell w9 gb v9
 have kk:Kept (fun b=>b=gb) w (w9.setCell ⟨gb,0,none⟩ v9):=(hk.mono (S':=fun b=>b=gb) fun _ _ h=>h.elim).trans k2 (fun _ _ h=>h)
 have hsz:(w9.setCell ⟨gb,0,none⟩ v9).heap.size=w9.heap.size:=by simp
 have n1:lb≠gb:=h.lc.ne_ g1 (by decide)
 have n2:gb≠lm:=h.left.mapK.ne_blk g1
 have n4:wb≠gb:=h.wc.ne_ g1 (by decide)
 have n5:fb≠gb:=h.fc.ne_ g1 (by decide)
 have hg:=g1.lt
 refine⟨⟨kk.blk n1 h.lc,h.left.keep kk (fun e=>n2 e.symm),⟨v9,?_,?_,fun b hb=>?_⟩,kk.blk n4 h.wc,kk.blk n5 h.fc,.inl o1,.inl o2,.inl o3,.inl o4,.inl o5⟩,kk.mono fun b _ h=>by rw [h];exact o3⟩
 ·have h9:=(hk.blk (fun h=>h) g1).set_ 0 v9
  exact h9
 ·exact owns_slAt (E:=dotE) (owns_keep ho k2 fun b hb e=>by have:=(Tr.owns_lt ho b hb).1;omega)
 ·have:=Tr.owns_lt ho b hb
  exact⟨.inr ⟨this.1,by omega⟩,by have:=h.left.mapK.lt;omega⟩
theorem RowB.lefts (h:RowB tb lb lm gb wb fb X V lk w) (hm:MapR intK w' lm lk') (hk:Kept (·=lm) w w'):RowB tb lb lm gb wb fb X V lk' w'∧Kept X w w':=by
 obtain⟨gv,g1,g2,g3⟩:=h.gc
 obtain⟨o1,o2,o3,o4,o5⟩:=h.own
 have hM:=h.left.mapK
 refine⟨⟨hk.blk (hM.ne_blk h.lc) h.lc,hm,⟨gv,hk.blk (hM.ne_blk g1) g1,g2.keep hk fun b hb _ e=>(g3 b hb).2 e,g3⟩,hk.blk (hM.ne_blk h.wc) h.wc,hk.blk (hM.ne_blk h.fc) h.fc,o1,o2,o3,o4,o5⟩,hk.mono fun b _ h=>by rw [h];exact o2⟩
variable {I:Nat→(Nat→Prop)→World→Prop} {j:Nat}
theorem added_I (hgr:∀i X w w',I i X w→Kept X w w'→I i (fun b=>X b∨(w.heap.size≤b∧b<w'.heap.size)) w') (hI:I j X w) (h:RowB tb lb lm gb wb fb X V lk w) (hk:Kept (fun _=>False) w w9){v9:Value}{n:Nat}(ho:w9.ownsRow w.heap.size 29 2 v9 n (dotE.flat V')) :
  ∃X'',RowB tb lb lm gb wb fb X'' V' lk (w9.setCell ⟨gb,0,none⟩ v9)∧I j X'' (w9.setCell ⟨gb,0,none⟩ v9)∧Kept (·=gb) w (w9.setCell ⟨gb,0,none⟩ v9):=by
 obtain⟨h1,h2⟩:=h.added hk ho
 exact⟨_,h1,hgr _ _ _ _ hI h2,(hk.mono (S':=fun b=>b=gb) fun _ _ h=>h.elim).trans (Tr.kept_cell w9 gb v9) (fun _ _ h=>h)⟩
theorem lefts_I (hgr:∀i X w w',I i X w→Kept X w w'→I i (fun b=>X b∨(w.heap.size≤b∧b<w'.heap.size)) w') (hI:I j X w) (h:RowB tb lb lm gb wb fb X V lk w) (hm:MapR intK w' lm lk') (hk:Kept (·=lm) w w') :
  ∃X'',RowB tb lb lm gb wb fb X'' V lk' w'∧I j X'' w':=by
 obtain⟨h1,h2⟩:=h.lefts hm hk
 exact⟨_,h1.same (fun _ _=>rfl) (fun _ h=>.inl h),hgr _ _ _ _ hI h2⟩
theorem still_I (hgr:∀i X w w',I i X w→Kept X w w'→I i (fun b=>X b∨(w.heap.size≤b∧b<w'.heap.size)) w') (hI:I j X w) (h:RowB tb lb lm gb wb fb X V lk w) (hk:Kept (fun _=>False) w w') :
  ∃X'',RowB tb lb lm gb wb fb X'' V lk w'∧I j X'' w' :=
 ⟨_,h.still hk (fun _ h=>.inl h),hgr _ _ _ _ hI (hk.mono fun _ _ h=>h.elim)⟩
end
end Go.Proofs.YtjohljmpcblpjaaGreatDoor.Pa
