/- slices.Insert of one pointer: what copy and append make of the cells. slices.Insert of one pointer, walked. -/
import Derived.Test.YtjohljmpcblpjaaGreatDoorM14
import Derived.Lib.AppendZerosOnto
import Derived.Lib.AppendZeros
import Derived.Lib.Overlaps
import Derived.Laws.Externs
import Derived.Deep.DeepCutAuto
set_option maxRecDepth 100000
set_option maxHeartbeats 4000000
namespace Go.Proofs.YtjohljmpcblpjaaGreatDoor.Tr
open Go.RowKit Go.Proofs.YtjohljmpcblpjaaGreatDoor.St
theorem size_ptr:(Tryz.prog.info? 160).map (·.size)=some 1:=by kernel_rfl
theorem info_ptr:(Tryz.prog.info? 160).map (fun i=>(i.zero,i.size,i.bytes))=some (some (.pointer none),1,8):=by kernel_rfl
theorem own_cur {w:World}{t:TypeId}{g cap:Nat}{D:List Nat}(h:OwnAt ptrE w t g cap D):∃cur,Blk w g t cur∧cur.size=cap∧D.length≤cap∧cap≤maxLen∧cur.toList.take D.length=ptrE.flat D:=by
 obtain⟨cs,h1,h2,h3,h4,h5⟩:=h
 have hf:=Enc.Row.flat h5
 have hk:ptrE.k=1:=rfl
 rw [hk,Nat.mul_one] at hf h2
 exact⟨cs,h1,h2,h3,h4,hf⟩
theorem cur_own {w:World}{t:TypeId}{g cap:Nat}{D:List Nat}{cur:Array Value}(h1:Blk w g t cur) (h2:cur.size=cap) (h3:D.length≤cap) (h4:cap≤maxLen) (h5:cur.toList.take D.length=ptrE.flat D):OwnAt ptrE w t g cap D :=
 ⟨cur,h1,by rw [h2];show cap=cap * 1;omega,h3,h4,Enc.Row.of_flat (by rw [show ptrE.k=1 from rfl,Nat.mul_one];exact h5)⟩
theorem flat_ptr (D:List Nat):ptrE.flat D=D.map fun b=>Value.pointer (some ⟨b,0,none⟩):=by
 induction D with
 | nil=>rfl
 | cons d D ih=>show _::ptrE.flat D=_::_;rw [ih]
theorem flat_ptr_len (D:List Nat):(ptrE.flat D).length=D.length:=by rw [flat_ptr,List.length_map]
theorem add_j (b o j:Nat):(⟨b,o,none⟩:Addr).add j=⟨b,o+j,none⟩:=by unfold Addr.add;split <;> simp_all
theorem ins_up {w:World}{g c n i:Nat}{D:List Nat}(h:OwnAt ptrE w 160 g c D) (hn:D.length=n) (hi:i<n) (hc:n+1≤c) (c1 c2:Nat) (ty:TypeId) :
  ∃w' cur,(Builtin.copy_ #[161,161] ty #[.slice (some ⟨g,i+1,none⟩) (n+1-(i+1)) c1,.slice (some ⟨g,i,none⟩) (n+1-i) c2]).run Tryz.prog w=.ok (goInt ((n-i:Nat):Int)) w' ∧
   Blk w' g 160 cur∧cur.size=c∧c≤maxLen∧cur.toList.take i=ptrE.flat (D.take i)∧(cur.toList.drop (i+1)).take (n-i)=ptrE.flat (D.drop i)∧Kept (·=g) w w':=by
 obtain⟨cur,h1,h2,h3,h4,h5⟩:=own_cur h
 have hl:(ptrE.flat (D.drop i)).length=n-i:=by rw [flat_ptr_len,List.length_drop,hn]
 have hcl:cur.toList.length=c:=by simpa using h2
 refine⟨_,_,run_copy_rowK w _ _ ty 160 g (i+1) (n+1-(i+1)) c1 ⟨g,i,none⟩ (n+1-i) c2 cur 160 (ptrE.flat (D.drop i)) (k:=1) (n:=n-i) Tryz.underlying161 size_ptr h1 (by
  rw [show Nat.min (n+1-i) (n+1-(i+1))=n+1-(i+1) from Nat.min_eq_right (by omega)];omega) (by rw [hl];omega) (fun j v hv=>?_) (by rw [hl];omega) (ptrE.flat_one_cell _),Blk.row h1 _,?_,h4,?_,?_,(Kept.refl (fun x=>x=g) w).setRow (g:=g) (fun _=>rfl) _⟩
 ·rw [add_j]
  have hv2:(ptrE.flat D)[i+j]?=some v:=by rw [flat_ptr] at hv ⊢;rw [List.map_drop,List.getElem?_drop] at hv;exact hv
  rw [←h5,List.getElem?_take] at hv2
  split at hv2
  ·exact h1.cell' (by simpa using hv2)
  ·cases hv2
 ·simp [hl];omega
 ·have e:cur.toList.take (i+1)=cur.toList.take i++(cur.toList.drop i).take 1:=by rw [←List.take_add]
  simp only
  rw [e,List.append_assoc,List.append_assoc,List.take_append_of_le_length (by simp;omega),List.take_take,Nat.min_self]
  have:=congrArg (List.take i) h5
  rw [List.take_take,Nat.min_eq_left (by omega)] at this
  rw [this,flat_ptr,flat_ptr,List.map_take]
 ·simp only
  rw [List.append_assoc,List.drop_append_of_le_length (by simp;omega),List.drop_of_length_le (by simp;omega),List.nil_append,List.take_append_of_le_length (by omega),List.take_of_length_le (by omega)]
theorem ins_at {w:World}{g c n i x lb:Nat}{D:List Nat}{cur:Array Value}(hb:Blk w g 160 cur) (h2:cur.size=c) (hm:c≤maxLen) (hn:D.length=n) (hi:i<n) (hc:n+1≤c) (ha:cur.toList.take i=ptrE.flat (D.take i)) (hd:(cur.toList.drop (i+1)).take (n-i)=ptrE.flat (D.drop i))
  (hx:w.cell? ⟨lb,0,none⟩=some (.pointer (some ⟨x,0,none⟩))) (c1 c2:Nat) (ty:TypeId) :
  ∃w',(Builtin.copy_ #[161,161] ty #[.slice (some ⟨g,i,none⟩) (n+1-i) c1,.slice (some ⟨lb,0,none⟩) 1 c2]).run Tryz.prog w=.ok (goInt ((1:Nat):Int)) w' ∧
   OwnAt ptrE w' 160 g c (D.take i++x::D.drop i)∧Kept (·=g) w w':=by
 have hcl:cur.toList.length=c:=by simpa using h2
 refine⟨_,run_copy_rowK w _ _ ty 160 g i (n+1-i) c1 ⟨lb,0,none⟩ 1 c2 cur 160 [.pointer (some ⟨x,0,none⟩)] (k:=1) (n:=1) Tryz.underlying161 size_ptr hb (by
  rw [show Nat.min 1 (n+1-i)=1 from Nat.min_eq_left (by omega)]) rfl (fun j v hv=>?_) (by simp;omega) (fun v hv=>by rw [List.mem_singleton.1 hv];rfl),cur_own (Blk.row hb _) (by simp;omega) (by simp;omega) hm ?_,(Kept.refl (fun x=>x=g) w).setRow (g:=g) (fun _=>rfl) _⟩
 ·cases j with
  | zero=>rw [add_j];simp at hv;rw [←hv];exact hx
  | succ j=>simp at hv
 ·have hti:(cur.toList.take i).length=i:=by simp;omega
  have hlen:(D.take i++x::D.drop i).length=i+(1+(n-i)):=by simp;omega
  simp only [List.length_singleton]
  rw [hlen,List.append_assoc,List.take_append,hti,List.take_of_length_le (by omega),show i+(1+(n-i)) - i=1+(n-i) by omega]
  rw [show ([Value.pointer (some ⟨x,0,none⟩)]++cur.toList.drop (i+1)).take (1+(n-i))=.pointer (some ⟨x,0,none⟩)::(cur.toList.drop (i+1)).take (n-i) by rw [Nat.add_comm];rfl,hd,ha,ptrE.flat_append]
  rfl
theorem ins_lay1 {w:World}{g c n i x lb:Nat}{D:List Nat}{cur:Array Value}(hb:Blk w g 160 cur) (h2:cur.size=c) (_hn:D.length=n) (hi:i<n) (hc:n+1≤c) (ha:cur.toList.take i=ptrE.flat (D.take i))
  (hx:w.cell? ⟨lb,0,none⟩=some (.pointer (some ⟨x,0,none⟩))) (c1 c2:Nat) (ty:TypeId) :
  ∃w' cur',(Builtin.copy_ #[161,161] ty #[.slice (some ⟨g,i,none⟩) (n+1-i) c1,.slice (some ⟨lb,0,none⟩) 1 c2]).run Tryz.prog w=.ok (goInt ((1:Nat):Int)) w' ∧
   Blk w' g 160 cur'∧cur'.size=c∧cur'.toList.take (i+1)=ptrE.flat (D.take i++[x])∧Kept (·=g) w w':=by
 have hcl:cur.toList.length=c:=by simpa using h2
 refine⟨_,_,run_copy_rowK w _ _ ty 160 g i (n+1-i) c1 ⟨lb,0,none⟩ 1 c2 cur 160 [.pointer (some ⟨x,0,none⟩)] (k:=1) (n:=1) Tryz.underlying161 size_ptr hb (by
  rw [show Nat.min 1 (n+1-i)=1 from Nat.min_eq_left (by omega)]) rfl (fun j v hv=>?_) (by simp;omega) (fun v hv=>by rw [List.mem_singleton.1 hv];rfl),Blk.row hb _,by simp;omega,?_,(Kept.refl (fun x=>x=g) w).setRow (g:=g) (fun _=>rfl) _⟩
 ·cases j with
  | zero=>rw [add_j];simp at hv;rw [←hv];exact hx
  | succ j=>simp at hv
 ·have hti:(cur.toList.take i).length=i:=by simp;omega
  simp only [List.length_singleton]
  rw [List.append_assoc,List.take_append,hti,List.take_of_length_le (by omega),show i+1-i=1 by omega,ha,ptrE.flat_append]
  rfl
theorem ins_lay2 {w:World}{g c n i x gs cs:Nat}{D:List Nat}{cur:Array Value}(hb:Blk w g 160 cur) (h2:cur.size=c) (hm:c≤maxLen) (hn:D.length=n) (hi:i<n) (hc:n+1≤c) (ha:cur.toList.take (i+1)=ptrE.flat (D.take i++[x]))
  (hs:OwnAt ptrE w 160 gs cs D) (c1 c2:Nat) (ty:TypeId) :
  ∃w',(Builtin.copy_ #[161,161] ty #[.slice (some ⟨g,i+1,none⟩) (n-i) c1,.slice (some ⟨gs,i,none⟩) (n-i) c2]).run Tryz.prog w=.ok (goInt ((n-i:Nat):Int)) w' ∧
   OwnAt ptrE w' 160 g c (D.take i++x::D.drop i)∧Kept (·=g) w w':=by
 have hcl:cur.toList.length=c:=by simpa using h2
 obtain⟨cu,h1,h3,h4,h5,h6⟩:=own_cur hs
 have hl:(ptrE.flat (D.drop i)).length=n-i:=by rw [flat_ptr_len,List.length_drop,hn]
 refine⟨_,run_copy_rowK w _ _ ty 160 g (i+1) (n-i) c1 ⟨gs,i,none⟩ (n-i) c2 cur 160 (ptrE.flat (D.drop i)) (k:=1) (n:=n-i) Tryz.underlying161 size_ptr hb (by
  rw [show Nat.min (n-i) (n-i)=n-i from Nat.min_self _]) (by rw [hl];omega) (fun j v hv=>?_) (by rw [hl];omega) (ptrE.flat_one_cell _),cur_own (Blk.row hb _) (by simp [hl];omega) (by simp;omega) hm ?_,(Kept.refl (fun x=>x=g) w).setRow (g:=g) (fun _=>rfl) _⟩
 ·rw [add_j]
  have hv2:(ptrE.flat D)[i+j]?=some v:=by rw [flat_ptr] at hv ⊢;rw [List.map_drop,List.getElem?_drop] at hv;exact hv
  rw [←h6,List.getElem?_take] at hv2
  split at hv2
  ·exact h1.cell' (by simpa using hv2)
  ·cases hv2
 ·have hti:(cur.toList.take (i+1)).length=i+1:=by simp;omega
  have hlen:(D.take i++x::D.drop i).length=i+1+(n-i):=by simp;omega
  simp only
  rw [hlen,List.append_assoc,List.take_append,hti,List.take_of_length_le (l:=cur.toList.take (i+1)) (by omega),show i+1+(n-i) - (i+1)=n-i by omega,List.take_append_of_le_length (by omega),List.take_of_length_le (l:=ptrE.flat (D.drop i)) (by omega),ha,show D.take i++x::D.drop i=(D.take i++[x])++D.drop i by simp,ptrE.flat_append (D.take i++[x])]
theorem ins_zeros {w:World}{g c n i:Nat}{D:List Nat}(h:OwnAt ptrE w 160 g c D) (hn:D.length=n) (hi:i<n) (hc:c<n+1) (h63:n≤1000000) (ty:TypeId) :
  ∃w' cap cur,(Builtin.append_ #[161,3] ty #[.slice (some ⟨g,0,none⟩) i c,.int .i64 ((n:Int)+1-i)]).run Tryz.prog w=.ok (.slice (some ⟨w.heap.size,0,none⟩) (n+1) cap) w' ∧
   Blk w' w.heap.size 160 cur∧cur.size=cap∧n+1≤cap∧cap≤maxLen∧cur.toList.take i=ptrE.flat (D.take i)∧Kept (fun _=>False) w w'∧w'.heap.size=w.heap.size+1:=by
 obtain⟨cur,h1,h2,h3,h4,h5⟩:=own_cur h
 have hcn:c=n:=by omega
 obtain⟨inf,hinf,hz,hsize,hby⟩:=info_parts info_ptr
 have hcl:cur.toList.length=c:=by simpa using h2
 have hold:(Builtin.firstCells inf.size i (.slice (some ⟨g,0,none⟩) i c)).run Tryz.prog w.drew=.ok (ptrE.flat (D.take i)).toArray w.drew:=by
  rw [hsize]
  have hl:=run_loadCells_list (P:=Tryz.prog) w.drew ⟨g,0,none⟩ (ptrE.flat (D.take i)) (fun j v hv=>by
   rw [add_j,Nat.zero_add]
   have hb:Blk w.drew g 160 cur:=h1
   refine hb.cell' ?_
   have h6:=congrArg (List.take i) h5
   rw [List.take_take,Nat.min_eq_left (by omega),flat_ptr,←List.map_take,←flat_ptr] at h6
   rw [←h6,List.getElem?_take] at hv
   split at hv
   ·simpa using hv
   ·cases hv)
  rw [flat_ptr_len,List.length_take,Nat.min_eq_left (by omega)] at hl
  simp [Builtin.firstCells,hl]
 have hcap:=nextslicecap_le (old:=c) (need:=n+1) (by omega)
 have hfit:Builtin.nextslicecap (i+(n+1-i)) c * inf.bytes≤281474976710656:=by
  rw [hby,show i+(n+1-i)=n+1 by omega]
  have : Builtin.nextslicecap (n+1) c * 8≤4000000 * 8:=Nat.mul_le_mul_right _ (by omega)
  omega
 have hrun:=Lib.run_append_grow_zeros (P:=Tryz.prog) w 161 3 ty 160 inf (.pointer none) .i64 .i64 Tryz.underlying161 Tryz.underlying3 hinf hz (some ⟨g,0,none⟩) i c (ptrE.flat (D.take i)) hold (n+1-i) (by omega) (by omega) (by omega) (by omega) (by rw [hby];omega) hfit
 rw [show i+(n+1-i)=n+1 by omega,show ((n+1-i:Nat):Int)=(n:Int)+1-i by omega] at hrun
 have hG1:=grownCap_ge w (n+1) c 160
 have hG2:=grownCap_le_maxLen w (n+1) c 160 (by unfold maxLen;omega)
 have hfl:(ptrE.flat (D.take i)).length=i:=by rw [flat_ptr_len,List.length_take,Nat.min_eq_left (by omega)]
 have hzc:∀k,(Builtin.zeroCells (Value.cells (.pointer none)) k).size=k:=fun k=>by simp [Builtin.zeroCells,Value.cells]
 refine⟨_,_,_,hrun,Blk.new _ _ _,?_,hG1,hG2,?_,((Kept.refl _ _).drew).alloc _,by simp⟩
 ·simp [hfl,hzc];omega
 ·simp only [Array.toList_append]
  rw [List.append_assoc,List.take_append_of_le_length (by omega),List.take_of_length_le (by omega)]
def InsPost (w:World) (s:Rw) (D:List Nat) (e:Ending) (w':World):Prop:=∃s':Rw,e=.returned s'.v∧RowAt w' s' D∧(s'.blk=s.blk∨∃b,s'.blk=some b∧w.heap.size≤b)∧Kept (fun b=>s.blk=some b) w w'
theorem row_owns {w:World}{s:Rw}{D:List Nat}(h:RowAt w s D):w.ownsRow 0 160 1 s.v D.length (ptrE.flat D):=by
 rcases h with ⟨rfl,rfl⟩|⟨b,cap,rfl,h⟩
 ·exact World.ownsRow_nil ..
 ·exact h.owns (Nat.zero_le _)
theorem owns_row {w:World}{v:Value}{D:List Nat}{n:Nat}(h:w.ownsRow 0 160 1 v n (ptrE.flat D)):∃s:Rw,v=s.v∧RowAt w s D∧s.blk=v.ownBlock:=by
 obtain⟨hn,h1⟩:=own_of (E:=ptrE) h
 rcases h1 with ⟨rfl,rfl⟩|⟨g,cap,rfl,_,h2⟩
 ·exact⟨⟨none,0,0⟩,rfl,.inl ⟨rfl,rfl⟩,rfl⟩
 ·exact⟨⟨some ⟨g,0,none⟩,n,cap⟩,rfl,.inr ⟨g,cap,by rw [hn],h2⟩,rfl⟩
theorem ins_end {w:World}{s:Rw}{D:List Nat}(h:RowAt w s D) (hD:D.length≤900000){lb x:Nat}(hl:Blk w lb 160 #[.pointer (some ⟨x,0,none⟩)]) :
  Calls Tryz.prog 159 #[s.v,.int .i64 D.length,.slice (some ⟨lb,0,none⟩) 1 1] w (InsPost w s (D++[x])):=by
 have hlit:SlAt ptrE w (.slice (some ⟨lb,0,none⟩) 1 1) [x]:=.inr ⟨⟨lb,0,none⟩,1,rfl,Nat.le_refl _,by unfold maxLen;omega,fun _=>rfl,fun i y hy j u hu=>by
  cases i with
  | zero =>
   cases j with
   | zero =>
    simp at hy;subst hy
    have h9:u=.pointer (some ⟨x,0,none⟩):=by simpa [ptrE] using hu.symm
    rw [h9];exact hl.cell' rfl
   | succ j=>simp [ptrE] at hu
  | succ i=>simp at hy⟩
 have hown:=row_owns h
 have HLIT:=Lib.hid hlit
 have HD:Hid (D.length≤1000000):=Lib.hid (by omega)
 obtain⟨sa,sn,sc⟩:=s
 obtain⟨hsn,hsc⟩:D.length=sn∧sn≤sc:=by
  rcases h with ⟨h1,rfl⟩|⟨b,cap,h1,h2⟩
  ·cases h1;exact⟨rfl,Nat.le_refl _⟩
  ·cases h1;exact⟨rfl,h2.le.1⟩
 have HN:=Lib.hid hsn
 have HOWN:=Lib.hid hown
 rw [hsn] at hD ⊢
 clear h hlit hown hl hsn
 unfold Rw.v at *
 simp only at *
 have fin:∀v' w',w'.ownsRow 0 160 1 v' (D.length+1) (ptrE.flat (D++[x]))→Grow1 w w' (.slice sa sn sc) v'→InsPost w ⟨sa,sn,sc⟩ (D++[x]) (.returned v') w':=fun v' w' ho hg=>by
  obtain⟨s',rfl,h2,h3⟩:=owns_row ho
  have hsb:Value.ownBlock (.slice sa sn sc)=(⟨sa,sn,sc⟩:Rw).blk:=by cases sa <;> rfl
  refine⟨s',rfl,h2,?_,?_⟩
  ·rcases hg with ⟨h4,_⟩ | ⟨h4,_⟩
   ·left;rw [h3,h4,hsb]
   ·right;exact⟨w.heap.size,by rw [h3,h4],Nat.le_refl _⟩
  ·rcases hg with ⟨_,h5⟩ | ⟨_,h5⟩
   ·rw [hsb] at h5;exact h5
   ·exact h5.mono fun _ _ h=>h.elim
 have FIN:=Lib.hid fin
 clear fin
 by_cases hc:sc=sn
 case' pos=>subst hc
 all_goals
  go_enter Tryz.func159,Tryz.ntmps159
  go_wp2_with (at_builtin;(refine wpList_append_keeps ptrE rfl (.tmp 23) (.tmp 24) 161 rfl 0 160 (.pointer none) 8 Tryz.underlying161 info_ptr rfl (by decide) rfl rfl HOWN.out HLIT.out HD.out (Nat.zero_le _) ?_);(intro v4 w4 ho4 hg4);have FF:=FIN.out v4 w4 ho4 hg4;clear ho4 hg4)
  all_goals
   go_ret
   exact FF
theorem ins_room {w:World}{g c n i lb x:Nat}{D:List Nat}(h:OwnAt ptrE w 160 g c D) (hn:D.length=n) (hD:n≤900000) (hi:i<n) (hc:n+1≤c) (hl:Blk w lb 160 #[.pointer (some ⟨x,0,none⟩)]) (hne:lb≠g) :
  Calls Tryz.prog 159 #[.slice (some ⟨g,0,none⟩) n c,.int .i64 i,.slice (some ⟨lb,0,none⟩) 1 1] w (InsPost w ⟨some ⟨g,0,none⟩,n,c⟩ (D.take i++x::D.drop i)):=by
 have hw1:w.drew.heap=w.heap:=rfl
 obtain⟨w1,cur,hr1,hb1,hs1,hm1,ha1,hd1,hk1⟩:=ins_up (w:=w.drew) (h.keep ((Kept.refl (fun _=>False) w).drew) (fun h=>h)) hn hi hc (c-(i+1)) (c-i) 3
 have hlb1:Blk w1 lb 160 #[.pointer (some ⟨x,0,none⟩)]:=hk1.blk hne hl
 obtain⟨w2,hr2,ho2,hk2⟩:=ins_at hb1 hs1 hm1 hn hi hc ha1 hd1 (hlb1.cell' rfl) (c-i) 1 3
 obtain⟨hcur0,_⟩:(∃cu,w.heap[g]?=some (.cells cu 160 (0,0))∧cu.size=c)∧True:=by
  obtain⟨cu,h5,h6,_⟩:=own_cur h
  exact⟨⟨cu,h5,h6⟩,trivial⟩
 obtain⟨cu,hcu,hcus⟩:=hcur0
 have hsa:w.shape? lb=some (160,1):=by have h9:w.heap[lb]?=some (.cells #[.pointer (some ⟨x,0,none⟩)] 160 (0,0)):=hl;simp [World.shape?,h9]
 have hsb:w.shape? g=some (160,c):=by simp [World.shape?,hcu,hcus]
 have hov:(callFunc 183 #[.slice (some ⟨lb,0,none⟩) 1 1,.slice (some ⟨g,i+1,none⟩) (n+1-(i+1)) (c-(i+1))]).run Tryz.prog w=.ok (.value (.bool false)) w:=by
  rw [run_callFunc_extern Tryz.func183 (by kernel_rfl) (by kernel_rfl) (by kernel_rfl) (e:=Extern.SlicesOverlaps.overlaps #[161,161] #[4]) (by kernel_rfl),Lib.run_overlaps_apart w _ _ 160 Tryz.underlying161 1 (fun w=>by kernel_rfl) _ _ _ _ _ _ hne _ _ _ _ hsa hsb (by omega) (hl.frozen 0) (hl.frozen 1)]
  rfl
 have hcm:c≤9223372036854775807:=by unfold maxLen at hm1;omega
 rw [show n+1-(i+1)=n-i by omega] at hr1 hov
 have K1:Hid (Kept (fun b=>some g=some b) w w2):=Lib.hid ((((Kept.refl (fun b=>some g=some b) w).drew).trans (hk1.mono fun _ _ e=>by rw [e]) fun _ _ h=>h).trans (hk2.mono fun _ _ e=>by rw [e]) fun _ _ h=>h)
 have O2:=Lib.hid ho2
 have CP1:=Lib.hid hr1
 have CP2:=Lib.hid hr2
 have LN:Hid ((D.take i++x::D.drop i).length=n+1):=Lib.hid (by simp;omega)
 have g1:(i:Int)≤n:=by omega
 have g2:¬(i:Int)=n:=by omega
 have g3:¬c=i:=by omega
 have g4:¬c=i+1:=by omega
 have g5:i≤c:=by omega
 have g6:i+1≤c:=by omega
 have g7:i+1≤n+1:=by omega
 have g8:i≤n+1:=by omega
 have g9:¬(c:Int)<(n:Int)+1:=by omega
 have g10:((i:Int)+1).toNat=i+1:=by omega
 have g11:((n:Int)+1).toNat=n+1:=by omega
 have g12:((i:Int) == (n:Int))=false:=by simp;omega
 have g13:IntKind.i64.wrap ((i:Int)+1)=(i:Int)+1:=IntWalk.i64_in _ (by omega)
 have g14:(0:Int)≤(i:Int)+1:=by omega
 have g15:(i:Int)+1≤(n:Int)+1:=by omega
 have g16:(0:Int)≤(i:Int):=by omega
 have g17:(i:Int)≤(n:Int)+1:=by omega
 clear h hn hw1 hb1 hs1 hm1 ha1 hd1 hk1 hlb1 hr1 hr2 ho2 hk2 hcu hcus hsa hsb hl hne
 go_enter Tryz.func159,Tryz.ntmps159
 go_wp2_with fail
 have cp1:=CP1.out
 have cp2:=CP2.out
 go_region
 go_wp2
 go_ret
 exact⟨⟨some ⟨g,0,none⟩,n+1,c⟩,rfl,.inr ⟨g,c,by rw [LN.out],O2.out⟩,.inl rfl,K1.out⟩
theorem ins_grow {w:World}{g c n i lb x:Nat}{D:List Nat}(h:OwnAt ptrE w 160 g c D) (hn:D.length=n) (hD:n≤900000) (hi:i<n) (hc:c<n+1) (hl:Blk w lb 160 #[.pointer (some ⟨x,0,none⟩)]) :
  Calls Tryz.prog 159 #[.slice (some ⟨g,0,none⟩) n c,.int .i64 i,.slice (some ⟨lb,0,none⟩) 1 1] w (InsPost w ⟨some ⟨g,0,none⟩,n,c⟩ (D.take i++x::D.drop i)):=by
 obtain⟨w1,cap,cur,hr1,hb1,hs1,hcap,hm1,ha1,hk1,hz1⟩:=ins_zeros h hn hi hc (by omega) 161
 have hlb1:=hk1.blk (fun h=>h) hl
 have hnl:¬lb=w.heap.size:=by have:=hl.lt;omega
 have hng:¬g=w.heap.size:=by have:=h.lt;omega
 obtain⟨w2,cur2,hr2,hb2,hs2,ha2,hk2⟩:=ins_lay1 hb1 hs1 hn hi hcap ha1 (hlb1.cell' rfl) (cap-i) 1 3
 have hkk:Kept (·=w.heap.size) w w2.drew:=((hk1.mono fun _ _ h=>h.elim).trans hk2 fun _ _ h=>h).drew
 have hos:OwnAt ptrE w2.drew 160 g c D:=h.keep hkk hng
 have hb2':Blk w2.drew w.heap.size 160 cur2:=hb2
 obtain⟨w3,hr3,ho3,hk3⟩:=ins_lay2 hb2' hs2 hm1 hn hi hcap ha2 hos (cap-(i+1)) (c-i) 3
 have hcm:cap≤9223372036854775807:=by unfold maxLen at hm1;omega
 have hc0:n≤c:=by have:=h.le.1;omega
 have K1:Hid (Kept (fun b=>some g=some b) w w3):=Lib.hid ((hkk.trans hk3 fun _ _ h=>h).trans (Kept.refl (fun _=>False) _) (fun _ _ h=>h.elim) |>.mono fun b hb e=>by omega)
 have O2:=Lib.hid ho3
 have AP:=Lib.hid hr1
 have CP1:=Lib.hid hr2
 have CP2:=Lib.hid hr3
 have LN:Hid ((D.take i++x::D.drop i).length=n+1):=Lib.hid (by simp;omega)
 have g1:(i:Int)≤n:=by omega
 have g2:¬(i:Int)=n:=by omega
 have g3:¬c=i:=by omega
 have g4:¬cap=i+1:=by omega
 have g41:¬cap=i:=by omega
 have g5:i≤c:=by omega
 have g6:i+1≤cap:=by omega
 have g61:i≤cap:=by omega
 have g7:i+1≤n+1:=by omega
 have g8:i≤n+1:=by omega
 have g9:(c:Int)<(n:Int)+1:=by omega
 have g10:((i:Int)+1).toNat=i+1:=by omega
 have g11:((n:Int)+1).toNat=n+1:=by omega
 have g12:((i:Int) == (n:Int))=false:=by simp;omega
 have g13:IntKind.i64.wrap ((i:Int)+1)=(i:Int)+1:=IntWalk.i64_in _ (by omega)
 have g14:(0:Int)≤(i:Int)+1:=by omega
 have g15:(i:Int)+1≤(n:Int)+1:=by omega
 have g16:(0:Int)≤(i:Int):=by omega
 have g17:(i:Int)≤(n:Int)+1:=by omega
 clear h hn hb1 hs1 hm1 ha1 hk1 hlb1 hr1 hr2 hk2 hl hz1 hcap hnl hng hb2 hs2 ha2 hkk hos hb2' hr3 ho3 hk3
 go_enter Tryz.func159,Tryz.ntmps159
 go_wp2_with (at_builtin;refine Lib.wpList_append_run _ rfl (.tmp 34) (.tmp 39) _ _ rfl _ _ rfl rfl _ _ AP.out ?_;have cp1:=CP1.out)
 have cp2:=CP2.out
 go_region
 go_wp2
 go_ret
 exact⟨⟨some ⟨w.heap.size,0,none⟩,n+1,cap⟩,rfl,.inr ⟨w.heap.size,cap,by rw [LN.out],O2.out⟩,.inr ⟨w.heap.size,rfl,Nat.le_refl _⟩,K1.out⟩
theorem insP_any {w:World}{s:Rw}{D:List Nat}(h:RowAt w s D) (hD:D.length≤900000){i:Nat}(hi:i≤D.length){lb x:Nat}(hl:Blk w lb 160 #[.pointer (some ⟨x,0,none⟩)]) (hne:∀b,s.blk=some b→lb≠b) :
  Calls Tryz.prog 159 #[s.v,.int .i64 i,.slice (some ⟨lb,0,none⟩) 1 1] w (InsPost w s (D.take i++x::D.drop i)):=by
 rcases Nat.lt_or_eq_of_le hi with hlt|rfl
 ·rcases h with ⟨rfl,rfl⟩ | ⟨b,cap,rfl,h⟩
  ·simp at hlt
  ·rcases Nat.lt_or_ge cap (D.length+1) with hc | hc
   ·exact ins_grow h rfl hD hlt hc hl
   ·exact ins_room h rfl hD hlt hc hl (hne b rfl)
 ·rw [List.take_length,List.drop_length]
  exact ins_end h hD hl
end Go.Proofs.YtjohljmpcblpjaaGreatDoor.Tr
