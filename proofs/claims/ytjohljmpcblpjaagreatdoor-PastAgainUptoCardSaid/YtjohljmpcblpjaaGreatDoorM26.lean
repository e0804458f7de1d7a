/- A document with all its blocks in a set: what each call does to it. Parts of the proof. -/
import Derived.Test.YtjohljmpcblpjaaGreatDoorM23
import Derived.Test.YtjohljmpcblpjaaGreatDoorM25
import Derived.Test.YtjohljmpcblpjaaGreatDoorM19
set_option maxRecDepth 100000
set_option maxHeartbeats 4000000
namespace Go.Proofs.YtjohljmpcblpjaaGreatDoor.Tr
open Go.RowKit Go.Proofs.YtjohljmpcblpjaaGreatDoor.St Go.Proofs.YtjohljmpcblpjaaGreatDoor.Gl Go.Proofs.YtjohljmpcblpjaaGreatDoor
theorem fresh_doc:∀(rs:List Int) (i ref:ID) (L:List Nd),Doc L→Ref L ref→ref.lt i→(∀k:Nat,k<rs.length→(⟨i.t+k,i.s⟩:ID)∉ids L)→Doc (puts L (freshL i ref rs))
 | [],_,_,_,h,_,_,_=>h
 | r::rs,i,ref,L,h,hr,hl,hn=>by
  have hx:i∉ids L:=by
   have h9:=hn 0 (Nat.succ_pos _)
   simpa using h9
  have h1:=(h.put (x:=⟨i,ref,r,1⟩) hr hl hx).1
  refine fresh_doc rs ⟨i.t+1,i.s⟩ i (put L (placeP L i ref) ⟨i,ref,r,1⟩) h1 (.inr (put_ids.2 (.inl rfl))) (.inl (by show i.t<i.t+1;omega)) fun k hk hm=>?_
  rcases put_ids.1 hm with h2|h2
  ·have:=congrArg ID.t h2
   have h3:i.t+1+(k:Int)=i.t:=this
   omega
  ·refine hn (k+1) (Nat.succ_lt_succ hk) ?_
   have e:(⟨i.t+((k+1:Nat):Int),i.s⟩:ID)=⟨i.t+1+(k:Int),i.s⟩:=by
    rw [ID.ext_iff]
    exact⟨by show i.t+((k+1:Nat):Int)=i.t+1+(k:Int);omega,rfl⟩
   rw [e]
   exact h2
theorem insL_doc {L:List Nd}(h:Doc L) (i ref:ID) (sz:Nat) (bad:Bool) (rs:List Int):Doc (insL L i ref sz bad rs):=by
 unfold insL
 by_cases he:insE L i ref sz bad rs=0
 ·rw [if_neg (fun hh=>hh he)]
  obtain⟨h1,h2,h3,h4,h5,h6,h7,h8⟩:=insE_ok he
  cases rs with
  | nil=>simpa [freshL] using h
  | cons r rs =>
   rw [←ins_puts h h1 h8]
   exact fresh_doc _ _ _ _ h h7 h6 fun k hk hm=>h8 ⟨k,hk,hm⟩
 ·rw [if_pos he]
  exact h
theorem insL_is {L:List Nd}(h:∀n∈L,n.id.Is) (i ref:ID) (sz:Nat) (bad:Bool) (rs:List Int):∀n∈insL L i ref sz bad rs,n.id.Is:=by
 unfold insL
 by_cases he:insE L i ref sz bad rs=0
 ·rw [if_neg (fun hh=>hh he)]
  obtain⟨h1,_,_,_,h5,_⟩:=insE_ok he
  intro n hn
  rcases List.mem_append.1 hn with hn|hn
  ·rcases List.mem_append.1 hn with hn | hn
   ·exact h n (List.mem_of_mem_take hn)
   ·obtain⟨k,hk,e⟩:=(freshL_id i ref rs n.id).1 (List.mem_map.2 ⟨n,hn,rfl⟩)
    rw [e]
    obtain⟨q1,q2,q3,q4⟩:=h1
    exact⟨by show 1≤i.t+(k:Int);omega,by show i.t+(k:Int)≤2147483647;omega,q3,q4⟩
  ·exact h n (List.mem_of_mem_drop hn)
 ·rw [if_pos he]
  exact h
theorem insL_len (L:List Nd) (i ref:ID) (sz:Nat) (bad:Bool) (rs:List Int):(insL L i ref sz bad rs).length≤L.length+rs.length:=by
 unfold insL
 split
 ·omega
 ·rw [List.length_append,List.length_append,freshL_len,List.length_take,List.length_drop]
  omega
def grown (M:Nat→Prop) (w w':World) (b:Nat):Prop:=M b∨(w.heap.size≤b∧b<w'.heap.size)
structure TBox (w:World) (g:Nat) (L:List Nd) (F:Nat→Prop):Prop where
 at_:∃A S mp,TAt w g L A S mp∧∀b,foot g L A S mp b→F b
 doc:Doc L
 is:∀n∈L,n.id.Is
variable {w w':World} {g:Nat} {L:List Nd} {F:Nat→Prop}
theorem TBox.keep {Y:Nat→Prop}(h:TBox w g L F) (hk:Kept Y w w') (hY:∀b,F b→¬Y b):TBox w' g L F:=by
 obtain⟨A,S,mp,h1,h2⟩:=h.at_
 exact⟨⟨A,S,mp,h1.keep hk fun b hb=>hY b (h2 b hb),h2⟩,h.doc,h.is⟩
theorem TBox.still (h:TBox w g L F) (hk:Kept (fun _=>False) w w'):TBox w' g L F:=h.keep hk fun _ _ h=>h
theorem TBox.mono {F':Nat→Prop}(h:TBox w g L F) (hF:∀b,F b→F' b):TBox w g L F':=by
 obtain⟨A,S,mp,h1,h2⟩:=h.at_
 exact⟨⟨A,S,mp,h1,fun b hb=>hF b (h2 b hb)⟩,h.doc,h.is⟩
theorem TBox.low (h:TBox w g L F):TBox w g L fun b=>F b∧b<w.heap.size:=by
 obtain⟨A,S,mp,h1,h2⟩:=h.at_
 exact⟨⟨A,S,mp,h1,fun b hb=>⟨h2 b hb,h1.lt b hb⟩⟩,h.doc,h.is⟩
theorem TBox.made (w:World):TBox (w.alloc (.cells #[.slice none 0 0,.map none] 187)) w.heap.size [] (·=w.heap.size):=by
 refine⟨⟨_,_,_,new_at w,fun b hb=>?_⟩,Doc.nil,fun n hn=>(List.not_mem_nil hn).elim⟩
 rcases hb with h|h|⟨y,hy,_⟩|⟨r,_,h⟩
 ·exact h
 ·cases h
 ·simp [ids] at hy
 ·cases h
theorem TBox.insert (h:TBox w g L F) (i ref:ID) (s:ByteArray) (hs:s.size≤maxLen) (hlen:L.length+countR s≤900000) :
  Calls Tryz.prog 88 #[.pointer (some ⟨g,0,none⟩),idV i,idV ref,.string s] w fun e w'=>e=.returned (.int .i64 (insE L i ref s.size (badB s) (runesL s 0))) ∧
   TBox w' g (insL L i ref s.size (badB s) (runesL s 0)) (grown F w w')∧Kept F w w':=by
 obtain⟨A,S,mp,h1,h2⟩:=h.at_
 refine (insert_any h1 h.doc i ref s hs hlen).mono ?_
 rintro e w' ⟨he,A',S',mp',h3,h4,h5⟩
 refine⟨he,⟨⟨A',S',mp',h3,fun b hb=>?_⟩,insL_doc h.doc ..,insL_is h.is _ _ _ _ _⟩,h5.mono fun b _ hb=>h2 b hb⟩
 rcases h4 b hb with h6|h6
 ·exact .inl (h2 b h6)
 ·exact .inr ⟨h6,h3.lt b hb⟩
theorem eltM_foot {A:ID→Nat}{S:ID→Rw}{mp:Option Nat}{b:Nat}(h:eltM L A b):foot g L A S mp b:=.inr (.inr (.inl h))
theorem map_turn_is {rs:List Run}{fr tz:Int}(h:∀n∈L,n.id.Is):∀n∈L.map (turnF rs fr tz),n.id.Is:=fun n hn=>by
 obtain⟨m,hm,rfl⟩:=List.mem_map.1 hn
 unfold turnF
 split
 ·exact h m hm
 ·exact h m hm
theorem turn_foot {A:ID→Nat}{S:ID→Rw}{mp:Option Nat}{rs:List Run}{fr tz:Int}{b:Nat}(h:foot g (L.map (turnF rs fr tz)) A S mp b):foot g L A S mp b:=by
 have hi:ids (L.map (turnF rs fr tz))=ids L:=by
  unfold ids
  rw [List.map_map]
  exact List.map_congr_left fun n _=>by
   show (turnF rs fr tz n).id=n.id
   unfold turnF
   split <;> rfl
 unfold foot Ref at *
 rw [hi] at h
 exact h
theorem turn_doc {rs:List Run}{fr tz:Int}(h:Doc L):Doc (L.map (turnF rs fr tz)):=h.map fun n=>by
 unfold turnF
 split <;> exact⟨rfl,rfl⟩
theorem TBox.delete0 (h:TBox w g L F) (hlen:L.length≤900000){v:Value}{rs:List Run}(hv:SlAt runE w v rs) (hin:∀r∈rs,r.In) (hrl:rs.length≤1000000000) (hvb:∀b,v.ownBlock=some b→b<w.heap.size→rs≠[]→¬F b) :
  Calls Tryz.prog 90 #[.pointer (some ⟨g,0,none⟩),v] w fun e w'=>e=.returned (.int .i64 (turnN rs 1 L))∧TBox w' g (L.map (turnF rs 1 2)) F∧Kept F w w':=by
 obtain⟨A,S,mp,h1,h2⟩:=h.at_
 refine (delete_any0 h1 h.doc hlen (fun n hn=>by have:=h.is n hn;exact⟨by have:=this.1;omega,this.2.1⟩) hv hin hrl fun b hb hl hr he=>hvb b hb hl hr (h2 b (eltM_foot he))).mono ?_
 rintro e w' ⟨he,h3,h4⟩
 exact⟨he,⟨⟨A,S,mp,h3,fun b hb=>h2 b (turn_foot hb)⟩,turn_doc h.doc,map_turn_is h.is⟩,h4.mono fun b _ hb=>h2 b (eltM_foot hb)⟩
theorem TBox.settle0 (h:TBox w g L F) (hlen:L.length≤900000){v:Value}{rs:List Run}(hv:SlAt runE w v rs) (hin:∀r∈rs,r.In) (hrl:rs.length≤1000000000) (hvb:∀b,v.ownBlock=some b→b<w.heap.size→rs≠[]→¬F b) :
  Calls Tryz.prog 64 #[.pointer (some ⟨g,0,none⟩),v] w fun e w'=>e=.returned (.int .i64 (turnN rs 2 L))∧TBox w' g (L.map (turnF rs 2 3)) F∧Kept F w w':=by
 obtain⟨A,S,mp,h1,h2⟩:=h.at_
 refine (settle_any0 h1 h.doc hlen (fun n hn=>by have:=h.is n hn;exact⟨by have:=this.1;omega,this.2.1⟩) hv hin hrl fun b hb hl hr he=>hvb b hb hl hr (h2 b (eltM_foot he))).mono ?_
 rintro e w' ⟨he,h3,h4⟩
 exact⟨he,⟨⟨A,S,mp,h3,fun b hb=>h2 b (turn_foot hb)⟩,turn_doc h.doc,map_turn_is h.is⟩,h4.mono fun b _ hb=>h2 b (eltM_foot hb)⟩
theorem TBox.collect (h:TBox w g L F) (hlen:L.length≤900000) :
  Calls Tryz.prog 65 #[.pointer (some ⟨g,0,none⟩)] w fun e w'=>e=.returned (.int .i64 (collN L))∧TBox w' g (collR L) F∧Kept F w w':=by
 obtain⟨A,S,mp,h1,h2⟩:=h.at_
 refine (coll_any h1 h.doc hlen).mono ?_
 rintro e w' ⟨he,⟨S',h3,h4⟩,h5⟩
 have hd:Doc (collR L):=by have h9:=coll_doc L [] (by simpa using h.doc);simpa using h9
 exact⟨he,⟨⟨A,S',mp,h3,fun b hb=>h2 b (h4 b hb)⟩,hd,fun n hn=>h.is n ((collR_sub L).subset hn)⟩,h5.mono fun b _ hb=>h2 b hb⟩
end Go.Proofs.YtjohljmpcblpjaaGreatDoor.Tr
namespace Go.Proofs.YtjohljmpcblpjaaGreatDoor.Pa
open Go.RowKit Go.Proofs.YtjohljmpcblpjaaGreatDoor.St Go.Proofs.YtjohljmpcblpjaaGreatDoor Go.Proofs.YtjohljmpcblpjaaGreatDoor.Tr
noncomputable def stepD (L:List Nd) (e:Ent):List Nd :=
 if e.v.kind=1 then insL L e.v.id e.v.ref e.v.text.size (badB e.v.text) (runesL e.v.text 0) else if e.v.kind=2 then L.map (turnF e.G 1 2) else L
noncomputable def docL (l:List Ent) (i:Nat):List Nd:=((rowL l).take i).foldl stepD []
noncomputable def docP (l:List Ent):List Nd:=(rowL l).foldl stepD []
def textN (l:List Ent):Nat:=(l.map fun e=>e.v.text.size).sum
theorem docL_all (l:List Ent):docL l (rowL l).length=docP l:=by unfold docL docP;rw [List.take_length]
theorem docL_next {l:List Ent}{i:Nat}{e:Ent}(h:(rowL l)[i]?=some e):docL l (i+1)=stepD (docL l i) e:=by
 unfold docL
 rw [List.take_add_one,h,List.foldl_append]
 rfl
theorem stepD_len (L:List Nd) (e:Ent):(stepD L e).length≤L.length+e.v.text.size:=by
 unfold stepD
 split
 ·have h1:=insL_len L e.v.id e.v.ref e.v.text.size (badB e.v.text) (runesL e.v.text 0)
  have h2:=Gl.countR_le e.v.text
  rw [runesL_len] at h1
  omega
 ·split
  ·rw [List.length_map];omega
  ·omega
theorem foldD_len:∀(R:List Ent) (L:List Nd),(R.foldl stepD L).length≤L.length+textN R
 | [],L=>by simp [textN]
 | e::R,L=>by
  have h1:=foldD_len R (stepD L e)
  have h2:=stepD_len L e
  have h3:textN (e::R)=e.v.text.size+textN R:=rfl
  rw [List.foldl_cons,h3]
  omega
theorem sum_erase {α:Type}(s:α→Nat):∀ {l:List α}{i:Nat}{x:α},l[i]?=some x→(l.map s).sum=s x+((l.eraseIdx i).map s).sum:=fun {l i x} h=>by
 have:=((erase_perm h).map s).sum_nat
 simpa using this.symm
theorem sum_sub {f:Ent→Dot}(s:Ent→Nat):∀(R l:List Ent),(R.map f).Nodup→(∀e∈R,e∈l)→(R.map s).sum≤(l.map s).sum
 | [],l,_,_=>by simp
 | e::R,l,hn,h=>by
  obtain⟨n1,n2⟩:=List.nodup_cons.1 hn
  obtain⟨i,hi⟩:=List.getElem?_of_mem (h e List.mem_cons_self)
  have ih:=sum_sub s R (l.eraseIdx i) n2 fun x hx=>by
   rcases mem_erase hi (h x (List.mem_cons_of_mem _ hx)) with rfl|h9
   ·exact absurd (List.mem_map_of_mem hx) n1
   ·exact h9
  rw [sum_erase s hi]
  simp only [List.map_cons,List.sum_cons]
  omega
theorem row_nodup {l:List Ent}(hcl:ClosedP dotOf depOf l):∀(n:Nat) (R:List Ent) (V:List Dot),GoneP dotOf depOf l R V→((R++rowP dotOf depOf l n V).map dotOf).Nodup
 | 0,R,V,h=>by
  show ((R++[]).map dotOf).Nodup
  rw [List.append_nil]
  exact h.nd
 | n+1,R,V,h=>by
  cases hn:nextP dotOf depOf l V with
  | none =>
   rw [row_none hn,List.append_nil]
   exact h.nd
  | some e =>
   rw [row_some hn]
   have:=row_nodup hcl n (R++[e]) _ (h.step hcl hn).1
   rw [List.append_assoc] at this
   exact this
theorem rowL_nodup {l:List Ent}(hcl:ClosedP dotOf depOf l):((rowL l).map dotOf).Nodup:=row_nodup hcl l.length [] [] (GoneP.nil hcl)
theorem rowL_sub {l:List Ent}:∀e∈rowL l,e∈l:=row_sub l l.length []
theorem row_text {l:List Ent}(hcl:ClosedP dotOf depOf l):textN (rowL l)≤textN l:=sum_sub _ _ _ (rowL_nodup hcl) rowL_sub
theorem docL_len {l:List Ent}(i:Nat):(docL l i).length≤textN ((rowL l).take i):=by
 have:=foldD_len ((rowL l).take i) []
 simpa [docL] using this
theorem docL_room {l:List Ent}(hcl:ClosedP dotOf depOf l){i:Nat}{e:Ent}(h:(rowL l)[i]?=some e):(docL l i).length+e.v.text.size≤textN l:=by
 have h1:=docL_len (l:=l) i
 have h2:=row_text hcl
 have hi:=(List.getElem?_eq_some_iff.1 h).1
 have h3:textN (rowL l)=textN ((rowL l).take i)+(e.v.text.size+textN ((rowL l).drop (i+1))):=by
  have e1:rowL l=(rowL l).take i++e::(rowL l).drop (i+1):=by
   rw [←(List.getElem?_eq_some_iff.1 h).2,List.getElem_cons_drop,List.take_append_drop]
  conv=>lhs;rw [e1]
  unfold textN
  rw [List.map_append,List.sum_append,List.map_cons,List.sum_cons]
 omega
theorem docP_len {l:List Ent}(hcl:ClosedP dotOf depOf l):(docP l).length≤textN l:=by
 have h1:=foldD_len (rowL l) []
 have h2:=row_text hcl
 unfold docP
 simp only [List.length_nil] at h1
 omega
def doesK (tx:Nat):List (Int × Value):=[(1,.func (.func 87) #[] #[.pointer (some ⟨tx,0,none⟩)]),(2,.func (.func 89) #[] #[.pointer (some ⟨tx,0,none⟩)])]
structure DocJ (w:World) (B tb mb tx dx dm g:Nat) (l:List Ent) (i:Nat) (X:Nat→Prop) (W:World):Prop where
 tc:W.cell? ⟨tb,0,none⟩=some (.map (some mb))
 ops:OpsM W mb (kvsOf l)
 txb:Blk W tx 102 #[.pointer (some ⟨g,0,none⟩)]
 dxb:Blk W dx 142 #[.map (some dm)]
 dmm:MapK intK W dm (doesK tx)
 tree:∃F,TBox W g (docL l i) F∧∀b,F b→(b=g∨B+2≤b)∧¬X b∧b<W.heap.size
 kept:Kept (fun _=>False) w W
 xs:∀b,X b→B+2≤b∧b<W.heap.size
 sz:B+2≤W.heap.size
structure DocA (w:World) (B tb mb tx dx dm g:Nat):Prop where
 ag:w.heap.size≤g∧g<B
 atb:tb<B∧tb≠g
 amb:mb<B∧mb≠g
 atx:tx<B∧tx≠g
 adx:dx<B∧dx≠g
 adm:dm<B∧dm≠g
section
variable {w W W':World} {B tb mb tx dx dm g i:Nat} {l:List Ent} {X Y:Nat→Prop}
theorem cell_at (hk:Kept Y W W'){b:Nat}{v:Value}(h:W.cell? ⟨b,0,none⟩=some v) (hb:¬Y b):W'.cell? ⟨b,0,none⟩=some v:=by
 have hlt:=World.block_lt_of_cell? W _ h
 rw [World.cell?_of_block (a:=⟨b,0,none⟩) (w:=W) (hk.block b hlt hb)]
 exact h
theorem DocJ.far (h:DocJ w B tb mb tx dx dm g l i X W) (ha:DocA w B tb mb tx dx dm g) (hk:Kept Y W W') (hY:∀b,Y b→X b∨b=B∨b=B+1) :
  DocJ w B tb mb tx dx dm g l i X W'∧DocJ w B tb mb tx dx dm g l i (fun b=>X b∨(W.heap.size≤b∧b<W'.heap.size)) W':=by
 have hB:∀b,Y b→B≤b:=fun b hb=>by
  rcases hY b hb with h1|h1|h1
  ·have:=(h.xs b h1).1;omega
  ·omega
  ·omega
 have hn:∀b,b<B→¬Y b:=fun b hb hy=>by have:=hB b hy;omega
 obtain⟨F,t1,t2⟩:=h.tree
 have tt:TBox W' g (docL l i) F:=t1.keep hk fun b hb hy=>by
  obtain⟨h1,h2,_⟩:=t2 b hb
  rcases hY b hy with h3|h3|h3
  ·exact h2 h3
  ·have:=ha.ag;omega
  ·have:=ha.ag;omega
 have hz:=hk.size
 have kw:Kept (fun _=>False) w W':=h.kept.trans hk fun b hb hy=>by have:=hB b hy;have:=ha.ag;omega
 refine⟨⟨cell_at hk h.tc (hn _ ha.atb.1),h.ops.keep hk (hn _ ha.amb.1),hk.blk (hn _ ha.atx.1) h.txb,hk.blk (hn _ ha.adx.1) h.dxb,h.dmm.keep hk (hn _ ha.adm.1),⟨F,tt,fun b hb=>?_⟩,kw,fun b hb=>?_,by have:=h.sz;omega⟩,
  ⟨cell_at hk h.tc (hn _ ha.atb.1),h.ops.keep hk (hn _ ha.amb.1),hk.blk (hn _ ha.atx.1) h.txb,hk.blk (hn _ ha.adx.1) h.dxb,h.dmm.keep hk (hn _ ha.adm.1),⟨F,tt,fun b hb=>?_⟩,kw,fun b hb=>?_,by have:=h.sz;omega⟩⟩
 ·obtain⟨h1,h2,h3⟩:=t2 b hb
  exact⟨h1,h2,by omega⟩
 ·have:=h.xs b hb
  exact⟨this.1,by omega⟩
 ·obtain⟨h1,h2,h3⟩:=t2 b hb
  exact⟨h1,fun h4=>h4.elim h2 fun h5=>by omega,by omega⟩
 ·rcases hb with hb | hb
  ·have:=h.xs b hb
   exact⟨this.1,by omega⟩
  ·have:=h.sz
   exact⟨by omega,hb.2⟩
theorem DocJ.turn {F':Nat→Prop}(h:DocJ w B tb mb tx dx dm g l i X W) (ha:DocA w B tb mb tx dx dm g) (hk:Kept Y W W') (hY:∀b,Y b→(b=g∨B+2≤b)∧¬X b) (ht:TBox W' g (docL l (i+1)) F') (hF:∀b,F' b→(b=g∨B+2≤b)∧¬X b∧b<W'.heap.size) :
  DocJ w B tb mb tx dx dm g l (i+1) X W'∧(∀x,X x∨x=B∨x=B+1→W'.heap[x]?=W.heap[x]?)∧W.heap.size≤W'.heap.size:=by
 have hn:∀b,b<B∧b≠g→¬Y b:=fun b hb hy=>by have:=(hY b hy).1;omega
 have hz:=hk.size
 refine⟨⟨cell_at hk h.tc (hn _ ha.atb),h.ops.keep hk (hn _ ha.amb),hk.blk (hn _ ha.atx) h.txb,hk.blk (hn _ ha.adx) h.dxb,h.dmm.keep hk (hn _ ha.adm),⟨F',ht,hF⟩,h.kept.trans hk fun b hb hy=>by have:=(hY b hy).1;have:=ha.ag;omega,fun b hb=>?_,by have:=h.sz;omega⟩,fun x hx=>hk.block x ?_ fun hy=>?_,hz⟩
 ·have:=h.xs b hb
  exact⟨this.1,by omega⟩
 ·have:=h.sz
  rcases hx with hx|rfl|rfl
  ·exact (h.xs x hx).2
  ·omega
  ·omega
 ·have h1:=hY x hy
  have:=ha.ag
  rcases hx with hx|rfl|rfl
  ·exact h1.2 hx
  ·omega
  ·omega
end
end Go.Proofs.YtjohljmpcblpjaaGreatDoor.Pa
namespace Go.Proofs.YtjohljmpcblpjaaGreatDoor.Pa
open Go.RowKit Go.Proofs.YtjohljmpcblpjaaGreatDoor.St Go.Proofs.YtjohljmpcblpjaaGreatDoor Go.Proofs.YtjohljmpcblpjaaGreatDoor.Tr Go.Shelf
attribute [local go_sem] Oper.semAt_some
theorem row1_iter {tb mb n0:Nat}{l:List Ent}(hcl:ClosedP dotOf depOf l) (hdl:∀e∈l,e.D.length≤1000000000) (h1:1≤n0) :
  IterOk Fence.wide n0 Tryz.prog 101 #[.pointer (some ⟨tb,0,none⟩)] (rowL l).length (rowEnc l) (RowRd tb mb l):=by
 intro yl I Z X0 w hrd hgr hgz hy h0
 have RD:=Lib.hid hrd
 have GR:=Lib.hid hgr
 have GZ:=Lib.hid hgz
 have HY:=Lib.hid hy
 have H0:=Lib.hid h0
 have r0:=(hrd _ _ _ h0).tc
 have HCL:=Lib.hid hcl
 clear hrd hgr hgz hy h0 hcl
 have hmm:=@run_makeMap Tryz.prog
 refine callsIn_of_wp Tryz.func101 rfl trivial ?_ rfl
 simp only [Tryz.ntmps101,List.size_toArray,List.length_cons,List.length_nil,Nat.reduceAdd,Nat.reduceSub,Array.replicate_succ,Array.replicate_zero,List.push_toArray,List.append_toArray,List.nil_append,List.cons_append]
 gi_upto_region 1 with fail
 obtain⟨z,hz⟩:∃z,w.heap.size=z:=⟨_,rfl⟩
 have hM1:MapR intK (w.alloc (.map #[] 0)) w.heap.size []:=MapR.made w
 have k01:Kept (fun _=>False) w (w.alloc (.map #[] 0)):=(Kept.refl _ _).alloc _
 have k02:Kept (fun _=>False) w ((w.alloc (.map #[] 0)).alloc (.cells #[.map (some w.heap.size)] 168)):=k01.alloc _
 have hM2:=hM1.keep (((Kept.refl (fun _=>False) _).alloc (.cells #[.map (some w.heap.size)] 168))) (fun h=>h)
 have bL:Blk ((w.alloc (.map #[] 0)).alloc (.cells #[.map (some w.heap.size)] 168)) (w.heap.size+1) 168 #[.map (some w.heap.size)]:=by have h9:=Blk.new (w.alloc (.map #[] 0)) 168 #[.map (some w.heap.size)];simp only [World.size_alloc] at h9;exact h9
 have hs1:((w.alloc (.map #[] 0)).alloc (.cells #[.map (some w.heap.size)] 168)).heap.size=w.heap.size+2:=by simp
 obtain⟨W1,hW1⟩:∃W1,(w.alloc (.map #[] 0)).alloc (.cells #[.map (some w.heap.size)] 168)=W1:=⟨_,rfl⟩
 rw [hW1] at hM2 bL hs1 k02 ⊢
 rw [hz] at hM2 bL hs1 ⊢
 have R1:RowRd tb mb l W1:=by
  have h9:=RD.out _ _ _ H0.out
  exact⟨k02.cell h9.tc,h9.ops.keep k02 (fun h=>h),fun e he=>(h9.rows e he).kept k02⟩
 obtain⟨W2,hrg,hR2,hk2⟩:=run_rangeR (P:=Tryz.prog) Tryz.underlying91 R1.ops.map
 rw [hs1] at hrg hR2
 have r1:=R1.tc
 have RR1:=Lib.hid R1
 have HZ:=Lib.hid hz
 have K02:=Lib.hid k02
 have ML:=Lib.hid hM2
 have BL:=Lib.hid bL
 have HRR2:=Lib.hid hR2
 have HK2:=Lib.hid hk2
 have HS1:=Lib.hid hs1
 clear hW1 hmm hM1 k01 k02 hM2 bL hs1 R1 hR2 hk2 r0 hz
 gi_wp2
 gi_loopw [4] (fun _ wr=>∃m,DotsAt w mb (z+1) z (z+2) l m wr) (fun _ wr=>least (fun m=>DotsAt w mb (z+1) z (z+2) l m wr))
 case atStart =>
  refine⟨_,[],kvsOf l,rfl,K02.out.trans HK2.out (fun _ _ h=>h),HRR2.out,HK2.out.blk (fun h=>h) BL.out,ML.out.keep HK2.out (fun h=>h),List.nodup_nil,fun p hp=>by simp at hp,fun p hp=>hp,fun e he=>.inl ?_⟩
  rw [kvs_keys]
  exact List.mem_map_of_mem he
 case round =>
  obtain⟨lk,left,hm,hk,hrr,hbl,hml,hnd,hval,hsub,hhas⟩:=least_spec hrel
  have HM:=Lib.hid hm
  have HBL:=Lib.hid hbl
  have HML:=Lib.hid hml
  have HND:=Lib.hid hnd
  have HVAL:=Lib.hid hval
  have HSUB:=Lib.hid hsub
  have HHAS:=Lib.hid hhas
  have HK:=Lib.hid hk
  clear hm hk hbl hml hnd hval hsub hhas hrg
  rcases run_nextR 0 hrr with ⟨rfl,hnx⟩|⟨j,x,w3,hx,hnx,hrr3,hcur,hk3⟩
  case inl =>
   clear hrr
   obtain⟨y,hy⟩:∃y,wr.heap.size=y:=⟨_,rfl⟩
   have ST:=Lib.hid (rowAt_start (tb:=tb) HCL.out H0.out GR.out HK.out hy HBL.out HML.out (by have:=HZ.out;omega) (by have:=HZ.out;omega) (dots_end HND.out HVAL.out HHAS.out) rfl)
   clear HM HBL HML HND HVAL HSUB HHAS HRR2 HK2 RR1 ML BL
   gi_upto_region 9 with fail
   obtain⟨W0,hW0⟩:∃W0,((wr.alloc (.cells #[.slice none 0 0] 24)).alloc (.cells #[.func (.func 102) #[] #[.pointer (some ⟨tb,0,none⟩),.pointer (some ⟨z+1,0,none⟩),.pointer (some ⟨y,0,none⟩)]] 169)).alloc (.cells #[.func (.func 104) #[] #[.pointer (some ⟨y+1,0,none⟩),.pointer (some ⟨y+1+1,0,none⟩)]] 170)=W0:=⟨_,rfl⟩
   rw [hW0] at ST ⊢
   clear hW0 hy hrel hnx
   gi_loopw [8] (fun _ wr=>∃m,RowAt I tb (z+1) z y (y+1) (y+1+1) l m wr) (fun _ wr=>least (fun m=>RowAt I tb (z+1) z y (y+1) (y+1+1) l m wr))
   case atStart=>exact ST.out
   case round =>
    clear ST
    obtain⟨wo,rfl⟩:∃wo,wo=wr:=⟨_,rfl⟩
    obtain⟨i,X,V,lk,R,hm,hI,hB,hL,hG,hR,hiN,hrow,hV⟩:=least_spec hrel
    have HM:=Lib.hid hm
    have HI:=Lib.hid hI
    have HB:=Lib.hid hB
    have HL:=Lib.hid hL
    have HG:=Lib.hid hG
    have HRN:=Lib.hid hR
    have HIN:=Lib.hid hiN
    have HROW:=Lib.hid hrow
    have HV:=Lib.hid hV
    have lr:wo.cell? ⟨z+1,0,none⟩=some (.map (some z)):=hB.lc.cell' (i:=0) rfl
    have hln:=len_mapR (P:=Tryz.prog) (T:=168) Tryz.underlying168 3 hB.left
    clear hm hI hB hL hG hR hiN hrow hV hrel
    cases lk with
    | nil =>
     rw [show ([]:List (Int × Value)).length=0 from rfl] at hln
     gi_wp2
     go_end0
     exact⟨⟨_,rfl⟩,.inl ⟨X,at_end HL.out.empty HROW.out HIN.out ▸ HI.out⟩⟩
    | cons p lk =>
     have hl0:(0:Int)<((p::lk).length:Int):=by rw [List.length_cons];omega
     have hlk:0<(p::lk).length:=by simp
     obtain⟨kk,hkk⟩:∃kk,p::lk=kk:=⟨_,rfl⟩
     rw [hkk] at hln hl0 HB HL hlk
     clear hkk
     gi_upto_region 11 with fail
     obtain⟨q,hq⟩:∃q,wo.heap.size=q:=⟨_,rfl⟩
     obtain⟨W1,hrg,hR1,hk1⟩:=run_rangeR (P:=Tryz.prog) Tryz.underlying168 HB.out.left
     rw [hq] at hrg hR1
     have HQ:=Lib.hid hq
     have HR1:=Lib.hid hR1
     have HK1:=Lib.hid hk1
     have hzq:z<q:=by have:=HB.out.left.mapK.lt;omega
     clear hq hR1 hk1
     gi_wp2
     gi_loopw [8] (fun v W=>∃m,SitesAt wo z q kk v m W) (fun v W=>least (fun m=>SitesAt wo z q kk v m W))
     case atStart=>exact⟨_,[],kk,rfl,HK1.out,HR1.out,by rw [HQ.out];exact World.ownsRow_nil ..,List.Perm.refl _,fun h=>by cases h⟩
     case round =>
      obtain⟨done,left,hm,hk,hrr,how,hpm,hvq⟩:=least_spec hrel
      have HM2:=Lib.hid hm
      have HK:=Lib.hid hk
      have HOW:=Lib.hid how
      have HPM:=Lib.hid hpm
      have HVQ:=Lib.hid hvq
      clear hm hk how hpm hvq hrg hln hl0 lr HR1 HK1
      rcases run_nextR 0 hrr with ⟨rfl,hnx⟩|⟨j,x,w3,hx,hnx,hrr3,hcur,hk3⟩
      case inl =>
       clear hrr hrel
       have hdk:done.Perm (kk.map (·.1)):=by have:=HPM.out;simpa using this
       have hdl2:done.length=kk.length:=by have:=hdk.length_eq;simpa using this
       have hl16:=left_len HL.out
       obtain⟨_,hvv⟩:=own_of (E:=intE) HOW.out
       obtain⟨g,cap,rfl,hbg,ho⟩:∃g cap,u8=.slice (some ⟨g,0,none⟩) done.length cap∧wo.heap.size≤g∧OwnAt intE wr 3 g cap done:=by
        rcases hvv with ⟨_,h9⟩|h9
        ·rw [h9] at hdl2;simp only [List.length_nil] at hdl2;omega
        ·exact h9
       have SRT:=Lib.hid (sort_int ho (by omega))
       clear hdl2 hl16
       have HBG:=Lib.hid hbg
       have HDK:=Lib.hid hdk
       have R0:=Lib.hid (RD.out _ _ _ HI.out)
       clear hvv ho hbg hdk HOW HVQ HPM
       gi_upto_region 16 with (refine⟨trivial,?_⟩;gi_at_call 105;refine (callsIn_wide.2 SRT.out).mono ?_;rintro e w5 ⟨rfl,D,hpd,hsd,hod,hkd⟩)
       have hDl:D.length=done.length:=hpd.length_eq
       have K5:=Lib.hid (HK.out.trans hkd (fun i hi h9=>by have:=HBG.out;omega))
       obtain⟨ss,hss,hup,hget⟩:=sites_sorted HL.out (hpd.trans HDK.out) hsd
       have hsl:SlAt intE w5 (.slice (some ⟨g,0,none⟩) done.length cap) (ss.map fun s:Nat=>(s:Int)):=by
        have h9:=owns_slAt (hod.owns (Nat.le_refl _))
        rw [hDl] at h9
        rw [hss]
        exact h9
       have F5:=Lib.hid ((HB.out.first R0.out).still K5.out)
       have hV9:V.length≤1000000000:=by have:=HV.out;omega
       have FST:=first_any HCL.out.nd hdl hV9 ss w5 _ F5.out hsl hget
       rw [HL.out.first (hss ▸ hpd.trans HDK.out) hup] at FST
       have f5:w5.cell? ⟨y+1+1,0,none⟩=some (.func (.func 104) #[] #[.pointer (some ⟨y+1,0,none⟩),.pointer (some ⟨y+1+1,0,none⟩)]):=F5.out.fc
       cases hn:nextP dotOf depOf l V with
       | none =>
        rw [hn] at FST
        have FS:Hid (Calls Tryz.prog 104 #[.slice (some ⟨g,0,none⟩) done.length cap,.pointer (some ⟨y+1,0,none⟩),.pointer (some ⟨y+1+1,0,none⟩)] w5 fun e w'=>(∃x:OpV,e=.returned (.tuple #[.agg (opA x),.bool false]))∧Kept (fun _=>False) w5 w'):=Lib.hid (FST.mono fun e w' ⟨⟨x,h1,_⟩,h3⟩=>⟨⟨x,h1⟩,h3⟩)
        have HN:=Lib.hid hn
        clear FST hn hpd hsd hod hkd hss hup hget hsl hnx hDl hV9
        gi_upto_region 17 with (first
         | (refine⟨trivial,?_⟩;gi_at_call 104;refine (callsIn_wide.2 FS.out).mono ?_;rintro e w6 ⟨⟨x,rfl⟩,hk6⟩;have B6:=Lib.hid (Blk.new w6 62 #[.int .i64 0,.int .i64 0,.slice none 0 0,.int .i64 0,.int .i64 0,.int .i64 0,.int .i64 0,.int .i64 0,.string ⟨#[]⟩,.slice none 0 0,.int .i64 0]))
         | (refine wpListIn_store_blk (by rfl) 62 _ _ rfl rfl rfl B6.out (by rw [opA_size];exact size_op) (by rw [opA_size];rfl) (opA_one _) ?_))
        have B7:=Lib.hid (B6.out.row (opA x))
        have K7:=Lib.hid ((K5.out.trans hk6 (fun _ _ h=>h)).trans (((Kept.refl (fun _=>False) w6).alloc (.cells #[.int .i64 0,.int .i64 0,.slice none 0 0,.int .i64 0,.int .i64 0,.int .i64 0,.int .i64 0,.int .i64 0,.string ⟨#[]⟩,.slice none 0 0,.int .i64 0] 62)).setRow (g:=w6.heap.size) (fun h9=>by omega) (opA x)) (fun _ _ h=>h))
        obtain⟨ob,hob⟩:∃ob,w6.heap.size=ob:=⟨_,rfl⟩
        have HOB:=Lib.hid (show q≤ob by have h1:=HK.out.size;have h2:=HQ.out;have h3:=(K5.out.trans hk6 (fun _ _ h=>h)).size;omega)
        rw [hob] at B7 K7 ⊢
        obtain⟨W7,hW7⟩:∃W7,(w6.alloc (.cells #[.int .i64 0,.int .i64 0,.slice none 0 0,.int .i64 0,.int .i64 0,.int .i64 0,.int .i64 0,.int .i64 0,.string ⟨#[]⟩,.slice none 0 0,.int .i64 0] 62)).setRow ob (opA x)=W7:=⟨_,rfl⟩
        rw [hW7] at B7 K7 ⊢
        clear hW7 B6 hk6 hob f5
        gi_wp2
        refine⟨fun f hf=>(by cases hf),?_⟩
        gi_wp2
        refine bodyPost_ret (results_none rfl _ _ _) rfl ?_
        exact⟨⟨_,rfl⟩,.inl ⟨_,at_end HN.out HROW.out HIN.out ▸ GR.out _ _ _ _ HI.out (K7.out.mono (fun _ _ h=>h.elim))⟩⟩
       | some e0 =>
        rw [hn] at FST
        have FS:Hid (Calls Tryz.prog 104 #[.slice (some ⟨g,0,none⟩) done.length cap,.pointer (some ⟨y+1,0,none⟩),.pointer (some ⟨y+1+1,0,none⟩)] w5 fun e w'=>e=.returned (.tuple #[.agg (opA e0.v),.bool true])∧Kept (fun _=>False) w5 w'):=Lib.hid (FST.mono fun e w' ⟨⟨x,h1,h2⟩,h3⟩=>⟨by rw [h1,h2 e0 rfl];rfl,h3⟩)
        have HN:=Lib.hid hn
        clear FST hn hpd hsd hod hkd hss hup hget hsl hnx hDl hV9
        gi_upto_region 17 with (first
         | (refine⟨trivial,?_⟩;gi_at_call 104;refine (callsIn_wide.2 FS.out).mono ?_;rintro e w6 ⟨rfl,hk6⟩;have B6:=Lib.hid (Blk.new w6 62 #[.int .i64 0,.int .i64 0,.slice none 0 0,.int .i64 0,.int .i64 0,.int .i64 0,.int .i64 0,.int .i64 0,.string ⟨#[]⟩,.slice none 0 0,.int .i64 0]))
         | (refine wpListIn_store_blk (by rfl) 62 _ _ rfl rfl rfl B6.out (by rw [opA_size];exact size_op) (by rw [opA_size];rfl) (opA_one _) ?_))
        have B7:=Lib.hid (B6.out.row (opA e0.v))
        have K7:=Lib.hid ((K5.out.trans hk6 (fun _ _ h=>h)).trans (((Kept.refl (fun _=>False) w6).alloc (.cells #[.int .i64 0,.int .i64 0,.slice none 0 0,.int .i64 0,.int .i64 0,.int .i64 0,.int .i64 0,.int .i64 0,.string ⟨#[]⟩,.slice none 0 0,.int .i64 0] 62)).setRow (g:=w6.heap.size) (fun h9=>by omega) (opA e0.v)) (fun _ _ h=>h))
        obtain⟨ob,hob⟩:∃ob,w6.heap.size=ob:=⟨_,rfl⟩
        have HOB:=Lib.hid (show q≤ob by have h1:=HK.out.size;have h2:=HQ.out;have h3:=(K5.out.trans hk6 (fun _ _ h=>h)).size;omega)
        rw [hob] at B7 K7 ⊢
        obtain⟨W7,hW7⟩:∃W7,(w6.alloc (.cells #[.int .i64 0,.int .i64 0,.slice none 0 0,.int .i64 0,.int .i64 0,.int .i64 0,.int .i64 0,.int .i64 0,.string ⟨#[]⟩,.slice none 0 0,.int .i64 0] 62)).setRow ob (opA e0.v)=W7:=⟨_,rfl⟩
        rw [hW7] at B7 K7 ⊢
        clear hW7 B6 hk6 hob f5
        obtain⟨hsome,hrow2,hgo2,hil⟩:=at_some HCL.out HG.out HRN.out HN.out HROW.out
        have hI7:=GR.out _ _ _ _ HI.out (K7.out.mono (S':=X) (fun _ _ h=>h.elim))
        have hyy:=HY.out i _ _ ((List.getElem?_eq_some_iff.1 hsome).1) hI7
        rw [rowEnc_some hsome] at hyy
        obtain⟨fn,tmps,assign,body,hy,hR⟩:=hyy
        have HRR:=Lib.hid hR
        have HRW2:=Lib.hid hrow2
        have HGO2:=Lib.hid hgo2
        have HIL:=Lib.hid hil
        have HSM:=Lib.hid hsome
        clear hR hrow2 hgo2 hil hsome hI7
        gi_wp2_with (refine wpListIn_load_blk (by rfl) 62 _ rfl rfl B7.out Tryz.underlying62 rfl (by rw [opA_size];exact size_op) ?_)
        refine HRR.out.mono ?_
        clear hy HRR
        rintro e w8 ⟨bb,rfl,hX2,hz2,ht,hf⟩
        cases bb with
        | false =>
         have ZZ:=Lib.hid (hf rfl)
         clear ht hf hX2 hz2
         gi_wp2
         refine bodyPost_ret (results_none rfl _ _ _) rfl ?_
         exact⟨⟨_,rfl⟩,.inr ⟨_,ZZ.out⟩⟩
        | true =>
         have hI8:=ht rfl
         have hX:∀b,X b→X b∨(wo.heap.size≤b∧b<W7.heap.size):=fun b h=>.inl h
         have hob7:X ob∨(wo.heap.size≤ob∧ob<W7.heap.size):=.inr ⟨by have:=HOB.out;have:=HQ.out;omega,B7.out.lt⟩
         have HB8:=Lib.hid ((HB.out.still K7.out hX).same hX2 (fun _ h=>h))
         have B8:=Lib.hid (show Blk w8 ob 62 (opA e0.v) from (hX2 ob hob7).trans B7.out)
         have R8:=Lib.hid (RD.out _ _ _ hI8)
         have I8:=Lib.hid hI8
         have OB8:=Lib.hid hob7
         clear ht hf hX2 hz2 hI8 hX hob7 HB B7 K7 K5 HK F5 R0 HI HDK SRT FS
         obtain⟨X7,hX7⟩:∃X7:Nat→Prop,(fun b=>X b∨(wo.heap.size≤b∧b<W7.heap.size))=X7:=⟨_,rfl⟩
         rw [hX7] at HB8 I8
         have OB7:Hid (X7 ob):=Lib.hid (hX7 ▸ OB8.out)
         clear hX7 OB8
         obtain⟨hmem,_,_,hseq⟩:=nextP_some HN.out
         have hok:=(HCL.out.ok e0 hmem).1
         have HWH:=Lib.hid (why_next hok hseq)
         obtain⟨hgk,hin,hout⟩:=HL.out.step HCL.out HN.out
         have HOK:=Lib.hid hok
         have HGK:=Lib.hid hgk
         have HINN:=Lib.hid hin
         have HOUT:=Lib.hid hout
         obtain⟨gv,g1,g2,_⟩:=HB8.out.gc
         have gc8:w8.cell? ⟨y,0,none⟩=some gv:=g1.cell' (i:=0) rfl
         have G1:=Lib.hid g1
         have G2:=Lib.hid g2
         have ADD:=Lib.hid (add_any g2 (by have:=HV.out;omega) e0.v.dot)
         obtain⟨es,hes⟩:∃es,e0.v.dot.site=es:=⟨_,rfl⟩
         obtain⟨eq,heq⟩:∃eq,e0.v.dot.seq=eq:=⟨_,rfl⟩
         have d0:w8.cell? ⟨ob,0,none⟩=some (.int .i64 es):=by rw [←hes];exact B8.out.cell' (i:=0) rfl
         have d1:w8.cell? ⟨ob,1,none⟩=some (.int .i64 eq):=by rw [←heq];exact B8.out.cell' (i:=1) rfl
         have HES:=Lib.hid (And.intro hes heq)
         rw [hes,heq] at ADD
         clear hmem hseq hok hgk hin hout g1 g2 hes heq
         gi_upto_region 19 with (refine⟨trivial,?_⟩;gi_at_call 106;refine (callsIn_wide.2 ADD.out).mono ?_;rintro e w9 ⟨v9,rfl,ha9,hk9⟩;have ho9:=ha9.2 HWH.out;obtain⟨a9,c9,rfl,_,_⟩:=(owns_slAt (E:=dotE) ho9).sl;have q9:=hk9.cell gc8;have fz9:=(hk9.blk (fun h=>h) G1.out).frozen 0)
         obtain⟨X10,hB10,hI10,kk10⟩:=added_I GR.out I8.out HB8.out hk9 ho9
         obtain⟨n9,hn9⟩:∃n9,(addV V e0.v.dot).length=n9:=⟨_,rfl⟩
         rw [hn9] at hB10 hI10 kk10 ⊢
         obtain⟨W10,hW10⟩:∃W10,w9.setCell ⟨y,0,none⟩ (.slice a9 n9 c9)=W10:=⟨_,rfl⟩
         rw [hW10] at hB10 hI10 kk10 ⊢
         have hoy:ob≠y:=B8.out.ne_ G1.out (by decide)
         have B10:=Lib.hid (kk10.blk hoy B8.out)
         have HGE:Hid (getK kk es=some (.int .i64 eq)):=Lib.hid (by have h:=HGK.out;rw [show (dotOf e0).site=es from HES.out.1,show (dotOf e0).seq=eq from HES.out.2] at h;exact h)
         have hwr:IntKind.i64.wrap (eq+1)=eq+1:=IntWalk.i64_in _ (by have h:=HOK.out;unfold Dot.Ok at h;have h2:=HES.out.2;have h3:(dotOf e0).seq=e0.v.dot.seq:=rfl;omega)
         have hlk0:=run_lookupK (P:=Tryz.prog) (K:=intK) (k:=es) Tryz.underlying168 hB10.left.mapK HGE.out
         have hlk1:(Instr.lookup 168 (.map (some z)) (.int .i64 es) false).run Tryz.prog W10=.ok (.int .i64 eq) W10:=hlk0
         obtain⟨W11,hup,hm11,hk11⟩:=run_updateR (P:=Tryz.prog) (K:=intK) (k:=es) Tryz.underlying168 hB10.left (.int .i64 (eq+1))
         have hup2:(Instr.mapUpdate 168 (.map (some z)) (.int .i64 es) (.int .i64 (eq+1))).run Tryz.prog W10=.ok () W11:=hup
         have l10:W10.cell? ⟨z+1,0,none⟩=some (.map (some z)):=hB10.lc.cell' (i:=0) rfl
         have d10:W10.cell? ⟨ob,0,none⟩=some (.int .i64 es):=by rw [←HES.out.1];exact B10.out.cell' (i:=0) rfl
         obtain⟨X11,hB11,hI11⟩:=lefts_I GR.out hI10 hB10 hm11 hk11
         have B11:=Lib.hid (hk11.blk (hB10.left.mapK.ne_blk B10.out) B10.out)
         have HB11:=Lib.hid hB11
         have I11:=Lib.hid hI11
         clear hB10 hI10 kk10 hW10 hoy hlk0 hup hm11 hk11 hB11 hI11 hk9 ha9 ho9 q9 fz9 gc8 d0 d1 hn9
         gi_upto_region 20 with fail
         have R11:=RD.out _ _ _ I11.out
         have t11:=R11.tc
         have l11:W11.cell? ⟨z+1,0,none⟩=some (.map (some z)):=HB11.out.lc.cell' (i:=0) rfl
         have d11:W11.cell? ⟨ob,0,none⟩=some (.int .i64 es):=by rw [←HES.out.1];exact B11.out.cell' (i:=0) rfl
         have hlk3:=run_lookupK (P:=Tryz.prog) (K:=intK) (k:=es) (v:=.int .i64 (eq+1)) Tryz.underlying168 HB11.out.left.mapK (by rw [getK_put,if_pos rfl])
         have hlk2:(Instr.lookup 168 (.map (some z)) (.int .i64 es) false).run Tryz.prog W11=.ok (.int .i64 (eq+1)) W11:=hlk3
         obtain⟨x2,hlo,_⟩:=R11.ops.look ⟨es,eq+1⟩
         rw [kvs_keys] at hlo
         have ZB:=Lib.hid (Blk.new W11 62 #[.int .i64 0,.int .i64 0,.slice none 0 0,.int .i64 0,.int .i64 0,.int .i64 0,.int .i64 0,.int .i64 0,.string ⟨#[]⟩,.slice none 0 0,.int .i64 0])
         have HNI:Hid (i+1≤(rowL l).length):=Lib.hid ((List.getElem?_eq_some_iff.1 HSM.out).1)
         have HV2:Hid ((addV V e0.v.dot).length≤17):=Lib.hid (vecOf_len _ _)
         clear R11 hlk1 hlk3 hup2 hwr l10 d10
         by_cases hmore:(⟨es,eq+1⟩:Dot)∈l.map dotOf
         case pos =>
          rw [decide_eq_true hmore] at hlo
          have hlo2:(Instr.lookup 91 (.map (some mb)) (.agg #[.int .i64 es,.int .i64 (eq+1)]) true).run Tryz.prog W11=.ok (.tuple #[.agg (opA x2),.bool true]) W11:=hlo
          have HL2:=Lib.hid (HINN.out (by rw [show (dotOf e0).site=es from HES.out.1,show (dotOf e0).seq=eq from HES.out.2];exact hmore))
          rw [show (dotOf e0).site=es from HES.out.1,show (dotOf e0).seq=eq from HES.out.2] at HL2
          clear hlo hmore
          gi_wp2_with (refine wpListIn_store_blk (by rfl) 62 _ _ rfl rfl rfl ZB.out (by rw [opA_size];exact size_op) (by rw [opA_size];rfl) (opA_one _) ?_)
          obtain⟨W12,hW12⟩:∃W12,(W11.alloc (.cells #[.int .i64 0,.int .i64 0,.slice none 0 0,.int .i64 0,.int .i64 0,.int .i64 0,.int .i64 0,.int .i64 0,.string ⟨#[]⟩,.slice none 0 0,.int .i64 0] 62)).setRow W11.heap.size (opA x2)=W12:=⟨_,rfl⟩
          have k12:Kept (fun _=>False) W11 W12:=by rw [←hW12];exact ((Kept.refl (fun _=>False) W11).alloc _).setRow (g:=W11.heap.size) (fun h9=>by omega) _
          obtain⟨X12,HB12,I12⟩:=still_I GR.out I11.out HB11.out k12
          rw [hW12]
          have NX:Hid (∃m,m<l.length-i∧RowAt I tb (z+1) z y (y+1) (y+1+1) l m W12):=Lib.hid ⟨_,by have:=HIL.out;omega,i+1,X12,_,_,_,rfl,I12,HB12,HL2.out,HGO2.out,by have:=HRN.out;simp;omega,HNI.out,HRW2.out,HV2.out⟩
          clear hW12 k12 HB12 I12
          go_roundw
          case rel=>obtain⟨m,_,h9⟩:=NX.out;exact⟨m,h9⟩
          case measure =>
           obtain⟨m,h8,h9⟩:=NX.out
           have h10:=least_le (P:=fun m=>RowAt I tb (z+1) z y (y+1) (y+1+1) l m W12) h9
           have h11:=HM.out
           omega
         case neg =>
          rw [decide_eq_false hmore] at hlo
          have hlo2:(Instr.lookup 91 (.map (some mb)) (.agg #[.int .i64 es,.int .i64 (eq+1)]) true).run Tryz.prog W11=.ok (.tuple #[.agg (opA x2),.bool false]) W11:=hlo
          have HL2:=Lib.hid (HOUT.out (by rw [show (dotOf e0).site=es from HES.out.1,show (dotOf e0).seq=eq from HES.out.2];exact hmore))
          rw [show (dotOf e0).site=es from HES.out.1,show (dotOf e0).seq=eq from HES.out.2] at HL2
          clear hlo hmore
          gi_upto_region 22 with (refine wpListIn_store_blk (by rfl) 62 _ _ rfl rfl rfl ZB.out (by rw [opA_size];exact size_op) (by rw [opA_size];rfl) (opA_one _) ?_)
          obtain⟨W12,hW12⟩:∃W12,(W11.alloc (.cells #[.int .i64 0,.int .i64 0,.slice none 0 0,.int .i64 0,.int .i64 0,.int .i64 0,.int .i64 0,.int .i64 0,.string ⟨#[]⟩,.slice none 0 0,.int .i64 0] 62)).setRow W11.heap.size (opA x2)=W12:=⟨_,rfl⟩
          have k12:Kept (fun _=>False) W11 W12:=by rw [←hW12];exact ((Kept.refl (fun _=>False) W11).alloc _).setRow (g:=W11.heap.size) (fun h9=>by omega) _
          obtain⟨X12,HB12,I12⟩:=still_I GR.out I11.out HB11.out k12
          have l12:W12.cell? ⟨z+1,0,none⟩=some (.map (some z)):=HB12.lc.cell' (i:=0) rfl
          have d12:W12.cell? ⟨ob,0,none⟩=some (.int .i64 es):=k12.cell d11
          obtain⟨W13,hde,hm13,hk13⟩:=run_deleteR (P:=Tryz.prog) (K:=intK) (k:=es) Tryz.underlying168 0 HB12.left
          have hde2:(Builtin.delete_ #[168,3] 0 #[.map (some z),.int .i64 es]).run Tryz.prog W12=.ok (.tuple #[]) W13:=hde
          obtain⟨X13,HB13,I13⟩:=lefts_I GR.out I12 HB12 hm13 hk13
          rw [hW12]
          have NX:Hid (∃m,m<l.length-i∧RowAt I tb (z+1) z y (y+1) (y+1+1) l m W13):=Lib.hid ⟨_,by have:=HIL.out;omega,i+1,X13,_,_,_,rfl,I13,HB13,HL2.out,HGO2.out,by have:=HRN.out;simp;omega,HNI.out,HRW2.out,HV2.out⟩
          clear hW12 k12 HB12 I12 hde hm13 hk13 HB13 I13 hlk2 hlo2 t11 l11 d11
          gi_wp2
          go_roundw
          case rel=>obtain⟨m,_,h9⟩:=NX.out;exact⟨m,h9⟩
          case measure =>
           obtain⟨m,h8,h9⟩:=NX.out
           have h10:=least_le (P:=fun m=>RowAt I tb (z+1) z y (y+1) (y+1+1) l m W13) h9
           have h11:=HM.out
           omega
      case inr =>
       obtain⟨k,kv⟩:=x
       have hen:=run_entryR hcur
       have hen2:(Instr.entry (.pointer (some ⟨q,0,none⟩))).run Tryz.prog w3=.ok (.tuple #[.int .i64 k,kv]) w3:=hen
       have hnx2:(Instr.next (.pointer (some ⟨q,0,none⟩)) false 0).run Tryz.prog wr=.ok (.tuple #[.bool true,.int .i64 k,kv]) w3:=hnx
       have HRR3:=Lib.hid hrr3
       have HK3:=Lib.hid hk3
       have HX:=Lib.hid hx
       have k4:Kept (fun _=>False) w3 (w3.alloc (.cells #[.int .i64 k] 3)):=(Kept.refl _ _).alloc _
       have O3:=Lib.hid (owns_keep (owns_keep HOW.out hk3 (fun b hb h9=>HVQ.out (h9 ▸ hb))) k4 (fun _ _ h=>h))
       have LQ:=Lib.hid (SlAt.lit (E:=intE) (w:=w3) (t:=3) [k] #[.int .i64 k] rfl (by show 1≤maxLen;decide))
       have RL:Hid (done.length≤1000000):=Lib.hid (by
        have h1:=HPM.out.length_eq
        rw [List.length_append,List.length_map,List.length_map] at h1
        have h2:=left_len HL.out
        omega)
       have KA:=Lib.hid k4
       have HB5:Hid (q≤(w3.alloc (.cells #[.int .i64 k] 3)).heap.size):=Lib.hid (by have:=HRR3.out.lt;have:=k4.size;omega)
       have HOQ:Hid (wo.heap.size=q):=HQ
       rw [HQ.out] at O3
       clear hen hnx hrr hrr3 hcur hk3 hx k4 hrel
       gi_wp2_with (gi_at_builtin;(refine wpListIn_append_keeps intE rfl (.tmp 35) (.tmp 37) 45 rfl q 3 (.int .i64 0) 8 Tryz.underlying45 info_i rfl (by decide) rfl rfl O3.out LQ.out RL.out HB5.out ?_);(intro v4 w4 ho4 hg4))
       have NX:=Lib.hid (sites_next HK.out HQ.out HK3.out HRR3.out KA.out (by have:=HOW.out;rw [HQ.out] at this;exact this) ho4 hg4 HPM.out HX.out HVQ.out hzq)
       clear ho4 hg4
       go_roundw
       case rel=>obtain⟨m,_,h9⟩:=NX.out;exact⟨m,h9⟩
       case measure =>
        obtain⟨m,h8,h9⟩:=NX.out
        have h10:=least_le (P:=fun m=>SitesAt wo z q kk v4 m w4) h9
        have h11:=HM2.out
        omega
  case inr =>
   obtain⟨⟨ds,dq⟩,xv⟩:=x
   have hen:=run_entryR hcur
   have hen2:(Instr.entry (.pointer (some ⟨z+2,0,none⟩))).run Tryz.prog w3=.ok (.tuple #[.agg #[.int .i64 ds,.int .i64 dq],xv]) w3:=hen
   have hnx2:(Instr.next (.pointer (some ⟨z+2,0,none⟩)) false 0).run Tryz.prog wr=.ok (.tuple #[.bool true,.agg #[.int .i64 ds,.int .i64 dq],xv]) w3:=hnx
   have HRR3:=Lib.hid hrr3
   have HK3:=Lib.hid hk3
   have HX:=Lib.hid hx
   clear hen hnx hrr hrr3 hcur hk3 hx
   gi_upto_region 4 with fail
   have k4:Kept (fun _=>False) w3 (w3.alloc (.cells #[.int .i64 ds,.int .i64 dq] 29)):=(Kept.refl _ _).alloc _
   have bd:=Blk.new w3 29 #[.int .i64 ds,.int .i64 dq]
   obtain⟨zd,hzd⟩:∃zd,w3.heap.size=zd:=⟨_,rfl⟩
   obtain⟨W4,hW4⟩:∃W4,w3.alloc (.cells #[.int .i64 ds,.int .i64 dq] 29)=W4:=⟨_,rfl⟩
   rw [hW4] at k4 bd ⊢
   rw [hzd] at bd ⊢
   have hne:¬z+1=z+2:=by omega
   have d0:W4.cell? ⟨zd,0,none⟩=some (.int .i64 ds):=bd.cell' (i:=0) rfl
   have l4:W4.cell? ⟨z+1,0,none⟩=some (.map (some z)):=k4.cell ((HK3.out.blk hne HBL.out).cell' (i:=0) rfl)
   obtain⟨W5,hup,hm5,hk5⟩:=run_updateR (P:=Tryz.prog) (K:=intK) (k:=ds) Tryz.underlying168 ((HML.out.keep HK3.out (by omega)).keep k4 (fun h=>h)) (.int .i64 1)
   have hup2:(Instr.mapUpdate 168 (.map (some z)) (.int .i64 ds) (.int .i64 1)).run Tryz.prog W4=.ok () W5:=hup
   have NX:=Lib.hid (dots_next (lb:=z+1) HCL.out HK.out HK3.out k4 hk5 (by have:=HZ.out;omega) (by have:=HZ.out;omega) (by omega) (fun h9=>by have:=(RD.out _ _ _ H0.out).ops.map.mapK.lt;have:=HZ.out;omega) hne (by omega) HRR3.out HBL.out hm5 HND.out HVAL.out HX.out HSUB.out HHAS.out)
   clear hup hm5 hk5 k4 bd hW4 hzd hne hen2 hnx2
   gi_wp2
   go_roundw
   case rel=>obtain⟨m,_,h9⟩:=NX.out;exact⟨m,h9⟩
   case measure =>
    obtain⟨m,h8,h9⟩:=NX.out
    have h10:=least_le (P:=fun m=>DotsAt w mb (z+1) z (z+2) l m W5) h9
    have h11:=HM.out
    omega
end Go.Proofs.YtjohljmpcblpjaaGreatDoor.Pa
