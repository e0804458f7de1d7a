/- Span, by a range over shown. Span, by a range over shown: what may be asked for. Find, by a range over all. At, by a range over shown. Parts of the proof. -/
import Derived.Sort.QuietTacIn
import Derived.Test.YtjohljmpcblpjaaGreatDoorM28
import Derived.Test.YtjohljmpcblpjaaGreatDoorM27
set_option maxRecDepth 100000
set_option maxHeartbeats 4000000
namespace Go.Proofs.YtjohljmpcblpjaaGreatDoor.Tr
open Go.RowKit Go.Proofs.YtjohljmpcblpjaaGreatDoor.St Go.Shelf
attribute [local go_sem] Oper.semAt_some
variable {w W:World} {g:Nat} {ix n:Int} {L:List Nd} {A:ID→Nat} {S:ID→Rw} {mp:Option Nat}
end Go.Proofs.YtjohljmpcblpjaaGreatDoor.Tr
namespace Go.Proofs.YtjohljmpcblpjaaGreatDoor.Tr
open Go.RowKit Go.Proofs.YtjohljmpcblpjaaGreatDoor.St Go.Shelf
attribute [local go_sem] Oper.semAt_some
variable {w W:World} {g:Nat} {ix n:Int} {L:List Nd} {A:ID→Nat} {S:ID→Rw} {mp:Option Nat}
end Go.Proofs.YtjohljmpcblpjaaGreatDoor.Tr
namespace Go.Proofs.YtjohljmpcblpjaaGreatDoor.Tr
open Go.RowKit Go.Proofs.YtjohljmpcblpjaaGreatDoor.St Go.Shelf
attribute [local go_sem] Oper.semAt_some
end Go.Proofs.YtjohljmpcblpjaaGreatDoor.Tr
namespace Go.Proofs.YtjohljmpcblpjaaGreatDoor.Tr
open Go.RowKit Go.Proofs.YtjohljmpcblpjaaGreatDoor.St Go.Shelf
attribute [local go_sem] Oper.semAt_some
end Go.Proofs.YtjohljmpcblpjaaGreatDoor.Tr
namespace Go.Proofs.YtjohljmpcblpjaaGreatDoor.Tr
open Go.RowKit Go.Proofs.YtjohljmpcblpjaaGreatDoor.St Go.Proofs.YtjohljmpcblpjaaGreatDoor.Gl Go.Proofs.YtjohljmpcblpjaaGreatDoor
theorem insE_is0 {L:List Nd}{i ref:ID}{sz:Nat}{bad:Bool}{rs:List Int}(h1:i.Is∧(ref=ID.zero∨ref.Is)) (h2:sz≠0∧bad=false) (h3:i.t+rs.length-1≤2147483647) (h4:ref.lt i) (h5:ref=ID.zero∨ref∈ids L) (h6:¬ ∃m∈L,m.id.s=i.s∧i.t≤m.id.t∧m.id.t-i.t<rs.length):insE L i ref sz bad rs=0:=by
 have h7:¬hasAny L i rs.length:=fun h=>h6 ((hasAny_iff L i rs.length).1 h)
 unfold insE
 rw [if_neg (fun h=>h.elim (fun h=>h h1.1) fun h=>h1.2.elim h.1 h.2),if_neg (fun h=>h.elim h2.1 (fun h=>by rw [h2.2] at h;cases h)),if_neg (by omega),if_neg (fun h=>h h4),if_neg (fun h=>h5.elim h.1 h.2),if_neg h7]
def KT (w0:World) (g:Nat) (L:List Nd) (w:World):Prop:=Kept (fun _=>False) w0 w∧TBox w g L fun b=>w0.heap.size≤b
variable {w0 w w':World} {g:Nat} {L:List Nd}
theorem TBox.text {F:Nat→Prop}(h:TBox w g L F) (hlen:L.length≤900000):Calls Tryz.prog 54 #[.pointer (some ⟨g,0,none⟩)] w fun e w'=>e=.returned (.string ⟨(textB (shL L)).toArray⟩)∧Kept (fun _=>False) w w':=by
 obtain⟨A,S,mp,h1,_⟩:=h.at_
 exact text_any h1 h.doc hlen
/-! the very documents -/
def kn (t s rt rs r st:Int):Nd:=⟨⟨t,s⟩,⟨rt,rs⟩,r,st⟩
def k1:List Nd:=[kn 1 1 0 0 104 1,kn 2 1 1 1 233 1,kn 3 1 2 1 121 1]
def k2:List Nd:=[kn 1 1 0 0 104 1,kn 4 2 1 1 120 1,kn 2 1 1 1 233 1,kn 3 1 2 1 121 1]
def k3:List Nd:=[kn 1 1 0 0 104 1,kn 4 3 1 1 122 1,kn 4 2 1 1 120 1,kn 2 1 1 1 233 1,kn 3 1 2 1 121 1]
def k4:List Nd:=[kn 1 1 0 0 104 2,kn 4 3 1 1 122 1,kn 4 2 1 1 120 1,kn 2 1 1 1 233 2,kn 3 1 2 1 121 2]
def k5:List Nd:=[kn 1 1 0 0 104 2,kn 4 3 1 1 122 1,kn 4 2 1 1 120 1,kn 2 1 1 1 233 3,kn 3 1 2 1 121 3]
def k6:List Nd:=[kn 1 1 0 0 104 2,kn 4 3 1 1 122 1,kn 4 2 1 1 120 1]
theorem ktext:textB (shL k3)=[104,122,120,195,169,121]∧textB (shL k6)=[122,120]∧(shL k6).length=2∧k6.length=3:=by decide +kernel
end Go.Proofs.YtjohljmpcblpjaaGreatDoor.Tr
namespace Go.Proofs.YtjohljmpcblpjaaGreatDoor.Pa
open Go.RowKit Go.Proofs.YtjohljmpcblpjaaGreatDoor.St Go.Proofs.YtjohljmpcblpjaaGreatDoor Go.Proofs.YtjohljmpcblpjaaGreatDoor.Tr
noncomputable def docS (l:List Ent):List Nd:=if closedE l=0 then docP l else []
theorem doc_post {w w':World}{l:List Ent}{e:Ending}(h:DocPost w l e w') (htx:textN l≤900000) :
  (∃g:Option Nat,e=.returned (.tuple #[.pointer (g.map fun g=>⟨g,0,none⟩),.int .i64 (closedE l)])∧(g=none∧docS l=[]∨∃b F,g=some b∧TBox w' b (docS l) F∧(docS l).length≤900000∧∀x,F x→w.heap.size≤x))∧Kept (fun _=>False) w w':=by
 obtain⟨h1,h2⟩:=h
 refine⟨?_,h2⟩
 rcases h1 with ⟨hc,rfl⟩|⟨hc,g,F,rfl,hT,hF⟩
 ·exact⟨none,rfl,.inl ⟨rfl,by unfold docS;rw [if_neg hc]⟩⟩
 ·have e1:docS l=docP l:=by unfold docS;rw [if_pos hc]
  have h3:=docP_len (closed_is hc).1
  exact⟨some g,by rw [hc];rfl,.inr ⟨g,F,rfl,by rw [e1];exact hT,by rw [e1];omega,hF⟩⟩
theorem text_past {w:World}{lv:Value}{l:List Ent}(hl:SlAt entE w lv l) (hin:∀e∈l,OpIn w e) (hlen:l.length≤1000000) (hdl:∀e∈l,e.D.length≤1000000∧e.G.length≤1000000) (htx:textN l≤900000) :
  Calls Tryz.prog 17 #[lv] w fun e w'=>e=.returned (.tuple #[.string ⟨(textB (shL (docS l))).toArray⟩,.int .i64 (closedE l)])∧Kept (fun _=>False) w w':=by
 have DOC:=Lib.hid ((document_any hl hin hlen hdl htx).mono fun e w' h=>doc_post h htx)
 obtain⟨c,hc⟩:∃c,closedE l=c:=⟨_,rfl⟩
 obtain⟨D,hD⟩:∃D,docS l=D:=⟨_,rfl⟩
 rw [hc,hD] at DOC ⊢
 clear hl hin hdl hc hD
 go_enter Tryz.func17,Tryz.ntmps17
 go_upto_region 2 with (go_at_call 53;refine DOC.out.mono ?_;rintro e w1 ⟨⟨g,rfl,hg⟩,hk1⟩)
 have HK1:=Lib.hid hk1
 clear hk1
 rcases hg with ⟨rfl,hn⟩|⟨b,F,rfl,hT,hL,_⟩
 ·subst hn
  have TX:=Lib.hid (text_nil0 w1)
  go_wp2_with (go_at_call 54;refine TX.out.mono ?_;rintro e w2 ⟨rfl,hk2⟩)
  go_ret2
  exact⟨rfl,HK1.out.trans hk2 fun _ _ h=>h⟩
 ·have TX:=Lib.hid (hT.text hL)
  clear hT hL
  go_wp2_with (go_at_call 54;refine TX.out.mono ?_;rintro e w2 ⟨rfl,hk2⟩)
  go_ret2
  exact⟨rfl,HK1.out.trans hk2 fun _ _ h=>h⟩
structure Op0 where
 dot:Dot
 kind:Int
 id:ID
 ref:ID
 text:ByteArray
 site:Int
 D:List Dot
 G:List Run
def keyE (e:Ent):Op0:=⟨e.v.dot,e.v.kind,e.v.id,e.v.ref,e.v.text,e.v.site,e.D,e.G⟩
section
variable {α β:Type} {f:β→Dot} {D:β→List Dot} (k:α→β)
end
theorem mem_same {l m:List Ent}(h:l.map keyE=m.map keyE){e:Ent}(he:e∈l):∃x∈m,keyE x=keyE e:=by
 have h1:keyE e∈m.map keyE:=h ▸ List.mem_map_of_mem he
 obtain⟨x,hx,h2⟩:=List.mem_map.1 h1
 exact⟨x,hx,h2⟩
theorem dots_same {l m:List Ent}(h:l.map keyE=m.map keyE):l.map dotOf=m.map dotOf:=by
 have h1:=congrArg (List.map Op0.dot) h
 rw [List.map_map,List.map_map] at h1
 exact h1
theorem len_same {l m:List Ent}(h:l.map keyE=m.map keyE):l.length=m.length:=by
 have:=congrArg List.length h
 simpa using this
theorem op_same {e x:Ent}(h:keyE e=keyE x) (he:e.v.gone.n=e.G.length) (hx:x.v.gone.n=x.G.length):opOk e.v e.D e.G↔opOk x.v x.D x.G:=by
 unfold keyE at h
 injection h with h2 h3 h4 h5 h6 h7 h8 h9
 have hn:e.v.gone.n=x.v.gone.n:=by rw [he,hx,h9]
 unfold opOk rightOk insOk removeOk joinOk bareOk
 rw [h2,h3,h4,h5,h6,h7,h8,h9,hn]
theorem closed_same {l m:List Ent}(h:l.map keyE=m.map keyE) (hl:∀e∈l,e.v.gone.n=e.G.length) (hm:∀e∈m,e.v.gone.n=e.G.length):closedE l=closedE m:=by
 have h1:(∃e∈l,badE e)↔∃e∈m,badE e:=by
  constructor
  ·rintro⟨e,he,hb⟩
   obtain⟨x,hx,hk⟩:=mem_same h he
   exact⟨x,hx,fun h9=>hb ((op_same hk (hm x hx) (hl e he)).1 h9)⟩
  ·rintro⟨e,he,hb⟩
   obtain⟨x,hx,hk⟩:=mem_same h.symm he
   exact⟨x,hx,fun h9=>hb ((op_same hk (hl x hx) (hm e he)).1 h9)⟩
 have h2:=dots_same h
 have h3:(∃e∈l,¬wholeP (l.map dotOf) (depOf e))↔∃e∈m,¬wholeP (m.map dotOf) (depOf e):=by
  rw [h2]
  constructor
  ·rintro⟨e,he,hb⟩
   obtain⟨x,hx,hk⟩:=mem_same h he
   have hd:x.D=e.D:=congrArg Op0.D hk
   exact⟨x,hx,by unfold depOf at hb ⊢;rw [hd];exact hb⟩
  ·rintro⟨e,he,hb⟩
   obtain⟨x,hx,hk⟩:=mem_same h.symm he
   have hd:x.D=e.D:=congrArg Op0.D hk
   exact⟨x,hx,by unfold depOf at hb ⊢;rw [hd];exact hb⟩
 unfold closedE closedC
 by_cases k1:∃e∈l,badE e
 ·rw [if_pos k1,if_pos (h1.1 k1)]
 ·rw [if_neg k1,if_neg (fun h=>k1 (h1.2 h))]
  by_cases k2:(l.map dotOf).Nodup
  ·rw [if_neg (show ¬ ¬(l.map dotOf).Nodup from fun h=>h k2),if_neg (show ¬ ¬(m.map dotOf).Nodup from fun h=>h (h2 ▸ k2))]
   by_cases k3:∃e∈l,¬wholeP (l.map dotOf) (depOf e)
   ·rw [if_pos k3,if_pos (h3.1 k3)]
   ·rw [if_neg k3,if_neg (fun h=>k3 (h3.2 h))]
  ·rw [if_pos k2,if_pos (fun h=>k2 (h2 ▸ h))]
theorem gone_n {w:World}{e:Ent}(h:e.At w):e.v.gone.n=e.G.length:=by
 obtain⟨_,_,he,_⟩:=h.gone.sl
 injection he
end Go.Proofs.YtjohljmpcblpjaaGreatDoor.Pa
namespace Go.Proofs.YtjohljmpcblpjaaGreatDoor.Pa
open Go.RowKit Go.Proofs.YtjohljmpcblpjaaGreatDoor.St Go.Proofs.YtjohljmpcblpjaaGreatDoor
theorem SlAt.opdot {w:World}{v:Value}{L:List Ent}(h:SlAt entE w v L) (hn:0<L.length):∃g o c,v=.slice (some ⟨g,o,none⟩) L.length c∧∀(i:Nat) (x:Ent),L[i]?=some x→w.cell? ⟨g,o+i * 11,none⟩=some (.int .i64 x.v.dot.site)∧w.cell? ⟨g,o+i * 11+1,none⟩=some (.int .i64 x.v.dot.seq):=by
 obtain⟨g,o,c,rfl,_,_,_,hc⟩:=h.one hn
 exact⟨g,o,c,rfl,fun i x hx=>⟨hc i x hx 0 _ rfl,hc i x hx 1 _ rfl⟩⟩
theorem there_any {w:World}{lv:Value}{l:List Ent}(hl:SlAt entE w lv l) (d:Dot) (hlen:l.length≤1000000000) :
  Calls Tryz.prog 44 #[lv,.agg #[.int .i64 d.site,.int .i64 d.seq]] w fun e w'=>e=.returned (.bool (decide (d∈l.map dotOf)))∧Kept (fun _=>False) w w':=by
 obtain⟨la,lc,rfl,_,_⟩:=hl.sl
 have HL:=Lib.hid hl
 have k0:Kept (fun _=>False) w (w.alloc (.cells #[.int .i64 d.site,.int .i64 d.seq] 29)):=(Kept.refl _ _).alloc _
 have K0:=Lib.hid k0
 have B0:=Lib.hid (Blk.new w 29 #[.int .i64 d.site,.int .i64 d.seq])
 obtain⟨R,hR⟩:∃R,decide (d∈l.map dotOf)=R:=⟨_,rfl⟩
 rw [hR]
 have HR:=Lib.hid hR
 clear hl k0 hR
 go_enter Tryz.func44,Tryz.ntmps44
 go_upto_region 1 with fail
 obtain⟨W1,hW1⟩:∃W1,w.alloc (.cells #[.int .i64 d.site,.int .i64 d.seq] 29)=W1:=⟨_,rfl⟩
 obtain⟨z,hz⟩:∃z,w.heap.size=z:=⟨_,rfl⟩
 rw [hW1] at K0 B0 ⊢
 rw [hz] at B0 ⊢
 clear hW1 hz
 go_wp2_with fail
 go_loopw [5] (fun iv wr=>∃n:Nat,iv=.int .i64 n∧n≤l.length∧Kept (fun _=>False) W1 wr∧d∉(l.take n).map dotOf) (fun iv _=>l.length-(intOf iv).toNat)
 case atStart=>exact⟨0,rfl,Nat.zero_le _,Kept.refl _ _,fun h=>by simp at h⟩
 case round =>
  obtain⟨n,rfl,hn,hk,hno⟩:=hrel
  have hn0:(0:Int)≤n:=by omega
  have K1:=Lib.hid hk
  have NO:=Lib.hid hno
  clear hk hno
  by_cases hlt:n<l.length
  case neg =>
   have hnl:¬(n:Int)<l.length:=by omega
   have e9:decide (d∈l.map dotOf)=false:=decide_eq_false (by have h9:=NO.out;rwa [List.take_of_length_le (by omega)] at h9)
   obtain rfl:R=false:=HR.out.symm.trans e9
   clear e9
   go_wp2_with fail
   go_ret
   exact⟨rfl,K0.out.trans K1.out fun _ _ h=>h⟩
  case pos =>
   have hnl:(n:Int)<l.length:=by omega
   obtain⟨x,hx⟩:=get_of_lt hlt
   have hxm:=List.mem_of_getElem? hx
   obtain⟨lg,lo,lc',e2,hcs⟩:=SlAt.opdot (HL.out.kept (K0.out.trans K1.out fun _ _ h=>h)) (by omega)
   cases e2
   obtain⟨c0,c1⟩:=hcs n x hx
   have htk:l.take (n+1)=l.take n++[x]:=by rw [List.take_add_one,hx];rfl
   have e1:IntKind.i64.wrap ((n:Int)+1)=(n:Int)+1:=IntWalk.i64_in _ (by omega)
   have q0:=(K1.out.blk (fun h=>h) B0.out).cell' (i:=0) (v:=.int .i64 d.site) rfl
   have q1:=(K1.out.blk (fun h=>h) B0.out).cell' (i:=1) (v:=.int .i64 d.seq) rfl
   by_cases hd:x.v.dot=d
   case pos =>
    have e9:decide (d∈l.map dotOf)=true:=decide_eq_true (by rw [←hd];exact List.mem_map_of_mem (f:=dotOf) hxm)
    obtain rfl:R=true:=HR.out.symm.trans e9
    rw [hd] at c0 c1
    clear e9 hcs hx hxm htk hd
    go_upto_region 4 with fail
    go_region_held3 (fun W9:World=>W9.cell? ⟨lg,lo+n * 11,none⟩=some (.int .i64 d.site)∧W9.cell? ⟨lg,lo+n * 11+1,none⟩=some (.int .i64 d.seq)∧W9.cell? ⟨z,0,none⟩=some (.int .i64 d.site)∧W9.cell? ⟨z,1,none⟩=some (.int .i64 d.seq)) (first | exact⟨c0,c1,q0,q1⟩) (fail)
    all_goals go_wp2_with fail
    all_goals go_ret
    all_goals exact⟨rfl,(K0.out.trans K1.out fun _ _ h=>h).drew⟩
   case neg =>
    have NE:Hid (d∉(l.take (n+1)).map dotOf):=Lib.hid (by
     rw [htk,List.map_append]
     intro h9
     rcases List.mem_append.1 h9 with h9|h9
     ·exact NO.out h9
     ·exact hd (List.mem_singleton.1 h9).symm)
    obtain⟨xs,xq,hs,hq⟩:∃xs xq,x.v.dot.site=xs∧x.v.dot.seq=xq:=⟨_,_,rfl,rfl⟩
    have hne:¬(xs=d.site∧xq=d.seq):=fun h9=>hd (Dot.ext (hs.trans h9.1) (hq.trans h9.2))
    rw [hs] at c0
    rw [hq] at c1
    clear hcs hx hxm htk hd hs hq
    by_cases h1:xs=d.site
    ·have h2:¬xq=d.seq:=fun h9=>hne ⟨h1,h9⟩
     clear hne
     go_upto_region 4 with fail
     go_region_held3 (fun W9:World=>W9.cell? ⟨lg,lo+n * 11,none⟩=some (.int .i64 xs)∧W9.cell? ⟨lg,lo+n * 11+1,none⟩=some (.int .i64 xq)∧W9.cell? ⟨z,0,none⟩=some (.int .i64 d.site)∧W9.cell? ⟨z,1,none⟩=some (.int .i64 d.seq)) (first | exact⟨c0,c1,q0,q1⟩) (fail)
     all_goals
      go_wp2_with fail
      go_roundw
      case rel=>exact⟨n+1,by go_num,by omega,K1.out.drew,NE.out⟩
      case measure=>simp [intOf];omega
    ·clear hne
     go_upto_region 4 with fail
     go_region_held3 (fun W9:World=>W9.cell? ⟨lg,lo+n * 11,none⟩=some (.int .i64 xs)∧W9.cell? ⟨lg,lo+n * 11+1,none⟩=some (.int .i64 xq)∧W9.cell? ⟨z,0,none⟩=some (.int .i64 d.site)∧W9.cell? ⟨z,1,none⟩=some (.int .i64 d.seq)) (first | exact⟨c0,c1,q0,q1⟩) (fail)
     all_goals
      go_wp2_with fail
      go_roundw
      case rel=>exact⟨n+1,by go_num,by omega,K1.out.drew,NE.out⟩
      case measure=>simp [intOf];omega
end Go.Proofs.YtjohljmpcblpjaaGreatDoor.Pa
namespace Go.Proofs.YtjohljmpcblpjaaGreatDoor
open Go.RowKit Go.Proofs.YtjohljmpcblpjaaGreatDoor.St
theorem sayS_low {f:Nat→Int}{k:Nat}{q:Int}(h:¬f k<q):sayS f ⟨k,q⟩=f:=by
 funext i
 unfold sayS
 by_cases hi:(⟨k,q⟩:Dot).Ok∧(⟨k,q⟩:Dot).site=i
 ·rw [if_pos hi]
  have e:(k:Int)=i:=hi.2
  obtain rfl:k=i:=by omega
  exact if_neg h
 ·rw [if_neg hi]
theorem sayS_high {f:Nat→Int}{k:Nat}{q:Int}(h:(⟨k,q⟩:Dot).Ok) (hlt:f k<q):(cells f).setIfInBounds k (.int .i64 q)=cells (sayS f ⟨k,q⟩):=by
 rw [←says_cells h,if_pos hlt]
theorem rsays_grew {w:World}{v:Value}{L:List Dot}(h:SlAt dotE w v L) (hb:L.length≤1000000000):Calls Tryz.prog 75 #[v] w fun e w'=>e=.returned (.agg (cells (says L)))∧Grew w w':=by
 obtain⟨a,c,rfl,_,_⟩:=h.sl
 have HS:=Lib.hid h
 clear h
 go_enter Tryz.func75,Tryz.ntmps75
 go_wp2_with fail
 go_loopw [4] (fun iv wr=>∃n:Nat,iv=.int .i64 n∧n≤L.length∧Blk wr (w.heap.size+1) 130 (cells (says (L.take n)))∧Blk wr w.heap.size 130 (cells fun _=>0)∧Grew w wr) (fun iv _=>L.length-(intOf iv).toNat)
 case atStart =>
  refine⟨0,rfl,Nat.zero_le _,?_,(Blk.new _ _ _).alloc _,((Grew.refl _).alloc _).alloc _⟩
  have:=Blk.new (w.alloc (.cells (cells fun _=>0) 130)) 130 (cells fun _=>0)
  rw [show (w.alloc (.cells (cells fun _=>0) 130)).heap.size=w.heap.size+1 by simp] at this
  exact this
 case round =>
  obtain⟨n,rfl,hn,hs,hr,hk⟩:=hrel
  have hn0:(0:Int)≤n:=by omega
  by_cases hlt:n<L.length
  case neg =>
   have hnl:¬(n:Int)<L.length:=by omega
   rw [List.take_of_length_le (by omega)] at hs
   have HS':=Lib.hid hs
   have HR:=Lib.hid hr
   have x3:=Lib.hid (hk.setRow (g:=w.heap.size) (Nat.le_refl _) (cells (says L)))
   clear hs hr hk
   go_wp2_with (first
    | (refine wpList_load_row rfl 130 _ rfl (w.heap.size+1) rfl 130 _ (0,0) _ HS'.out Tryz.underlying130 rfl (by rw [cells_size];kernel_rfl) ?_)
    | (refine wpList_store_row rfl 130 _ _ rfl w.heap.size (cells (says L)) rfl rfl 130 _ HR.out (by rw [cells_size];kernel_rfl) (by rw [cells_size,cells_size]) (cells_one _) ?_))
   exact bodyPost_ret (Blk.result rfl _ (HR.out.row _) rfl Tryz.underlying130 rfl (by rw [cells_size];kernel_rfl)) rfl ⟨rfl,x3.out⟩
  case pos =>
   have hltI:(n:Int)<L.length:=by omega
   obtain⟨d,hd⟩:=get_of_lt hlt
   obtain⟨g,o,c',hv,hg,hc⟩:=SlAt.dot (HS.out.kept hk.kept) (by omega)
   cases hv
   obtain⟨c0,c1⟩:=hc n d hd
   have hsay:=Lib.hid (says_take hd)
   generalize says (L.take n)=f at *
   obtain⟨ds,dq⟩:=d
   simp only at c0 c1
   have K0:=Lib.hid (hk.alloc (.cells #[.int .i64 ds,.int .i64 dq] 29))
   have FS:=Lib.hid (hs.alloc (.cells #[.int .i64 ds,.int .i64 dq] 29))
   have FR:=Lib.hid (hr.alloc (.cells #[.int .i64 ds,.int .i64 dq] 29))
   have BX:=Blk.new wr 29 #[.int .i64 ds,.int .i64 dq]
   have x0:(wr.alloc (.cells #[.int .i64 ds,.int .i64 dq] 29)).cell? ⟨wr.heap.size,0,none⟩=some (.int .i64 ds):=BX.cell' (i:=0) rfl
   have x1:(wr.alloc (.cells #[.int .i64 ds,.int .i64 dq] 29)).cell? ⟨wr.heap.size,1,none⟩=some (.int .i64 dq):=BX.cell' (i:=1) rfl
   clear hc hd hs hr hk BX
   by_cases hok:(⟨ds,dq⟩:Dot).Ok
   case neg =>
    have S1:Hid (says (L.take (n+1))=f):=Lib.hid (by rw [hsay.out,sayS_none hok])
    clear hsay
    by_cases h1:1≤ds
    by_cases h2:ds≤16
    by_cases h3:1≤dq
    by_cases h4:dq≤2147483647
    ·exact absurd ⟨h1,h2,h3,h4⟩ hok
    all_goals
     clear hok
     try (have e1:=decide_eq_true h1)
     try (have e2:=decide_eq_true h2)
     try (have e3:=decide_eq_true h3)
     try (have e1:=decide_eq_false h1)
     try (have e2:=decide_eq_false h2)
     try (have e3:=decide_eq_false h3)
     try (have e4:=decide_eq_false h4)
     go_wp2_with fail
     go_region
     go_wp2_with fail
     go_roundw
     focus
      exact⟨n+1,by go_num,by omega,by rw [S1.out];exact FS.out.drewN 1,FR.out.drewN 1,K0.out.drewN 1⟩
     focus
      simp [intOf] <;> omega
   case pos =>
    have hok':=hok
    unfold Dot.Ok at hok'
    simp only at hok'
    obtain⟨k,rfl⟩:∃k:Nat,ds=k:=⟨ds.toNat,by omega⟩
    have h1:=hok'.1
    have h2:=hok'.2.1
    have h3:=hok'.2.2.1
    have h4:=hok'.2.2.2
    have hkl:k<17:=by omega
    have hkI:(k:Int)<17:=by omega
    have hk0:(0:Int)≤k:=by omega
    have s0:=FS.out.cell' (cells_get f hkl)
    have fz:=FS.out.frozen k
    have OK:=Lib.hid hok
    clear hok' hok
    by_cases h5:f k<dq
    ·have S1:=Lib.hid (sayS_high OK.out h5)
     go_wp2_with fail
     have hsz:=FS.out.lt
     go_region
     go_wp2_with fail
     go_roundw
     case rel =>
      refine⟨n+1,by go_num,by omega,?_,(FR.out.far (by show w.heap.size≠w.heap.size+1;omega) _).drewN 1,(K0.out.setCell (by show w.heap.size≤w.heap.size+1;omega) _).drewN 1⟩
      rw [hsay.out,←S1.out]
      exact (FS.out.set_ k _).drewN 1
     case measure=>simp [intOf] <;> omega
    ·have S1:Hid (says (L.take (n+1))=f):=Lib.hid (by rw [hsay.out,sayS_low h5])
     clear hsay
     go_wp2_with fail
     go_region
     go_wp2_with fail
     go_roundw
     case rel=>exact⟨n+1,by go_num,by omega,by rw [S1.out];exact FS.out.drewN 1,FR.out.drewN 1,K0.out.drewN 1⟩
     case measure=>simp [intOf] <;> omega
theorem rsays_any {w:World}{v:Value}{L:List Dot}(h:SlAt dotE w v L) (hb:L.length≤1000000000):Calls Tryz.prog 75 #[v] w fun e w'=>e=.returned (.agg (cells (says L)))∧Kept (fun _=>False) w w':=(rsays_grew h hb).mono fun _ _ ⟨he,hg⟩=>⟨he,hg.kept⟩
theorem run_index_row (f:Nat→Int){n:Nat}(h:n<17) (w:World):(Instr.index 130 (.agg (cells f)) (.int .i64 n)).run Tryz.prog w=.ok (.int .i64 (f n)) w:=by
 have h1:=cells_get f h
 have hI:(n:Int)<17:=by omega
 simp [Instr.index,asIntOf,run_underlying Tryz.underlying130,part,isAgg,run_underlying Tryz.underlying3,Tryz.sizeOf3,h,h1,go_sem]
theorem rget_grew {w:World}{v:Value}{L:List Dot}(h:SlAt dotE w v L) (hb:L.length≤1000000000) (s:Int):Calls Tryz.prog 81 #[v,.int .i64 s] w fun e w'=>e=.returned (.int .i64 (getV L s))∧Grew w w':=by
 have ho:=rsays_grew h hb
 unfold getV
 by_cases hi:isSite s
 ·rw [if_pos hi]
  unfold isSite at hi
  obtain⟨k,rfl⟩:∃k:Nat,s=k:=⟨s.toNat,by omega⟩
  have h1:=hi.1
  have h2:=hi.2
  have hix:=run_index_row (says L) (n:=k) (by omega)
  rw [Int.toNat_natCast]
  clear hi
  go_enter Tryz.func81,Tryz.ntmps81
  go_wp2_with (go_at_call 75;refine ho.mono ?_;rintro e w1 ⟨rfl,hk1⟩)
  go_ret
  exact⟨rfl,hk1⟩
 ·rw [if_neg hi]
  by_cases h1:1≤s
  ·have h2:¬s≤16:=fun h=>hi ⟨h1,h⟩
   clear hi
   go_enter Tryz.func81,Tryz.ntmps81
   go_wp2_with fail
   go_ret
   exact⟨rfl,Grew.refl _⟩
  ·clear hi
   go_enter Tryz.func81,Tryz.ntmps81
   go_wp2_with fail
   go_ret
   exact⟨rfl,Grew.refl _⟩
theorem vecOf_from1 {f:Nat→Int}(h0:¬0<f 0):vecOf f 1=[]:=by
 rw [vecOf_succ,if_neg h0];rfl
theorem rof_any (f:Nat→Int) (h0:¬0<f 0) (w:World):Calls Tryz.prog 76 #[.agg (cells f)] w fun e w'=>∃v',e=.returned v'∧w'.ownsRow w.heap.size 29 2 v' (vecOf f 17).length (dotE.flat (vecOf f 17))∧Kept (fun _=>False) w w':=by
 have B0:=Lib.hid (Blk.new w 130 (cells f))
 have K0:Hid (Kept (fun _=>False) w (w.alloc (.cells (cells f) 130))):=Lib.hid ((Kept.refl _ _).alloc _)
 have V1:=Lib.hid (vecOf_from1 h0)
 clear h0
 go_enter Tryz.func76,Tryz.ntmps76
 go_wp2_with fail
 go_loopw [3,4] (fun vv iv wr=>∃n:Nat,iv=.int .i64 n∧1≤n∧n≤17∧wr.ownsRow w.heap.size 29 dotE.k vv (vecOf f n).length (dotE.flat (vecOf f n))∧Blk wr w.heap.size 130 (cells f)∧Kept (fun _=>False) w wr) (fun _ iv _=>17-(intOf iv).toNat)
 case atStart=>exact⟨1,rfl,by decide,by decide,by rw [V1.out];exact World.ownsRow_nil _ _ _ _,B0.out,K0.out⟩
 case round =>
  clear B0 K0
  obtain⟨n,rfl,hn1,hn,ho,hb,hk⟩:=hrel
  have hn0:(0:Int)≤n:=by omega
  by_cases hlt:n<17
  case neg =>
   obtain rfl:n=17:=by omega
   have HO:=Lib.hid ho
   clear ho
   go_wp2_with fail
   go_ret
   exact⟨_,rfl,HO.out,hk⟩
  case pos =>
   have hI:(n:Int)<17:=by omega
   have hI2:(n:Int)≤16:=by omega
   have c0:=hb.cell' (cells_get f hlt)
   have hs:=vecOf_succ f n
   have hl:=vecOf_len f n
   by_cases hp:0<f n
   case neg =>
    rw [if_neg hp] at hs
    have HO:=Lib.hid ho
    have HS:=Lib.hid hs
    have HB:=Lib.hid hb
    clear ho hs hl hb
    go_wp2_with fail
    go_roundw
    case rel=>exact⟨n+1,by go_num,by omega,by omega,by rw [HS.out];exact HO.out,HB.out,hk⟩
    case measure=>simp [intOf] <;> omega
   case pos =>
    rw [if_pos hp] at hs
    generalize vecOf f n=V at *
    have HO:=Lib.hid (show (wr.alloc (.cells #[.int .i64 n,.int .i64 (f n)] 29)).ownsRow w.heap.size 29 dotE.k _ V.length (dotE.flat V) from ho.alloc _)
    have HS:=Lib.hid hs
    have HK:=Lib.hid (hk.alloc (.cells #[.int .i64 n,.int .i64 (f n)] 29))
    have HB:=Lib.hid (hb.alloc (.cells #[.int .i64 n,.int .i64 (f n)] 29))
    have NE:=Lib.hid (own_blk_ne ho hb (of_decide_eq_true (by kernel_rfl)))
    have LD:=Lib.hid (lit_dot wr n (f n))
    have hsz:=Lib.hid (hk.size)
    have NW:=Lib.hid (owns_new ho)
    clear ho hs hk hb
    go_wp2_with (at_builtin;(refine wpList_append_row dotE rfl (.tmp 13) (.tmp 19) 24 rfl w.heap.size 29 (.agg #[.int .i64 0,.int .i64 0]) 16 Tryz.underlying24 info_dot rfl rfl rfl HO.out LD.out (by unfold maxLen;simp;omega) (by simp;omega) (by have:=hsz.out;simp;omega) ?_);(intro v2 w2 ho2 hk2;have K2:Hid (Kept (fun _=>False) w w2):=Lib.hid (HK.out.trans hk2 (fun b hb e=>by have:=NW.out b e;omega));have B2:=Lib.hid (hk2.blk (fun e=>NE.out e) HB.out);have O2:=Lib.hid ho2;clear hk2 ho2))
    go_roundw
    case rel=>exact⟨n+1,by go_num,by omega,by omega,by rw [HS.out];exact O2.out,B2.out,K2.out⟩
    case measure=>simp [intOf] <;> omega
end Go.Proofs.YtjohljmpcblpjaaGreatDoor
