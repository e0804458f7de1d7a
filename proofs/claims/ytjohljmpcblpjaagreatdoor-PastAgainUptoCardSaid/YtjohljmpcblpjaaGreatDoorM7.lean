/- glyph.Count and BadAt. Runs: why they are none; which identifiers they have. Plain laws. The document's Compare and After; stamp.last. Parts of the proof. -/
import Derived.Test.YtjohljmpcblpjaaGreatDoorM6
import Derived.Shelf.SlSortCmp.NoneTotal
import Derived.Maps.AppendAt
set_option maxRecDepth 100000
set_option maxHeartbeats 4000000
namespace Go.Proofs.YtjohljmpcblpjaaGreatDoor
open Go.RowKit Go.Proofs.YtjohljmpcblpjaaGreatDoor.Gl
namespace Gl
def stepW (s:ByteArray) (i:Nat):Nat:=if runeW s i=0 then 1 else runeW s i
theorem stepW_pos (s:ByteArray) (i:Nat):1≤stepW s i:=by unfold stepW;split <;> omega
theorem stepW_in {s:ByteArray}{i:Nat}(h:i<s.size):i+stepW s i≤s.size:=by
 unfold stepW
 split
 ·omega
 ·rename_i hn
  unfold runeW at hn ⊢
  split
  ·omega
  ·rename_i h1
   rw [if_neg h1] at hn
   split
   ·rename_i h2
    rw [if_pos h2] at hn
    exact absurd rfl hn
   ·rename_i h2
    rw [if_neg h2] at hn
    split
    ·rename_i h3
     unfold inB at h3
     unfold tailN at h3 ⊢
     split
     ·omega
     ·split
      ·rename_i h4 h5
       have:=(h3.2.1 (by rw [if_neg h4,if_pos h5];omega)).1
       omega
      ·rename_i h4 h5
       have:=(h3.2.2 (by rw [if_neg h4,if_neg h5];omega)).1
       omega
    ·rename_i h3
     rw [if_neg h3] at hn
     exact absurd rfl hn
def startsN (s:ByteArray):Nat→Nat→List Nat
 | 0,_=>[]
 | n+1,i=>if i<s.size then i::startsN s n (i+stepW s i) else []
theorem startsN_same (s:ByteArray):∀(n m i:Nat),s.size-i≤n→s.size-i≤m→startsN s n i=startsN s m i
 | 0,m,i,h,_=>by
  have hi:¬i<s.size:=by omega
  cases m with
  | zero=>rfl
  | succ m=>simp [startsN,hi]
 | n+1,0,i,_,h=>by
  have hi:¬i<s.size:=by omega
  simp [startsN,hi]
 | n+1,m+1,i,h1,h2=>by
  unfold startsN
  split
  ·have:=stepW_pos s i
   rw [startsN_same s n m (i+stepW s i) (by omega) (by omega)]
  ·rfl
def pieces (s:ByteArray) (i:Nat):List Nat:=startsN s (s.size-i) i
theorem pieces_end {s:ByteArray}{i:Nat}(h:¬i<s.size):pieces s i=[]:=by
 unfold pieces
 rw [show s.size-i=0 by omega]
 rfl
theorem pieces_next {s:ByteArray}{i:Nat}(h:i<s.size):pieces s i=i::pieces s (i+stepW s i):=by
 unfold pieces
 rw [show s.size-i=(s.size-i-1)+1 by omega]
 unfold startsN
 rw [if_pos h]
 have:=stepW_pos s i
 rw [startsN_same s (s.size-i-1) (s.size-(i+stepW s i)) _ (by omega) (by omega)]
 cases hh:s.size-(i+stepW s i) with
 | zero=>rfl
 | succ n=>rfl
def countR (s:ByteArray):Nat:=(pieces s 0).length
theorem pieces_len (s:ByteArray) (n:Nat):∀i:Nat,s.size-i≤n→(pieces s i).length≤s.size-i:=by
 induction n with
 | zero =>
  intro i hn
  rw [pieces_end (by omega)]
  exact Nat.zero_le _
 | succ n ih =>
  intro i hn
  by_cases h:i<s.size
  ·have h1:=stepW_pos s i
   have:=ih (i+stepW s i) (by omega)
   rw [pieces_next h,List.length_cons]
   omega
  ·rw [pieces_end h];exact Nat.zero_le _
theorem countR_le (s:ByteArray):countR s≤s.size:=by
 have:=pieces_len s s.size 0 (by omega)
 unfold countR
 omega
def badFrom (s:ByteArray) (i:Nat):Int:=match (pieces s i).find? (fun j=>decide (runeW s j=0)) with
 | some j=>j
 | none=>-1
theorem badFrom_end {s:ByteArray}{i:Nat}(h:¬i<s.size):badFrom s i=-1:=by unfold badFrom;rw [pieces_end h];rfl
theorem badFrom_bad {s:ByteArray}{i:Nat}(h:i<s.size) (hb:runeW s i=0):badFrom s i=i:=by
 unfold badFrom
 rw [pieces_next h,List.find?_cons_of_pos (by simpa using hb)]
theorem badFrom_good {s:ByteArray}{i:Nat}(h:i<s.size) (hb:runeW s i≠0):badFrom s i=badFrom s (i+stepW s i):=by
 unfold badFrom
 rw [pieces_next h,List.find?_cons_of_neg (by simpa using hb)]
end Gl
theorem iter_kept (w:World) (s:ByteArray) (p:Nat):Kept (fun _=>False) w (w.iter s p):=(Kept.refl _ _).alloc _
theorem count_any (s:ByteArray) (hs:s.size≤maxLen) (w:World):Calls Tryz.prog 127 #[.string s] w fun e w'=>e=.returned (.int .i64 (countR s))∧∃p,w'=w.iter s p:=by
 unfold maxLen at hs
 have hcl:=countR_le s
 go_enter Tryz.func127,Tryz.ntmps127
 go_wp2_with fail
 go_loopw [3] (fun nv wr=>∃(k i:Nat),nv=.int .i64 k∧i≤s.size∧wr=w.iter s i∧k+(pieces s i).length=countR s) (fun nv _=>countR s-(intOf nv).toNat)
 case atStart=>exact⟨0,0,rfl,Nat.zero_le _,rfl,by unfold countR;omega⟩
 case round =>
  obtain⟨k,i,rfl,hi,rfl,hk⟩:=hrel
  by_cases hlt:i<s.size
  ·have hnx:=fun ty=>run_next_any (P:=Tryz.prog) w s i ty hlt
   have hd:=decode_runeW s i
   have hst:(Utf8.decode s i).2=stepW s i:=hd.1
   have hin:=stepW_in hlt
   rw [pieces_next hlt,List.length_cons] at hk
   have HK:=Lib.hid hk
   rw [hst] at hnx
   have hkl:k+1≤s.size:=by omega
   have hk0:(0:Int)≤k:=by omega
   generalize (Utf8.decode s i).1=r at *
   clear hd hst hk
   go_wp2_with fail
   go_roundw
   case rel=>exact⟨k+1,i+stepW s i,by go_num,hin,rfl,by have:=HK.out;omega⟩
   case measure=>have:=HK.out;simp [intOf];omega
  ·obtain rfl:i=s.size:=by omega
   have hnx:=fun ty=>run_next_end (P:=Tryz.prog) w s s.size ty hlt
   rw [pieces_end hlt] at hk
   have HK:=Lib.hid (show k=countR s from hk)
   clear hk
   go_wp2_with fail
   go_ret
   exact⟨by rw [HK.out];rfl,_,rfl⟩
theorem width_from (s:ByteArray) (i:Nat) (h:i<s.size) (hs:s.size≤maxLen){n:Nat}(hn:runeW s i=n) (w:World):Calls Tryz.prog 154 #[.string (s.extract i s.size)] w fun e w'=>e=.returned (.int .i64 n)∧w'=w:=by
 have:=width_any (s.extract i s.size) (by simp;omega) (by simp;omega) w
 rw [runeW_extract s i (by omega),hn] at this
 exact this
theorem badAt_any (s:ByteArray) (hs:s.size≤maxLen) (w:World):Calls Tryz.prog 126 #[.string s] w fun e w'=>e=.returned (.int .i64 (badFrom s 0))∧∃p,w'=w.iter s p:=by
 have hs2:=hs
 unfold maxLen at hs
 go_enter Tryz.func126,Tryz.ntmps126
 go_wp2_with fail
 go_loopw [3] (fun _ wr=>∃i:Nat,i≤s.size∧wr=w.iter s i∧badFrom s 0=badFrom s i) (fun _ wr=>s.size-wr.iterPos w.heap.size)
 case atStart=>exact⟨0,Nat.zero_le _,rfl,rfl⟩
 case round =>
  obtain⟨i,hi,rfl,hb⟩:=hrel
  have HB:=Lib.hid hb
  clear hb
  by_cases hlt:i<s.size
  case neg =>
   obtain rfl:i=s.size:=by omega
   have hnx:=fun ty=>run_next_end (P:=Tryz.prog) w s s.size ty hlt
   have HE:=Lib.hid (badFrom_end hlt)
   go_wp2_with fail
   go_ret
   exact⟨by rw [HB.out,HE.out];rfl,_,rfl⟩
  case pos =>
   have hnx:=fun ty=>run_next_any (P:=Tryz.prog) w s i ty hlt
   have hd:=decode_runeW s i
   have hst:(Utf8.decode s i).2=stepW s i:=hd.1
   have hin:=stepW_in hlt
   have hsp:=stepW_pos s i
   have hltI:(i:Int)<s.size:=by omega
   have hleI:(i:Int)≤s.size:=by omega
   have hi0:(0:Int)≤i:=by omega
   rw [hst] at hnx
   by_cases h0:runeW s i=0
   case pos =>
    have hr:=hd.2 h0
    rw [hr] at hnx
    have HE:=Lib.hid (badFrom_bad hlt h0)
    have HF:=Lib.hid (fun (w':World)=>width_from s i hlt hs2 h0 w')
    clear hd hst hr h0 hsp hin
    go_wp2_with (go_at_call 154;refine (HF.out _).mono ?_;rintro e w' ⟨rfl,rfl⟩)
    go_ret
    exact⟨by rw [HB.out,HE.out];rfl,_,rfl⟩
   case neg =>
    have HE:=Lib.hid (badFrom_good hlt h0)
    by_cases h1:(Utf8.decode s i).1=65533
    ·rw [h1] at hnx
     obtain⟨n,hn⟩:∃n,runeW s i=n:=⟨_,rfl⟩
     have hnb:((n:Int) == 0)=false:=beq_eq_false_iff_ne.2 (by omega)
     have HF:=Lib.hid (fun (w':World)=>width_from s i hlt hs2 hn w')
     clear hd hst h1 hn h0
     go_wp2_with (go_at_call 154;refine (HF.out _).mono ?_;rintro e w' ⟨rfl,rfl⟩)
     go_roundw
     case rel=>exact⟨i+stepW s i,hin,rfl,by rw [HB.out,HE.out]⟩
     case measure=>simp;omega
    ·generalize (Utf8.decode s i).1=r at *
     have hrb:((r:Int) == 65533)=false:=beq_eq_false_iff_ne.2 (by omega)
     clear hd hst h1 h0
     go_wp2_with fail
     go_roundw
     case rel=>exact⟨i+stepW s i,hin,rfl,by rw [HB.out,HE.out]⟩
     case measure=>simp;omega
end Go.Proofs.YtjohljmpcblpjaaGreatDoor
namespace Go.Proofs.YtjohljmpcblpjaaGreatDoor.St
def Run.Ok (r:Run):Prop:=1≤r.c∧r.id.Is∧r.c-1≤2147483647-r.id.t
instance Run.decOk (r:Run):Decidable r.Ok:=by unfold Run.Ok;infer_instance
def Run.last (r:Run):ID:=if r.c<1 then ID.zero else r.id.after (r.c-1)
theorem last_ok {r:Run}(h:r.Ok):r.last=⟨r.id.t+r.c-1,r.id.s⟩:=by
 unfold Run.Ok at h
 unfold Run.last ID.after
 rw [if_neg (by omega),if_pos ⟨h.2.1,by omega,h.2.2⟩,ID.ext_iff]
 exact⟨by show r.id.t+(r.c-1)=r.id.t+r.c-1;omega,rfl⟩
theorem last_zero {r:Run}:r.last=ID.zero↔¬r.Ok:=by
 constructor
 ·intro h hok
  rw [last_ok hok] at h
  have h1:=congrArg ID.s h
  have h2:=hok.2.1
  unfold ID.Is at h2
  simp only [ID.zero] at h1
  omega
 ·intro h
  unfold Run.last
  split
  ·rfl
  ·rename_i hc
   unfold ID.after
   rw [if_neg]
   rintro⟨h1,h2,h3⟩
   exact h ⟨by omega,h1,h3⟩
def why (pre:List Run) (x:Run):Int :=
 if ¬x.Ok then 1 else if ∃p,pre.getLast?=some p∧¬p.id.lt x.id then 9 else if ∃p∈pre,p.id.s=x.id.s∧x.id.t≤p.id.t+p.c then 6 else 0
def Good (l:List Run):Prop:=∀(n:Nat) (x:Run),l[n]?=some x→why (l.take n) x=0
def CheckIs (l:List Run) (e:Int):Prop:=(e=0∧Good l)∨∃(n:Nat) (x:Run),l[n]?=some x∧Good (l.take n)∧why (l.take n) x=e∧e≠0
theorem good_take {l:List Run}{n:Nat}:Good (l.take n)↔∀(j:Nat) (x:Run),j<n→l[j]?=some x→why (l.take j) x=0:=by
 unfold Good
 constructor
 ·intro h j x hj hx
  have:=h j x (by rw [List.getElem?_take,if_pos hj];exact hx)
  rwa [List.take_take,Nat.min_eq_left (Nat.le_of_lt hj)] at this
 ·intro h j x hx
  rw [List.getElem?_take] at hx
  split at hx
  ·rename_i hj
   rw [List.take_take,Nat.min_eq_left (Nat.le_of_lt hj)]
   exact h j x hj hx
  ·cases hx
theorem good_all {l:List Run}(h:Good l) (n:Nat):Good (l.take n):=good_take.2 fun j x _ hx=>h j x hx
theorem good_snoc {l:List Run}{x:Run}:Good (l++[x])↔Good l∧why l x=0:=by
 constructor
 ·intro h
  constructor
  ·have:=good_all h l.length
   rwa [List.take_left] at this
  ·have:=h l.length x (by simp)
   rwa [List.take_left] at this
 ·rintro⟨h1,h2⟩ n y hy
  by_cases hn:n<l.length
  ·rw [List.getElem?_append_left hn] at hy
   rw [List.take_append_of_le_length (by omega)]
   exact h1 n y hy
  ·have hl:=(List.getElem?_eq_some_iff.1 hy).1
   simp at hl
   obtain rfl:n=l.length:=by omega
   simp at hy
   subst hy
   rw [List.take_left]
   exact h2
theorem CheckIs.unique {l:List Run}{e f:Int}(h:CheckIs l e) (h':CheckIs l f):e=f:=by
 rcases h with ⟨rfl,h⟩|⟨n,x,h1,h2,h3,h4⟩ <;> rcases h' with ⟨rfl,h'⟩|⟨m,y,g1,g2,g3,g4⟩
 ·rfl
 ·exact absurd (g3.symm.trans (h m y g1)) g4
 ·exact absurd (h3.symm.trans (h' n x h1)) h4
 ·rcases Nat.lt_trichotomy n m with hl | rfl | hl
  ·exact absurd (h3.symm.trans (good_take.1 g2 n x hl h1)) h4
  ·rw [h1] at g1;cases g1;exact h3.symm.trans g3
  ·exact absurd (g3.symm.trans (good_take.1 h2 m y hl g1)) g4
theorem why_ok {pre:List Run}{x:Run}(h:why pre x=0):x.Ok∧(∀p,pre.getLast?=some p→p.id.lt x.id)∧∀p∈pre,p.id.s=x.id.s→p.id.t+p.c<x.id.t:=by
 unfold why at h
 split at h
 ·cases h
 ·split at h
  ·cases h
  ·split at h
   ·cases h
   ·rename_i h1 h2 h3
    refine⟨by simpa using h1,fun p hp=>?_,fun p hp hs=>?_⟩
    ·by_cases hl:p.id.lt x.id
     ·exact hl
     ·exact absurd ⟨p,hp,hl⟩ h2
    ·by_cases hl:p.id.t+p.c<x.id.t
     ·exact hl
     ·exact absurd ⟨p,hp,hs,by omega⟩ h3
theorem snocR {P:List Run→Prop}(h0:P []) (h1:∀l x,P l→P (l++[x])) (l:List Run):P l:=by
 have : ∀n (l:List Run),l.length=n→P l:=fun n=>by
  induction n with
  | zero=>intro l hl;rw [List.length_eq_zero_iff.1 hl];exact h0
  | succ n ih =>
   intro l hl
   have hne:l≠[]:=by rintro rfl;simp at hl
   rw [←List.dropLast_concat_getLast hne]
   exact h1 _ _ (ih _ (by simp [hl]))
 exact this _ l rfl
theorem Good.ok {l:List Run}(h:Good l):∀r∈l,r.Ok:=fun r hr=>by
 obtain⟨n,hn⟩:=List.getElem?_of_mem hr
 exact (why_ok (h n r hn)).1
def lastOf (l:List Run) (s:Int):Option Run:=(l.filter fun r=>decide (r.id.s=s)).getLast?
theorem lastOf_snoc (l:List Run) (x:Run) (s:Int):lastOf (l++[x]) s=if x.id.s=s then some x else lastOf l s:=by
 unfold lastOf
 rw [List.filter_append]
 by_cases h:x.id.s=s
 ·rw [if_pos h];simp [h]
 ·rw [if_neg h];simp [h]
theorem lastOf_mem {l:List Run}{s:Int}{r:Run}(h:lastOf l s=some r):r∈l∧r.id.s=s:=by
 have:=List.mem_of_getLast? h
 rw [List.mem_filter] at this
 exact⟨this.1,by simpa using this.2⟩
theorem lastOf_none {l:List Run}{s:Int}(h:lastOf l s=none):∀p∈l,p.id.s≠s:=by
 unfold lastOf at h
 rw [List.getLast?_eq_none_iff,List.filter_eq_nil_iff] at h
 intro p hp e
 exact h p hp (by simpa using e)
theorem lastOf_max {l:List Run}(hg:Good l){s:Int}{r:Run}(h:lastOf l s=some r):∀p∈l,p.id.s=s→p.id.t+p.c≤r.id.t+r.c:=by
 induction l using snocR generalizing r with
 | h0=>intro p hp;cases hp
 | h1 l x ih =>
  obtain⟨g1,g2⟩:=good_snoc.1 hg
  obtain⟨w1,w2,w3⟩:=why_ok g2
  rw [lastOf_snoc] at h
  intro p hp hs
  split at h
  ·rename_i hx
   cases h
   rcases List.mem_append.1 hp with hp|hp
   ·have:=w3 p hp (hs.trans hx.symm)
    have:=w1.1
    omega
   ·simp only [List.mem_cons,List.not_mem_nil,or_false] at hp
    subst hp;exact Int.le_refl _
  ·rename_i hx
   rcases List.mem_append.1 hp with hp|hp
   ·exact ih g1 h p hp hs
   ·simp only [List.mem_cons,List.not_mem_nil,or_false] at hp
    subst hp;exact absurd hs hx
theorem form_iff {l:List Run}(hg:Good l) (x:Run):(∃p∈l,p.id.s=x.id.s∧x.id.t≤p.id.t+p.c)↔∃r,lastOf l x.id.s=some r∧x.id.t≤r.id.t+r.c:=by
 constructor
 ·rintro⟨p,hp,hs,ht⟩
  cases h:lastOf l x.id.s with
  | none=>exact absurd hs (lastOf_none h p hp)
  | some r=>exact⟨r,rfl,by have:=lastOf_max hg h p hp hs;omega⟩
 ·rintro⟨r,hr,ht⟩
  exact⟨r,(lastOf_mem hr).1,(lastOf_mem hr).2,ht⟩
def Run.has (r:Run) (x:ID):Bool:=decide (r.id.s=x.s∧r.id.t≤x.t∧x.t≤r.last.t)
theorem CheckIs.good {l:List Run}{e:Int}(h:CheckIs l e):Good l↔e=0:=by
 constructor
 ·intro hg;exact h.unique (.inl ⟨rfl,hg⟩)
 ·rintro rfl
  rcases h with ⟨_,h⟩|⟨n,x,_,_,_,h⟩
  ·exact h
  ·exact absurd rfl h
end Go.Proofs.YtjohljmpcblpjaaGreatDoor.St
namespace Go.Proofs.YtjohljmpcblpjaaGreatDoor.St
open Go.RowKit
theorem rcompare_core (at_ as_ bt bs:Int) (w:World):Calls Tryz.prog 123 #[.agg #[.int .i64 at_,.int .i64 as_],.agg #[.int .i64 bt,.int .i64 bs]] w fun e w'=>e=.returned (.int .i64 (ID.cmp ⟨at_,as_⟩ ⟨bt,bs⟩))∧Grew w w':=by
 have hg:=Grew.alloc (Grew.alloc (Grew.refl w) (.cells #[.int .i64 at_,.int .i64 as_] 59)) (.cells #[.int .i64 bt,.int .i64 bs] 59)
 have hz:∀ {v:Int},ID.cmp ⟨at_,as_⟩ ⟨bt,bs⟩=v→Hid (ID.cmp ⟨at_,as_⟩ ⟨bt,bs⟩=v):=fun h=>h
 have G:=Lib.hid hg
 clear hg
 by_cases h1:at_<bt
 ·rw [show ID.cmp ⟨at_,as_⟩ ⟨bt,bs⟩=-1 by rw [cmp_eq,if_pos (.inl h1)]]
  have e1:(at_ == bt)=false:=by simp;omega
  go_enter Tryz.func123,Tryz.ntmps123
  go_wp2_with fail
  go_ret
  exact⟨rfl,G.out⟩
 ·by_cases h2:bt<at_
  ·rw [show ID.cmp ⟨at_,as_⟩ ⟨bt,bs⟩=1 by rw [cmp_eq,if_neg (by unfold ID.lt;simp only;omega),if_pos (.inl h2)]]
   have e1:(at_ == bt)=false:=by simp;omega
   go_enter Tryz.func123,Tryz.ntmps123
   go_wp2_with fail
   go_ret
   exact⟨rfl,G.out⟩
  ·obtain rfl:at_=bt:=by omega
   by_cases h3:as_<bs
   ·rw [show ID.cmp ⟨at_,as_⟩ ⟨at_,bs⟩=-1 by rw [cmp_eq,if_pos (.inr ⟨rfl,h3⟩)]]
    have e1:(as_ == bs)=false:=by simp;omega
    go_enter Tryz.func123,Tryz.ntmps123
    go_wp2_with fail
    go_ret
    exact⟨rfl,G.out⟩
   ·by_cases h4:bs<as_
    ·rw [show ID.cmp ⟨at_,as_⟩ ⟨at_,bs⟩=1 by rw [cmp_eq,if_neg (by unfold ID.lt;simp only;omega),if_pos (.inr ⟨rfl,h4⟩)]]
     have e1:(as_ == bs)=false:=by simp;omega
     go_enter Tryz.func123,Tryz.ntmps123
     go_wp2_with fail
     go_ret
     exact⟨rfl,G.out⟩
    ·obtain rfl:as_=bs:=by omega
     rw [show ID.cmp ⟨at_,as_⟩ ⟨at_,as_⟩=0 from cmp_zero.2 rfl]
     go_enter Tryz.func123,Tryz.ntmps123
     go_wp2_with fail
     go_ret
     exact⟨rfl,G.out⟩
theorem rcompare_any (a b:ID) (w:World):Calls Tryz.prog 123 #[idV a,idV b] w fun e w'=>e=.returned (.int .i64 (a.cmp b))∧Grew w w':=rcompare_core a.t a.s b.t b.s w
theorem rafter_core (t s n:Int) (hn:-9223372036854775808≤n) (hn2:n≤9223372036854775807) (w:World):Calls Tryz.prog 121 #[.agg #[.int .i64 t,.int .i64 s],.int .i64 n] w fun e w'=>e=.returned (idV (ID.after ⟨t,s⟩ n))∧Grew w w':=by
 have hg:=Grew.alloc (Grew.alloc (Grew.refl w) (.cells #[.int .i64 t,.int .i64 s] 59)) (.cells #[.int .i64 0,.int .i64 0] 59)
 have hb0:=Blk.alloc (Blk.new w 59 #[.int .i64 t,.int .i64 s]) (.cells #[.int .i64 0,.int .i64 0] 59)
 have hb1:=Blk.new (w.alloc (.cells #[.int .i64 t,.int .i64 s] 59)) 59 #[.int .i64 0,.int .i64 0]
 rw [World.size_alloc] at hb1
 have hc:=isid_core t s ((w.alloc (.cells #[.int .i64 t,.int .i64 s] 59)).alloc (.cells #[.int .i64 0,.int .i64 0] 59))
 have H0:=Lib.hid hb0
 have H1:=Lib.hid hb1
 clear hb0 hb1
 cases hb:isB ⟨t,s⟩
 ·have e:ID.after ⟨t,s⟩ n=ID.zero:=by unfold ID.after;rw [if_neg];intro h;simp [isB,h.1] at hb
  rw [e]
  rw [hb] at hc
  clear hb e
  go_enter Tryz.func121,Tryz.ntmps121
  go_wp2_with fail
  refine hc.mono ?_
  rintro e w' ⟨rfl,hg2⟩
  have hb1:=hg2.box H1.out
  have c0:_=some (Value.int .i64 0):=hb1.cell' (i:=0) rfl
  have c1:_=some (Value.int .i64 0):=hb1.cell' (i:=1) rfl
  have f0:=hb1.frozen 0
  have f1:=hb1.frozen 1
  have G:=Lib.hid (hg.trans hg2)
  clear hg hg2 hb1 hc
  go_wp2_with fail
  refine bodyPost_ret (v:=.agg #[.int .i64 0,.int .i64 0]) (by simp [results,Tryz.results121,go_sem,c0,c1]) rfl ⟨rfl,(G.out.setCell (by simp) _).setCell (by simp) _⟩
 ·have hI:=isB_true hb
  unfold ID.Is at hI
  obtain⟨i1,i2,i3,i4⟩:=hI
  simp only at i1 i2 i3 i4
  have hIs:=Lib.hid (isB_true hb)
  rw [hb] at hc
  clear hb
  by_cases hx:0≤n∧n≤2147483647-t
  ·obtain⟨x1,x2⟩:=hx
   have e:ID.after ⟨t,s⟩ n=⟨t+n,s⟩:=by unfold ID.after;rw [if_pos ⟨hIs.out,x1,x2⟩]
   rw [e]
   clear e
   go_enter Tryz.func121,Tryz.ntmps121
   go_wp2_with fail
   refine hc.mono ?_
   rintro e w' ⟨rfl,hg2⟩
   have hb0:=hg2.box H0.out
   have hb1:=hg2.box H1.out
   have d0:_=some (Value.int .i64 t):=hb0.cell' (i:=0) rfl
   have d1:_=some (Value.int .i64 s):=hb0.cell' (i:=1) rfl
   have e0:=hb0.frozen 0
   have e1:=hb0.frozen 1
   have c0:_=some (Value.int .i64 0):=hb1.cell' (i:=0) rfl
   have c1:_=some (Value.int .i64 0):=hb1.cell' (i:=1) rfl
   have f0:=hb1.frozen 0
   have f1:=hb1.frozen 1
   have G:=Lib.hid (hg.trans hg2)
   clear hg hg2 hb1 hb0 hc
   go_wp2_with fail
   refine bodyPost_ret (v:=.agg #[.int .i64 (t+n),.int .i64 s]) (by simp [results,Tryz.results121,go_sem,c0,c1]) rfl ⟨rfl,(G.out.setCell (by simp) _).setCell (by simp) _⟩
  ·have e:ID.after ⟨t,s⟩ n=ID.zero:=by unfold ID.after;rw [if_neg];intro h;exact hx ⟨h.2.1,h.2.2⟩
   rw [e]
   clear e
   rcases (show n<0∨(0≤n∧2147483647-t<n) by omega) with x1|⟨x1,x2⟩
   all_goals
    go_enter Tryz.func121,Tryz.ntmps121
    go_wp2_with fail
    refine hc.mono ?_
    rintro e w' ⟨rfl,hg2⟩
    have hb0:=hg2.box H0.out
    have hb1:=hg2.box H1.out
    have d0:_=some (Value.int .i64 t):=hb0.cell' (i:=0) rfl
    have c0:_=some (Value.int .i64 0):=hb1.cell' (i:=0) rfl
    have c1:_=some (Value.int .i64 0):=hb1.cell' (i:=1) rfl
    have f0:=hb1.frozen 0
    have f1:=hb1.frozen 1
    have G:=Lib.hid (hg.trans hg2)
    clear hg hg2 hb1 hb0 hc
    go_wp2_with fail
    refine bodyPost_ret (v:=.agg #[.int .i64 0,.int .i64 0]) (by simp [results,Tryz.results121,go_sem,c0,c1]) rfl ⟨rfl,(G.out.setCell (by simp) _).setCell (by simp) _⟩
theorem last_core (t s c:Int) (hc1:-9223372036854775808≤c) (hc2:c≤9223372036854775807) (w:World):Calls Tryz.prog 225 #[.agg #[.int .i64 t,.int .i64 s,.int .i64 c]] w fun e w'=>e=.returned (idV (if c<1 then ID.zero else ID.after ⟨t,s⟩ (c-1)))∧Grew w w':=by
 have hg:=Grew.alloc (Grew.alloc (Grew.refl w) (.cells #[.int .i64 t,.int .i64 s,.int .i64 c] 89)) (.cells #[.int .i64 0,.int .i64 0] 59)
 have hb1:=Blk.new (w.alloc (.cells #[.int .i64 t,.int .i64 s,.int .i64 c] 89)) 59 #[.int .i64 0,.int .i64 0]
 rw [World.size_alloc] at hb1
 by_cases h:c<1
 ·rw [if_pos h]
  have G:=Lib.hid hg
  clear hg hb1
  go_enter Tryz.func225,Tryz.ntmps225
  go_wp2_with fail
  exact bodyPost_ret (v:=.agg #[.int .i64 0,.int .i64 0]) (by simp [results,Tryz.results225,go_sem]) rfl ⟨rfl,G.out⟩
 ·rw [if_neg h]
  have ha:=after_core t s (c-1) (by omega) (by omega) ((w.alloc (.cells #[.int .i64 t,.int .i64 s,.int .i64 c] 89)).alloc (.cells #[.int .i64 0,.int .i64 0] 59))
  generalize ID.after ⟨t,s⟩ (c-1)=a at ha ⊢
  obtain⟨x,y⟩:=a
  have G0:=Lib.hid hg
  have H1:=Lib.hid hb1
  clear hg hb1
  go_enter Tryz.func225,Tryz.ntmps225
  go_wp2_with fail
  refine ha.mono ?_
  rintro e w' ⟨rfl,hg2⟩
  have hb1:=hg2.box H1.out
  have c0:_=some (Value.int .i64 0):=hb1.cell' (i:=0) rfl
  have c1:_=some (Value.int .i64 0):=hb1.cell' (i:=1) rfl
  have f0:=hb1.frozen 0
  have f1:=hb1.frozen 1
  have G:=Lib.hid (G0.out.trans hg2)
  clear hg2 hb1
  unfold idV
  go_wp2_with fail
  refine bodyPost_ret (v:=.agg #[.int .i64 x,.int .i64 y]) (by simp [results,Tryz.results225,go_sem,c0,c1]) rfl ⟨rfl,(G.out.setCell (by simp) _).setCell (by simp) _⟩
end Go.Proofs.YtjohljmpcblpjaaGreatDoor.St
namespace Go.Proofs.YtjohljmpcblpjaaGreatDoor
open Go.RowKit
open Go.Sort (putRowK HoldsK flatK size_flatK get_flatK grow)
section
variable {α:Type} [Inhabited α] {E:Enc α} {w:World} {t:TypeId} {g cap:Nat} {D D':List α}
end
namespace St
open Go.Sort (SWO)
end St
end Go.Proofs.YtjohljmpcblpjaaGreatDoor
namespace Go.Proofs.YtjohljmpcblpjaaGreatDoor.St
open Go.RowKit
theorem eqIn_id (x y:ID) (w:World):(Op.equal 59 (idV x) (idV y)).run Tryz.prog w=.ok (decide (x=y)) w:=by
 have h:decide (x=y)=(x.t == y.t && x.s == y.s):=by
  rw [Bool.eq_iff_iff]
  simp [ID.ext_iff]
 rw [h]
 obtain⟨a,b⟩:=x
 obtain⟨c,d⟩:=y
 show (Op.equalIn 10000 59 (.agg #[.int .i64 a,.int .i64 b]) (.agg #[.int .i64 c,.int .i64 d])).run Tryz.prog w=_
 go_simp
 by_cases h1:a=c
 ·by_cases h2:b=d
  ·simp [h1,h2]
  ·simp [h1,h2]
 ·simp [h1]
def intK:KeyE Tryz.prog 3 Int where
 enc:=Value.int .i64
 check:=fun _ _ _=>by kernel_rfl
 now:=fun k x d hd=>.inr (by
  have e:Tryz.prog.underlying 3=some d:=hd
  rw [Tryz.underlying3] at e
  cases e
  simp only [Instr.sameNow,if_pos]
  rw [show (k == x)=decide (k=x) by rw [Bool.eq_iff_iff];simp])
 ask:=fun k x w=>by
  have h:decide (k=x)=(k == x):=by rw [Bool.eq_iff_iff];simp
  rw [h]
  exact run_equalIn_int w 9999 3 .i64 .i64 k x Tryz.underlying3
 bits:=fun k=>by simp [Instr.sameBits]
 und:=⟨_,Tryz.underlying3⟩
theorem Kept.newer {w w1 w2:World}{b:Nat}(h:Kept (fun _=>False) w w1) (k:Kept (·=b) w1 w2) (hb:w.heap.size≤b):Kept (fun _=>False) w w2:=h.trans k fun i hi e=>by omega
def EndsOk (kvs:List (Int × Value)) (pre:List Run):Prop:=∀s,getK kvs s=(lastOf pre s).map fun r:Run=>Value.int .i64 (r.id.t+r.c-1)
theorem EndsOk.snoc {kvs:List (Int × Value)}{pre:List Run}(h:EndsOk kvs pre) (x:Run):EndsOk (putK kvs x.id.s (.int .i64 (x.id.t+x.c-1))) (pre++[x]):=by
 intro s
 rw [getK_put,lastOf_snoc,h]
 by_cases hs:x.id.s=s
 ·rw [if_pos hs,if_pos hs];rfl
 ·rw [if_neg hs,if_neg hs]
theorem why_cases (pre:List Run) (x:Run):(¬x.Ok∧why pre x=1)∨(x.Ok∧(∃p,pre.getLast?=some p∧¬p.id.lt x.id)∧why pre x=9) ∨
  (x.Ok∧(∀p,pre.getLast?=some p→p.id.lt x.id)∧(∃p∈pre,p.id.s=x.id.s∧x.id.t≤p.id.t+p.c)∧why pre x=6)∨(x.Ok∧(∀p,pre.getLast?=some p→p.id.lt x.id)∧(¬ ∃p∈pre,p.id.s=x.id.s∧x.id.t≤p.id.t+p.c)∧why pre x=0):=by
 unfold why
 by_cases h1:x.Ok
 ·rw [if_neg (by simpa using h1)]
  by_cases h2:∃p,pre.getLast?=some p∧¬p.id.lt x.id
  ·rw [if_pos h2];exact .inr (.inl ⟨h1,h2,rfl⟩)
  ·have h2':∀p,pre.getLast?=some p→p.id.lt x.id:=fun p hp=>by
    by_cases hl:p.id.lt x.id
    ·exact hl
    ·exact absurd ⟨p,hp,hl⟩ h2
   rw [if_neg h2]
   by_cases h3:∃p∈pre,p.id.s=x.id.s∧x.id.t≤p.id.t+p.c
   ·rw [if_pos h3];exact .inr (.inr (.inl ⟨h1,h2',h3,rfl⟩))
   ·rw [if_neg h3];exact .inr (.inr (.inr ⟨h1,h2',h3,rfl⟩))
 ·rw [if_pos h1];exact .inl ⟨h1,rfl⟩
theorem take_last {α:Type}{l:List α}{n:Nat}{p:α}(h:l[n]?=some p):(l.take (n+1)).getLast?=some p:=by rw [List.take_add_one,h];simp
theorem good_next {l:List Run}{n:Nat}{x:Run}(hx:l[n]?=some x) (hg:Good (l.take n)) (hw:why (l.take n) x=0):Good (l.take (n+1)):=by
 rw [List.take_add_one,hx];exact good_snoc.2 ⟨hg,hw⟩
theorem old_cell {w w':World}(hk:Kept (fun _=>False) w w'){a:Addr}{v:Value}(h:w.cell? a=some v):w'.cell? a=some v :=
 (World.cell?_of_block (a:=a) (hk.block a.block (World.block_lt_of_cell? w a h) (fun h=>h))).trans h
def ChRel (w:World) (mb:Nat) (L:List Run) (iv:Value) (wr:World):Prop :=
 ∃(n:Nat) (kvs:List (Int × Value)),iv=.int .i64 n∧n≤L.length∧Good (L.take n)∧MapK intK wr mb kvs∧EndsOk kvs (L.take n)∧Kept (fun _=>False) w wr
theorem check_any {w:World}{v:Value}{L:List Run}(h:SlAt runE w v L) (hin:∀r∈L,r.In) (hb:L.length≤1000000000):Calls Tryz.prog 224 #[v] w fun e w'=>∃c,e=.returned (.int .i64 c)∧CheckIs L c∧Kept (fun _=>False) w w':=by
 have hmm:=@run_makeMap Tryz.prog
 obtain⟨a,c,rfl,_,_⟩:=h.sl
 have HI:=Lib.hid hin
 have HS:=Lib.hid h
 clear hin h
 go_enter Tryz.func224,Tryz.ntmps224
 go_wp2_with fail
 go_loopw [12] (fun iv wr=>ChRel w w.heap.size L iv wr) (fun iv _=>L.length-(intOf iv).toNat)
 case atStart=>exact⟨0,[],rfl,Nat.zero_le _,fun n x hx=>by simp at hx,MapK.made w,fun s=>rfl,(Kept.refl _ _).alloc _⟩
 case round =>
  obtain⟨n,kvs,rfl,hn,hgood,hM,hE,hkw⟩:=hrel
  have GD:=Lib.hid hgood
  have EN:=Lib.hid hE
  clear hgood hE
  by_cases hlt:n<L.length
  case neg =>
   have hge:L.length≤n:=by omega
   go_wp2_with fail
   go_ret
   exact⟨0,rfl,.inl ⟨rfl,by have:=GD.out;rwa [List.take_of_length_le hge] at this⟩,hkw⟩
  case pos =>
   obtain⟨x,hx⟩:=get_of_lt hlt
   obtain⟨g,o,c',hv,hglt,hc⟩:=SlAt.run (HS.out.kept hkw) (by omega)
   cases hv
   obtain⟨c0,c1,c2⟩:=hc n x hx
   obtain⟨i1,i2,i3⟩:=HI.out x (List.mem_of_getElem? hx)
   unfold I64 at i1 i2 i3
   have HC:=Lib.hid hc
   have X0:=Lib.hid hx
   clear hc hx
   have hn0:(0:Int)≤n:=by omega
   have hnl:(n:Int)<L.length:=by omega
   have hla:=last_core x.id.t x.id.s x.c i3.1 i3.2 (wr.alloc (.cells #[.int .i64 x.id.t,.int .i64 x.id.s,.int .i64 x.c] 89))
   have hlast:(if x.c<1 then ID.zero else ID.after ⟨x.id.t,x.id.s⟩ (x.c-1))=x.last:=rfl
   rw [hlast] at hla
   clear hlast
   have hk1:Kept (fun _=>False) wr (wr.alloc (.cells #[.int .i64 x.id.t,.int .i64 x.id.s,.int .i64 x.c] 89)):=(Kept.refl _ _).alloc _
   have hB1:=Blk.new wr 89 #[.int .i64 x.id.t,.int .i64 x.id.s,.int .i64 x.c]
   have HB1:=Lib.hid hB1
   have HK1:=Lib.hid hk1
   clear hB1 hk1
   rcases why_cases (L.take n) x with ⟨hok,hw⟩|⟨hok,hlast,hw⟩|⟨hok,hord,hform,hw⟩|⟨hok,hord,hform,hw⟩
   ·have HW:=Lib.hid hw
    rw [last_zero.2 hok] at hla
    clear hok hw
    go_wp2_with fail
    refine hla.mono ?_
    rintro e w1 ⟨rfl,hg1⟩
    unfold idV ID.zero
    go_wp2_with fail
    go_ret
    exact⟨1,rfl,.inr ⟨n,x,X0.out,GD.out,HW.out,by decide⟩,((hkw.trans HK1.out (fun _ _ h=>h)).trans hg1.kept (fun _ _ h=>h)).alloc _⟩
   ·obtain⟨p,hp,hpl⟩:=hlast
    obtain⟨m,rfl⟩:∃m,n=m+1:=⟨n-1,by
     have : n≠0:=by rintro rfl;simp at hp
     omega⟩
    obtain⟨p',hp'⟩:=get_of_lt (show m<L.length by omega)
    have epp:p=p':=Option.some.inj (hp.symm.trans (take_last hp'))
    subst epp
    clear hp
    obtain⟨e0,e1,_⟩:=HC.out m p hp'
    have HW:=Lib.hid hw
    have hIs:=hok.2.1
    unfold ID.Is at hIs
    obtain⟨j1,j2,j3,j4⟩:=hIs
    have j5:=hok.1
    have j6:=hok.2.2
    rw [last_ok hok] at hla
    have z1:(x.id.t+x.c-1 == 0)=false:=beq_eq_false_iff_ne.2 (by omega)
    have z2:(x.id.s == 0)=false:=beq_eq_false_iff_ne.2 (by omega)
    have hcmp:x.id.cmp p.id≤0:=Int.not_lt.1 fun e=>hpl (cmp_gt.1 e)
    have hd:decide ((0:Int)<(m:Int)+1)=true:=decide_eq_true (by omega)
    have hm0:(0:Int)≤m:=by omega
    have hml:(m:Int)<L.length:=by omega
    have hd2:decide (x.id.cmp p.id≤0)=true:=by simpa using hcmp
    have P0:=Lib.hid hp'
    clear hok hw hpl hp' hcmp
    go_wp2_with fail
    refine hla.mono ?_
    rintro e w1 ⟨rfl,hg1⟩
    unfold idV
    have HG1:=Lib.hid hg1
    clear hg1 hla
    go_wp2_with fail
    have hW5:=HG1.out.box HB1.out
    have hW6:=hW5.alloc (.cells #[.int .i64 (x.id.t+x.c-1),.int .i64 x.id.s] 59)
    have hk6:Kept (fun _=>False) wr (w1.alloc (.cells #[.int .i64 (x.id.t+x.c-1),.int .i64 x.id.s] 59)):=(HK1.out.trans HG1.out.kept (fun _ _ h=>h)).alloc _
    have q0:_=some (Value.int .i64 x.id.t):=hW6.cell' (i:=0) rfl
    have q1:_=some (Value.int .i64 x.id.s):=hW6.cell' (i:=1) rfl
    have q2:=old_cell hk6 e0
    have q3:=old_cell hk6 e1
    have HW6:=Lib.hid hW6
    have HK6:=Lib.hid hk6
    clear hW5 hW6 hk6
    generalize w1.alloc (.cells #[.int .i64 (x.id.t+x.c-1),.int .i64 x.id.s] 59)=W at *
    have hw1:IntKind.i64.wrap (m:Int)=(m:Int):=IntWalk.i64_in _ (by omega)
    go_region_held3 (fun w'=>w'.cell? ⟨wr.heap.size,0,none⟩=some (.int .i64 x.id.t)∧w'.cell? ⟨wr.heap.size,1,none⟩=some (.int .i64 x.id.s)∧w'.cell? ⟨g,o+m * 3,none⟩=some (.int .i64 p.id.t)∧w'.cell? ⟨g,o+m * 3+1,none⟩=some (.int .i64 p.id.s)) (first | exact⟨q0,q1,q2,q3⟩ | exact⟨s0,s1,s2,s3⟩)
     (first
      | (go_simp;go_at_call 155;refine (compare_any x.id p.id _).mono ?_;rintro e w2 ⟨rfl,hg2⟩;have s0:w2.cell? ⟨wr.heap.size,0,none⟩=some (.int .i64 x.id.t):=(hg2.box HW6.out).cell' rfl;have s1:w2.cell? ⟨wr.heap.size,1,none⟩=some (.int .i64 x.id.s):=(hg2.box HW6.out).cell' rfl;have s2:=old_cell hg2.kept q2;have s3:=old_cell hg2.kept q3))
    go_wp2_with fail
    go_ret
    exact⟨9,rfl,.inr ⟨m+1,x,X0.out,GD.out,HW.out,by decide⟩,((hkw.trans HK6.out (fun _ _ h=>h)).drew).trans hg2.kept (fun _ _ h=>h)⟩
   ·rcases Nat.eq_zero_or_pos n with rfl | hnp
    ·have hd:decide ((0:Int)<0)=false:=by decide
     simp only [Nat.zero_mul,Nat.add_zero] at c0 c1 c2
     rw [show ((0:Nat):Int)=0 from rfl]
     have HW:=Lib.hid hw
     have hIs:=hok.2.1
     unfold ID.Is at hIs
     obtain⟨j1,j2,j3,j4⟩:=hIs
     have j5:=hok.1
     have j6:=hok.2.2
     rw [last_ok hok] at hla
     have z1:(x.id.t+x.c-1 == 0)=false:=beq_eq_false_iff_ne.2 (by omega)
     have z2:(x.id.s == 0)=false:=beq_eq_false_iff_ne.2 (by omega)
     clear hok hw hord
     go_wp2_with fail
     refine hla.mono ?_
     rintro e w1 ⟨rfl,hg1⟩
     unfold idV
     have HG1:=Lib.hid hg1
     clear hg1 hla
     go_wp2_with fail
     have hW5:=HG1.out.box HB1.out
     have hW6:=hW5.alloc (.cells #[.int .i64 (x.id.t+x.c-1),.int .i64 x.id.s] 59)
     have hk6:Kept (fun _=>False) wr (w1.alloc (.cells #[.int .i64 (x.id.t+x.c-1),.int .i64 x.id.s] 59)):=(HK1.out.trans HG1.out.kept (fun _ _ h=>h)).alloc _
     have q0:_=some (Value.int .i64 x.id.t):=hW6.cell' (i:=0) rfl
     have q1:_=some (Value.int .i64 x.id.s):=hW6.cell' (i:=1) rfl
     have HW6:=Lib.hid hW6
     have HK6:=Lib.hid hk6
     have hv6:=Blk.new w1 59 #[.int .i64 (x.id.t+x.c-1),.int .i64 x.id.s]
     have HV6:=Lib.hid hv6
     clear hW5 hW6 hk6 hv6
     generalize w1.alloc (.cells #[.int .i64 (x.id.t+x.c-1),.int .i64 x.id.s] 59)=W at *
     go_quiet (fail)
     have hkX:Kept (fun _=>False) wr (W.drewN nq):=HK6.out.drewN _
     have u0:_=some (Value.int .i64 x.id.t):=(HW6.out.drewN nq).cell' (i:=0) rfl
     have u1:_=some (Value.int .i64 x.id.s):=(HW6.out.drewN nq).cell' (i:=1) rfl
     have u2:_=some (Value.int .i64 (x.id.t+x.c-1)):=(HV6.out.drewN nq).cell' (i:=0) rfl
     have hM2:=hM.keep hkX (fun h=>h)
     obtain⟨r,hr,hrt⟩:=(form_iff GD.out x).1 hform
     have rok:=GD.out.ok r (lastOf_mem hr).1
     have r1:=rok.2.2
     have r2:=rok.2.1
     have r3:=rok.1
     unfold ID.Is at r2
     have hget:=EN.out x.id.s
     rw [hr] at hget
     have hlk:(Instr.lookup 168 (.map (some w.heap.size)) (.int .i64 x.id.s) true).run Tryz.prog (W.drewN nq)=.ok (.tuple #[.int .i64 (r.id.t+r.c-1),.bool true]) (W.drewN nq):=run_lookupK_ok (K:=intK) (k:=x.id.s) Tryz.underlying168 hM2 hget
     obtain⟨r4,r5,r6,r7⟩:=r2
     clear hget hr rok hform hM2
     go_wp2_with fail
     go_ret
     exact⟨6,rfl,.inr ⟨0,x,X0.out,GD.out,HW.out,by decide⟩,hkw.trans hkX (fun _ _ h=>h)⟩
    ·obtain⟨m,rfl⟩:∃m,n=m+1:=⟨n-1,by omega⟩
     obtain⟨p,hp'⟩:=get_of_lt (show m<L.length by omega)
     have hpl:=hord p (take_last hp')
     obtain⟨e0,e1,_⟩:=HC.out m p hp'
     have HW:=Lib.hid hw
     have hIs:=hok.2.1
     unfold ID.Is at hIs
     obtain⟨j1,j2,j3,j4⟩:=hIs
     have j5:=hok.1
     have j6:=hok.2.2
     rw [last_ok hok] at hla
     have z1:(x.id.t+x.c-1 == 0)=false:=beq_eq_false_iff_ne.2 (by omega)
     have z2:(x.id.s == 0)=false:=beq_eq_false_iff_ne.2 (by omega)
     have hcmp:¬x.id.cmp p.id≤0:=Int.not_le.2 (cmp_gt.2 hpl)
     have hd:decide ((0:Int)<(m:Int)+1)=true:=decide_eq_true (by omega)
     have hm0:(0:Int)≤m:=by omega
     have hml:(m:Int)<L.length:=by omega
     have hd2:decide (x.id.cmp p.id≤0)=false:=by simpa using hcmp
     clear hok hw hpl hp' hcmp hord
     go_wp2_with fail
     refine hla.mono ?_
     rintro e w1 ⟨rfl,hg1⟩
     unfold idV
     have HG1:=Lib.hid hg1
     clear hg1 hla
     go_wp2_with fail
     have hW5:=HG1.out.box HB1.out
     have hW6:=hW5.alloc (.cells #[.int .i64 (x.id.t+x.c-1),.int .i64 x.id.s] 59)
     have hk6:Kept (fun _=>False) wr (w1.alloc (.cells #[.int .i64 (x.id.t+x.c-1),.int .i64 x.id.s] 59)):=(HK1.out.trans HG1.out.kept (fun _ _ h=>h)).alloc _
     have q0:_=some (Value.int .i64 x.id.t):=hW6.cell' (i:=0) rfl
     have q1:_=some (Value.int .i64 x.id.s):=hW6.cell' (i:=1) rfl
     have q2:=old_cell hk6 e0
     have q3:=old_cell hk6 e1
     have HW6:=Lib.hid hW6
     have HK6:=Lib.hid hk6
     have hv6:=Blk.new w1 59 #[.int .i64 (x.id.t+x.c-1),.int .i64 x.id.s]
     have HV6:=Lib.hid hv6
     clear hW5 hW6 hk6 hv6
     generalize w1.alloc (.cells #[.int .i64 (x.id.t+x.c-1),.int .i64 x.id.s] 59)=W at *
     have hw1:IntKind.i64.wrap (m:Int)=(m:Int):=IntWalk.i64_in _ (by omega)
     go_region_held3 (fun w'=>w'.cell? ⟨wr.heap.size,0,none⟩=some (.int .i64 x.id.t)∧w'.cell? ⟨wr.heap.size,1,none⟩=some (.int .i64 x.id.s)∧w'.cell? ⟨g,o+m * 3,none⟩=some (.int .i64 p.id.t)∧w'.cell? ⟨g,o+m * 3+1,none⟩=some (.int .i64 p.id.s)) (first | exact⟨q0,q1,q2,q3⟩ | exact⟨s0,s1,s2,s3⟩)
      (first
       | (go_simp;go_at_call 155;refine (compare_any x.id p.id _).mono ?_;rintro e w2 ⟨rfl,hg2⟩;have s0:w2.cell? ⟨wr.heap.size,0,none⟩=some (.int .i64 x.id.t):=(hg2.box HW6.out).cell' rfl;have s1:w2.cell? ⟨wr.heap.size,1,none⟩=some (.int .i64 x.id.s):=(hg2.box HW6.out).cell' rfl;have s2:=old_cell hg2.kept q2;have s3:=old_cell hg2.kept q3))
     clear hw1
     have hkX:Kept (fun _=>False) wr w2:=(HK6.out.drew).trans hg2.kept (fun _ _ h=>h)
     have u0:_=some (Value.int .i64 x.id.t):=(hg2.box HW6.out).cell' (i:=0) rfl
     have u1:_=some (Value.int .i64 x.id.s):=(hg2.box HW6.out).cell' (i:=1) rfl
     have u2:_=some (Value.int .i64 (x.id.t+x.c-1)):=(hg2.box HV6.out).cell' (i:=0) rfl
     have hM2:=hM.keep hkX (fun h=>h)
     obtain⟨r,hr,hrt⟩:=(form_iff GD.out x).1 hform
     have rok:=GD.out.ok r (lastOf_mem hr).1
     have r1:=rok.2.2
     have r2:=rok.2.1
     have r3:=rok.1
     unfold ID.Is at r2
     have hget:=EN.out x.id.s
     rw [hr] at hget
     have hlk:(Instr.lookup 168 (.map (some w.heap.size)) (.int .i64 x.id.s) true).run Tryz.prog w2=.ok (.tuple #[.int .i64 (r.id.t+r.c-1),.bool true]) w2:=run_lookupK_ok (K:=intK) (k:=x.id.s) Tryz.underlying168 hM2 hget
     obtain⟨r4,r5,r6,r7⟩:=r2
     clear hget hr rok hform hM2
     go_wp2_with fail
     go_ret
     exact⟨6,rfl,.inr ⟨m+1,x,X0.out,GD.out,HW.out,by decide⟩,hkw.trans hkX (fun _ _ h=>h)⟩
   ·rcases Nat.eq_zero_or_pos n with rfl | hnp
    ·have hd:decide ((0:Int)<0)=false:=by decide
     simp only [Nat.zero_mul,Nat.add_zero] at c0 c1 c2
     rw [show ((0:Nat):Int)=0 from rfl]
     have HW:=Lib.hid hw
     have hIs:=hok.2.1
     unfold ID.Is at hIs
     obtain⟨j1,j2,j3,j4⟩:=hIs
     have j5:=hok.1
     have j6:=hok.2.2
     rw [last_ok hok] at hla
     have z1:(x.id.t+x.c-1 == 0)=false:=beq_eq_false_iff_ne.2 (by omega)
     have z2:(x.id.s == 0)=false:=beq_eq_false_iff_ne.2 (by omega)
     clear hok hw hord
     go_wp2_with fail
     refine hla.mono ?_
     rintro e w1 ⟨rfl,hg1⟩
     unfold idV
     have HG1:=Lib.hid hg1
     clear hg1 hla
     go_wp2_with fail
     have hW5:=HG1.out.box HB1.out
     have hW6:=hW5.alloc (.cells #[.int .i64 (x.id.t+x.c-1),.int .i64 x.id.s] 59)
     have hk6:Kept (fun _=>False) wr (w1.alloc (.cells #[.int .i64 (x.id.t+x.c-1),.int .i64 x.id.s] 59)):=(HK1.out.trans HG1.out.kept (fun _ _ h=>h)).alloc _
     have q0:_=some (Value.int .i64 x.id.t):=hW6.cell' (i:=0) rfl
     have q1:_=some (Value.int .i64 x.id.s):=hW6.cell' (i:=1) rfl
     have HW6:=Lib.hid hW6
     have HK6:=Lib.hid hk6
     have hv6:=Blk.new w1 59 #[.int .i64 (x.id.t+x.c-1),.int .i64 x.id.s]
     have HV6:=Lib.hid hv6
     clear hW5 hW6 hk6 hv6
     generalize w1.alloc (.cells #[.int .i64 (x.id.t+x.c-1),.int .i64 x.id.s] 59)=W at *
     go_quiet (fail)
     have hkX:Kept (fun _=>False) wr (W.drewN nq):=HK6.out.drewN _
     have u0:_=some (Value.int .i64 x.id.t):=(HW6.out.drewN nq).cell' (i:=0) rfl
     have u1:_=some (Value.int .i64 x.id.s):=(HW6.out.drewN nq).cell' (i:=1) rfl
     have u2:_=some (Value.int .i64 (x.id.t+x.c-1)):=(HV6.out.drewN nq).cell' (i:=0) rfl
     have hM2:=hM.keep hkX (fun h=>h)
     obtain⟨w7,hup0,hM7,hk7⟩:=run_updateK (P:=Tryz.prog) (k:=x.id.s) Tryz.underlying168 hM2 (.int .i64 (x.id.t+x.c-1))
     have hup:(Instr.mapUpdate 168 (.map (some w.heap.size)) (.int .i64 x.id.s) (.int .i64 (x.id.t+x.c-1))).run Tryz.prog (W.drewN nq)=.ok () w7:=hup0
     have REL:Hid (ChRel w w.heap.size L (.int .i64 ((0:Nat)+1:Int)) w7):=⟨0+1,_,by go_num,by omega,good_next X0.out GD.out HW.out,hM7,by rw [List.take_add_one,X0.out];exact EN.out.snoc x,Kept.newer (hkw.trans hkX (fun _ _ h=>h)) hk7 (Nat.le_refl _)⟩
     have hget:=EN.out x.id.s
     have NF:=Lib.hid (fun r hr ht=>hform ((form_iff GD.out x).2 ⟨r,hr,ht⟩))
     clear hup0 hM7 hk7 hform
     cases hlo:lastOf (L.take (0)) x.id.s with
     | none =>
      rw [hlo] at hget
      have hlk:(Instr.lookup 168 (.map (some w.heap.size)) (.int .i64 x.id.s) true).run Tryz.prog (W.drewN nq)=.ok (.tuple #[.int .i64 0,.bool false]) (W.drewN nq):=run_lookupK_none_ok (K:=intK) (k:=x.id.s) Tryz.underlying168 hM2 hget (by kernel_rfl)
      clear hget hlo hM2
      go_wp2_with fail
      go_roundw
      case rel=>exact REL.out
      case measure=>simp [intOf];omega
     | some r =>
      rw [hlo] at hget
      have hlk:(Instr.lookup 168 (.map (some w.heap.size)) (.int .i64 x.id.s) true).run Tryz.prog (W.drewN nq)=.ok (.tuple #[.int .i64 (r.id.t+r.c-1),.bool true]) (W.drewN nq):=run_lookupK_ok (K:=intK) (k:=x.id.s) Tryz.underlying168 hM2 hget
      have rok:=GD.out.ok r (lastOf_mem hlo).1
      have r1:=rok.2.2
      have r2:=rok.2.1
      have r3:=rok.1
      unfold ID.Is at r2
      obtain⟨r4,r5,r6,r7⟩:=r2
      have hrt:r.id.t+r.c<x.id.t:=Int.not_le.1 (NF.out r hlo)
      clear hget hlo hM2 rok
      go_wp2_with fail
      go_roundw
      case rel=>exact REL.out
      case measure=>simp [intOf];omega
    ·obtain⟨m,rfl⟩:∃m,n=m+1:=⟨n-1,by omega⟩
     obtain⟨p,hp'⟩:=get_of_lt (show m<L.length by omega)
     have hpl:=hord p (take_last hp')
     obtain⟨e0,e1,_⟩:=HC.out m p hp'
     have HW:=Lib.hid hw
     have hIs:=hok.2.1
     unfold ID.Is at hIs
     obtain⟨j1,j2,j3,j4⟩:=hIs
     have j5:=hok.1
     have j6:=hok.2.2
     rw [last_ok hok] at hla
     have z1:(x.id.t+x.c-1 == 0)=false:=beq_eq_false_iff_ne.2 (by omega)
     have z2:(x.id.s == 0)=false:=beq_eq_false_iff_ne.2 (by omega)
     have hcmp:¬x.id.cmp p.id≤0:=Int.not_le.2 (cmp_gt.2 hpl)
     have hd:decide ((0:Int)<(m:Int)+1)=true:=decide_eq_true (by omega)
     have hm0:(0:Int)≤m:=by omega
     have hml:(m:Int)<L.length:=by omega
     have hd2:decide (x.id.cmp p.id≤0)=false:=by simpa using hcmp
     clear hok hw hpl hp' hcmp hord
     go_wp2_with fail
     refine hla.mono ?_
     rintro e w1 ⟨rfl,hg1⟩
     unfold idV
     have HG1:=Lib.hid hg1
     clear hg1 hla
     go_wp2_with fail
     have hW5:=HG1.out.box HB1.out
     have hW6:=hW5.alloc (.cells #[.int .i64 (x.id.t+x.c-1),.int .i64 x.id.s] 59)
     have hk6:Kept (fun _=>False) wr (w1.alloc (.cells #[.int .i64 (x.id.t+x.c-1),.int .i64 x.id.s] 59)):=(HK1.out.trans HG1.out.kept (fun _ _ h=>h)).alloc _
     have q0:_=some (Value.int .i64 x.id.t):=hW6.cell' (i:=0) rfl
     have q1:_=some (Value.int .i64 x.id.s):=hW6.cell' (i:=1) rfl
     have q2:=old_cell hk6 e0
     have q3:=old_cell hk6 e1
     have HW6:=Lib.hid hW6
     have HK6:=Lib.hid hk6
     have hv6:=Blk.new w1 59 #[.int .i64 (x.id.t+x.c-1),.int .i64 x.id.s]
     have HV6:=Lib.hid hv6
     clear hW5 hW6 hk6 hv6
     generalize w1.alloc (.cells #[.int .i64 (x.id.t+x.c-1),.int .i64 x.id.s] 59)=W at *
     have hw1:IntKind.i64.wrap (m:Int)=(m:Int):=IntWalk.i64_in _ (by omega)
     go_region_held3 (fun w'=>w'.cell? ⟨wr.heap.size,0,none⟩=some (.int .i64 x.id.t)∧w'.cell? ⟨wr.heap.size,1,none⟩=some (.int .i64 x.id.s)∧w'.cell? ⟨g,o+m * 3,none⟩=some (.int .i64 p.id.t)∧w'.cell? ⟨g,o+m * 3+1,none⟩=some (.int .i64 p.id.s)) (first | exact⟨q0,q1,q2,q3⟩ | exact⟨s0,s1,s2,s3⟩)
      (first
       | (go_simp;go_at_call 155;refine (compare_any x.id p.id _).mono ?_;rintro e w2 ⟨rfl,hg2⟩;have s0:w2.cell? ⟨wr.heap.size,0,none⟩=some (.int .i64 x.id.t):=(hg2.box HW6.out).cell' rfl;have s1:w2.cell? ⟨wr.heap.size,1,none⟩=some (.int .i64 x.id.s):=(hg2.box HW6.out).cell' rfl;have s2:=old_cell hg2.kept q2;have s3:=old_cell hg2.kept q3))
     clear hw1
     have hkX:Kept (fun _=>False) wr w2:=(HK6.out.drew).trans hg2.kept (fun _ _ h=>h)
     have u0:_=some (Value.int .i64 x.id.t):=(hg2.box HW6.out).cell' (i:=0) rfl
     have u1:_=some (Value.int .i64 x.id.s):=(hg2.box HW6.out).cell' (i:=1) rfl
     have u2:_=some (Value.int .i64 (x.id.t+x.c-1)):=(hg2.box HV6.out).cell' (i:=0) rfl
     have hM2:=hM.keep hkX (fun h=>h)
     obtain⟨w7,hup0,hM7,hk7⟩:=run_updateK (P:=Tryz.prog) (k:=x.id.s) Tryz.underlying168 hM2 (.int .i64 (x.id.t+x.c-1))
     have hup:(Instr.mapUpdate 168 (.map (some w.heap.size)) (.int .i64 x.id.s) (.int .i64 (x.id.t+x.c-1))).run Tryz.prog w2=.ok () w7:=hup0
     have REL:Hid (ChRel w w.heap.size L (.int .i64 ((m+1:Nat)+1:Int)) w7):=⟨m+1+1,_,by go_num,by omega,good_next X0.out GD.out HW.out,hM7,by rw [List.take_add_one,X0.out];exact EN.out.snoc x,Kept.newer (hkw.trans hkX (fun _ _ h=>h)) hk7 (Nat.le_refl _)⟩
     have hget:=EN.out x.id.s
     have NF:=Lib.hid (fun r hr ht=>hform ((form_iff GD.out x).2 ⟨r,hr,ht⟩))
     clear hup0 hM7 hk7 hform
     cases hlo:lastOf (L.take (m+1)) x.id.s with
     | none =>
      rw [hlo] at hget
      have hlk:(Instr.lookup 168 (.map (some w.heap.size)) (.int .i64 x.id.s) true).run Tryz.prog w2=.ok (.tuple #[.int .i64 0,.bool false]) w2:=run_lookupK_none_ok (K:=intK) (k:=x.id.s) Tryz.underlying168 hM2 hget (by kernel_rfl)
      clear hget hlo hM2
      go_wp2_with fail
      go_roundw
      case rel=>exact REL.out
      case measure=>simp [intOf];omega
     | some r =>
      rw [hlo] at hget
      have hlk:(Instr.lookup 168 (.map (some w.heap.size)) (.int .i64 x.id.s) true).run Tryz.prog w2=.ok (.tuple #[.int .i64 (r.id.t+r.c-1),.bool true]) w2:=run_lookupK_ok (K:=intK) (k:=x.id.s) Tryz.underlying168 hM2 hget
      have rok:=GD.out.ok r (lastOf_mem hlo).1
      have r1:=rok.2.2
      have r2:=rok.2.1
      have r3:=rok.1
      unfold ID.Is at r2
      obtain⟨r4,r5,r6,r7⟩:=r2
      have hrt:r.id.t+r.c<x.id.t:=Int.not_le.1 (NF.out r hlo)
      clear hget hlo hM2 rok
      go_wp2_with fail
      go_roundw
      case rel=>exact REL.out
      case measure=>simp [intOf];omega
end Go.Proofs.YtjohljmpcblpjaaGreatDoor.St
