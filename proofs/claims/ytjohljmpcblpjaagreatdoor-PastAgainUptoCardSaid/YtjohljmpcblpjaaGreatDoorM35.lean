/- hearsayref1: within, low and begins. -/
import Derived.Test.YtjohljmpcblpjaaGreatDoorM34
set_option maxRecDepth 100000
set_option maxHeartbeats 8000000
namespace Go.Proofs.YtjohljmpcblpjaaGreatDoor
open Go.RowKit Go.Proofs.YtjohljmpcblpjaaGreatDoor.Gl
namespace Gl
def inW (b lo hi:Int):Bool:=decide (lo≤b∧b≤hi)
def lowB (s:ByteArray) (i n:Nat):Bool:=decide (lowP s i n)
end Gl
theorem within_any (b lo hi:Int) (w:World):Calls Tryz.prog 192 #[.int .u8 b,.int .u8 lo,.int .u8 hi] w fun e w'=>e=.returned (.bool (inW b lo hi))∧w'=w:=by
 obtain⟨t,ht⟩:∃t,inW b lo hi=t:=⟨_,rfl⟩
 rw [ht]
 by_cases h1:lo≤b
 ·by_cases h2:b≤hi
  ·obtain rfl:t=true:=by rw [←ht];exact decide_eq_true ⟨h1,h2⟩
   clear ht
   go_enter Tryz.func192,Tryz.ntmps192
   go_wp2_with fail
   go_ret
   exact⟨rfl,rfl⟩
  ·obtain rfl:t=false:=by rw [←ht];exact decide_eq_false (fun h=>h2 h.2)
   clear ht
   go_enter Tryz.func192,Tryz.ntmps192
   go_wp2_with fail
   go_ret
   exact⟨rfl,rfl⟩
 ·obtain rfl:t=false:=by rw [←ht];exact decide_eq_false (fun h=>h1 h.1)
  clear ht
  go_enter Tryz.func192,Tryz.ntmps192
  go_wp2_with fail
  go_ret
  exact⟨rfl,rfl⟩
theorem low_any {s:ByteArray}{at_ n:Nat}(ha:at_≤1000001) (hn:n≤3) (w:World):Calls Tryz.prog 193 #[.string s,.int .i64 at_,.int .i64 n] w fun e w'=>e=.returned (.bool (lowB s at_ n))∧w'=w:=by
 go_enter Tryz.func193,Tryz.ntmps193
 go_wp2_with fail
 go_loop [7] (fun i=>∃k:Nat,i=.int .i64 k∧k≤n∧lowP s at_ k) (fun i=>n-(intOf i).toNat)
 case atStart=>exact⟨0,rfl,Nat.zero_le _,fun i h=>absurd h (Nat.not_lt_zero _)⟩
 case round =>
  obtain⟨k,rfl,hkn,hlow⟩:=hrel
  have LOW:=Lib.hid hlow
  clear hlow
  by_cases hlt:k<n
  case neg =>
   obtain rfl:k=n:=by omega
   have hltI:¬(k:Int)<k:=by omega
   have ANS:=Lib.hid (show lowB s at_ k=true from decide_eq_true LOW.out)
   go_wp2_with fail
   go_ret
   exact⟨by rw [ANS.out];rfl,rfl⟩
  case pos =>
   have hltI:(k:Int)<n:=by omega
   obtain⟨m,hm⟩:∃m,at_+k=m:=⟨_,rfl⟩
   have hw:IntKind.i64.wrap ((at_:Int)+(k:Int))=(m:Int):=by rw [IntKind.wrap_i64];omega
   have hm0:(0:Int)≤m:=by omega
   by_cases hms:m<s.size
   case neg =>
    have hmI:(s.size:Int)≤m:=by omega
    have ANS:=Lib.hid (show lowB s at_ n=false from decide_eq_false (fun h=>hms (hm ▸ (h k hlt).1)))
    clear hms hm
    go_wp2_with fail
    go_ret
    exact⟨by rw [ANS.out];rfl,rfl⟩
   case pos =>
    have hmI:(m:Int)<s.size:=by omega
    have hbk:=byteAt_get hms
    have HM:=Lib.hid hm
    have HMS:=Lib.hid hms
    by_cases hl:128≤byteAt s m∧byteAt s m≤191
    ·have hW:inW (byteAt s m) 128 191=true:=decide_eq_true hl
     have HL:=Lib.hid hl
     clear hl hm
     go_wp2_with (go_at_call 192;refine (within_any _ _ _ _).mono ?_;rintro e w' ⟨rfl,rfl⟩)
     go_round
     case rel =>
      refine⟨k+1,by go_num,by omega,fun j hj=>?_⟩
      by_cases hjk:j=k
      ·subst hjk;rw [HM.out];exact⟨HMS.out,HL.out⟩
      ·exact LOW.out j (by omega)
     case measure=>simp [intOf];omega
    ·have hW:inW (byteAt s m) 128 191=false:=decide_eq_false hl
     have ANS:=Lib.hid (show lowB s at_ n=false from decide_eq_false (fun h=>hl (hm ▸ (h k hlt).2)))
     clear hl hm
     go_wp2_with (go_at_call 192;refine (within_any _ _ _ _).mono ?_;rintro e w' ⟨rfl,rfl⟩)
     go_ret
     exact⟨by rw [ANS.out];rfl,rfl⟩
theorem begins_c1 {s:ByteArray}{i:Nat}(hs:s.size≤1000000) (hi:i<s.size) (w:World) (hc:byteAt s i≤127):Calls Tryz.prog 179 #[.string s,.int .i64 i] w fun e w'=>(∃r:Int,e=.returned (.tuple #[.int .i32 r,.int .i64 (runeW s i)])∧(runeW s i≠0→r=((Utf8.decode s i).1:Nat)))∧∃q,w'=w.drewN q:=by
 have hA:=byteAt_get hi
 have hiI:(i:Int)<s.size:=by omega
 have hi0:(0:Int)≤i:=by omega
 obtain⟨m1,hm1⟩:∃m,i+1=m:=⟨_,rfl⟩
 have w1:IntKind.i64.wrap ((i:Int)+1)=(m1:Int):=by rw [IntKind.wrap_i64];omega
 have hm10:(0:Int)≤m1:=by omega
 have HS:=Lib.hid hs
 have hm1L:m1≤1000001:=by omega
 have HL1:=Lib.hid (fun w=>low_any (s:=s) (n:=1) hm1L (by decide) w)
 have HL2:=Lib.hid (fun w=>low_any (s:=s) (n:=2) hm1L (by decide) w)
 have HL3:=Lib.hid (fun w=>low_any (s:=s) (n:=3) hm1L (by decide) w)
 generalize hAA:byteAt s i=a at *
 have f0:inW a 194 223=false:=decide_eq_false (by omega)
 have f1:inW a 225 236=false:=decide_eq_false (by omega)
 have f2:inW a 238 239=false:=decide_eq_false (by omega)
 have f3:inW a 241 243=false:=decide_eq_false (by omega)
 have e224:(a == 224)=false:=beq_eq_false_iff_ne.2 (by omega)
 have e237:(a == 237)=false:=beq_eq_false_iff_ne.2 (by omega)
 have e240:(a == 240)=false:=beq_eq_false_iff_ne.2 (by omega)
 have e244:(a == 244)=false:=beq_eq_false_iff_ne.2 (by omega)
 have hle:a≤127:=hc
 have ANS:=Lib.hid (show runeW s i=1 by unfold runeW;rw [hAA,if_pos (by omega)])
 have dv:=(decode_val (s:=s) (i:=i) ANS.out (by decide)).1 rfl
 rw [hAA] at dv
 have VAL:Hid ((((Utf8.decode s i).1:Nat):Int)=a):=Lib.hid (by omega)
 clear dv
 have HL:Hid (∀w,Calls Tryz.prog 193 #[.string s,.int .i64 m1,.int .i64 1] w fun e w'=>e=.returned (.bool (lowB s m1 1))∧w'=w):=HL1
 clear HL1 HL2 HL3
 by_cases hb:m1<s.size
 ·have hbI:(m1:Int)<s.size:=by omega
  have hB:=byteAt_get hb
  clear hAA hm1 hc
  generalize byteAt s m1=b at *
  go_enter Tryz.func179,Tryz.ntmps179
  go_wp2_with (first | (go_at_call 192;refine (within_any _ _ _ _).mono ?_;rintro e w' ⟨rfl,rfl⟩) | (go_at_call 193;with_reducible refine (HL.out _).mono ?_;rintro e w' ⟨rfl,rfl⟩))
  go_ret2
  exact⟨⟨_,by rw [ANS.out];rfl,fun _=>by have hv:=VAL.out;omega⟩,0,rfl⟩
 ·have hbI:¬(m1:Int)<s.size:=by omega
  clear hAA hm1 hc hb
  go_enter Tryz.func179,Tryz.ntmps179
  go_wp2_with (first | (go_at_call 192;refine (within_any _ _ _ _).mono ?_;rintro e w' ⟨rfl,rfl⟩) | (go_at_call 193;with_reducible refine (HL.out _).mono ?_;rintro e w' ⟨rfl,rfl⟩))
  go_ret2
  exact⟨⟨_,by rw [ANS.out];rfl,fun _=>by have hv:=VAL.out;omega⟩,0,rfl⟩
theorem begins_c3 {s:ByteArray}{i:Nat}(hs:s.size≤1000000) (hi:i<s.size) (w:World) (hc:194≤byteAt s i∧byteAt s i≤223):Calls Tryz.prog 179 #[.string s,.int .i64 i] w fun e w'=>(∃r:Int,e=.returned (.tuple #[.int .i32 r,.int .i64 (runeW s i)])∧(runeW s i≠0→r=((Utf8.decode s i).1:Nat)))∧∃q,w'=w.drewN q:=by
 have hA:=byteAt_get hi
 have hiI:(i:Int)<s.size:=by omega
 have hi0:(0:Int)≤i:=by omega
 obtain⟨m1,hm1⟩:∃m,i+1=m:=⟨_,rfl⟩
 have w1:IntKind.i64.wrap ((i:Int)+1)=(m1:Int):=by rw [IntKind.wrap_i64];omega
 have hm10:(0:Int)≤m1:=by omega
 have HS:=Lib.hid hs
 have hm1L:m1≤1000001:=by omega
 have HL1:=Lib.hid (fun w=>low_any (s:=s) (n:=1) hm1L (by decide) w)
 have HL2:=Lib.hid (fun w=>low_any (s:=s) (n:=2) hm1L (by decide) w)
 have HL3:=Lib.hid (fun w=>low_any (s:=s) (n:=3) hm1L (by decide) w)
 have hR:=runeW_low1 (s:=s) (i:=i) (by omega) (by omega)
 rw [hm1] at hR
 generalize hAA:byteAt s i=a at *
 have f0:inW a 194 223=true:=decide_eq_true (by omega)
 have f1:inW a 225 236=false:=decide_eq_false (by omega)
 have f2:inW a 238 239=false:=decide_eq_false (by omega)
 have f3:inW a 241 243=false:=decide_eq_false (by omega)
 have e224:(a == 224)=false:=beq_eq_false_iff_ne.2 (by omega)
 have e237:(a == 237)=false:=beq_eq_false_iff_ne.2 (by omega)
 have e240:(a == 240)=false:=beq_eq_false_iff_ne.2 (by omega)
 have e244:(a == 244)=false:=beq_eq_false_iff_ne.2 (by omega)
 have hle:¬a≤127:=by omega
 have HL:Hid (∀w,Calls Tryz.prog 193 #[.string s,.int .i64 m1,.int .i64 1] w fun e w'=>e=.returned (.bool (lowB s m1 1))∧w'=w):=HL1
 clear HL1 HL2 HL3
 by_cases hb:m1<s.size
 ·have hbI:(m1:Int)<s.size:=by omega
  have hB:=byteAt_get hb
  by_cases hl:lowP s m1 1
  ·have l1:lowB s m1 1=true:=decide_eq_true hl
   have h0:=(hl 0 (by decide)).2
   rw [Nat.add_zero] at h0
   have ANS:=Lib.hid (show runeW s i=2 by rw [hR,if_pos ⟨hl,by unfold loB;rw [if_neg (by omega),if_neg (by omega)];exact h0.1,by unfold hiB;rw [if_neg (by omega),if_neg (by omega)];exact h0.2⟩])
   have dv:=(decode_val (s:=s) (i:=i) ANS.out (by decide)).2.1 rfl
   rw [hAA,hm1] at dv
   have lb1:=(hl 0 (by decide)).2
   simp only [Nat.add_zero] at lb1
   have VAL:Hid ((((Utf8.decode s i).1:Nat):Int)=(a-192) * 64+(byteAt s m1-128)∧128≤byteAt s m1∧byteAt s m1≤191∧194≤a∧a≤223):=Lib.hid (by omega)
   clear dv lb1
   clear hR hAA hm1 hl h0 hc
   go_enter Tryz.func179,Tryz.ntmps179
   go_wp2_with (first | (go_at_call 192;refine (within_any _ _ _ _).mono ?_;rintro e w' ⟨rfl,rfl⟩) | (go_at_call 193;with_reducible refine (HL.out _).mono ?_;rintro e w' ⟨rfl,rfl⟩))
   go_ret2
   exact⟨⟨_,by rw [ANS.out];rfl,fun _=>by have hv:=VAL.out;omega⟩,0,rfl⟩
  ·have l1:lowB s m1 1=false:=decide_eq_false hl
   have ANS:=Lib.hid (show runeW s i=0 by rw [hR,if_neg (fun h=>hl h.1)])
   clear hR hAA hm1 hl hc
   go_enter Tryz.func179,Tryz.ntmps179
   go_wp2_with (first | (go_at_call 192;refine (within_any _ _ _ _).mono ?_;rintro e w' ⟨rfl,rfl⟩) | (go_at_call 193;with_reducible refine (HL.out _).mono ?_;rintro e w' ⟨rfl,rfl⟩))
   go_ret2
   exact⟨⟨_,by rw [ANS.out];rfl,fun h=>absurd ANS.out h⟩,0,rfl⟩
 ·have hbI:¬(m1:Int)<s.size:=by omega
  have hl:¬lowP s m1 1:=fun h=>hb (h 0 (by decide)).1
  have l1:lowB s m1 1=false:=decide_eq_false hl
  have ANS:=Lib.hid (show runeW s i=0 by rw [hR,if_neg (fun h=>hl h.1)])
  clear hR hAA hm1 hl hb hc
  go_enter Tryz.func179,Tryz.ntmps179
  go_wp2_with (first | (go_at_call 192;refine (within_any _ _ _ _).mono ?_;rintro e w' ⟨rfl,rfl⟩) | (go_at_call 193;with_reducible refine (HL.out _).mono ?_;rintro e w' ⟨rfl,rfl⟩))
  go_ret2
  exact⟨⟨_,by rw [ANS.out];rfl,fun h=>absurd ANS.out h⟩,0,rfl⟩
theorem begins_c4 {s:ByteArray}{i:Nat}(hs:s.size≤1000000) (hi:i<s.size) (w:World) (hc:byteAt s i=224):Calls Tryz.prog 179 #[.string s,.int .i64 i] w fun e w'=>(∃r:Int,e=.returned (.tuple #[.int .i32 r,.int .i64 (runeW s i)])∧(runeW s i≠0→r=((Utf8.decode s i).1:Nat)))∧∃q,w'=w.drewN q:=by
 have hA:=byteAt_get hi
 have hiI:(i:Int)<s.size:=by omega
 have hi0:(0:Int)≤i:=by omega
 obtain⟨m1,hm1⟩:∃m,i+1=m:=⟨_,rfl⟩
 have w1:IntKind.i64.wrap ((i:Int)+1)=(m1:Int):=by rw [IntKind.wrap_i64];omega
 have hm10:(0:Int)≤m1:=by omega
 have HS:=Lib.hid hs
 have hm1L:m1≤1000001:=by omega
 have HL1:=Lib.hid (fun w=>low_any (s:=s) (n:=1) hm1L (by decide) w)
 have HL2:=Lib.hid (fun w=>low_any (s:=s) (n:=2) hm1L (by decide) w)
 have HL3:=Lib.hid (fun w=>low_any (s:=s) (n:=3) hm1L (by decide) w)
 obtain⟨m2,hm2⟩:∃m,i+2=m:=⟨_,rfl⟩
 have w2:IntKind.i64.wrap ((i:Int)+2)=(m2:Int):=by rw [IntKind.wrap_i64];omega
 have hm20:(0:Int)≤m2:=by omega
 have hR:=runeW_low2 (s:=s) (i:=i) (by omega) (by omega)
 rw [hm1] at hR
 generalize hAA:byteAt s i=a at *
 subst hc
 have f0:inW 224 194 223=false:=by decide
 have f1:inW 224 225 236=false:=by decide
 have f2:inW 224 238 239=false:=by decide
 have f3:inW 224 241 243=false:=by decide
 have HL:Hid (∀w,Calls Tryz.prog 193 #[.string s,.int .i64 m1,.int .i64 2] w fun e w'=>e=.returned (.bool (lowB s m1 2))∧w'=w):=HL2
 clear HL1 HL2 HL3
 by_cases hb:m1<s.size
 ·have hbI:(m1:Int)<s.size:=by omega
  have hB:=byteAt_get hb
  by_cases hl:lowP s m1 2
  ·have l1:lowB s m1 2=true:=decide_eq_true hl
   have h2:=(hl 1 (by decide)).1
   have h2s:m2<s.size:=by omega
   have h2I:(m2:Int)<s.size:=by omega
   have hC:=byteAt_get h2s
   by_cases hq:160≤byteAt s m1∧byteAt s m1≤191
   ·have q1:inW (byteAt s m1) 160 191=true:=decide_eq_true hq
    have ANS:=Lib.hid (show runeW s i=3 by rw [hR,if_pos ⟨hl,by simpa [loB,hAA] using hq.1,by simpa [hiB,hAA] using hq.2⟩])
    have dv:=(decode_val (s:=s) (i:=i) ANS.out (by decide)).2.2.1 rfl
    rw [hAA,hm1,hm2] at dv
    have lb1:=(hl 0 (by decide)).2
    have lb2:=(hl 1 (by decide)).2
    simp only [Nat.add_zero] at lb1
    rw [show m1+1=m2 by omega] at lb2
    have VAL:Hid ((((Utf8.decode s i).1:Nat):Int)=(224-224) * 4096+(byteAt s m1-128) * 64+(byteAt s m2-128)∧128≤byteAt s m1∧byteAt s m1≤191∧128≤byteAt s m2∧byteAt s m2≤191):=Lib.hid (by omega)
    clear dv lb1 lb2
    clear hR hAA hm1 hl hq h2 hm2
    go_enter Tryz.func179,Tryz.ntmps179
    go_wp2_with (first | (go_at_call 192;refine (within_any _ _ _ _).mono ?_;rintro e w' ⟨rfl,rfl⟩) | (go_at_call 193;with_reducible refine (HL.out _).mono ?_;rintro e w' ⟨rfl,rfl⟩))
    go_ret2
    exact⟨⟨_,by rw [ANS.out];rfl,fun _=>by have hv:=VAL.out;omega⟩,0,rfl⟩
   ·have q1:inW (byteAt s m1) 160 191=false:=decide_eq_false hq
    have ANS:=Lib.hid (show runeW s i=0 by rw [hR,if_neg (fun h=>hq ⟨by simpa [loB,hAA] using h.2.1,by simpa [hiB,hAA] using h.2.2⟩)])
    clear hR hAA hm1 hl hq h2 hm2
    go_enter Tryz.func179,Tryz.ntmps179
    go_wp2_with (first | (go_at_call 192;refine (within_any _ _ _ _).mono ?_;rintro e w' ⟨rfl,rfl⟩) | (go_at_call 193;with_reducible refine (HL.out _).mono ?_;rintro e w' ⟨rfl,rfl⟩))
    go_ret2
    exact⟨⟨_,by rw [ANS.out];rfl,fun h=>absurd ANS.out h⟩,0,rfl⟩
  ·have l1:lowB s m1 2=false:=decide_eq_false hl
   have ANS:=Lib.hid (show runeW s i=0 by rw [hR,if_neg (fun h=>hl h.1)])
   obtain⟨tb,htb⟩:∃t,inW (byteAt s m1) 160 191=t:=⟨_,rfl⟩
   clear hR hAA hm1 hl hm2
   cases tb
   all_goals
    go_enter Tryz.func179,Tryz.ntmps179
    go_wp2_with (first | (go_at_call 192;refine (within_any _ _ _ _).mono ?_;rintro e w' ⟨rfl,rfl⟩) | (go_at_call 193;with_reducible refine (HL.out _).mono ?_;rintro e w' ⟨rfl,rfl⟩))
    go_ret2
    exact⟨⟨_,by rw [ANS.out];rfl,fun h=>absurd ANS.out h⟩,0,rfl⟩
 ·have hbI:¬(m1:Int)<s.size:=by omega
  have hl:¬lowP s m1 2:=fun h=>hb (h 0 (by decide)).1
  have l1:lowB s m1 2=false:=decide_eq_false hl
  have q1:inW 0 160 191=false:=by decide
  have ANS:=Lib.hid (show runeW s i=0 by rw [hR,if_neg (fun h=>hl h.1)])
  clear hR hAA hm1 hl hb hm2
  go_enter Tryz.func179,Tryz.ntmps179
  go_wp2_with (first | (go_at_call 192;refine (within_any _ _ _ _).mono ?_;rintro e w' ⟨rfl,rfl⟩) | (go_at_call 193;with_reducible refine (HL.out _).mono ?_;rintro e w' ⟨rfl,rfl⟩))
  go_ret2
  exact⟨⟨_,by rw [ANS.out];rfl,fun h=>absurd ANS.out h⟩,0,rfl⟩
theorem begins_c5 {s:ByteArray}{i:Nat}(hs:s.size≤1000000) (hi:i<s.size) (w:World) (hc:225≤byteAt s i∧byteAt s i≤236):Calls Tryz.prog 179 #[.string s,.int .i64 i] w fun e w'=>(∃r:Int,e=.returned (.tuple #[.int .i32 r,.int .i64 (runeW s i)])∧(runeW s i≠0→r=((Utf8.decode s i).1:Nat)))∧∃q,w'=w.drewN q:=by
 have hA:=byteAt_get hi
 have hiI:(i:Int)<s.size:=by omega
 have hi0:(0:Int)≤i:=by omega
 obtain⟨m1,hm1⟩:∃m,i+1=m:=⟨_,rfl⟩
 have w1:IntKind.i64.wrap ((i:Int)+1)=(m1:Int):=by rw [IntKind.wrap_i64];omega
 have hm10:(0:Int)≤m1:=by omega
 have HS:=Lib.hid hs
 have hm1L:m1≤1000001:=by omega
 have HL1:=Lib.hid (fun w=>low_any (s:=s) (n:=1) hm1L (by decide) w)
 have HL2:=Lib.hid (fun w=>low_any (s:=s) (n:=2) hm1L (by decide) w)
 have HL3:=Lib.hid (fun w=>low_any (s:=s) (n:=3) hm1L (by decide) w)
 obtain⟨m2,hm2⟩:∃m,i+2=m:=⟨_,rfl⟩
 have w2:IntKind.i64.wrap ((i:Int)+2)=(m2:Int):=by rw [IntKind.wrap_i64];omega
 have hm20:(0:Int)≤m2:=by omega
 have hR:=runeW_low2 (s:=s) (i:=i) (by omega) (by omega)
 rw [hm1] at hR
 generalize hAA:byteAt s i=a at *
 have f0:inW a 194 223=false:=decide_eq_false (by omega)
 have f1:inW a 225 236=true:=decide_eq_true (by omega)
 have f2:inW a 238 239=false:=decide_eq_false (by omega)
 have f3:inW a 241 243=false:=decide_eq_false (by omega)
 have e224:(a == 224)=false:=beq_eq_false_iff_ne.2 (by omega)
 have e237:(a == 237)=false:=beq_eq_false_iff_ne.2 (by omega)
 have e240:(a == 240)=false:=beq_eq_false_iff_ne.2 (by omega)
 have e244:(a == 244)=false:=beq_eq_false_iff_ne.2 (by omega)
 have hle:¬a≤127:=by omega
 have HL:Hid (∀w,Calls Tryz.prog 193 #[.string s,.int .i64 m1,.int .i64 2] w fun e w'=>e=.returned (.bool (lowB s m1 2))∧w'=w):=HL2
 clear HL1 HL2 HL3
 by_cases hb:m1<s.size
 ·have hbI:(m1:Int)<s.size:=by omega
  have hB:=byteAt_get hb
  by_cases hl:lowP s m1 2
  ·have l1:lowB s m1 2=true:=decide_eq_true hl
   have h2:=(hl 1 (by decide)).1
   have h2s:m2<s.size:=by omega
   have h2I:(m2:Int)<s.size:=by omega
   have hC:=byteAt_get h2s
   have h0:=(hl 0 (by decide)).2
   rw [Nat.add_zero] at h0
   have ANS:=Lib.hid (show runeW s i=3 by rw [hR,if_pos ⟨hl,by unfold loB;rw [if_neg (by omega),if_neg (by omega)];exact h0.1,by unfold hiB;rw [if_neg (by omega),if_neg (by omega)];exact h0.2⟩])
   have dv:=(decode_val (s:=s) (i:=i) ANS.out (by decide)).2.2.1 rfl
   rw [hAA,hm1,hm2] at dv
   have lb1:=(hl 0 (by decide)).2
   have lb2:=(hl 1 (by decide)).2
   simp only [Nat.add_zero] at lb1
   rw [show m1+1=m2 by omega] at lb2
   have VAL:Hid ((((Utf8.decode s i).1:Nat):Int)=(a-224) * 4096+(byteAt s m1-128) * 64+(byteAt s m2-128)∧128≤byteAt s m1∧byteAt s m1≤191∧128≤byteAt s m2∧byteAt s m2≤191∧225≤a∧a≤236):=Lib.hid (by omega)
   clear dv lb1 lb2
   clear hR hAA hm1 hl h0 h2 hm2 hc
   go_enter Tryz.func179,Tryz.ntmps179
   go_wp2_with (first | (go_at_call 192;refine (within_any _ _ _ _).mono ?_;rintro e w' ⟨rfl,rfl⟩) | (go_at_call 193;with_reducible refine (HL.out _).mono ?_;rintro e w' ⟨rfl,rfl⟩))
   go_ret2
   exact⟨⟨_,by rw [ANS.out];rfl,fun _=>by have hv:=VAL.out;omega⟩,0,rfl⟩
  ·have l1:lowB s m1 2=false:=decide_eq_false hl
   have ANS:=Lib.hid (show runeW s i=0 by rw [hR,if_neg (fun h=>hl h.1)])
   clear hR hAA hm1 hl hm2 hc
   go_enter Tryz.func179,Tryz.ntmps179
   go_wp2_with (first | (go_at_call 192;refine (within_any _ _ _ _).mono ?_;rintro e w' ⟨rfl,rfl⟩) | (go_at_call 193;with_reducible refine (HL.out _).mono ?_;rintro e w' ⟨rfl,rfl⟩))
   go_ret2
   exact⟨⟨_,by rw [ANS.out];rfl,fun h=>absurd ANS.out h⟩,0,rfl⟩
 ·have hbI:¬(m1:Int)<s.size:=by omega
  have hl:¬lowP s m1 2:=fun h=>hb (h 0 (by decide)).1
  have l1:lowB s m1 2=false:=decide_eq_false hl
  have ANS:=Lib.hid (show runeW s i=0 by rw [hR,if_neg (fun h=>hl h.1)])
  clear hR hAA hm1 hl hb hm2 hc
  go_enter Tryz.func179,Tryz.ntmps179
  go_wp2_with (first | (go_at_call 192;refine (within_any _ _ _ _).mono ?_;rintro e w' ⟨rfl,rfl⟩) | (go_at_call 193;with_reducible refine (HL.out _).mono ?_;rintro e w' ⟨rfl,rfl⟩))
  go_ret2
  exact⟨⟨_,by rw [ANS.out];rfl,fun h=>absurd ANS.out h⟩,0,rfl⟩
theorem begins_c6 {s:ByteArray}{i:Nat}(hs:s.size≤1000000) (hi:i<s.size) (w:World) (hc:byteAt s i=237):Calls Tryz.prog 179 #[.string s,.int .i64 i] w fun e w'=>(∃r:Int,e=.returned (.tuple #[.int .i32 r,.int .i64 (runeW s i)])∧(runeW s i≠0→r=((Utf8.decode s i).1:Nat)))∧∃q,w'=w.drewN q:=by
 have hA:=byteAt_get hi
 have hiI:(i:Int)<s.size:=by omega
 have hi0:(0:Int)≤i:=by omega
 obtain⟨m1,hm1⟩:∃m,i+1=m:=⟨_,rfl⟩
 have w1:IntKind.i64.wrap ((i:Int)+1)=(m1:Int):=by rw [IntKind.wrap_i64];omega
 have hm10:(0:Int)≤m1:=by omega
 have HS:=Lib.hid hs
 have hm1L:m1≤1000001:=by omega
 have HL1:=Lib.hid (fun w=>low_any (s:=s) (n:=1) hm1L (by decide) w)
 have HL2:=Lib.hid (fun w=>low_any (s:=s) (n:=2) hm1L (by decide) w)
 have HL3:=Lib.hid (fun w=>low_any (s:=s) (n:=3) hm1L (by decide) w)
 obtain⟨m2,hm2⟩:∃m,i+2=m:=⟨_,rfl⟩
 have w2:IntKind.i64.wrap ((i:Int)+2)=(m2:Int):=by rw [IntKind.wrap_i64];omega
 have hm20:(0:Int)≤m2:=by omega
 have hR:=runeW_low2 (s:=s) (i:=i) (by omega) (by omega)
 rw [hm1] at hR
 generalize hAA:byteAt s i=a at *
 subst hc
 have f0:inW 237 194 223=false:=by decide
 have f1:inW 237 225 236=false:=by decide
 have f2:inW 237 238 239=false:=by decide
 have f3:inW 237 241 243=false:=by decide
 have HL:Hid (∀w,Calls Tryz.prog 193 #[.string s,.int .i64 m1,.int .i64 2] w fun e w'=>e=.returned (.bool (lowB s m1 2))∧w'=w):=HL2
 clear HL1 HL2 HL3
 by_cases hb:m1<s.size
 ·have hbI:(m1:Int)<s.size:=by omega
  have hB:=byteAt_get hb
  by_cases hl:lowP s m1 2
  ·have l1:lowB s m1 2=true:=decide_eq_true hl
   have h2:=(hl 1 (by decide)).1
   have h2s:m2<s.size:=by omega
   have h2I:(m2:Int)<s.size:=by omega
   have hC:=byteAt_get h2s
   by_cases hq:128≤byteAt s m1∧byteAt s m1≤159
   ·have q1:inW (byteAt s m1) 128 159=true:=decide_eq_true hq
    have ANS:=Lib.hid (show runeW s i=3 by rw [hR,if_pos ⟨hl,by simpa [loB,hAA] using hq.1,by simpa [hiB,hAA] using hq.2⟩])
    have dv:=(decode_val (s:=s) (i:=i) ANS.out (by decide)).2.2.1 rfl
    rw [hAA,hm1,hm2] at dv
    have lb1:=(hl 0 (by decide)).2
    have lb2:=(hl 1 (by decide)).2
    simp only [Nat.add_zero] at lb1
    rw [show m1+1=m2 by omega] at lb2
    have VAL:Hid ((((Utf8.decode s i).1:Nat):Int)=(237-224) * 4096+(byteAt s m1-128) * 64+(byteAt s m2-128)∧128≤byteAt s m1∧byteAt s m1≤191∧128≤byteAt s m2∧byteAt s m2≤191):=Lib.hid (by omega)
    clear dv lb1 lb2
    clear hR hAA hm1 hl hq h2 hm2
    go_enter Tryz.func179,Tryz.ntmps179
    go_wp2_with (first | (go_at_call 192;refine (within_any _ _ _ _).mono ?_;rintro e w' ⟨rfl,rfl⟩) | (go_at_call 193;with_reducible refine (HL.out _).mono ?_;rintro e w' ⟨rfl,rfl⟩))
    go_ret2
    exact⟨⟨_,by rw [ANS.out];rfl,fun _=>by have hv:=VAL.out;omega⟩,0,rfl⟩
   ·have q1:inW (byteAt s m1) 128 159=false:=decide_eq_false hq
    have ANS:=Lib.hid (show runeW s i=0 by rw [hR,if_neg (fun h=>hq ⟨by simpa [loB,hAA] using h.2.1,by simpa [hiB,hAA] using h.2.2⟩)])
    clear hR hAA hm1 hl hq h2 hm2
    go_enter Tryz.func179,Tryz.ntmps179
    go_wp2_with (first | (go_at_call 192;refine (within_any _ _ _ _).mono ?_;rintro e w' ⟨rfl,rfl⟩) | (go_at_call 193;with_reducible refine (HL.out _).mono ?_;rintro e w' ⟨rfl,rfl⟩))
    go_ret2
    exact⟨⟨_,by rw [ANS.out];rfl,fun h=>absurd ANS.out h⟩,0,rfl⟩
  ·have l1:lowB s m1 2=false:=decide_eq_false hl
   have ANS:=Lib.hid (show runeW s i=0 by rw [hR,if_neg (fun h=>hl h.1)])
   obtain⟨tb,htb⟩:∃t,inW (byteAt s m1) 128 159=t:=⟨_,rfl⟩
   clear hR hAA hm1 hl hm2
   cases tb
   all_goals
    go_enter Tryz.func179,Tryz.ntmps179
    go_wp2_with (first | (go_at_call 192;refine (within_any _ _ _ _).mono ?_;rintro e w' ⟨rfl,rfl⟩) | (go_at_call 193;with_reducible refine (HL.out _).mono ?_;rintro e w' ⟨rfl,rfl⟩))
    go_ret2
    exact⟨⟨_,by rw [ANS.out];rfl,fun h=>absurd ANS.out h⟩,0,rfl⟩
 ·have hbI:¬(m1:Int)<s.size:=by omega
  have hl:¬lowP s m1 2:=fun h=>hb (h 0 (by decide)).1
  have l1:lowB s m1 2=false:=decide_eq_false hl
  have q1:inW 0 128 159=false:=by decide
  have ANS:=Lib.hid (show runeW s i=0 by rw [hR,if_neg (fun h=>hl h.1)])
  clear hR hAA hm1 hl hb hm2
  go_enter Tryz.func179,Tryz.ntmps179
  go_wp2_with (first | (go_at_call 192;refine (within_any _ _ _ _).mono ?_;rintro e w' ⟨rfl,rfl⟩) | (go_at_call 193;with_reducible refine (HL.out _).mono ?_;rintro e w' ⟨rfl,rfl⟩))
  go_ret2
  exact⟨⟨_,by rw [ANS.out];rfl,fun h=>absurd ANS.out h⟩,0,rfl⟩
theorem begins_c7 {s:ByteArray}{i:Nat}(hs:s.size≤1000000) (hi:i<s.size) (w:World) (hc:238≤byteAt s i∧byteAt s i≤239):Calls Tryz.prog 179 #[.string s,.int .i64 i] w fun e w'=>(∃r:Int,e=.returned (.tuple #[.int .i32 r,.int .i64 (runeW s i)])∧(runeW s i≠0→r=((Utf8.decode s i).1:Nat)))∧∃q,w'=w.drewN q:=by
 have hA:=byteAt_get hi
 have hiI:(i:Int)<s.size:=by omega
 have hi0:(0:Int)≤i:=by omega
 obtain⟨m1,hm1⟩:∃m,i+1=m:=⟨_,rfl⟩
 have w1:IntKind.i64.wrap ((i:Int)+1)=(m1:Int):=by rw [IntKind.wrap_i64];omega
 have hm10:(0:Int)≤m1:=by omega
 have HS:=Lib.hid hs
 have hm1L:m1≤1000001:=by omega
 have HL1:=Lib.hid (fun w=>low_any (s:=s) (n:=1) hm1L (by decide) w)
 have HL2:=Lib.hid (fun w=>low_any (s:=s) (n:=2) hm1L (by decide) w)
 have HL3:=Lib.hid (fun w=>low_any (s:=s) (n:=3) hm1L (by decide) w)
 obtain⟨m2,hm2⟩:∃m,i+2=m:=⟨_,rfl⟩
 have w2:IntKind.i64.wrap ((i:Int)+2)=(m2:Int):=by rw [IntKind.wrap_i64];omega
 have hm20:(0:Int)≤m2:=by omega
 have hR:=runeW_low2 (s:=s) (i:=i) (by omega) (by omega)
 rw [hm1] at hR
 generalize hAA:byteAt s i=a at *
 have f0:inW a 194 223=false:=decide_eq_false (by omega)
 have f1:inW a 225 236=false:=decide_eq_false (by omega)
 have f2:inW a 238 239=true:=decide_eq_true (by omega)
 have f3:inW a 241 243=false:=decide_eq_false (by omega)
 have e224:(a == 224)=false:=beq_eq_false_iff_ne.2 (by omega)
 have e237:(a == 237)=false:=beq_eq_false_iff_ne.2 (by omega)
 have e240:(a == 240)=false:=beq_eq_false_iff_ne.2 (by omega)
 have e244:(a == 244)=false:=beq_eq_false_iff_ne.2 (by omega)
 have hle:¬a≤127:=by omega
 have HL:Hid (∀w,Calls Tryz.prog 193 #[.string s,.int .i64 m1,.int .i64 2] w fun e w'=>e=.returned (.bool (lowB s m1 2))∧w'=w):=HL2
 clear HL1 HL2 HL3
 by_cases hb:m1<s.size
 ·have hbI:(m1:Int)<s.size:=by omega
  have hB:=byteAt_get hb
  by_cases hl:lowP s m1 2
  ·have l1:lowB s m1 2=true:=decide_eq_true hl
   have h2:=(hl 1 (by decide)).1
   have h2s:m2<s.size:=by omega
   have h2I:(m2:Int)<s.size:=by omega
   have hC:=byteAt_get h2s
   have h0:=(hl 0 (by decide)).2
   rw [Nat.add_zero] at h0
   have ANS:=Lib.hid (show runeW s i=3 by rw [hR,if_pos ⟨hl,by unfold loB;rw [if_neg (by omega),if_neg (by omega)];exact h0.1,by unfold hiB;rw [if_neg (by omega),if_neg (by omega)];exact h0.2⟩])
   have dv:=(decode_val (s:=s) (i:=i) ANS.out (by decide)).2.2.1 rfl
   rw [hAA,hm1,hm2] at dv
   have lb1:=(hl 0 (by decide)).2
   have lb2:=(hl 1 (by decide)).2
   simp only [Nat.add_zero] at lb1
   rw [show m1+1=m2 by omega] at lb2
   have VAL:Hid ((((Utf8.decode s i).1:Nat):Int)=(a-224) * 4096+(byteAt s m1-128) * 64+(byteAt s m2-128)∧128≤byteAt s m1∧byteAt s m1≤191∧128≤byteAt s m2∧byteAt s m2≤191∧238≤a∧a≤239):=Lib.hid (by omega)
   clear dv lb1 lb2
   clear hR hAA hm1 hl h0 h2 hm2 hc
   go_enter Tryz.func179,Tryz.ntmps179
   go_wp2_with (first | (go_at_call 192;refine (within_any _ _ _ _).mono ?_;rintro e w' ⟨rfl,rfl⟩) | (go_at_call 193;with_reducible refine (HL.out _).mono ?_;rintro e w' ⟨rfl,rfl⟩))
   go_ret2
   exact⟨⟨_,by rw [ANS.out];rfl,fun _=>by have hv:=VAL.out;omega⟩,0,rfl⟩
  ·have l1:lowB s m1 2=false:=decide_eq_false hl
   have ANS:=Lib.hid (show runeW s i=0 by rw [hR,if_neg (fun h=>hl h.1)])
   clear hR hAA hm1 hl hm2 hc
   go_enter Tryz.func179,Tryz.ntmps179
   go_wp2_with (first | (go_at_call 192;refine (within_any _ _ _ _).mono ?_;rintro e w' ⟨rfl,rfl⟩) | (go_at_call 193;with_reducible refine (HL.out _).mono ?_;rintro e w' ⟨rfl,rfl⟩))
   go_ret2
   exact⟨⟨_,by rw [ANS.out];rfl,fun h=>absurd ANS.out h⟩,0,rfl⟩
 ·have hbI:¬(m1:Int)<s.size:=by omega
  have hl:¬lowP s m1 2:=fun h=>hb (h 0 (by decide)).1
  have l1:lowB s m1 2=false:=decide_eq_false hl
  have ANS:=Lib.hid (show runeW s i=0 by rw [hR,if_neg (fun h=>hl h.1)])
  clear hR hAA hm1 hl hb hm2 hc
  go_enter Tryz.func179,Tryz.ntmps179
  go_wp2_with (first | (go_at_call 192;refine (within_any _ _ _ _).mono ?_;rintro e w' ⟨rfl,rfl⟩) | (go_at_call 193;with_reducible refine (HL.out _).mono ?_;rintro e w' ⟨rfl,rfl⟩))
  go_ret2
  exact⟨⟨_,by rw [ANS.out];rfl,fun h=>absurd ANS.out h⟩,0,rfl⟩
theorem begins_c8 {s:ByteArray}{i:Nat}(hs:s.size≤1000000) (hi:i<s.size) (w:World) (hc:byteAt s i=240):Calls Tryz.prog 179 #[.string s,.int .i64 i] w fun e w'=>(∃r:Int,e=.returned (.tuple #[.int .i32 r,.int .i64 (runeW s i)])∧(runeW s i≠0→r=((Utf8.decode s i).1:Nat)))∧∃q,w'=w.drewN q:=by
 have hA:=byteAt_get hi
 have hiI:(i:Int)<s.size:=by omega
 have hi0:(0:Int)≤i:=by omega
 obtain⟨m1,hm1⟩:∃m,i+1=m:=⟨_,rfl⟩
 have w1:IntKind.i64.wrap ((i:Int)+1)=(m1:Int):=by rw [IntKind.wrap_i64];omega
 have hm10:(0:Int)≤m1:=by omega
 have HS:=Lib.hid hs
 have hm1L:m1≤1000001:=by omega
 have HL1:=Lib.hid (fun w=>low_any (s:=s) (n:=1) hm1L (by decide) w)
 have HL2:=Lib.hid (fun w=>low_any (s:=s) (n:=2) hm1L (by decide) w)
 have HL3:=Lib.hid (fun w=>low_any (s:=s) (n:=3) hm1L (by decide) w)
 obtain⟨m2,hm2⟩:∃m,i+2=m:=⟨_,rfl⟩
 have w2:IntKind.i64.wrap ((i:Int)+2)=(m2:Int):=by rw [IntKind.wrap_i64];omega
 have hm20:(0:Int)≤m2:=by omega
 obtain⟨m3,hm3⟩:∃m,i+3=m:=⟨_,rfl⟩
 have w3:IntKind.i64.wrap ((i:Int)+3)=(m3:Int):=by rw [IntKind.wrap_i64];omega
 have hm30:(0:Int)≤m3:=by omega
 have hR:=runeW_low3 (s:=s) (i:=i) (by omega) (by omega)
 rw [hm1] at hR
 generalize hAA:byteAt s i=a at *
 subst hc
 have f0:inW 240 194 223=false:=by decide
 have f1:inW 240 225 236=false:=by decide
 have f2:inW 240 238 239=false:=by decide
 have f3:inW 240 241 243=false:=by decide
 have HL:Hid (∀w,Calls Tryz.prog 193 #[.string s,.int .i64 m1,.int .i64 3] w fun e w'=>e=.returned (.bool (lowB s m1 3))∧w'=w):=HL3
 clear HL1 HL2 HL3
 by_cases hb:m1<s.size
 ·have hbI:(m1:Int)<s.size:=by omega
  have hB:=byteAt_get hb
  by_cases hl:lowP s m1 3
  ·have l1:lowB s m1 3=true:=decide_eq_true hl
   have h2:=(hl 1 (by decide)).1
   have h2s:m2<s.size:=by omega
   have h2I:(m2:Int)<s.size:=by omega
   have hC:=byteAt_get h2s
   have h3:=(hl 2 (by decide)).1
   have h3s:m3<s.size:=by omega
   have h3I:(m3:Int)<s.size:=by omega
   have hD:=byteAt_get h3s
   by_cases hq:144≤byteAt s m1∧byteAt s m1≤191
   ·have q1:inW (byteAt s m1) 144 191=true:=decide_eq_true hq
    have ANS:=Lib.hid (show runeW s i=4 by rw [hR,if_pos ⟨hl,by simpa [loB,hAA] using hq.1,by simpa [hiB,hAA] using hq.2⟩])
    have dv:=(decode_val (s:=s) (i:=i) ANS.out (by decide)).2.2.2 rfl
    rw [hAA,hm1,hm2,hm3] at dv
    have lb1:=(hl 0 (by decide)).2
    have lb2:=(hl 1 (by decide)).2
    have lb3:=(hl 2 (by decide)).2
    simp only [Nat.add_zero] at lb1
    rw [show m1+1=m2 by omega] at lb2
    rw [show m1+2=m3 by omega] at lb3
    have VAL:Hid ((((Utf8.decode s i).1:Nat):Int)=(240-240) * 262144+(byteAt s m1-128) * 4096+(byteAt s m2-128) * 64+(byteAt s m3-128)∧128≤byteAt s m1∧byteAt s m1≤191∧128≤byteAt s m2∧byteAt s m2≤191∧128≤byteAt s m3∧byteAt s m3≤191):=Lib.hid (by omega)
    clear dv lb1 lb2 lb3
    clear hR hAA hm1 hl hq h2 hm2 h3 hm3
    go_enter Tryz.func179,Tryz.ntmps179
    go_wp2_with (first | (go_at_call 192;refine (within_any _ _ _ _).mono ?_;rintro e w' ⟨rfl,rfl⟩) | (go_at_call 193;with_reducible refine (HL.out _).mono ?_;rintro e w' ⟨rfl,rfl⟩))
    go_quiet (fail)
    go_wp2_with fail
    go_ret2
    exact⟨⟨_,by rw [ANS.out];rfl,fun _=>by have hv:=VAL.out;omega⟩,_,rfl⟩
   ·have q1:inW (byteAt s m1) 144 191=false:=decide_eq_false hq
    have ANS:=Lib.hid (show runeW s i=0 by rw [hR,if_neg (fun h=>hq ⟨by simpa [loB,hAA] using h.2.1,by simpa [hiB,hAA] using h.2.2⟩)])
    clear hR hAA hm1 hl hq h2 hm2 h3 hm3
    go_enter Tryz.func179,Tryz.ntmps179
    go_wp2_with (first | (go_at_call 192;refine (within_any _ _ _ _).mono ?_;rintro e w' ⟨rfl,rfl⟩) | (go_at_call 193;with_reducible refine (HL.out _).mono ?_;rintro e w' ⟨rfl,rfl⟩))
    go_ret2
    exact⟨⟨_,by rw [ANS.out];rfl,fun h=>absurd ANS.out h⟩,0,rfl⟩
  ·have l1:lowB s m1 3=false:=decide_eq_false hl
   have ANS:=Lib.hid (show runeW s i=0 by rw [hR,if_neg (fun h=>hl h.1)])
   obtain⟨tb,htb⟩:∃t,inW (byteAt s m1) 144 191=t:=⟨_,rfl⟩
   clear hR hAA hm1 hl hm2 hm3
   cases tb
   all_goals
    go_enter Tryz.func179,Tryz.ntmps179
    go_wp2_with (first | (go_at_call 192;refine (within_any _ _ _ _).mono ?_;rintro e w' ⟨rfl,rfl⟩) | (go_at_call 193;with_reducible refine (HL.out _).mono ?_;rintro e w' ⟨rfl,rfl⟩))
    go_ret2
    exact⟨⟨_,by rw [ANS.out];rfl,fun h=>absurd ANS.out h⟩,0,rfl⟩
 ·have hbI:¬(m1:Int)<s.size:=by omega
  have hl:¬lowP s m1 3:=fun h=>hb (h 0 (by decide)).1
  have l1:lowB s m1 3=false:=decide_eq_false hl
  have q1:inW 0 144 191=false:=by decide
  have ANS:=Lib.hid (show runeW s i=0 by rw [hR,if_neg (fun h=>hl h.1)])
  clear hR hAA hm1 hl hb hm2 hm3
  go_enter Tryz.func179,Tryz.ntmps179
  go_wp2_with (first | (go_at_call 192;refine (within_any _ _ _ _).mono ?_;rintro e w' ⟨rfl,rfl⟩) | (go_at_call 193;with_reducible refine (HL.out _).mono ?_;rintro e w' ⟨rfl,rfl⟩))
  go_ret2
  exact⟨⟨_,by rw [ANS.out];rfl,fun h=>absurd ANS.out h⟩,0,rfl⟩
theorem begins_c9 {s:ByteArray}{i:Nat}(hs:s.size≤1000000) (hi:i<s.size) (w:World) (hc:241≤byteAt s i∧byteAt s i≤243):Calls Tryz.prog 179 #[.string s,.int .i64 i] w fun e w'=>(∃r:Int,e=.returned (.tuple #[.int .i32 r,.int .i64 (runeW s i)])∧(runeW s i≠0→r=((Utf8.decode s i).1:Nat)))∧∃q,w'=w.drewN q:=by
 have hA:=byteAt_get hi
 have hiI:(i:Int)<s.size:=by omega
 have hi0:(0:Int)≤i:=by omega
 obtain⟨m1,hm1⟩:∃m,i+1=m:=⟨_,rfl⟩
 have w1:IntKind.i64.wrap ((i:Int)+1)=(m1:Int):=by rw [IntKind.wrap_i64];omega
 have hm10:(0:Int)≤m1:=by omega
 have HS:=Lib.hid hs
 have hm1L:m1≤1000001:=by omega
 have HL1:=Lib.hid (fun w=>low_any (s:=s) (n:=1) hm1L (by decide) w)
 have HL2:=Lib.hid (fun w=>low_any (s:=s) (n:=2) hm1L (by decide) w)
 have HL3:=Lib.hid (fun w=>low_any (s:=s) (n:=3) hm1L (by decide) w)
 obtain⟨m2,hm2⟩:∃m,i+2=m:=⟨_,rfl⟩
 have w2:IntKind.i64.wrap ((i:Int)+2)=(m2:Int):=by rw [IntKind.wrap_i64];omega
 have hm20:(0:Int)≤m2:=by omega
 obtain⟨m3,hm3⟩:∃m,i+3=m:=⟨_,rfl⟩
 have w3:IntKind.i64.wrap ((i:Int)+3)=(m3:Int):=by rw [IntKind.wrap_i64];omega
 have hm30:(0:Int)≤m3:=by omega
 have hR:=runeW_low3 (s:=s) (i:=i) (by omega) (by omega)
 rw [hm1] at hR
 generalize hAA:byteAt s i=a at *
 have f0:inW a 194 223=false:=decide_eq_false (by omega)
 have f1:inW a 225 236=false:=decide_eq_false (by omega)
 have f2:inW a 238 239=false:=decide_eq_false (by omega)
 have f3:inW a 241 243=true:=decide_eq_true (by omega)
 have e224:(a == 224)=false:=beq_eq_false_iff_ne.2 (by omega)
 have e237:(a == 237)=false:=beq_eq_false_iff_ne.2 (by omega)
 have e240:(a == 240)=false:=beq_eq_false_iff_ne.2 (by omega)
 have e244:(a == 244)=false:=beq_eq_false_iff_ne.2 (by omega)
 have hle:¬a≤127:=by omega
 have HL:Hid (∀w,Calls Tryz.prog 193 #[.string s,.int .i64 m1,.int .i64 3] w fun e w'=>e=.returned (.bool (lowB s m1 3))∧w'=w):=HL3
 clear HL1 HL2 HL3
 by_cases hb:m1<s.size
 ·have hbI:(m1:Int)<s.size:=by omega
  have hB:=byteAt_get hb
  by_cases hl:lowP s m1 3
  ·have l1:lowB s m1 3=true:=decide_eq_true hl
   have h2:=(hl 1 (by decide)).1
   have h2s:m2<s.size:=by omega
   have h2I:(m2:Int)<s.size:=by omega
   have hC:=byteAt_get h2s
   have h3:=(hl 2 (by decide)).1
   have h3s:m3<s.size:=by omega
   have h3I:(m3:Int)<s.size:=by omega
   have hD:=byteAt_get h3s
   have h0:=(hl 0 (by decide)).2
   rw [Nat.add_zero] at h0
   have ANS:=Lib.hid (show runeW s i=4 by rw [hR,if_pos ⟨hl,by unfold loB;rw [if_neg (by omega),if_neg (by omega)];exact h0.1,by unfold hiB;rw [if_neg (by omega),if_neg (by omega)];exact h0.2⟩])
   have dv:=(decode_val (s:=s) (i:=i) ANS.out (by decide)).2.2.2 rfl
   rw [hAA,hm1,hm2,hm3] at dv
   have lb1:=(hl 0 (by decide)).2
   have lb2:=(hl 1 (by decide)).2
   have lb3:=(hl 2 (by decide)).2
   simp only [Nat.add_zero] at lb1
   rw [show m1+1=m2 by omega] at lb2
   rw [show m1+2=m3 by omega] at lb3
   have VAL:Hid ((((Utf8.decode s i).1:Nat):Int)=(a-240) * 262144+(byteAt s m1-128) * 4096+(byteAt s m2-128) * 64+(byteAt s m3-128)∧128≤byteAt s m1∧byteAt s m1≤191∧128≤byteAt s m2∧byteAt s m2≤191∧128≤byteAt s m3∧byteAt s m3≤191∧241≤a∧a≤243):=Lib.hid (by omega)
   clear dv lb1 lb2 lb3
   clear hR hAA hm1 hl h0 h2 hm2 h3 hm3 hc
   go_enter Tryz.func179,Tryz.ntmps179
   go_wp2_with (first | (go_at_call 192;refine (within_any _ _ _ _).mono ?_;rintro e w' ⟨rfl,rfl⟩) | (go_at_call 193;with_reducible refine (HL.out _).mono ?_;rintro e w' ⟨rfl,rfl⟩))
   go_quiet (fail)
   go_wp2_with fail
   go_ret2
   exact⟨⟨_,by rw [ANS.out];rfl,fun _=>by have hv:=VAL.out;omega⟩,_,rfl⟩
  ·have l1:lowB s m1 3=false:=decide_eq_false hl
   have ANS:=Lib.hid (show runeW s i=0 by rw [hR,if_neg (fun h=>hl h.1)])
   clear hR hAA hm1 hl hm2 hm3 hc
   go_enter Tryz.func179,Tryz.ntmps179
   go_wp2_with (first | (go_at_call 192;refine (within_any _ _ _ _).mono ?_;rintro e w' ⟨rfl,rfl⟩) | (go_at_call 193;with_reducible refine (HL.out _).mono ?_;rintro e w' ⟨rfl,rfl⟩))
   go_ret2
   exact⟨⟨_,by rw [ANS.out];rfl,fun h=>absurd ANS.out h⟩,0,rfl⟩
 ·have hbI:¬(m1:Int)<s.size:=by omega
  have hl:¬lowP s m1 3:=fun h=>hb (h 0 (by decide)).1
  have l1:lowB s m1 3=false:=decide_eq_false hl
  have ANS:=Lib.hid (show runeW s i=0 by rw [hR,if_neg (fun h=>hl h.1)])
  clear hR hAA hm1 hl hb hm2 hm3 hc
  go_enter Tryz.func179,Tryz.ntmps179
  go_wp2_with (first | (go_at_call 192;refine (within_any _ _ _ _).mono ?_;rintro e w' ⟨rfl,rfl⟩) | (go_at_call 193;with_reducible refine (HL.out _).mono ?_;rintro e w' ⟨rfl,rfl⟩))
  go_ret2
  exact⟨⟨_,by rw [ANS.out];rfl,fun h=>absurd ANS.out h⟩,0,rfl⟩
theorem begins_c10 {s:ByteArray}{i:Nat}(hs:s.size≤1000000) (hi:i<s.size) (w:World) (hc:byteAt s i=244):Calls Tryz.prog 179 #[.string s,.int .i64 i] w fun e w'=>(∃r:Int,e=.returned (.tuple #[.int .i32 r,.int .i64 (runeW s i)])∧(runeW s i≠0→r=((Utf8.decode s i).1:Nat)))∧∃q,w'=w.drewN q:=by
 have hA:=byteAt_get hi
 have hiI:(i:Int)<s.size:=by omega
 have hi0:(0:Int)≤i:=by omega
 obtain⟨m1,hm1⟩:∃m,i+1=m:=⟨_,rfl⟩
 have w1:IntKind.i64.wrap ((i:Int)+1)=(m1:Int):=by rw [IntKind.wrap_i64];omega
 have hm10:(0:Int)≤m1:=by omega
 have HS:=Lib.hid hs
 have hm1L:m1≤1000001:=by omega
 have HL1:=Lib.hid (fun w=>low_any (s:=s) (n:=1) hm1L (by decide) w)
 have HL2:=Lib.hid (fun w=>low_any (s:=s) (n:=2) hm1L (by decide) w)
 have HL3:=Lib.hid (fun w=>low_any (s:=s) (n:=3) hm1L (by decide) w)
 obtain⟨m2,hm2⟩:∃m,i+2=m:=⟨_,rfl⟩
 have w2:IntKind.i64.wrap ((i:Int)+2)=(m2:Int):=by rw [IntKind.wrap_i64];omega
 have hm20:(0:Int)≤m2:=by omega
 obtain⟨m3,hm3⟩:∃m,i+3=m:=⟨_,rfl⟩
 have w3:IntKind.i64.wrap ((i:Int)+3)=(m3:Int):=by rw [IntKind.wrap_i64];omega
 have hm30:(0:Int)≤m3:=by omega
 have hR:=runeW_low3 (s:=s) (i:=i) (by omega) (by omega)
 rw [hm1] at hR
 generalize hAA:byteAt s i=a at *
 subst hc
 have f0:inW 244 194 223=false:=by decide
 have f1:inW 244 225 236=false:=by decide
 have f2:inW 244 238 239=false:=by decide
 have f3:inW 244 241 243=false:=by decide
 have HL:Hid (∀w,Calls Tryz.prog 193 #[.string s,.int .i64 m1,.int .i64 3] w fun e w'=>e=.returned (.bool (lowB s m1 3))∧w'=w):=HL3
 clear HL1 HL2 HL3
 by_cases hb:m1<s.size
 ·have hbI:(m1:Int)<s.size:=by omega
  have hB:=byteAt_get hb
  by_cases hl:lowP s m1 3
  ·have l1:lowB s m1 3=true:=decide_eq_true hl
   have h2:=(hl 1 (by decide)).1
   have h2s:m2<s.size:=by omega
   have h2I:(m2:Int)<s.size:=by omega
   have hC:=byteAt_get h2s
   have h3:=(hl 2 (by decide)).1
   have h3s:m3<s.size:=by omega
   have h3I:(m3:Int)<s.size:=by omega
   have hD:=byteAt_get h3s
   by_cases hq:128≤byteAt s m1∧byteAt s m1≤143
   ·have q1:inW (byteAt s m1) 128 143=true:=decide_eq_true hq
    have ANS:=Lib.hid (show runeW s i=4 by rw [hR,if_pos ⟨hl,by simpa [loB,hAA] using hq.1,by simpa [hiB,hAA] using hq.2⟩])
    have dv:=(decode_val (s:=s) (i:=i) ANS.out (by decide)).2.2.2 rfl
    rw [hAA,hm1,hm2,hm3] at dv
    have lb1:=(hl 0 (by decide)).2
    have lb2:=(hl 1 (by decide)).2
    have lb3:=(hl 2 (by decide)).2
    simp only [Nat.add_zero] at lb1
    rw [show m1+1=m2 by omega] at lb2
    rw [show m1+2=m3 by omega] at lb3
    have VAL:Hid ((((Utf8.decode s i).1:Nat):Int)=(244-240) * 262144+(byteAt s m1-128) * 4096+(byteAt s m2-128) * 64+(byteAt s m3-128)∧128≤byteAt s m1∧byteAt s m1≤191∧128≤byteAt s m2∧byteAt s m2≤191∧128≤byteAt s m3∧byteAt s m3≤191):=Lib.hid (by omega)
    clear dv lb1 lb2 lb3
    clear hR hAA hm1 hl hq h2 hm2 h3 hm3
    go_enter Tryz.func179,Tryz.ntmps179
    go_wp2_with (first | (go_at_call 192;refine (within_any _ _ _ _).mono ?_;rintro e w' ⟨rfl,rfl⟩) | (go_at_call 193;with_reducible refine (HL.out _).mono ?_;rintro e w' ⟨rfl,rfl⟩))
    go_quiet (fail)
    go_wp2_with fail
    go_ret2
    exact⟨⟨_,by rw [ANS.out];rfl,fun _=>by have hv:=VAL.out;omega⟩,_,rfl⟩
   ·have q1:inW (byteAt s m1) 128 143=false:=decide_eq_false hq
    have ANS:=Lib.hid (show runeW s i=0 by rw [hR,if_neg (fun h=>hq ⟨by simpa [loB,hAA] using h.2.1,by simpa [hiB,hAA] using h.2.2⟩)])
    clear hR hAA hm1 hl hq h2 hm2 h3 hm3
    go_enter Tryz.func179,Tryz.ntmps179
    go_wp2_with (first | (go_at_call 192;refine (within_any _ _ _ _).mono ?_;rintro e w' ⟨rfl,rfl⟩) | (go_at_call 193;with_reducible refine (HL.out _).mono ?_;rintro e w' ⟨rfl,rfl⟩))
    go_ret2
    exact⟨⟨_,by rw [ANS.out];rfl,fun h=>absurd ANS.out h⟩,0,rfl⟩
  ·have l1:lowB s m1 3=false:=decide_eq_false hl
   have ANS:=Lib.hid (show runeW s i=0 by rw [hR,if_neg (fun h=>hl h.1)])
   obtain⟨tb,htb⟩:∃t,inW (byteAt s m1) 128 143=t:=⟨_,rfl⟩
   clear hR hAA hm1 hl hm2 hm3
   cases tb
   all_goals
    go_enter Tryz.func179,Tryz.ntmps179
    go_wp2_with (first | (go_at_call 192;refine (within_any _ _ _ _).mono ?_;rintro e w' ⟨rfl,rfl⟩) | (go_at_call 193;with_reducible refine (HL.out _).mono ?_;rintro e w' ⟨rfl,rfl⟩))
    go_ret2
    exact⟨⟨_,by rw [ANS.out];rfl,fun h=>absurd ANS.out h⟩,0,rfl⟩
 ·have hbI:¬(m1:Int)<s.size:=by omega
  have hl:¬lowP s m1 3:=fun h=>hb (h 0 (by decide)).1
  have l1:lowB s m1 3=false:=decide_eq_false hl
  have q1:inW 0 128 143=false:=by decide
  have ANS:=Lib.hid (show runeW s i=0 by rw [hR,if_neg (fun h=>hl h.1)])
  clear hR hAA hm1 hl hb hm2 hm3
  go_enter Tryz.func179,Tryz.ntmps179
  go_wp2_with (first | (go_at_call 192;refine (within_any _ _ _ _).mono ?_;rintro e w' ⟨rfl,rfl⟩) | (go_at_call 193;with_reducible refine (HL.out _).mono ?_;rintro e w' ⟨rfl,rfl⟩))
  go_ret2
  exact⟨⟨_,by rw [ANS.out];rfl,fun h=>absurd ANS.out h⟩,0,rfl⟩
theorem begins_c2 {s:ByteArray}{i:Nat}(hs:s.size≤1000000) (hi:i<s.size) (w:World) (hc:(128≤byteAt s i∧byteAt s i≤193)∨245≤byteAt s i):Calls Tryz.prog 179 #[.string s,.int .i64 i] w fun e w'=>(∃r:Int,e=.returned (.tuple #[.int .i32 r,.int .i64 (runeW s i)])∧(runeW s i≠0→r=((Utf8.decode s i).1:Nat)))∧∃q,w'=w.drewN q:=by
 have hA:=byteAt_get hi
 have hiI:(i:Int)<s.size:=by omega
 have hi0:(0:Int)≤i:=by omega
 obtain⟨m1,hm1⟩:∃m,i+1=m:=⟨_,rfl⟩
 have w1:IntKind.i64.wrap ((i:Int)+1)=(m1:Int):=by rw [IntKind.wrap_i64];omega
 have hm10:(0:Int)≤m1:=by omega
 have HS:=Lib.hid hs
 have hm1L:m1≤1000001:=by omega
 have HL1:=Lib.hid (fun w=>low_any (s:=s) (n:=1) hm1L (by decide) w)
 have HL2:=Lib.hid (fun w=>low_any (s:=s) (n:=2) hm1L (by decide) w)
 have HL3:=Lib.hid (fun w=>low_any (s:=s) (n:=3) hm1L (by decide) w)
 generalize hAA:byteAt s i=a at *
 have f0:inW a 194 223=false:=decide_eq_false (by omega)
 have f1:inW a 225 236=false:=decide_eq_false (by omega)
 have f2:inW a 238 239=false:=decide_eq_false (by omega)
 have f3:inW a 241 243=false:=decide_eq_false (by omega)
 have e224:(a == 224)=false:=beq_eq_false_iff_ne.2 (by omega)
 have e237:(a == 237)=false:=beq_eq_false_iff_ne.2 (by omega)
 have e240:(a == 240)=false:=beq_eq_false_iff_ne.2 (by omega)
 have e244:(a == 244)=false:=beq_eq_false_iff_ne.2 (by omega)
 have hle:¬a≤127:=by omega
 have ANS:=Lib.hid (show runeW s i=0 by unfold runeW;rw [hAA,if_neg (by omega),if_pos (by omega)])
 have HL:Hid (∀w,Calls Tryz.prog 193 #[.string s,.int .i64 m1,.int .i64 1] w fun e w'=>e=.returned (.bool (lowB s m1 1))∧w'=w):=HL1
 clear HL1 HL2 HL3
 by_cases hb:m1<s.size
 ·have hbI:(m1:Int)<s.size:=by omega
  have hB:=byteAt_get hb
  clear hAA hm1 hc
  generalize byteAt s m1=b at *
  go_enter Tryz.func179,Tryz.ntmps179
  go_wp2_with (first | (go_at_call 192;refine (within_any _ _ _ _).mono ?_;rintro e w' ⟨rfl,rfl⟩) | (go_at_call 193;with_reducible refine (HL.out _).mono ?_;rintro e w' ⟨rfl,rfl⟩))
  go_ret2
  exact⟨⟨_,by rw [ANS.out];rfl,fun h=>absurd ANS.out h⟩,0,rfl⟩
 ·have hbI:¬(m1:Int)<s.size:=by omega
  clear hAA hm1 hc hb
  go_enter Tryz.func179,Tryz.ntmps179
  go_wp2_with (first | (go_at_call 192;refine (within_any _ _ _ _).mono ?_;rintro e w' ⟨rfl,rfl⟩) | (go_at_call 193;with_reducible refine (HL.out _).mono ?_;rintro e w' ⟨rfl,rfl⟩))
  go_ret2
  exact⟨⟨_,by rw [ANS.out];rfl,fun h=>absurd ANS.out h⟩,0,rfl⟩
theorem begins_any {s:ByteArray}{i:Nat}(hs:s.size≤1000000) (hi:i<s.size) (w:World):Calls Tryz.prog 179 #[.string s,.int .i64 i] w fun e w'=>(∃r:Int,e=.returned (.tuple #[.int .i32 r,.int .i64 (runeW s i)])∧(runeW s i≠0→r=((Utf8.decode s i).1:Nat)))∧∃q,w'=w.drewN q:=by
 have hbd:=byteAt_bd s i
 have hcls:(byteAt s i≤127)∨(194≤byteAt s i∧byteAt s i≤223)∨(byteAt s i=224)∨(225≤byteAt s i∧byteAt s i≤236)∨(byteAt s i=237)∨(238≤byteAt s i∧byteAt s i≤239)∨(byteAt s i=240)∨(241≤byteAt s i∧byteAt s i≤243)∨(byteAt s i=244)∨((128≤byteAt s i∧byteAt s i≤193)∨245≤byteAt s i):=by omega
 rcases hcls with c1|c3|c4|c5|c6|c7|c8|c9|c10|c2
 ·exact begins_c1 hs hi w c1
 ·exact begins_c3 hs hi w c3
 ·exact begins_c4 hs hi w c4
 ·exact begins_c5 hs hi w c5
 ·exact begins_c6 hs hi w c6
 ·exact begins_c7 hs hi w c7
 ·exact begins_c8 hs hi w c8
 ·exact begins_c9 hs hi w c9
 ·exact begins_c10 hs hi w c10
 ·exact begins_c2 hs hi w c2
end Go.Proofs.YtjohljmpcblpjaaGreatDoor
