/- One Queue, and a vector of one's own beside it. Runes in bytes, plainly: how many bytes the rune that begins at a place has. It speaks of no program of its own. -/
import Derived.Test.YtaaeomapbigfgaaGreatU20
import Derived.Test.YtaaeomapbigfgaaGreatU16
import Derived.Laws.RangeAny
import Derived.Lib.RuneCount
namespace Go.Proofs.YtaaeomapbigfgaaGreat
open Go.RowKit Go.Proofs.YtaaeomapbigfgaaGreat.St
/-- the Queue at g, which says C; hv: a row of its own that says H -/
def One (b0 : Nat) (w : World) (g : Nat) (hold : Int) (C : CQ) (hv : Value) (H : List Dot) : Prop :=
  ∃ (s : QS) (M : Nat → Prop) (vv wv ov : Value), QBox w g hold s M vv wv ov ∧ s.cont = C ∧ (∀ b, M b → b0 ≤ b) ∧ w.ownsRow b0 28 2 hv H.length (dotE.flat H) ∧ ∀ b, hv.ownBlock = some b → ¬ M b
section
variable {b0 : Nat} {w w' : World} {g : Nat} {hold : Int} {C : CQ} {hv : Value} {H : List Dot}
theorem One.keep (h : One b0 w g hold C hv H) (hk : Kept (fun _ => False) w w') : One b0 w' g hold C hv H := by
  obtain ⟨s, M, vv, wv, ov, h1, h2, h3, h4, h5⟩ := h
  exact ⟨s, M, vv, wv, ov, h1.keep hk (fun _ _ h => h), h2, h3, owns_keep h4 hk (fun _ _ h => h), h5⟩
theorem One.have_ (h : One b0 w g hold C hv H) : w.ownsRow b0 28 2 hv H.length (dotE.flat H) := by
  obtain ⟨s, M, vv, wv, ov, h1, h2, h3, h4, h5⟩ := h
  exact h4
theorem One.offer (h : One b0 w g hold C hv H) (hb0 : b0 ≤ w.heap.size) {x : OpV} {D : List Dot} {G : List Run} {c : Int} (hD : SlAt dotE w x.deps.v D) (hG : SlAt runE w x.gone.v G) (hDl : D.length ≤ 1000000) (hGl : G.length ≤ 1000000) (hWl : C.W.length ≤ 10000) (hOl : C.O.length ≤ 100000)
    (hchk : ∀ w', Kept (fun _ => False) w w' → Calls Tryz.prog 37 #[.agg (opA x)] w' fun r w'' => r = .returned (.int .i64 c) ∧ Kept (fun _ => False) w' w'') (hok : c = 0 → x.dot.Ok) :
    Calls Tryz.prog 13 #[.pointer (some ⟨g, 0, none⟩), .agg (opA x)] w fun r w' => r = .returned (.tuple #[.int .i64 (coffer hold c C ({ x with deps := ⟨none, 0, 0⟩, gone := ⟨none, 0, 0⟩ }, D, G)).1, .int .i64 c]) ∧
      One b0 w' g hold (coffer hold c C ({ x with deps := ⟨none, 0, 0⟩, gone := ⟨none, 0, 0⟩ }, D, G)).2 hv H ∧ Kept (fun b => b0 ≤ b) w w' := by
  obtain ⟨s, M, vv, wv, ov, h1, rfl, h3, h4, h5⟩ := h
  have e1 : s.cont.W.length = s.W.length := List.length_map _
  have e2 : s.cont.O.length = s.O.length := List.length_map _
  rw [e1] at hWl
  rw [e2] at hOl
  refine (h1.offer hD hG hDl hGl hWl hOl hchk hok).mono ?_
  rintro r w' ⟨a, d, z, s', vv', wv', ov', rfl, hoff, hq, hk⟩
  have hc := hoff.cont
  rw [cont_moved] at hc
  have hc1 := congrArg Prod.fst hc
  have hc2 : s'.cont = (coffer hold c s.cont ({ x with deps := ⟨none, 0, 0⟩, gone := ⟨none, 0, 0⟩ }, D, G)).2 := congrArg Prod.snd hc
  refine ⟨by rw [← hc1], ⟨s', grown M w w', vv', wv', ov', hq, hc2, ?_, owns_keep h4 hk (fun b hb => h5 b hb), ?_⟩, hk.mono (fun b _ hb => h3 b hb)⟩
  · rintro b (hb | hb)
    · exact h3 b hb
    · omega
  · rintro b hb (hm | hm)
    · exact h5 b hb hm
    · obtain ⟨cs, hcs⟩ := owns_spared h4 b hb
      have := hcs.lt
      omega
/-- one is taken, or there is none -/
theorem One.take (h : One b0 w g hold C hv H) :
    Calls Tryz.prog 14 #[.pointer (some ⟨g, 0, none⟩)] w fun r w' => (C.O = [] ∧ r = .returned (.tuple #[.agg zeroOp, .bool false]) ∧ One b0 w' g hold C hv H ∧ Kept (fun b => b0 ≤ b) w w') ∨
      ∃ e O', C.O = cont e :: O' ∧ r = .returned (.tuple #[.agg (opA e.v), .bool true]) ∧ One b0 w' g hold ⟨C.V, C.W, O'⟩ hv H ∧ e.Own w' ∧ Kept (fun b => b0 ≤ b) w w' := by
  have h0 := h
  obtain ⟨s, M, vv, wv, ov, h1, rfl, h3, h4, h5⟩ := h
  refine h1.take.mono ?_
  rintro r w' (⟨hn, rfl, hq, hk⟩ | ⟨e, O', ov', hO, rfl, hq, ho, hd, hg, hk⟩)
  · refine .inl ⟨?_, rfl, h0.keep hk, hk.mono (fun _ _ h => h.elim)⟩
    show s.O.map cont = []
    rw [hn]
    rfl
  · right
    have hgq : M g := h1.own
    refine ⟨e, O'.map cont, ?_, rfl, ⟨⟨s.V, s.W, O'⟩, less M e, vv, wv, ov', hq, rfl, fun b hb => h3 b hb.1, owns_keep h4 hk (fun b hb e1 => h5 b hb (e1 ▸ hgq)), fun b hb hm => h5 b hb hm.1⟩, ho, hk.mono (fun b _ e => e ▸ h3 g hgq)⟩
    show s.O.map cont = _
    rw [hO]
    rfl
/-- another vector beside it -/
theorem One.other (h : One b0 w g hold C hv H) (hk : Kept (fun _ => False) w w') {v' : Value} {H' : List Dot} (ho : w'.ownsRow w.heap.size 28 2 v' H'.length (dotE.flat H')) (hb : b0 ≤ w.heap.size) : One b0 w' g hold C v' H' := by
  obtain ⟨s, M, vv, wv, ov, h1, h2, h3, h4, h5⟩ := h.keep hk
  obtain ⟨s2, M2, vv2, wv2, ov2, k1, k2, k3, k4, k5⟩ := h
  exact ⟨s2, M2, vv2, wv2, ov2, k1.keep hk (fun _ _ h => h), k2, k3, owns_lower ho hb, fun b hb hm => by have := owns_new ho b hb; have := k1.lt b hm; omega⟩
theorem One.waits (h : One b0 w g hold C hv H) :
    Calls Tryz.prog 16 #[.pointer (some ⟨g, 0, none⟩)] w fun r w' => ∃ v' L, r = .returned v' ∧ WaitsIs C L ∧ L.length ≤ 100000 ∧ w'.ownsRow w.heap.size 28 2 v' L.length (dotE.flat L) ∧ Kept (fun _ => False) w w' := by
  obtain ⟨s, M, vv, wv, ov, h1, rfl, h3, h4, h5⟩ := h
  refine h1.waits.mono ?_
  rintro r w' ⟨v', L, rfl, hp, hs, ho, hk⟩
  have e : s.cont.W.map (·.1.dot) = dotsOf s.W := by show (s.W.map cont).map _ = _; rw [List.map_map]; rfl
  exact ⟨v', L, rfl, ⟨by rw [e]; exact hp, hs⟩, by rw [hp.length_eq]; have := h1.at_.wlen; simpa [dotsOf] using this, ho, hk⟩
theorem One.vector (h : One b0 w g hold C hv H) :
    Calls Tryz.prog 18 #[.pointer (some ⟨g, 0, none⟩)] w fun r w' => ∃ v', r = .returned v' ∧ C.V.length ≤ 1000 ∧ w'.ownsRow w.heap.size 28 2 v' C.V.length (dotE.flat C.V) ∧ Kept (fun _ => False) w w' := by
  obtain ⟨s, M, vv, wv, ov, h1, rfl, h3, h4, h5⟩ := h
  refine h1.vector.mono ?_
  rintro r w' ⟨v', rfl, ho, hk⟩
  exact ⟨v', rfl, h1.at_.vlen, ho, hk⟩
theorem One.free (h : One b0 w g hold C hv H) (hh : -1000000 ≤ hold) (hh2 : hold ≤ 1000000) :
    Calls Tryz.prog 17 #[.pointer (some ⟨g, 0, none⟩)] w fun r w' => r = .returned (.int .i64 (hold - (C.W.length : Nat))) ∧ Kept (fun _ => False) w w' := by
  obtain ⟨s, M, vv, wv, ov, h1, rfl, h3, h4, h5⟩ := h
  obtain ⟨a, c, rfl⟩ := owns_sl h1.at_.wait
  have e1 : s.cont.W.length = s.W.length := List.length_map _
  refine (free_any h1.at_.head hh hh2 (by have := h1.at_.wlen; omega)).mono ?_
  rintro r w' ⟨rfl, hg⟩
  exact ⟨by rw [e1], hg.kept⟩
/-- a Queue made new, and a copy of its vector -/
theorem One.first {w1 w2 : World} {V : List Dot} {vv v' : Value} (hq : QBox w1 g hold ⟨V, [], []⟩ (newB w w1) vv (.slice none 0 0) (.slice none 0 0)) (hk1 : Kept (fun _ => False) w w1) (hk : Kept (fun _ => False) w1 w2) (ho : w2.ownsRow w1.heap.size 28 2 v' H.length (dotE.flat H)) : One w.heap.size w2 g hold ⟨V, [], []⟩ v' H :=
  ⟨⟨V, [], []⟩, newB w w1, vv, _, _, hq.keep hk (fun _ _ h => h), rfl, fun b hb => hb.1, owns_lower ho hk1.size, fun b hb hm => by have := owns_new ho b hb; have := hm.2; omega⟩
end
end Go.Proofs.YtaaeomapbigfgaaGreat
namespace Go.Proofs.YtaaeomapbigfgaaGreat.Gl
/-- the byte at a place -/
def byteAt (s : ByteArray) (i : Nat) : Int := (s.get! i).toNat
theorem get_bang {s : ByteArray} {i : Nat} (h : i < s.size) : s.get! i = s[i] := by
  simp [ByteArray.get!, getElem!_pos, h]
  rfl
theorem byteAt_get {s : ByteArray} {i : Nat} (h : i < s.size) : ((s[i]).toNat : Int) = byteAt s i := by
  unfold byteAt
  rw [get_bang h]
theorem byteAt_bd (s : ByteArray) (i : Nat) : 0 ≤ byteAt s i ∧ byteAt s i ≤ 255 := by
  unfold byteAt
  have := (s.get! i).toNat_lt
  omega
def inB (s : ByteArray) (i : Nat) (lo hi : Int) : Prop := i < s.size ∧ lo ≤ byteAt s i ∧ byteAt s i ≤ hi
instance (s : ByteArray) (i : Nat) (lo hi : Int) : Decidable (inB s i lo hi) := by unfold inB; infer_instance
def loB (a : Int) : Int := if a = 224 then 160 else if a = 240 then 144 else 128
def hiB (a : Int) : Int := if a = 237 then 159 else if a = 244 then 143 else 191
/-- how many bytes behind the first -/
def tailN (a : Int) : Nat := if a < 224 then 1 else if a < 240 then 2 else 3
def runeW (s : ByteArray) (i : Nat) : Nat :=
  if byteAt s i < 128 then 1 else
  if byteAt s i < 194 ∨ 244 < byteAt s i then 0 else
  if inB s (i + 1) (loB (byteAt s i)) (hiB (byteAt s i)) ∧ (2 ≤ tailN (byteAt s i) → inB s (i + 2) 128 191) ∧ (3 ≤ tailN (byteAt s i) → inB s (i + 3) 128 191) then tailN (byteAt s i) + 1 else 0
/-- the same, of four bytes and of which there are -/
def runeN (a b c d : Int) (p q r : Prop) [Decidable p] [Decidable q] [Decidable r] : Nat :=
  if a < 128 then 1 else
  if a < 194 ∨ 244 < a then 0 else
  if (p ∧ loB a ≤ b ∧ b ≤ hiB a) ∧ (2 ≤ tailN a → q ∧ 128 ≤ c ∧ c ≤ 191) ∧ (3 ≤ tailN a → r ∧ 128 ≤ d ∧ d ≤ 191) then tailN a + 1 else 0
theorem runeN_eq (s : ByteArray) (i : Nat) : runeW s i = runeN (byteAt s i) (byteAt s (i + 1)) (byteAt s (i + 2)) (byteAt s (i + 3)) (i + 1 < s.size) (i + 2 < s.size) (i + 3 < s.size) := rfl
section
variable {a b c d : Nat} {p q r : Prop} [Decidable p] [Decidable q] [Decidable r]
theorem runeN_1 (h : a < 128) : runeN a b c d p q r = 1 := if_pos (by omega)
theorem runeN_none (h : 128 ≤ a) (h2 : a < 194 ∨ 244 < a) : runeN a b c d p q r = 0 := by
  unfold runeN
  rw [if_neg (by omega), if_pos (by omega)]
theorem runeN_2 (h : 194 ≤ a) (h2 : a < 224) : runeN a b c d p q r = if p ∧ 128 ≤ b ∧ b ≤ 191 then 2 else 0 := by
  unfold runeN
  have e1 : tailN (a : Int) = 1 := if_pos (by omega)
  have e2 : loB (a : Int) = 128 := by unfold loB; rw [if_neg (by omega), if_neg (by omega)]
  have e3 : hiB (a : Int) = 191 := by unfold hiB; rw [if_neg (by omega), if_neg (by omega)]
  rw [if_neg (by omega), if_neg (by omega), e1, e2, e3]
  by_cases hp : p ∧ 128 ≤ b ∧ b ≤ 191
  · rw [if_pos hp, if_pos ⟨⟨hp.1, by omega, by omega⟩, fun h => by omega, fun h => by omega⟩]
  · rw [if_neg hp, if_neg (fun h => hp ⟨h.1.1, by omega, by omega⟩)]
theorem runeN_3 (h : 224 ≤ a) (h2 : a < 240) : runeN a b c d p q r = if (p ∧ (if a = 224 then 160 else 128) ≤ b ∧ b ≤ (if a = 237 then 159 else 191)) ∧ q ∧ 128 ≤ c ∧ c ≤ 191 then 3 else 0 := by
  unfold runeN
  have e1 : tailN (a : Int) = 2 := by unfold tailN; rw [if_neg (by omega), if_pos (by omega)]
  have e2 : loB (a : Int) = ((if a = 224 then 160 else 128 : Nat) : Int) := by unfold loB; split <;> split <;> first | rfl | omega | (split <;> first | rfl | omega)
  have e3 : hiB (a : Int) = ((if a = 237 then 159 else 191 : Nat) : Int) := by unfold hiB; split <;> split <;> first | rfl | omega | (split <;> first | rfl | omega)
  rw [if_neg (by omega), if_neg (by omega), e1, e2, e3]
  generalize (if a = 224 then 160 else 128 : Nat) = lo
  generalize (if a = 237 then 159 else 191 : Nat) = hi
  by_cases hp : (p ∧ lo ≤ b ∧ b ≤ hi) ∧ q ∧ 128 ≤ c ∧ c ≤ 191
  · rw [if_pos hp, if_pos ⟨⟨hp.1.1, by omega, by omega⟩, fun _ => ⟨hp.2.1, by omega, by omega⟩, fun h => by omega⟩]
  · rw [if_neg hp, if_neg (fun h => hp ⟨⟨h.1.1, by omega, by omega⟩, (h.2.1 (by omega)).1, by have := h.2.1 (by omega); omega, by have := h.2.1 (by omega); omega⟩)]
theorem runeN_4 (h : 240 ≤ a) (h2 : a ≤ 244) : runeN a b c d p q r = if (p ∧ (if a = 240 then 144 else 128) ≤ b ∧ b ≤ (if a = 244 then 143 else 191)) ∧ (q ∧ 128 ≤ c ∧ c ≤ 191) ∧ r ∧ 128 ≤ d ∧ d ≤ 191 then 4 else 0 := by
  unfold runeN
  have e1 : tailN (a : Int) = 3 := by unfold tailN; rw [if_neg (by omega), if_neg (by omega)]
  have e2 : loB (a : Int) = ((if a = 240 then 144 else 128 : Nat) : Int) := by unfold loB; split <;> split <;> first | rfl | omega | (split <;> first | rfl | omega)
  have e3 : hiB (a : Int) = ((if a = 244 then 143 else 191 : Nat) : Int) := by unfold hiB; split <;> split <;> first | rfl | omega | (split <;> first | rfl | omega)
  rw [if_neg (by omega), if_neg (by omega), e1, e2, e3]
  generalize (if a = 240 then 144 else 128 : Nat) = lo
  generalize (if a = 244 then 143 else 191 : Nat) = hi
  by_cases hp : (p ∧ lo ≤ b ∧ b ≤ hi) ∧ (q ∧ 128 ≤ c ∧ c ≤ 191) ∧ r ∧ 128 ≤ d ∧ d ≤ 191
  · rw [if_pos hp, if_pos ⟨⟨hp.1.1, by omega, by omega⟩, fun _ => ⟨hp.2.1.1, by omega, by omega⟩, fun _ => ⟨hp.2.2.1, by omega, by omega⟩⟩]
  · rw [if_neg hp, if_neg (fun h => hp ⟨⟨h.1.1, by omega, by omega⟩, ⟨(h.2.1 (by omega)).1, by have := h.2.1 (by omega); omega, by have := h.2.1 (by omega); omega⟩, (h.2.2 (by omega)).1, by have := h.2.2 (by omega); omega, by have := h.2.2 (by omega); omega⟩)]
end
theorem valid_iff (n : Int) : Utf8.valid n = true ↔ (0 ≤ n ∧ n < 55296) ∨ (57344 ≤ n ∧ n ≤ 1114111) := by
  unfold Utf8.valid
  rw [Bool.or_eq_true, Bool.and_eq_true, Bool.and_eq_true, decide_eq_true_iff, decide_eq_true_iff, decide_eq_true_iff, decide_eq_true_iff]
set_option maxRecDepth 10000 in
theorem decode_runeW (s : ByteArray) (i : Nat) : (Utf8.decode s i).2 = (if runeW s i = 0 then 1 else runeW s i) ∧ (runeW s i = 0 → (Utf8.decode s i).1 = 65533) := by
  have h0 := (s.get! i).toNat_lt
  have h1 := (s.get! (i + 1)).toNat_lt
  have h2 := (s.get! (i + 2)).toNat_lt
  have h3 := (s.get! (i + 3)).toNat_lt
  rw [runeN_eq]
  unfold byteAt
  obtain ⟨x, hx⟩ : ∃ x, Utf8.decode s i = x := ⟨_, rfl⟩
  rw [hx]
  simp only [Utf8.decode, Nat.add_zero] at hx
  simp only [Bool.and_eq_true, beq_iff_eq, decide_eq_true_iff, valid_iff] at hx
  generalize (s.get! i).toNat = a at *
  generalize (s.get! (i + 1)).toNat = b at *
  generalize (s.get! (i + 2)).toNat = c at *
  generalize (s.get! (i + 3)).toNat = d at *
  have hE : Utf8.runeError = 65533 := rfl
  rw [hE] at hx
  have bad : ∀ {n : Nat}, n = 0 → x = (65533, 1) → x.2 = (if n = 0 then 1 else n) ∧ (n = 0 → x.1 = 65533) := fun h1 h2 => by subst h1 h2; exact ⟨rfl, fun _ => rfl⟩
  have good : ∀ {n m r : Nat}, n = m → m ≠ 0 → x = (r, m) → x.2 = (if n = 0 then 1 else n) ∧ (n = 0 → x.1 = 65533) := fun h1 h2 h3 => by subst h1 h3; exact ⟨by rw [if_neg h2], fun h => absurd h h2⟩
  by_cases c1 : a < 128
  · rw [if_pos c1] at hx
    exact good (runeN_1 c1) (by decide) hx.symm
  rw [if_neg c1] at hx
  by_cases c2 : a < 224
  · rw [if_neg (show ¬ ((a / 16 = 14 ∧ _) ∧ _) by omega), if_neg (show ¬ (((a / 8 = 30 ∧ _) ∧ _) ∧ _) by omega)] at hx
    by_cases c3 : a / 32 = 6 ∧ i + 1 < s.size ∧ b / 64 = 2
    · rw [if_pos c3] at hx
      by_cases c4 : a < 194
      · rw [if_neg (by omega)] at hx
        exact bad (runeN_none (by omega) (by omega)) hx.symm
      · rw [if_pos (by omega)] at hx
        refine good (m := 2) ?_ (by decide) hx.symm
        rw [runeN_2 (by omega) c2, if_pos ⟨c3.2.1, by omega, by omega⟩]
    · rw [if_neg c3] at hx
      refine bad ?_ hx.symm
      by_cases c4 : a < 194
      · exact runeN_none (by omega) (by omega)
      · rw [runeN_2 (by omega) c2, if_neg (fun h => c3 ⟨by omega, h.1, by omega⟩)]
  by_cases c3 : a < 240
  · rw [if_neg (show ¬ (a / 32 = 6 ∧ _) by omega), if_neg (show ¬ (((a / 8 = 30 ∧ _) ∧ _) ∧ _) by omega)] at hx
    by_cases c4 : (a / 16 = 14 ∧ i + 1 < s.size ∧ b / 64 = 2) ∧ i + 2 < s.size ∧ c / 64 = 2
    · rw [if_pos c4] at hx
      by_cases c5 : (if a = 224 then 160 else 128) ≤ b ∧ b ≤ (if a = 237 then 159 else 191)
      · rw [if_pos (by split at c5 <;> split at c5 <;> omega)] at hx
        refine good (m := 3) ?_ (by decide) hx.symm
        rw [runeN_3 (by omega) c3, if_pos ⟨⟨c4.1.2.1, c5⟩, c4.2.1, by omega, by omega⟩]
      · rw [if_neg (by split at c5 <;> split at c5 <;> omega)] at hx
        refine bad ?_ hx.symm
        rw [runeN_3 (by omega) c3, if_neg (fun h => c5 h.1.2)]
    · rw [if_neg c4] at hx
      refine bad ?_ hx.symm
      rw [runeN_3 (by omega) c3, if_neg (fun h => c4 ⟨⟨by omega, h.1.1, by have := h.1.2; split at this <;> split at this <;> omega⟩, h.2.1, by omega⟩)]
  · rw [if_neg (show ¬ (a / 32 = 6 ∧ _) by omega), if_neg (show ¬ ((a / 16 = 14 ∧ _) ∧ _) by omega)] at hx
    by_cases c4 : ((a / 8 = 30 ∧ i + 1 < s.size ∧ b / 64 = 2) ∧ i + 2 < s.size ∧ c / 64 = 2) ∧ i + 3 < s.size ∧ d / 64 = 2
    · rw [if_pos c4] at hx
      by_cases c6 : a ≤ 244
      · by_cases c5 : (if a = 240 then 144 else 128) ≤ b ∧ b ≤ (if a = 244 then 143 else 191)
        · rw [if_pos (by split at c5 <;> split at c5 <;> omega)] at hx
          refine good (m := 4) ?_ (by decide) hx.symm
          rw [runeN_4 (by omega) c6, if_pos ⟨⟨c4.1.1.2.1, c5⟩, ⟨c4.1.2.1, by omega, by omega⟩, c4.2.1, by omega, by omega⟩]
        · rw [if_neg (by split at c5 <;> split at c5 <;> omega)] at hx
          refine bad ?_ hx.symm
          rw [runeN_4 (by omega) c6, if_neg (fun h => c5 h.1.2)]
      · rw [if_neg (by omega)] at hx
        exact bad (runeN_none (by omega) (by omega)) hx.symm
    · rw [if_neg c4] at hx
      refine bad ?_ hx.symm
      by_cases c6 : a ≤ 244
      · rw [runeN_4 (by omega) c6, if_neg (fun h => c4 ⟨⟨⟨by omega, h.1.1, by have := h.1.2; split at this <;> split at this <;> omega⟩, h.2.1.1, by omega⟩, h.2.2.1, by omega⟩)]
      · exact runeN_none (by omega) (by omega)
theorem byteAt_extract (s : ByteArray) (i j : Nat) (h : i ≤ s.size) : byteAt (s.extract i s.size) j = byteAt s (i + j) := by
  have hs : (s.extract i s.size).size = s.size - i := by simp
  unfold byteAt
  by_cases hj : i + j < s.size
  · rw [get_bang hj, get_bang (by rw [hs]; omega)]
    simp [ByteArray.getElem_extract]
  · have e1 : s.get! (i + j) = default := by
      show s.data[i + j]! = default
      exact getElem!_neg _ _ (by simpa using hj)
    have e2 : (s.extract i s.size).get! j = default := by
      show (s.extract i s.size).data[j]! = default
      refine getElem!_neg _ _ ?_
      have : (s.extract i s.size).data.size = s.size - i := hs
      rw [this]
      omega
    rw [e1, e2]
theorem runeW_extract (s : ByteArray) (i : Nat) (h : i ≤ s.size) : runeW (s.extract i s.size) 0 = runeW s i := by
  have hs : (s.extract i s.size).size = s.size - i := by simp
  have key : ∀ {a b c d : Int} {p q r p' q' r' : Prop} [Decidable p] [Decidable q] [Decidable r] [Decidable p'] [Decidable q'] [Decidable r'], (p ↔ p') → (q ↔ q') → (r ↔ r') → runeN a b c d p q r = runeN a b c d p' q' r' := by
    intro a b c d p q r p' q' r' _ _ _ _ _ _ h1 h2 h3
    unfold runeN
    simp only [h1, h2, h3]
  rw [runeN_eq, runeN_eq, byteAt_extract s i _ h, byteAt_extract s i _ h, byteAt_extract s i _ h, byteAt_extract s i _ h, Nat.zero_add, Nat.zero_add, Nat.zero_add, Nat.add_zero]
  refine key ?_ ?_ ?_ <;> rw [hs] <;> omega
end Go.Proofs.YtaaeomapbigfgaaGreat.Gl
