/- New, Kept, Delete, Settle, why. Runes in bytes, plainly: how many bytes the rune that begins at a place has. It speaks of no program of its own. -/
import Derived.Test.YtlafodnaifghcaaK16
import Derived.Test.YtlafodnaifghcaaK3
import Derived.WideLaws
import Derived.Laws.RangeAny
import Derived.Lib.RuneCount
namespace Go.Proofs.Ytlafodnaifghcaa.Tr
open Go.RowKit Go.Proofs.Ytlafodnaifghcaa.St
theorem run_lookupK_nil {P : Program} {T kt et : TypeId} {κ : Type} [DecidableEq κ] {K : KeyE P kt κ} {k : κ} {w : World} (ht : P.underlying T = some (.map kt et)) {z : Value} (hz : (zeroValue et).run P w = .ok z w) :
    (Instr.lookup T (.map none) (K.enc k) false).run P w = .ok z w := by
  have h := run_findKey_any (P := P) (w := w) (K := K) (kvs := []) (k := k) (es := []) rfl
  simp [Instr.lookup, run_underlying ht, Result.andThen, K.check, h, findK, hz]
variable {w w' : World} {g : Nat} {L : List Nd} {A : ID → Nat} {S : ID → Rw} {mp : Option Nat}
set_option maxRecDepth 100000 in
/-- what a look-up of an identifier gives -/
theorem TAt.look (h : TAt w g L A S mp) (r : ID) : (Instr.lookup 86 (.map mp) (.agg #[.int .i64 r.t, .int .i64 r.s]) false).run Try.prog w = .ok (.pointer (if r ∈ ids L then some ⟨A r, 0, none⟩ else none)) w := by
  rcases h.by_ with ⟨rfl, rfl⟩ | ⟨b, kvs, rfl, hm, _, _, hk⟩
  · exact run_lookupK_nil (K := keyI) (k := r) Try.underlying86 (by kernel_rfl)
  · have h1 := hk r
    by_cases hr : r ∈ ids L
    · rw [if_pos hr] at h1 ⊢
      exact run_lookupK (K := keyI) (k := r) Try.underlying86 hm h1
    · rw [if_neg hr] at h1 ⊢
      exact run_lookupK_none (K := keyI) (k := r) Try.underlying86 hm h1 (by kernel_rfl)
theorem new_any (w : World) : Calls Try.prog 23 #[] w fun e w' => e = .returned (.pointer (some ⟨w.heap.size, 0, none⟩)) ∧ w' = w.alloc (.cells #[.slice none 0 0, .map none] 88) := by
  go_enter Try.func23, Try.ntmps23
  go_wp2
  go_ret
  exact ⟨rfl, rfl⟩
theorem new_at (w : World) : TAt (w.alloc (.cells #[.slice none 0 0, .map none] 88)) w.heap.size [] (fun _ => 0) (fun _ => ⟨none, 0, 0⟩) none where
  top := Blk.new w _ _
  elt := fun n hn => by simp at hn
  row := fun r _ => .inl ⟨rfl, rfl⟩
  by_ := .inl ⟨rfl, rfl⟩
  one := fun x hx => by simp [ids] at hx
  far := fun x y hx hy b hb => by cases hb
set_option maxRecDepth 100000 in
theorem kept_any (h : TAt w g L A S mp) : Calls Try.prog 19 #[.pointer (some ⟨g, 0, none⟩)] w fun e w' => e = .returned (.int .i64 L.length) ∧ w = w' := by
  have x1 : w.cell? ⟨g, 1, none⟩ = some (.map mp) := h.top.cell' rfl
  rcases h.by_ with ⟨rfl, rfl⟩ | ⟨b, kvs, rfl, hm, _, hl, _⟩
  · clear h
    go_enter Try.func19, Try.ntmps19
    go_wp2
    go_ret
    exact ⟨rfl, rfl⟩
  · obtain ⟨es, clk, hb, he⟩ := hm
    have hs : es.size = L.length := by have := congrArg List.length he; simp at this; omega
    have hu : Try.prog.underlying 86 = some (.map (Try.prog.mapKeyOf 86) (Try.prog.mapElemOf 86)) := by kernel_rfl
    have hrun : (Builtin.len_ #[86] 3 #[.map (some b)]).run Try.prog w = .ok (.int .i64 es.size) w := run_len_map w _ _ b es clk hu hb
    clear h he hu
    go_enter Try.func19, Try.ntmps19
    go_wp2
    go_ret
    exact ⟨rfl, rfl⟩
set_option maxRecDepth 100000 in
theorem delete_any (h : TAt w g L A S mp) (hdoc : Doc L) (hlen : L.length ≤ 900000) (hID : ∀ n ∈ L, 0 ≤ n.id.t ∧ n.id.t ≤ 2147483647)
    {v : Value} {rs : List Run} (hv : SlAt runE w v rs) (hin : ∀ r ∈ rs, r.In) (hrl : rs.length ≤ 1000000000) (hvb : ∀ b, v.ownBlock = some b → b < w.heap.size → ¬ eltM L A b) :
    Calls Try.prog 14 #[.pointer (some ⟨g, 0, none⟩), v] w fun e w' => e = .returned (.int .i64 (turnN rs 1 L)) ∧ TAt w' g (L.map (turnF rs 1 2)) A S mp ∧ Kept (eltM L A) w w' := by
  have HT := Lib.hid (turn_any h hdoc hlen hID hv hin hrl hvb 1 2)
  clear h hv hvb
  go_enter Try.func14, Try.ntmps14
  go_wp2_with (go_at_call 39; refine HT.out.mono ?_; rintro e w' ⟨rfl, h1, h2⟩)
  go_ret
  exact ⟨rfl, h1, h2⟩
set_option maxRecDepth 100000 in
theorem settle_any (h : TAt w g L A S mp) (hdoc : Doc L) (hlen : L.length ≤ 900000) (hID : ∀ n ∈ L, 0 ≤ n.id.t ∧ n.id.t ≤ 2147483647)
    {v : Value} {rs : List Run} (hv : SlAt runE w v rs) (hin : ∀ r ∈ rs, r.In) (hrl : rs.length ≤ 1000000000) (hvb : ∀ b, v.ownBlock = some b → b < w.heap.size → ¬ eltM L A b) :
    Calls Try.prog 15 #[.pointer (some ⟨g, 0, none⟩), v] w fun e w' => e = .returned (.int .i64 (turnN rs 2 L)) ∧ TAt w' g (L.map (turnF rs 2 3)) A S mp ∧ Kept (eltM L A) w w' := by
  have HT := Lib.hid (turn_any h hdoc hlen hID hv hin hrl hvb 2 3)
  clear h hv hvb
  go_enter Try.func15, Try.ntmps15
  go_wp2_with (go_at_call 39; refine HT.out.mono ?_; rintro e w' ⟨rfl, h1, h2⟩)
  go_ret
  exact ⟨rfl, h1, h2⟩
/-- what why answers -/
noncomputable def whyE (L : List Nd) (i ref : ID) : Int := by
  classical exact if ¬ ref.lt i then 9 else if ref ≠ ID.zero ∧ ref ∉ ids L then 11 else 0
set_option maxRecDepth 100000 in
set_option maxHeartbeats 4000000 in
theorem why_any (h : TAt w g L A S mp) (i ref : ID) : Calls Try.prog 36 #[.pointer (some ⟨g, 0, none⟩), idV i, idV ref] w fun e w' => e = .returned (.int .i64 (whyE L i ref)) ∧ Grew w w' := by
  obtain ⟨it, is⟩ := i
  obtain ⟨t, s⟩ := ref
  show Calls _ _ #[_, .agg #[.int .i64 it, .int .i64 is], .agg #[.int .i64 t, .int .i64 s]] _ _
  have hg0 : Grew w ((w.alloc (.cells #[.int .i64 it, .int .i64 is] 27)).alloc (.cells #[.int .i64 t, .int .i64 s] 27)) := ((Grew.refl w).alloc _).alloc _
  have b0 := Blk.new (w.alloc (.cells #[.int .i64 it, .int .i64 is] 27)) 27 #[.int .i64 t, .int .i64 s]
  rw [World.size_alloc] at b0
  have hc : ∀ w, Calls Try.prog 53 #[.agg #[.int .i64 t, .int .i64 s], .agg #[.int .i64 it, .int .i64 is]] w fun e w' => e = .returned (.int .i64 ((⟨t, s⟩ : ID).cmp ⟨it, is⟩)) ∧ Grew w w' := compare_any ⟨t, s⟩ ⟨it, is⟩
  have HC := Lib.hid hc
  have G0 := Lib.hid hg0
  have B0 := Lib.hid b0
  have HT := Lib.hid h
  have hgl := h.top.lt
  have hbd := cmp_bd ⟨t, s⟩ ⟨it, is⟩
  clear h hg0 b0 hc
  by_cases q : (⟨t, s⟩ : ID).lt ⟨it, is⟩
  · have q1 : ¬ (0 : Int) ≤ (⟨t, s⟩ : ID).cmp ⟨it, is⟩ := fun h => by have := cmp_lt.2 q; omega
    generalize (⟨t, s⟩ : ID).cmp ⟨it, is⟩ = k at *
    go_enter Try.func36, Try.ntmps36
    go_wp2_with (go_at_call 53; refine (HC.out _).mono ?_; rintro e w1 ⟨rfl, hg1⟩)
    have hT1 := (HT.out.still G0.out.kept).still hg1.kept
    have hb1 := hg1.box B0.out
    have y0 : w1.cell? ⟨w.heap.size + 1, 0, none⟩ = some (.int .i64 t) := hb1.cell' rfl
    have y1 : w1.cell? ⟨w.heap.size + 1, 1, none⟩ = some (.int .i64 s) := hb1.cell' rfl
    have y2 : w1.cell? ⟨g, 1, none⟩ = some (.map mp) := hT1.top.cell' rfl
    have hlk := (hT1.still ((Kept.refl (fun _ => False) w1).drew)).look ⟨t, s⟩
    have GG := Lib.hid (G0.out.trans hg1.drew)
    simp only at hlk
    clear hT1 hb1 hg1
    by_cases hz : (⟨t, s⟩ : ID) = ID.zero
    · have e : whyE L ⟨it, is⟩ ⟨t, s⟩ = 0 := by
        unfold whyE
        rw [if_neg (fun h => h q), if_neg (fun h => h.1 hz)]
      have EE := Lib.hid e
      cases hz
      clear e
      go_region
      all_goals go_wp2
      all_goals go_ret
      all_goals exact ⟨by rw [EE.out]; rfl, GG.out⟩
    · have hne : t = 0 → ¬ s = 0 := fun h1 h2 => hz (by rw [h1, h2]; rfl)
      by_cases hr : (⟨t, s⟩ : ID) ∈ ids L
      · have e : whyE L ⟨it, is⟩ ⟨t, s⟩ = 0 := by
          unfold whyE
          rw [if_neg (fun h => h q), if_neg (fun h => h.2 hr)]
        have EE := Lib.hid e
        rw [if_pos hr] at hlk
        by_cases h0 : t = 0
        · subst h0
          have h1 := hne rfl
          clear hz hne hr e
          go_region
          all_goals go_wp2
          all_goals go_ret
          all_goals exact ⟨by rw [EE.out]; rfl, GG.out⟩
        · clear hz hne hr e
          go_region
          all_goals go_wp2
          all_goals go_ret
          all_goals exact ⟨by rw [EE.out]; rfl, GG.out⟩
      · have e : whyE L ⟨it, is⟩ ⟨t, s⟩ = 11 := by
          unfold whyE
          rw [if_neg (fun h => h q), if_pos ⟨hz, hr⟩]
        have EE := Lib.hid e
        rw [if_neg hr] at hlk
        by_cases h0 : t = 0
        · subst h0
          have h1 := hne rfl
          clear hz hne hr e
          go_region
          all_goals go_wp2
          all_goals go_ret
          all_goals exact ⟨by rw [EE.out]; rfl, GG.out⟩
        · clear hz hne hr e
          go_region
          all_goals go_wp2
          all_goals go_ret
          all_goals exact ⟨by rw [EE.out]; rfl, GG.out⟩
  · have q1 : (0 : Int) ≤ (⟨t, s⟩ : ID).cmp ⟨it, is⟩ := by
      rcases Int.lt_or_le ((⟨t, s⟩ : ID).cmp ⟨it, is⟩) 0 with h | h
      · exact absurd (cmp_lt.1 h) q
      · exact h
    have e : whyE L ⟨it, is⟩ ⟨t, s⟩ = 9 := if_pos q
    rw [e]
    generalize (⟨t, s⟩ : ID).cmp ⟨it, is⟩ = k at *
    go_enter Try.func36, Try.ntmps36
    go_wp2_with (go_at_call 53; refine (HC.out _).mono ?_; rintro e w1 ⟨rfl, hg1⟩)
    go_ret
    exact ⟨rfl, G0.out.trans hg1⟩
end Go.Proofs.Ytlafodnaifghcaa.Tr
namespace Go.Proofs.Ytlafodnaifghcaa.Gl
/-- the byte at a place -/
def byteAt (s : ByteArray) (i : Nat) : Int := (s.get! i).toNat
theorem get_bang {s : ByteArray} {i : Nat} (h : i < s.size) : s.get! i = s[i] := by
  simp [ByteArray.get!, getElem!_pos, h]
  rfl
theorem byteAt_get {s : ByteArray} {i : Nat} (h : i < s.size) : ((s[i]).toNat : Int) = byteAt s i := by
  unfold byteAt
  rw [get_bang h]
theorem byteAt_bd (s : ByteArray) (i : Nat) : 0 ≤ byteAt s i ∧ byteAt s i ≤ 255 := by
  unfold byteAt
  have := (s.get! i).toNat_lt
  omega
def inB (s : ByteArray) (i : Nat) (lo hi : Int) : Prop := i < s.size ∧ lo ≤ byteAt s i ∧ byteAt s i ≤ hi
instance (s : ByteArray) (i : Nat) (lo hi : Int) : Decidable (inB s i lo hi) := by unfold inB; infer_instance
def loB (a : Int) : Int := if a = 224 then 160 else if a = 240 then 144 else 128
def hiB (a : Int) : Int := if a = 237 then 159 else if a = 244 then 143 else 191
/-- how many bytes behind the first -/
def tailN (a : Int) : Nat := if a < 224 then 1 else if a < 240 then 2 else 3
def runeW (s : ByteArray) (i : Nat) : Nat :=
  if byteAt s i < 128 then 1 else
  if byteAt s i < 194 ∨ 244 < byteAt s i then 0 else
  if inB s (i + 1) (loB (byteAt s i)) (hiB (byteAt s i)) ∧ (2 ≤ tailN (byteAt s i) → inB s (i + 2) 128 191) ∧ (3 ≤ tailN (byteAt s i) → inB s (i + 3) 128 191) then tailN (byteAt s i) + 1 else 0
/-- the same, of four bytes and of which there are -/
def runeN (a b c d : Int) (p q r : Prop) [Decidable p] [Decidable q] [Decidable r] : Nat :=
  if a < 128 then 1 else
  if a < 194 ∨ 244 < a then 0 else
  if (p ∧ loB a ≤ b ∧ b ≤ hiB a) ∧ (2 ≤ tailN a → q ∧ 128 ≤ c ∧ c ≤ 191) ∧ (3 ≤ tailN a → r ∧ 128 ≤ d ∧ d ≤ 191) then tailN a + 1 else 0
theorem runeN_eq (s : ByteArray) (i : Nat) : runeW s i = runeN (byteAt s i) (byteAt s (i + 1)) (byteAt s (i + 2)) (byteAt s (i + 3)) (i + 1 < s.size) (i + 2 < s.size) (i + 3 < s.size) := rfl
section
variable {a b c d : Nat} {p q r : Prop} [Decidable p] [Decidable q] [Decidable r]
theorem runeN_1 (h : a < 128) : runeN a b c d p q r = 1 := if_pos (by omega)
theorem runeN_none (h : 128 ≤ a) (h2 : a < 194 ∨ 244 < a) : runeN a b c d p q r = 0 := by
  unfold runeN
  rw [if_neg (by omega), if_pos (by omega)]
theorem runeN_2 (h : 194 ≤ a) (h2 : a < 224) : runeN a b c d p q r = if p ∧ 128 ≤ b ∧ b ≤ 191 then 2 else 0 := by
  unfold runeN
  have e1 : tailN (a : Int) = 1 := if_pos (by omega)
  have e2 : loB (a : Int) = 128 := by unfold loB; rw [if_neg (by omega), if_neg (by omega)]
  have e3 : hiB (a : Int) = 191 := by unfold hiB; rw [if_neg (by omega), if_neg (by omega)]
  rw [if_neg (by omega), if_neg (by omega), e1, e2, e3]
  by_cases hp : p ∧ 128 ≤ b ∧ b ≤ 191
  · rw [if_pos hp, if_pos ⟨⟨hp.1, by omega, by omega⟩, fun h => by omega, fun h => by omega⟩]
  · rw [if_neg hp, if_neg (fun h => hp ⟨h.1.1, by omega, by omega⟩)]
theorem runeN_3 (h : 224 ≤ a) (h2 : a < 240) : runeN a b c d p q r = if (p ∧ (if a = 224 then 160 else 128) ≤ b ∧ b ≤ (if a = 237 then 159 else 191)) ∧ q ∧ 128 ≤ c ∧ c ≤ 191 then 3 else 0 := by
  unfold runeN
  have e1 : tailN (a : Int) = 2 := by unfold tailN; rw [if_neg (by omega), if_pos (by omega)]
  have e2 : loB (a : Int) = ((if a = 224 then 160 else 128 : Nat) : Int) := by unfold loB; split <;> split <;> first | rfl | omega | (split <;> first | rfl | omega)
  have e3 : hiB (a : Int) = ((if a = 237 then 159 else 191 : Nat) : Int) := by unfold hiB; split <;> split <;> first | rfl | omega | (split <;> first | rfl | omega)
  rw [if_neg (by omega), if_neg (by omega), e1, e2, e3]
  generalize (if a = 224 then 160 else 128 : Nat) = lo
  generalize (if a = 237 then 159 else 191 : Nat) = hi
  by_cases hp : (p ∧ lo ≤ b ∧ b ≤ hi) ∧ q ∧ 128 ≤ c ∧ c ≤ 191
  · rw [if_pos hp, if_pos ⟨⟨hp.1.1, by omega, by omega⟩, fun _ => ⟨hp.2.1, by omega, by omega⟩, fun h => by omega⟩]
  · rw [if_neg hp, if_neg (fun h => hp ⟨⟨h.1.1, by omega, by omega⟩, (h.2.1 (by omega)).1, by have := h.2.1 (by omega); omega, by have := h.2.1 (by omega); omega⟩)]
theorem runeN_4 (h : 240 ≤ a) (h2 : a ≤ 244) : runeN a b c d p q r = if (p ∧ (if a = 240 then 144 else 128) ≤ b ∧ b ≤ (if a = 244 then 143 else 191)) ∧ (q ∧ 128 ≤ c ∧ c ≤ 191) ∧ r ∧ 128 ≤ d ∧ d ≤ 191 then 4 else 0 := by
  unfold runeN
  have e1 : tailN (a : Int) = 3 := by unfold tailN; rw [if_neg (by omega), if_neg (by omega)]
  have e2 : loB (a : Int) = ((if a = 240 then 144 else 128 : Nat) : Int) := by unfold loB; split <;> split <;> first | rfl | omega | (split <;> first | rfl | omega)
  have e3 : hiB (a : Int) = ((if a = 244 then 143 else 191 : Nat) : Int) := by unfold hiB; split <;> split <;> first | rfl | omega | (split <;> first | rfl | omega)
  rw [if_neg (by omega), if_neg (by omega), e1, e2, e3]
  generalize (if a = 240 then 144 else 128 : Nat) = lo
  generalize (if a = 244 then 143 else 191 : Nat) = hi
  by_cases hp : (p ∧ lo ≤ b ∧ b ≤ hi) ∧ (q ∧ 128 ≤ c ∧ c ≤ 191) ∧ r ∧ 128 ≤ d ∧ d ≤ 191
  · rw [if_pos hp, if_pos ⟨⟨hp.1.1, by omega, by omega⟩, fun _ => ⟨hp.2.1.1, by omega, by omega⟩, fun _ => ⟨hp.2.2.1, by omega, by omega⟩⟩]
  · rw [if_neg hp, if_neg (fun h => hp ⟨⟨h.1.1, by omega, by omega⟩, ⟨(h.2.1 (by omega)).1, by have := h.2.1 (by omega); omega, by have := h.2.1 (by omega); omega⟩, (h.2.2 (by omega)).1, by have := h.2.2 (by omega); omega, by have := h.2.2 (by omega); omega⟩)]
end
theorem valid_iff (n : Int) : Utf8.valid n = true ↔ (0 ≤ n ∧ n < 55296) ∨ (57344 ≤ n ∧ n ≤ 1114111) := by
  unfold Utf8.valid
  rw [Bool.or_eq_true, Bool.and_eq_true, Bool.and_eq_true, decide_eq_true_iff, decide_eq_true_iff, decide_eq_true_iff, decide_eq_true_iff]
set_option maxRecDepth 10000 in
theorem decode_runeW (s : ByteArray) (i : Nat) : (Utf8.decode s i).2 = (if runeW s i = 0 then 1 else runeW s i) ∧ (runeW s i = 0 → (Utf8.decode s i).1 = 65533) := by
  have h0 := (s.get! i).toNat_lt
  have h1 := (s.get! (i + 1)).toNat_lt
  have h2 := (s.get! (i + 2)).toNat_lt
  have h3 := (s.get! (i + 3)).toNat_lt
  rw [runeN_eq]
  unfold byteAt
  obtain ⟨x, hx⟩ : ∃ x, Utf8.decode s i = x := ⟨_, rfl⟩
  rw [hx]
  simp only [Utf8.decode, Nat.add_zero] at hx
  simp only [Bool.and_eq_true, beq_iff_eq, decide_eq_true_iff, valid_iff] at hx
  generalize (s.get! i).toNat = a at *
  generalize (s.get! (i + 1)).toNat = b at *
  generalize (s.get! (i + 2)).toNat = c at *
  generalize (s.get! (i + 3)).toNat = d at *
  have hE : Utf8.runeError = 65533 := rfl
  rw [hE] at hx
  have bad : ∀ {n : Nat}, n = 0 → x = (65533, 1) → x.2 = (if n = 0 then 1 else n) ∧ (n = 0 → x.1 = 65533) := fun h1 h2 => by subst h1 h2; exact ⟨rfl, fun _ => rfl⟩
  have good : ∀ {n m r : Nat}, n = m → m ≠ 0 → x = (r, m) → x.2 = (if n = 0 then 1 else n) ∧ (n = 0 → x.1 = 65533) := fun h1 h2 h3 => by subst h1 h3; exact ⟨by rw [if_neg h2], fun h => absurd h h2⟩
  by_cases c1 : a < 128
  · rw [if_pos c1] at hx
    exact good (runeN_1 c1) (by decide) hx.symm
  rw [if_neg c1] at hx
  by_cases c2 : a < 224
  · rw [if_neg (show ¬ ((a / 16 = 14 ∧ _) ∧ _) by omega), if_neg (show ¬ (((a / 8 = 30 ∧ _) ∧ _) ∧ _) by omega)] at hx
    by_cases c3 : a / 32 = 6 ∧ i + 1 < s.size ∧ b / 64 = 2
    · rw [if_pos c3] at hx
      by_cases c4 : a < 194
      · rw [if_neg (by omega)] at hx
        exact bad (runeN_none (by omega) (by omega)) hx.symm
      · rw [if_pos (by omega)] at hx
        refine good (m := 2) ?_ (by decide) hx.symm
        rw [runeN_2 (by omega) c2, if_pos ⟨c3.2.1, by omega, by omega⟩]
    · rw [if_neg c3] at hx
      refine bad ?_ hx.symm
      by_cases c4 : a < 194
      · exact runeN_none (by omega) (by omega)
      · rw [runeN_2 (by omega) c2, if_neg (fun h => c3 ⟨by omega, h.1, by omega⟩)]
  by_cases c3 : a < 240
  · rw [if_neg (show ¬ (a / 32 = 6 ∧ _) by omega), if_neg (show ¬ (((a / 8 = 30 ∧ _) ∧ _) ∧ _) by omega)] at hx
    by_cases c4 : (a / 16 = 14 ∧ i + 1 < s.size ∧ b / 64 = 2) ∧ i + 2 < s.size ∧ c / 64 = 2
    · rw [if_pos c4] at hx
      by_cases c5 : (if a = 224 then 160 else 128) ≤ b ∧ b ≤ (if a = 237 then 159 else 191)
      · rw [if_pos (by split at c5 <;> split at c5 <;> omega)] at hx
        refine good (m := 3) ?_ (by decide) hx.symm
        rw [runeN_3 (by omega) c3, if_pos ⟨⟨c4.1.2.1, c5⟩, c4.2.1, by omega, by omega⟩]
      · rw [if_neg (by split at c5 <;> split at c5 <;> omega)] at hx
        refine bad ?_ hx.symm
        rw [runeN_3 (by omega) c3, if_neg (fun h => c5 h.1.2)]
    · rw [if_neg c4] at hx
      refine bad ?_ hx.symm
      rw [runeN_3 (by omega) c3, if_neg (fun h => c4 ⟨⟨by omega, h.1.1, by have := h.1.2; split at this <;> split at this <;> omega⟩, h.2.1, by omega⟩)]
  · rw [if_neg (show ¬ (a / 32 = 6 ∧ _) by omega), if_neg (show ¬ ((a / 16 = 14 ∧ _) ∧ _) by omega)] at hx
    by_cases c4 : ((a / 8 = 30 ∧ i + 1 < s.size ∧ b / 64 = 2) ∧ i + 2 < s.size ∧ c / 64 = 2) ∧ i + 3 < s.size ∧ d / 64 = 2
    · rw [if_pos c4] at hx
      by_cases c6 : a ≤ 244
      · by_cases c5 : (if a = 240 then 144 else 128) ≤ b ∧ b ≤ (if a = 244 then 143 else 191)
        · rw [if_pos (by split at c5 <;> split at c5 <;> omega)] at hx
          refine good (m := 4) ?_ (by decide) hx.symm
          rw [runeN_4 (by omega) c6, if_pos ⟨⟨c4.1.1.2.1, c5⟩, ⟨c4.1.2.1, by omega, by omega⟩, c4.2.1, by omega, by omega⟩]
        · rw [if_neg (by split at c5 <;> split at c5 <;> omega)] at hx
          refine bad ?_ hx.symm
          rw [runeN_4 (by omega) c6, if_neg (fun h => c5 h.1.2)]
      · rw [if_neg (by omega)] at hx
        exact bad (runeN_none (by omega) (by omega)) hx.symm
    · rw [if_neg c4] at hx
      refine bad ?_ hx.symm
      by_cases c6 : a ≤ 244
      · rw [runeN_4 (by omega) c6, if_neg (fun h => c4 ⟨⟨⟨by omega, h.1.1, by have := h.1.2; split at this <;> split at this <;> omega⟩, h.2.1.1, by omega⟩, h.2.2.1, by omega⟩)]
      · exact runeN_none (by omega) (by omega)
theorem byteAt_extract (s : ByteArray) (i j : Nat) (h : i ≤ s.size) : byteAt (s.extract i s.size) j = byteAt s (i + j) := by
  have hs : (s.extract i s.size).size = s.size - i := by simp
  unfold byteAt
  by_cases hj : i + j < s.size
  · rw [get_bang hj, get_bang (by rw [hs]; omega)]
    simp [ByteArray.getElem_extract]
  · have e1 : s.get! (i + j) = default := by
      show s.data[i + j]! = default
      exact getElem!_neg _ _ (by simpa using hj)
    have e2 : (s.extract i s.size).get! j = default := by
      show (s.extract i s.size).data[j]! = default
      refine getElem!_neg _ _ ?_
      have : (s.extract i s.size).data.size = s.size - i := hs
      rw [this]
      omega
    rw [e1, e2]
theorem runeW_extract (s : ByteArray) (i : Nat) (h : i ≤ s.size) : runeW (s.extract i s.size) 0 = runeW s i := by
  have hs : (s.extract i s.size).size = s.size - i := by simp
  have key : ∀ {a b c d : Int} {p q r p' q' r' : Prop} [Decidable p] [Decidable q] [Decidable r] [Decidable p'] [Decidable q'] [Decidable r'], (p ↔ p') → (q ↔ q') → (r ↔ r') → runeN a b c d p q r = runeN a b c d p' q' r' := by
    intro a b c d p q r p' q' r' _ _ _ _ _ _ h1 h2 h3
    unfold runeN
    simp only [h1, h2, h3]
  rw [runeN_eq, runeN_eq, byteAt_extract s i _ h, byteAt_extract s i _ h, byteAt_extract s i _ h, byteAt_extract s i _ h, Nat.zero_add, Nat.zero_add, Nat.zero_add, Nat.add_zero]
  refine key ?_ ?_ ?_ <;> rw [hs] <;> omega
end Go.Proofs.Ytlafodnaifghcaa.Gl
