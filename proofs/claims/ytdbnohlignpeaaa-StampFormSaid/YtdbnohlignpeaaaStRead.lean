/- stamp.Reader.Number. -/
import Derived.Test.YtdbnohlignpeaaaStWrite2
import Derived.WalkMore
import Derived.ScopeJumps
namespace Go.Proofs.Ytdbnohlignpeaaa
open Go.RowKit
/-- as Q; by a goto to label l: J l -/
def Exit.jumps (J : Nat → Act → World → Prop) (Q : Exit → Act → World → Prop) : Exit → Act → World → Prop
  | .goto l, a, w => J l a w
  | e, a, w => Q e a w
section
variable {P : Program} {a : Act} {w : World} {Q : Exit → Act → World → Prop}
theorem wp_scope_any {c : Code} (J : Nat → Act → World → Prop) (μ : Nat → Act → World → Nat) (first' : (∀ l a w, J l a w → ∃ rest, findLabel c l = some (Code.skip.seq rest) ∧ rest.wp P (Exit.jumps J Q) a w) → c.wp P (Exit.jumps J Q) a w)
    (pass0 : ∀ l a w, J l a w → ∃ rest, findLabel c l = some (Code.skip.seq rest) ∧ rest.wp P (Exit.jumps (fun l' a' w' => J l' a' w' ∧ μ l' a' w' < μ l a w) Q) a w) : (Code.scope c).wp P Q a w := by
  have first := first' fun l a w hJ => by
    obtain ⟨rest, hf, hp⟩ := pass0 l a w hJ
    refine ⟨rest, hf, wp_mono hp fun e a w h => ?_⟩
    cases e with
    | goto l' => exact h.1
    | _ => exact h
  have pass : ∀ l a w, J l a w → ∃ rest, findLabel c l = some rest ∧ rest.wp P (Exit.jumps (fun l' a' w' => J l' a' w' ∧ μ l' a' w' < μ l a w) Q) a w := fun l a w hJ => by
    obtain ⟨rest, hf, hp⟩ := pass0 l a w hJ
    exact ⟨_, hf, wp_seq (wp_skip hp)⟩
  intro b k cs
  have key : ∀ n l a w, μ l a w = n → J l a w → ∃ rest, findLabel c l = some rest ∧ ∃ e a' w', Q e a' w' ∧ Arrives P (lone (b.at a (.code rest :: .inScope c :: k)) cs w) b k cs e a' w' := by
    intro n
    induction n using Nat.strongRecOn with
    | _ n ih =>
      intro l a w hn hJ
      obtain ⟨rest, hf, hp⟩ := pass l a w hJ
      refine ⟨rest, hf, ?_⟩
      obtain ⟨e, a₁, w₁, hq, harr⟩ := hp b (.inScope c :: k) cs
      cases e with
      | normal => exact ⟨.normal, a₁, w₁, hq, Steps.trans harr (.one step_inScope)⟩
      | exit id => exact ⟨.exit id, a₁, w₁, hq, fun k' hk => harr k' (by simp [exitTo, hk])⟩
      | goto l' =>
        obtain ⟨hJ', hlt⟩ := hq
        obtain ⟨rest', hf', e₂, a₂, w₂, hq₂, harr₂⟩ := ih _ (by omega) l' a₁ w₁ rfl hJ'
        exact ⟨e₂, a₂, w₂, hq₂, .of_steps (harr _ (by simp [gotoIn, hf'])) harr₂⟩
      | ret => exact ⟨_, a₁, w₁, hq, harr⟩
      | panic ch => exact ⟨_, a₁, w₁, hq, harr⟩
      | outgrown => exact ⟨_, a₁, w₁, hq, harr⟩
  obtain ⟨e, a₁, w₁, hq, harr⟩ := first b (.inScope c :: k) cs
  cases e with
  | normal => exact ⟨.normal, a₁, w₁, hq, .head step_scope (Steps.trans harr (.one step_inScope))⟩
  | exit id => exact ⟨.exit id, a₁, w₁, hq, fun k' hk => .head step_scope (harr k' (by simp [exitTo, hk]))⟩
  | goto l' =>
    obtain ⟨rest', hf', e₂, a₂, w₂, hq₂, harr₂⟩ := key _ l' a₁ w₁ rfl hq
    exact ⟨e₂, a₂, w₂, hq₂, .of_steps (.head step_scope (harr _ (by simp [gotoIn, hf']))) harr₂⟩
  | ret => exact ⟨_, a₁, w₁, hq, .of_steps (.one step_scope) harr⟩
  | panic ch => exact ⟨_, a₁, w₁, hq, .of_steps (.one step_scope) harr⟩
  | outgrown => exact ⟨_, a₁, w₁, hq, .of_steps (.one step_scope) harr⟩
end
namespace St
/-- a number out of bytes: the error, the number, what is left -/
def takeN : List UInt8 → Nat → Nat → Int × Nat × List UInt8
  | [], _, _ => (5, 0, [])
  | c :: r, i, v => if 128 ≤ c.toNat then (if i = 8 then (6, 0, []) else takeN r (i + 1) (v + (c.toNat - 128) * 128 ^ i)) else if c.toNat = 0 ∧ 0 < i then (6, 0, []) else (0, v + c.toNat * 128 ^ i, r)
/-- a Reader in memory -/
def RdIs (w : World) (A : Nat) (L : List UInt8) (e : Int) (F : Nat → Prop) : Prop :=
  ∃ v, Blk w A 70 #[v, .int .i64 e] ∧ SlAt byteE w v L ∧ v.ownBlock ≠ some A ∧ F = fun b => b = A ∨ v.ownBlock = some b
theorem drop_get {α : Type} {l : List α} {n : Nat} {x : α} (h : l[n]? = some x) : l.drop n = x :: l.drop (n + 1) := by
  have hn := (List.getElem?_eq_some_iff.1 h).1
  rw [List.drop_eq_getElem_cons hn]
  rw [List.getElem?_eq_getElem hn] at h
  rw [Option.some.inj h]
theorem SlAt.byte {w : World} {v : Value} {L : List UInt8} (h : SlAt byteE w v L) (hn : 0 < L.length) : ∃ g o c, v = .slice (some ⟨g, o, none⟩) L.length c ∧ L.length ≤ c ∧ c ≤ maxLen ∧ g < w.heap.size ∧ ∀ (i : Nat) (x : UInt8), L[i]? = some x → w.cell? ⟨g, o + i, none⟩ = some (.int .u8 (x.toNat : Int)) := by
  obtain ⟨g, o, c, rfl, h1, h2, hg, hc⟩ := h.one hn
  exact ⟨g, o, c, rfl, h1, h2, hg, fun i x hx => by have := hc i x hx 0 _ rfl; simpa [byteE] using this⟩
theorem or_shift (v x n : Nat) (hv : v < 128 ^ n) (hx : x < 128) (hn : n ≤ 8) : bits .or .u64 (v : Int) (IntKind.u64.wrap ((x : Int) * 2 ^ (7 * n))) = ((v + x * 128 ^ n : Nat) : Int) ∧ v + x * 128 ^ n < 128 ^ (n + 1) := by
  have e : (128 : Nat) ^ n = 2 ^ (7 * n) := by rw [Nat.pow_mul]
  have h9 : (128 : Nat) ^ n ≤ 128 ^ 8 := Nat.pow_le_pow_right (by decide) hn
  have h8 : (128 : Nat) ^ 8 = 72057594037927936 := by decide
  have hxp : x * 128 ^ n ≤ 127 * 128 ^ n := Nat.mul_le_mul_right _ (by omega)
  have hb : v + x * 128 ^ n < 128 ^ (n + 1) := by rw [Nat.pow_succ]; omega
  refine ⟨?_, hb⟩
  have ew : IntKind.u64.wrap ((x : Int) * 2 ^ (7 * n)) = ((x * 128 ^ n : Nat) : Int) := by
    rw [e]
    rw [show ((x : Int) * 2 ^ (7 * n)) = ((x * 2 ^ (7 * n) : Nat) : Int) by simp]
    rw [← e]
    generalize x * 128 ^ n = y at *
    simp only [IntKind.wrap, IntKind.bits, IntKind.signed]
    simp
    omega
  rw [ew, bits_or_u64_nat v (x * 128 ^ n) (by omega) (by omega)]
  have ho := Nat.shiftLeft_add_eq_or_of_lt (b := v) (i := 7 * n) (by rw [← e]; exact hv) x
  rw [Nat.shiftLeft_eq, ← e] at ho
  rw [Nat.or_comm, ← ho, Nat.add_comm]
theorem SlAt.drop {w : World} {g o c : Nat} {L : List UInt8} (h : SlAt byteE w (.slice (some ⟨g, o, none⟩) L.length c) L) (k : Nat) (hk : k ≤ L.length) : SlAt byteE w (.slice (some ⟨g, o + k, none⟩) (L.length - k) (c - k)) (L.drop k) := by
  rcases h with ⟨h, _⟩ | ⟨x, d, h, h1, h2, h3, h4⟩
  · cases h
  · injection h with e1 _ e3
    injection e1 with e1
    subst e1 e3
    refine .inr ⟨⟨g, o + k, none⟩, c - k, by rw [List.length_drop], by rw [List.length_drop]; omega, by omega, fun _ => rfl, fun i y hy j u hu => ?_⟩
    rw [List.getElem?_drop] at hy
    have := h4 (k + i) y hy j u hu
    rw [show o + k + (i * byteE.k + j) = o + ((k + i) * byteE.k + j) by simp [byteE]; omega]
    exact this
theorem rd_next {w : World} {A g o vc : Nat} {L : List UInt8} (H1 : Blk w A 70 #[.slice (some ⟨g, o, none⟩) L.length vc, .int .i64 0]) (H2 : SlAt byteE w (.slice (some ⟨g, o, none⟩) L.length vc) L) (h3 : (Value.slice (some ⟨g, o, none⟩) L.length vc).ownBlock ≠ some A)
    (k : Nat) (hk : k ≤ L.length) (o' : Nat) (ho : o' = o + k ∨ k = vc) :
    RdIs (w.setCell ⟨A, 0, none⟩ (.slice (some ⟨g, o', none⟩) (L.length - k) (vc - k))) A (L.drop k) 0 (fun b => b = A ∨ (Value.slice (some ⟨g, o, none⟩) L.length vc).ownBlock = some b) ∧ Kept (· = A) w (w.setCell ⟨A, 0, none⟩ (.slice (some ⟨g, o', none⟩) (L.length - k) (vc - k))) := by
  have hk2 : Kept (· = A) w (w.setCell ⟨A, 0, none⟩ (.slice (some ⟨g, o', none⟩) (L.length - k) (vc - k))) := Kept.setCell (Kept.refl (· = A) w) (p := ⟨A, 0, none⟩) (fun _ => rfl) _
  refine ⟨⟨.slice (some ⟨g, o', none⟩) (L.length - k) (vc - k), H1.set_ 0 _, ?_, h3, rfl⟩, hk2⟩
  refine SlAt.keep (S := (· = A)) (w := w) ?_ hk2 (fun b hb _ e => h3 (e ▸ hb))
  rcases ho with rfl | rfl
  · exact St.SlAt.drop H2 k hk
  · obtain ⟨a, c, e, h1, h2⟩ := H2.sl
    have hl : L.length = k := by cases e; omega
    have hd : L.drop k = [] := List.drop_eq_nil_of_le (by omega)
    rw [hd, hl, Nat.sub_self]
    exact .inr ⟨⟨g, o', none⟩, 0, rfl, Nat.le_refl _, Nat.zero_le _, fun _ => rfl, fun i y hy => by simp at hy⟩
theorem rd_end {w : World} {A g o : Nat} {L : List UInt8} (H1 : Blk w A 70 #[.slice (some ⟨g, o, none⟩) L.length L.length, .int .i64 0]) (h3 : (Value.slice (some ⟨g, o, none⟩) L.length L.length).ownBlock ≠ some A) :
    RdIs (w.setCell ⟨A, 0, none⟩ (.slice (some ⟨g, o, none⟩) 0 0)) A (L.drop L.length) 0 (fun b => b = A ∨ (Value.slice (some ⟨g, o, none⟩) L.length L.length).ownBlock = some b) ∧ Kept (· = A) w (w.setCell ⟨A, 0, none⟩ (.slice (some ⟨g, o, none⟩) 0 0)) := by
  have hk2 : Kept (· = A) w (w.setCell ⟨A, 0, none⟩ (.slice (some ⟨g, o, none⟩) 0 0)) := Kept.setCell (Kept.refl (· = A) w) (p := ⟨A, 0, none⟩) (fun _ => rfl) _
  rw [List.drop_length]
  exact ⟨⟨.slice (some ⟨g, o, none⟩) 0 0, H1.set_ 0 _, .inr ⟨⟨g, o, none⟩, 0, rfl, Nat.le_refl _, Nat.zero_le _, fun _ => rfl, fun i y hy => by simp at hy⟩, h3, rfl⟩, hk2⟩
/-- what holds at Number's labels -/
def RnJ (A : Nat) (L : List UInt8) (w : World) (l : Nat) (a' : Act) (w' : World) : Prop :=
  w = w' ∧ ((l = 1 ∧ ∃ (v n : Nat) (u1 u6 u7 u8 u9 u10 u11 u12 u13 u14 u15 u16 u17 u18 u19 u20 u21 u22 u23 u24 u25 u26 u27 u28 u29 u30 u31 u32 u33 u34 u35 u36 u37 u38 u39 u40 u41 u42 u43 u44 u45 u46 u47 u48 u49 u50 u51 u52 u53 u54 u55 u56 u57 u58 u59 u60 u61 u62 u63 u64 u65 u66 u67 u68 u69 u70 u71 u72 : Value), a' = { tmps := #[.pointer (some ⟨A, 0, none⟩), u1, .int .i64 0, .int .u64 (v : Int), .int .i64 (n : Int), .int .i64 6, u6, u7, u8, u9, u10, u11, u12, u13, u14, u15, u16, u17, u18, u19, u20, u21, u22, u23, u24, u25, u26, u27, u28, u29, u30, u31, u32, u33, u34, u35, u36, u37, u38, u39, u40, u41, u42, u43, u44, u45, u46, u47, u48, u49, u50, u51, u52, u53, u54, u55, u56, u57, u58, u59, u60, u61, u62, u63, u64, u65, u66, u67, u68, u69, u70, u71, u72], defers := [] } ∧ n ≤ L.length ∧ n ≤ 8 ∧ v < 128 ^ n ∧ takeN (L.drop n) n v = takeN L 0 0) ∨
    (l = 0 ∧ ∃ (e : Int) (u1 u2 u3 u4 u6 u7 u8 u9 u10 u11 u12 u13 u14 u15 u16 u17 u18 u19 u20 u21 u22 u23 u24 u25 u26 u27 u28 u29 u30 u31 u32 u33 u34 u35 u36 u37 u38 u39 u40 u41 u42 u43 u44 u45 u46 u47 u48 u49 u50 u51 u52 u53 u54 u55 u56 u57 u58 u59 u60 u61 u62 u63 u64 u65 u66 u67 u68 u69 u70 u71 u72 : Value), a' = { tmps := #[.pointer (some ⟨A, 0, none⟩), u1, u2, u3, u4, .int .i64 e, u6, u7, u8, u9, u10, u11, u12, u13, u14, u15, u16, u17, u18, u19, u20, u21, u22, u23, u24, u25, u26, u27, u28, u29, u30, u31, u32, u33, u34, u35, u36, u37, u38, u39, u40, u41, u42, u43, u44, u45, u46, u47, u48, u49, u50, u51, u52, u53, u54, u55, u56, u57, u58, u59, u60, u61, u62, u63, u64, u65, u66, u67, u68, u69, u70, u71, u72], defers := [] } ∧ e ≠ 0 ∧ takeN L 0 0 = (e, 0, [])))
def rnM (L : List UInt8) (l : Nat) (a' : Act) : Nat := if l = 1 then L.length - (intOf (a'.tmps.getD 4 undef)).toNat + 1 else 0

set_option maxRecDepth 100000 in
set_option maxHeartbeats 4000000 in
theorem rnum_ok {w : World} {A : Nat} {L : List UInt8} {F : Nat → Prop} (h : RdIs w A L 0 F) (hb : L.length ≤ 1000000000) :
    Calls Try.prog 54 #[.pointer (some ⟨A, 0, none⟩)] w fun e w' => e = .returned (.int .i64 ((takeN L 0 0).2.1 : Int)) ∧ RdIs w' A (if (takeN L 0 0).1 = 0 then (takeN L 0 0).2.2 else L) (takeN L 0 0).1 F ∧ Kept (· = A) w w' := by
  obtain ⟨v, h1, h2, h3, rfl⟩ := h
  have c0 : w.cell? ⟨A, 0, none⟩ = some v := h1.cell' rfl
  have c1 : w.cell? ⟨A, 1, none⟩ = some (.int .i64 0) := h1.cell' rfl
  have f0 := h1.frozen 0
  have f1 := h1.frozen 1
  obtain ⟨va, vc, rfl, _, _⟩ := h2.sl
  have H1 := Lib.hid h1
  have H2 := Lib.hid h2
  clear h1 h2
  go_enter Try.func54, Try.ntmps54
  go_wp2_with fail
  refine wp_scope_any (RnJ A L w) (fun l a' _ => rnM L l a') ?_ ?_
  · intro pass
    go_wp2
    go_step3
    obtain ⟨rest, hf, hw⟩ := pass 1 _ w ⟨rfl, .inl ⟨rfl, 0, 0, _, _, _, _, _, _, _, _, _, _, _, _, _, _, _, _, _, _, _, _, _, _, _, _, _, _, _, _, _, _, _, _, _, _, _, _, _, _, _, _, _, _, _, _, _, _, _, _, _, _, _, _, _, _, _, _, _, _, _, _, _, _, _, _, _, _, _, _, rfl, Nat.zero_le _, by omega, by decide, rfl⟩⟩
    cases hf
    simp only [Exit.then]
    first | exact hw | (apply_assumption; exact hw)
  · rintro l a' w' ⟨rfl, ⟨rfl, v, n, _, _, _, _, _, _, _, _, _, _, _, _, _, _, _, _, _, _, _, _, _, _, _, _, _, _, _, _, _, _, _, _, _, _, _, _, _, _, _, _, _, _, _, _, _, _, _, _, _, _, _, _, _, _, _, _, _, _, _, _, _, _, _, _, _, _, _, _, rfl, hn, hn8, hv, ht⟩ | ⟨rfl, e, _, _, _, _, _, _, _, _, _, _, _, _, _, _, _, _, _, _, _, _, _, _, _, _, _, _, _, _, _, _, _, _, _, _, _, _, _, _, _, _, _, _, _, _, _, _, _, _, _, _, _, _, _, _, _, _, _, _, _, _, _, _, _, _, _, _, _, _, _, _, _, rfl, he, hte⟩⟩
    · refine ⟨_, rfl, ?_⟩
      have TT := Lib.hid ht
      have HV := Lib.hid hv
      have hn0 : (0 : Int) ≤ n := by omega
      clear ht hv
      by_cases hlt : n < L.length
      · obtain ⟨c, hc⟩ := get_of_lt hlt
        obtain ⟨g, o, cc, hvv, _, _, _, hcell⟩ := SlAt.byte H2.out (by omega)
        cases hvv
        have cb := hcell n c hc
        have TD : Hid (takeN (c :: L.drop (n + 1)) n v = takeN L 0 0) := by show takeN _ _ _ = _; rw [← drop_get hc]; exact TT.out
        have hk := UInt8.toNat_lt c
        generalize hkk : c.toNat = k at *
        have KK := Lib.hid hkk
        have hk2 : (k : Int) ≤ 255 := by omega
        have hnl : (n : Int) < L.length := by omega
        have hne : ((n : Int) == L.length) = false := beq_eq_false_iff_ne.2 (by omega)
        clear hkk hcell hc hk
        by_cases h128 : 128 ≤ k
        · have h128' : (128 : Int) ≤ k := by omega
          by_cases h8 : n = 8
          · subst h8
            have hte : Hid (takeN L 0 0 = (6, 0, [])) := by show takeN L 0 0 = _; rw [← TD.out]; unfold takeN; rw [KK.out, if_pos h128, if_pos rfl]
            go_wp2
            go_step3
            exact ⟨⟨rfl, .inr ⟨rfl, 6, _, _, _, _, _, _, _, _, _, _, _, _, _, _, _, _, _, _, _, _, _, _, _, _, _, _, _, _, _, _, _, _, _, _, _, _, _, _, _, _, _, _, _, _, _, _, _, _, _, _, _, _, _, _, _, _, _, _, _, _, _, _, _, _, _, _, _, _, _, _, _, rfl, by decide, hte.out⟩⟩, by show 0 < _; simp [rnM]⟩
          · have h8' : ((n : Int) == 8) = false := beq_eq_false_iff_ne.2 (by omega)
            obtain ⟨o1, o2⟩ := or_shift v (k - 128) n HV.out (by omega) hn8
            have hte : Hid (takeN (L.drop (n + 1)) (n + 1) (v + (k - 128) * 128 ^ n) = takeN L 0 0) := by show takeN _ _ _ = _; rw [← TD.out]; conv => rhs; unfold takeN; rw [KK.out, if_pos h128, if_neg h8]
            generalize v + (k - 128) * 128 ^ n = y at *
            have o3 : bits .or .u64 (v : Int) (IntKind.u64.wrap (((k : Int) - 128) * 2 ^ (7 * n))) = (y : Int) := by rw [show ((k : Int) - 128) = ((k - 128 : Nat) : Int) by omega]; exact o1
            have O2 := Lib.hid o2
            clear o1 o2
            go_wp2
            go_step3
            exact ⟨⟨rfl, .inl ⟨rfl, y, n + 1, _, _, _, _, _, _, _, _, _, _, _, _, _, _, _, _, _, _, _, _, _, _, _, _, _, _, _, _, _, _, _, _, _, _, _, _, _, _, _, _, _, _, _, _, _, _, _, _, _, _, _, _, _, _, _, _, _, _, _, _, _, _, _, _, _, _, _, _, rfl, by omega, by omega, O2.out, hte.out⟩⟩, by simp [rnM, intOf]; omega⟩
        · have h128' : ¬ (128 : Int) ≤ k := by omega
          by_cases h0 : k = 0 ∧ 0 < n
          · obtain ⟨rfl, h0n⟩ := h0
            have h0n' : (0 : Int) < n := by omega
            have hte : Hid (takeN L 0 0 = (6, 0, [])) := by show takeN L 0 0 = _; rw [← TD.out]; unfold takeN; rw [KK.out, if_neg h128, if_pos ⟨rfl, h0n⟩]
            go_wp2
            go_step3
            exact ⟨⟨rfl, .inr ⟨rfl, 6, _, _, _, _, _, _, _, _, _, _, _, _, _, _, _, _, _, _, _, _, _, _, _, _, _, _, _, _, _, _, _, _, _, _, _, _, _, _, _, _, _, _, _, _, _, _, _, _, _, _, _, _, _, _, _, _, _, _, _, _, _, _, _, _, _, _, _, _, _, _, _, rfl, by decide, hte.out⟩⟩, by show 0 < _; simp [rnM]⟩
          · obtain ⟨o1, o2⟩ := or_shift v k n HV.out (by omega) hn8
            have hte : Hid (takeN L 0 0 = (0, v + k * 128 ^ n, L.drop (n + 1))) := by show takeN L 0 0 = _; rw [← TD.out]; unfold takeN; rw [KK.out, if_neg h128, if_neg h0]
            have o4 : v + k * 128 ^ n < 128 ^ 9 := Nat.lt_of_lt_of_le o2 (Nat.pow_le_pow_right (by decide) (by omega))
            generalize hyy : v + k * 128 ^ n = y at *
            have YY := Lib.hid hyy
            clear hyy
            have o5 : (y : Int) ≤ 9223372036854775807 := by have : (128 : Nat) ^ 9 = 9223372036854775808 := by decide
                                                            omega
            clear o2 o4
            rcases (show (k : Int) ≠ 0 ∨ ((k : Int) = 0 ∧ n = 0) by omega) with hz | ⟨hz, rfl⟩
            · have hz' : ((k : Int) == 0) = false := beq_eq_false_iff_ne.2 hz
              clear hz
              by_cases hcap : vc = n + 1
              · subst hcap
                go_wp2
                simp only [Exit.jumps]
                go_ret
                have hLl : L.length = n + 1 := by obtain ⟨_, _, e, q1, q2⟩ := H2.out.sl; cases e; omega
                have H1' := H1.out
                have h3' := h3
                rw [← hLl] at H1' h3'
                obtain ⟨R1, R2⟩ := rd_end H1' h3'
                rw [hte.out]
                rw [hLl] at R1
                exact ⟨rfl, R1, R2⟩
              · go_wp2
                simp only [Exit.jumps]
                go_ret
                obtain ⟨R1, R2⟩ := rd_next H1.out H2.out h3 (n + 1) (by omega) _ (.inl rfl)
                rw [hte.out]
                exact ⟨rfl, R1, R2⟩
            · obtain rfl : k = 0 := by omega
              have hv0 : v < 1 := HV.out
              obtain rfl : v = 0 := by simpa using hv0
              have hy0 : y = 0 := by have h := YY.out; simp at h; omega
              subst hy0
              rw [Nat.add_zero] at cb
              have hb00 : bits .or .u64 0 0 = 0 := by decide
              clear o1 hv0 hz
              by_cases hcap : vc = 1
              · subst hcap
                go_wp2
                simp only [Exit.jumps]
                go_ret
                have hLl : L.length = 1 := by obtain ⟨_, _, e, q1, q2⟩ := H2.out.sl; cases e; omega
                have H1' := H1.out
                have h3' := h3
                rw [← hLl] at H1' h3'
                obtain ⟨R1, R2⟩ := rd_end H1' h3'
                rw [hte.out]
                rw [hLl] at R1
                exact ⟨rfl, R1, R2⟩
              · go_wp2
                simp only [Exit.jumps]
                go_ret
                obtain ⟨R1, R2⟩ := rd_next H1.out H2.out h3 1 (by omega) _ (.inl rfl)
                rw [hte.out]
                exact ⟨rfl, R1, R2⟩
      · have hge : n = L.length := by omega
        have hne : ((n : Int) == L.length) = true := beq_iff_eq.2 (by omega)
        have hte : Hid (takeN L 0 0 = (5, 0, [])) := by show takeN L 0 0 = _; rw [← TT.out, List.drop_eq_nil_of_le (by omega)]; rfl
        clear hge
        go_wp2
        go_step3
        exact ⟨⟨rfl, .inr ⟨rfl, 5, _, _, _, _, _, _, _, _, _, _, _, _, _, _, _, _, _, _, _, _, _, _, _, _, _, _, _, _, _, _, _, _, _, _, _, _, _, _, _, _, _, _, _, _, _, _, _, _, _, _, _, _, _, _, _, _, _, _, _, _, _, _, _, _, _, _, _, _, _, _, _, rfl, by decide, hte.out⟩⟩, by show 0 < _; simp [rnM]⟩
    · refine ⟨_, rfl, ?_⟩
      go_wp2
      simp only [Exit.jumps]
      go_ret
      rw [hte, if_neg he]
      have hk2 : Kept (· = A) w (w.setCell ⟨A, 1, none⟩ (.int .i64 e)) := Kept.setCell (Kept.refl (· = A) w) (p := ⟨A, 1, none⟩) (fun _ => rfl) _
      exact ⟨rfl, ⟨_, H1.out.set_ 1 _, H2.out.keep hk2 (fun b hb _ e => h3 (e ▸ hb)), h3, rfl⟩, hk2⟩
end St
end Go.Proofs.Ytdbnohlignpeaaa
