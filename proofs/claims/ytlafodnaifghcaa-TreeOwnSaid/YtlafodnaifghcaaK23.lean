/- Text, by a range over All. isRune; rows of nodes compared. Contracts of the library at this translation: the numbers. strings.Builder.WriteRune; glyph.Mend; what is mended is text. -/
import Derived.Test.YtlafodnaifghcaaK22
import Derived.Test.YtlafodnaifghcaaK3
import Derived.Test.YtlafodnaifghcaaChecked
import Derived.Shelf.Utf8.AppendRunePlain
import Derived.Test.YtlafodnaifghcaaK19
namespace Go.Proofs.Ytlafodnaifghcaa.Tr
open Go.RowKit Go.Proofs.Ytlafodnaifghcaa.St Go.Shelf
attribute [local go_sem] Oper.semAt_some
def encB (r : Int) : List UInt8 := (Utf8.encode r).data.toList
theorem encB_len (r : Int) : 1 ≤ (encB r).length ∧ (encB r).length ≤ 4 := by
  unfold encB Utf8.encode
  dsimp only
  generalize (if Utf8.valid r = true then r.toNat else Utf8.runeError) = c
  by_cases h1 : c < 0x80
  · rw [if_pos h1]; simp
  · by_cases h2 : c < 0x800
    · rw [if_neg h1, if_pos h2]; simp
    · by_cases h3 : c < 0x10000
      · rw [if_neg h1, if_neg h2, if_pos h3]; simp
      · rw [if_neg h1, if_neg h2, if_neg h3]; simp
/-- what is shown, as bytes -/
def textB (L : List Nd) : List UInt8 := L.flatMap fun n => encB n.rune
theorem textB_snoc (L : List Nd) (m : Nd) : textB (L ++ [m]) = textB L ++ encB m.rune := by simp [textB]
theorem textB_len (L : List Nd) : (textB L).length ≤ 4 * L.length := by
  induction L with
  | nil => simp [textB]
  | cons m L ih => have := (encB_len m.rune).2; simp only [textB, List.flatMap_cons, List.length_append, List.length_cons] at *; omega
theorem textB_ne {L : List Nd} (h : L ≠ []) : textB L ≠ [] := by
  cases L with
  | nil => exact absurd rfl h
  | cons m L => intro e; have h1 := congrArg List.length e; have := (encB_len m.rune).1; simp only [textB, List.flatMap_cons, List.length_append, List.length_nil] at h1; omega
theorem encode_any (r : Int) (w : World) : Calls Try.prog 46 #[.int .i32 r] w fun e w' => e = .returned (.string ⟨(encB r).toArray⟩) ∧ w = w' := by
  have hc : (convert 21 9 (.int .i32 r)).run Try.prog w = .ok (.string (Utf8.encode r)) w := by
    simp [convert, run_underlying Try.underlying21, run_underlying Try.underlying9, Conv.intToString, go_sem]
  have e : (⟨(encB r).toArray⟩ : ByteArray) = Utf8.encode r := by unfold encB; simp
  rw [e]
  go_enter Try.func46, Try.ntmps46
  go_wp2
  go_ret
  exact ⟨rfl, rfl⟩
/-- between two rounds -/
structure TxtJ (w : World) (z B bl : Nat) (v : Value) (Ls : List Nd) (i : Nat) (X : Nat → Prop) (W : World) : Prop where
  kept : Kept (fun _ => False) w W
  bld : ∃ vb, Bld W z (B + 2) vb (textB (Ls.take i)) ∧ (∀ b, vb.ownBlock = some b → ¬ X b) ∧ (i = 0 → vb = .slice none 0 0)
  box : Blk W bl 42 #[v]
  row : SlAt nodeE W v Ls
  vlt : ∀ b, v.ownBlock = some b → z < b ∧ b < B
  far : ∀ b, X b → B ≤ b ∧ b < W.heap.size
  lt : w.heap.size ≤ z ∧ z < bl ∧ bl < B
  sz : B ≤ W.heap.size
theorem Bld.keep {w w' : World} {b base : Nat} {v : Value} {bs : List UInt8} {Y : Nat → Prop} (h : Bld w b base v bs) (hk : Kept Y w w') (h1 : ¬ Y b) (h2 : ∀ g, v.ownBlock = some g → ¬ Y g) : Bld w' b base v bs := by
  obtain ⟨p, hp, hb⟩ := h.at_
  exact ⟨⟨p, hp, hk.blk h1 hb⟩, bld_keep h.row hk h2⟩
theorem bld_lt {w : World} {base n size : Nat} {e : TypeId} {v : Value} {xs : List Value} (h : w.ownsRow base e size v n xs) : ∀ b, v.ownBlock = some b → base ≤ b ∧ b < w.heap.size := owns_lt h
theorem TxtJ.step {w W W' : World} {z B bl : Nat} {v : Value} {Ls : List Nd} {i : Nat} {X X' Y : Nat → Prop} (h : TxtJ w z B bl v Ls i X W) (hk : Kept Y W W') (hY : ∀ b, Y b → B ≤ b) (hYb : ∀ b, Y b → B + 2 ≤ b → X b) (hX : ∀ b, X' b → X b ∨ (W.heap.size ≤ b ∧ b < W'.heap.size)) : TxtJ w z B bl v Ls i X' W' := by
  obtain ⟨vb, hb, hx, hz⟩ := h.bld
  have hlt := owns_lt hb.row
  exact { kept := h.kept.trans hk fun b hb hy => by have := hY b hy; have := h.lt; omega
          bld := ⟨vb, hb.keep hk (fun hy => by have := hY _ hy; have := h.lt; omega) (fun g hg hy => hx g hg (hYb g hy (hlt g hg).1)), fun b hb hx' => by
            rcases hX b hx' with h1 | h1
            · exact hx b hb h1
            · have := (hlt b hb).2; omega, hz⟩
          box := hk.blk (fun hy => by have := hY _ hy; have := h.lt; omega) h.box
          row := h.row.keep hk fun b hb _ hy => by have := hY b hy; have := (h.vlt b hb).2; omega
          vlt := h.vlt
          far := fun b hb => by
            rcases hX b hb with h1 | h1
            · exact ⟨(h.far b h1).1, Nat.lt_of_lt_of_le (h.far b h1).2 hk.size⟩
            · have := h.sz; exact ⟨by omega, h1.2⟩
          lt := h.lt
          sz := Nat.le_trans h.sz hk.size }
set_option maxRecDepth 100000 in
set_option maxHeartbeats 8000000 in
theorem text_core {w : World} {p : Option Addr} {Ls : List Nd} (hlen : Ls.length ≤ 900000) (hA : Calls Try.prog 44 #[.pointer p] (w.alloc (.cells #[.pointer none, .slice none 0 0] 100)) fun e w' => (∃ b v, e = .returned (.func (.func 70) #[] #[.pointer (some ⟨b, 0, none⟩)]) ∧ (w.alloc (.cells #[.pointer none, .slice none 0 0] 100)).heap.size ≤ b ∧ Blk w' b 42 #[v] ∧ w'.ownsRow (w.alloc (.cells #[.pointer none, .slice none 0 0] 100)).heap.size 59 6 v Ls.length (nodeE.flat Ls)) ∧ Kept (fun _ => False) (w.alloc (.cells #[.pointer none, .slice none 0 0] 100)) w') :
    Calls Try.prog 17 #[.pointer p] w fun e w' => e = .returned (.string ⟨(textB Ls).toArray⟩) ∧ Kept (fun _ => False) w w' := by
  refine (callsIn_wide (n := 6)).1 ?_
  have k0 : Kept (fun _ => False) w (w.alloc (.cells #[.pointer none, .slice none 0 0] 100)) := (Kept.refl _ _).alloc _
  have b0 := Blk.new w 100 #[.pointer none, .slice none 0 0]
  have HA := Lib.hid hA
  have K0 := Lib.hid k0
  have B0 := Lib.hid b0
  have HL := Lib.hid hlen
  clear hA k0 b0 hlen
  refine callsIn_of_wp_marks Try.func17 rfl trivial ?_ rfl
  simp only [Try.ntmps17, List.size_toArray, List.length_cons, List.length_nil, Nat.reduceAdd, Nat.reduceSub, Array.replicate_succ, Array.replicate_zero, List.push_toArray, List.append_toArray, List.nil_append, List.cons_append]
  gi_wp2_with (refine ⟨trivial, ?_⟩; gi_at_call 44; refine (callsIn_wide.2 HA.out).mono ?_; rintro e W0 ⟨⟨bl, v, rfl, hbl, hbox, hrow⟩, hk⟩)
  have hz1 : (w.alloc (.cells #[.pointer none, .slice none 0 0] 100)).heap.size = w.heap.size + 1 := World.size_alloc _ _
  rw [hz1] at hbl hrow
  have hT : TxtJ w w.heap.size W0.heap.size bl v Ls 0 (fun _ => False) W0 :=
    { kept := K0.out.trans hk fun _ _ h => h
      bld := ⟨.slice none 0 0, ⟨⟨.pointer none, .inl rfl, hk.blk (fun h => h) B0.out⟩, by simp [textB, Lib.byteCells]; exact World.ownsRow_nil ..⟩, (fun b hb => by cases hb), fun _ => rfl⟩
      box := hbox
      row := owns_slAt (E := nodeE) hrow
      vlt := fun b hb => by have := owns_lt hrow b hb; omega
      far := fun _ h => h.elim
      lt := ⟨Nat.le_refl _, by omega, hbox.lt⟩
      sz := Nat.le_refl _ }
  have HT := Lib.hid hT
  clear hbl hbox hrow hk hz1 hT
  refine wpIn_iter rfl (by decide) (gf := 70) (lb := #[.pointer (some ⟨bl, 0, none⟩)]) rfl trivial (enters_of Try.func70 (by kernel_rfl) rfl) (all2_iter (L := Ls) (v := v) (by have := HL.out; omega)) (fun _ _ => rfl) W0.heap.size rfl (TxtJ w w.heap.size W0.heap.size bl v Ls) (fun _ _ _ => False) ?hrd ?hgr ?hgx ?hob ?hox ?h0 ?round ?done ?stop
  case hrd => intro i X W hJ; exact ⟨hJ.box.cell' rfl, hJ.row⟩
  case hgr => intro i X W W' hJ hk; exact hJ.step hk (fun b hb => (hJ.far b hb).1) (fun _ hb _ => hb) fun _ hb => hb
  case hgx => intro c X W W' h _; exact h
  case hob => intro i X W o' hJ; exact hJ.step (kept_put W (W0.heap.size + 1) o') (fun b hb => by rw [hb]; omega) (fun b hb h2 => by rw [hb] at h2; omega) fun _ hb => .inl hb
  case hox => intro c X W o' hJ; exact hJ
  case h0 => intro o1 o2; exact (HT.out.step (((Kept.refl (fun _ => False) W0).alloc o1).alloc o2) (fun _ h => h.elim) (fun _ h => h.elim) fun _ h => h.elim)
  case round =>
    intro i W K hi hK
    have hm := nth_lt hi
    unfold nodeEnc
    generalize nth Ls i = m at hm ⊢
    gi_wp2
    rintro X W h2 hJ
    have hil := hi
    obtain ⟨vb, hb, hx, _⟩ := hJ.bld
    have hlen2 := textB_len (Ls.take i)
    have hlen3 := List.length_take_le i Ls
    have henc := encB_len m.rune
    have hw := bld_write hb ⟨(encB m.rune).toArray⟩ (by have := HL.out; show _ + (encB m.rune).toArray.size ≤ _; rw [List.size_toArray]; omega) (by omega)
    have H2 := Lib.hid h2
    have HJ := Lib.hid hJ
    have HX := Lib.hid hx
    have HM := Lib.hid hm
    have HBO := Lib.hid (owns_lt hb.row)
    have HW := Lib.hid hw
    have he := encode_any m.rune W
    clear h2 hJ hb hx hm hw hlen2 hlen3 henc hil
    gi_wp2_with (first | (refine ⟨trivial, ?_⟩; gi_at_call 46; refine (CallsIn.inRound _ (callsIn_wide.2 he)).mono ?_; rintro e w' ⟨rfl, rfl⟩) | (refine ⟨trivial, ?_⟩; gi_at_call 45; refine (CallsIn.inRound _ (callsIn_wide.2 HW.out)).mono ?_; rintro e w2 ⟨rfl, v2, hb2, hk2, hv2⟩))
    have hj := HJ.out
    have hlz : w.heap.size < bl ∧ bl < W0.heap.size := ⟨hj.lt.2.1, hj.lt.2.2⟩
    have hno : ∀ b, (b = w.heap.size ∨ vb.ownBlock = some b) → b < W.heap.size → b = w.heap.size ∨ W0.heap.size + 2 ≤ b := fun b hb _ => hb.imp id fun h => (HBO.out b h).1
    refine ⟨fun x hx => hk2.block x ?_ ?_, hk2.size, ?_⟩
    · rcases hx with hx | rfl | rfl
      · exact (hj.far x hx).2
      · have := H2.out; omega
      · exact H2.out
    · rintro (e | e)
      · rcases hx with hx | hx | hx
        · have := (hj.far x hx).1; omega
        · omega
        · omega
      · rcases hx with hx | hx | hx
        · exact HX.out x e hx
        · have := (HBO.out x e).1; omega
        · have := (HBO.out x e).1; omega
    · exact { kept := hj.kept.trans hk2 fun b hb hy => by rcases hy with e | e; omega; have := (HBO.out b e).1; omega
              bld := ⟨v2, by rw [List.take_add_one, HM.out]; show Bld w2 w.heap.size (W0.heap.size + 2) v2 (textB (List.take i Ls ++ [m])); rw [textB_snoc]; simpa using hb2, (fun b hb hXb => by
                rcases hv2 with e | e
                · rw [e] at hb; exact HX.out b hb hXb
                · rw [e] at hb; injection hb with hb; have := (hj.far b hXb).2; omega), fun e => by omega⟩
              box := hk2.blk (fun hy => by rcases hy with e | e; omega; have := (HBO.out bl e).1; omega) hj.box
              row := hj.row.keep hk2 fun b hb _ hy => by have := hj.vlt b hb; rcases hy with e | e; omega; have := (HBO.out b e).1; omega
              vlt := hj.vlt
              far := fun b hb => ⟨(hj.far b hb).1, Nat.lt_of_lt_of_le (hj.far b hb).2 hk2.size⟩
              lt := hj.lt
              sz := Nat.le_trans hj.sz hk2.size }
  case done =>
    rintro X W hJ hK
    obtain ⟨vb, hb, hx, hz⟩ := hJ.bld
    rw [List.take_length] at hb
    have hst : Calls Try.prog 47 #[.pointer (some ⟨w.heap.size, 0, none⟩)] W fun e w' => e = .returned (.string ⟨(textB Ls).toArray⟩) ∧ Kept (fun x => vb.ownBlock = some x) W w' := by
      by_cases hl : Ls = []
      · subst hl
        have hz2 := hz rfl
        subst hz2
        exact (bld_string0 hb).mono fun e w' ⟨h1, h2⟩ => ⟨h1, h2.mono fun _ _ h => h.elim⟩
      · exact bld_string hb (textB_ne hl)
    have HJ := Lib.hid hJ
    have HK := Lib.hid hK
    have HBO := Lib.hid (owns_lt hb.row)
    have HS := Lib.hid hst
    clear hJ hb hx hz hK hst
    gi_wp2_with (refine ⟨trivial, ?_⟩; gi_at_call 47; refine (callsIn_wide.2 HS.out).mono ?_; rintro e w2 ⟨rfl, hk2⟩)
    refine ret_range ((hk2.block _ (Array.getElem?_eq_some_iff.1 HK.out).1 (fun e => by have := (HBO.out _ e).1; omega)).trans HK.out) (results_tmp rfl _ _ _) ⟨rfl, ?_⟩
    have hlt := HJ.out.lt
    exact (HJ.out.kept.trans hk2 fun b hb e => by have := (HBO.out b e).1; omega).trans (kept_put w2 W0.heap.size (.deferred none)) fun b hb e => by omega
  case stop =>
    rintro c X W h _
    exact h.elim
theorem text_any {w : World} {g : Nat} {L : List Nd} {A : ID → Nat} {S : ID → Rw} {mp : Option Nat} (h : TAt w g L A S mp) (hdoc : Doc L) (hlen : L.length ≤ 900000) :
    Calls Try.prog 17 #[.pointer (some ⟨g, 0, none⟩)] w fun e w' => e = .returned (.string ⟨(textB (shL L)).toArray⟩) ∧ Kept (fun _ => False) w w' :=
  text_core (by have := shL_le L; omega) (allf_any (h.still ((Kept.refl (fun _ => False) w).alloc (.cells #[.pointer none, .slice none 0 0] 100))) hdoc hlen)
end Go.Proofs.Ytlafodnaifghcaa.Tr
namespace Go.Proofs.Ytlafodnaifghcaa.Tr
open Go.RowKit Go.Proofs.Ytlafodnaifghcaa.St
theorem valid_iff (r : Int) : Utf8.valid r = true ↔ isRuneP r := by
  unfold Utf8.valid isRuneP
  simp only [Bool.or_eq_true, Bool.and_eq_true, decide_eq_true_eq]
  omega
theorem enc_three {c : Nat} (h1 : c < 65536) (h : UInt8.ofNat (0xE0 + c / 4096) = 239 ∧ UInt8.ofNat (0x80 + c / 64 % 64) = 191 ∧ UInt8.ofNat (0x80 + c % 64) = 189) : c = 65533 := by
  obtain ⟨a, b, d⟩ := h
  have a1 := congrArg UInt8.toNat a
  have b1 := congrArg UInt8.toNat b
  have d1 := congrArg UInt8.toNat d
  simp at a1 b1 d1
  omega
/-- the bytes of U+FFFD are its own and those of what is no rune -/
theorem enc_bad {r : Int} (h : r ≠ 65533) : encB r ≠ encB 65533 ↔ isRuneP r := by
  rw [← valid_iff]
  have e0 : encB 65533 = [239, 191, 189] := by decide
  rw [e0]
  constructor
  · intro hne
    refine Decidable.byContradiction fun hv => hne ?_
    unfold encB Utf8.encode
    dsimp only
    rw [if_neg hv]
    decide
  · intro hv he
    have hr := (valid_iff r).1 hv
    unfold isRuneP at hr
    have hc : r.toNat ≠ 65533 := by omega
    unfold encB Utf8.encode at he
    dsimp only at he
    rw [if_pos hv] at he
    generalize r.toNat = c at *
    by_cases h1 : c < 0x80
    · rw [if_pos h1] at he; simp at he
    · by_cases h2 : c < 0x800
      · rw [if_neg h1, if_pos h2] at he; simp at he
      · by_cases h3 : c < 0x10000
        · rw [if_neg h1, if_neg h2, if_pos h3] at he
          have he2 : UInt8.ofNat (0xE0 + c / 4096) = 239 ∧ UInt8.ofNat (0x80 + c / 64 % 64) = 191 ∧ UInt8.ofNat (0x80 + c % 64) = 189 := by
            simpa using he
          exact hc (enc_three h3 he2)
        · rw [if_neg h1, if_neg h2, if_neg h3] at he; simp at he
theorem bytes_eqb (a b : List UInt8) : ((⟨a.toArray⟩ : ByteArray).toList == (⟨b.toArray⟩ : ByteArray).toList) = decide (a = b) := by
  rw [ByteArray.toList_eq, ByteArray.toList_eq, Bool.eq_iff_iff]
  simp
set_option maxRecDepth 100000 in
theorem isRune_any (r : Int) (w : World) : Calls Try.prog 52 #[.int .i32 r] w fun e w' => e = .returned (.bool (decide (isRuneP r))) ∧ w = w' := by
  by_cases h : r = 65533
  · subst h
    rw [decide_eq_true (by decide : isRuneP 65533)]
    go_enter Try.func52, Try.ntmps52
    go_wp2
    go_ret
    exact ⟨rfl, rfl⟩
  · have hq : decide (encB r = encB 65533) = !decide (isRuneP r) := by
      have e := enc_bad h
      by_cases hp : isRuneP r
      · rw [decide_eq_true hp, decide_eq_false (e.2 hp)]; rfl
      · rw [decide_eq_false hp, decide_eq_true (Decidable.byContradiction fun hn => hp (e.1 hn))]; rfl
    have hb := bytes_eqb (encB r) (encB 65533)
    rw [hq] at hb
    have q6 : (r == 65533) = false := by simpa using h
    generalize decide (isRuneP r) = bb at *
    have E1 := Lib.hid (encode_any r)
    have E2 := Lib.hid (encode_any 65533)
    obtain ⟨s1, hs1⟩ : ∃ s1 : ByteArray, (⟨(encB r).toArray⟩ : ByteArray) = s1 := ⟨_, rfl⟩
    obtain ⟨s2, hs2⟩ : ∃ s2 : ByteArray, (⟨(encB 65533).toArray⟩ : ByteArray) = s2 := ⟨_, rfl⟩
    rw [hs1] at E1 hb
    rw [hs2] at E2 hb
    clear hq hs1 hs2
    go_enter Try.func52, Try.ntmps52
    go_wp2_with (first | (go_at_call 46; with_reducible refine (E1.out _).mono ?_; rintro e w' ⟨rfl, rfl⟩) | (go_at_call 46; with_reducible refine (E2.out _).mono ?_; rintro e w' ⟨rfl, rfl⟩))
    go_ret
    exact ⟨by simp, rfl⟩
end Go.Proofs.Ytlafodnaifghcaa.Tr
namespace Go.Proofs.Ytlafodnaifghcaa.Tr
def layRune_ren : Go.Shelf.Ren := ⟨fun | 242 => 73 | 278 => 86 | n => n, fun | 37 => 98 | 21 => 21 | 51 => 150 | 4 => 4 | 5 => 5 | 46 => 141 | n => n, fun | n => n⟩
theorem layRune : Go.Proofs.Lays.n242 Try.prog layRune_ren := {
  mixed := by kernel_rfl,
  f242 := Try.func73.trans (congrArg some (by kernel_rfl)),
  f278 := Try.func86.trans (congrArg some (by kernel_rfl)),
  t4 := Try.underlying4,
  a4 := Try.isAgg4,
  z4 := Try.sizeOf4,
  v4 := Try.zeroValue4,
  t5 := Try.underlying5,
  a5 := Try.isAgg5,
  z5 := Try.sizeOf5,
  v5 := Try.zeroValue5,
  t21 := Try.underlying21,
  a21 := Try.isAgg21,
  z21 := Try.sizeOf21,
  v21 := Try.zeroValue21,
  t37 := Try.underlying98,
  a37 := Try.isAgg98,
  z37 := Try.sizeOf98,
  v37 := Try.zeroValue98,
  t46 := Try.underlying141,
  a46 := Try.isAgg141,
  z46 := Try.sizeOf141,
  v46 := Try.zeroValue141,
  t51 := Try.underlying150,
  a51 := Try.isAgg150,
  z51 := Try.sizeOf150,
  v51 := Try.zeroValue150 }
end Go.Proofs.Ytlafodnaifghcaa.Tr
namespace Go.Proofs.Ytlafodnaifghcaa.Tr
open Go.RowKit Go.Proofs.Ytlafodnaifghcaa.St Go.Proofs.Ytlafodnaifghcaa.Gl Go.Proofs.Ytlafodnaifghcaa
theorem enc_same (r : Int) : Lib.encodeRune r = encB r := by
  by_cases hv : Utf8.valid r = true
  · have hr := (valid_iff r).1 hv
    unfold isRuneP at hr
    unfold encB Utf8.encode Lib.encodeRune
    dsimp only
    rw [if_pos hv]
    obtain ⟨c, rfl⟩ : ∃ c : Nat, r = c := ⟨r.toNat, by omega⟩
    have e0 : ((c : Int)).toNat = c := by omega
    rw [e0]
    have key : ∀ {x : Int} {n : Nat}, x = n → x.toNat.toUInt8 = UInt8.ofNat n := fun h => by subst h; rfl
    by_cases h1 : c < 0x80
    · rw [if_pos h1, Lib.encodeRuneZ_one (by omega) (by omega)]
      simp only [List.map_cons, List.map_nil]
      rw [key rfl]
    · by_cases h2 : c < 0x800
      · rw [if_neg h1, if_pos h2, Lib.encodeRuneZ_two (by omega) (by omega)]
        simp only [List.map_cons, List.map_nil]
        rw [key (n := 0xC0 + c / 64) (by omega), key (n := 0x80 + c % 64) (by omega)]
      · by_cases h3 : c < 0x10000
        · rw [if_neg h1, if_neg h2, if_pos h3, Lib.encodeRuneZ_three (by omega)]
          simp only [List.map_cons, List.map_nil]
          rw [key (n := 0xE0 + c / 4096) (by omega), key (n := 0x80 + c / 64 % 64) (by omega), key (n := 0x80 + c % 64) (by omega)]
        · rw [if_neg h1, if_neg h2, if_neg h3, Lib.encodeRuneZ_four (by omega) (by omega)]
          simp only [List.map_cons, List.map_nil]
          rw [key (n := 0xF0 + c / 262144) (by omega), key (n := 0x80 + c / 4096 % 64) (by omega), key (n := 0x80 + c / 64 % 64) (by omega), key (n := 0x80 + c % 64) (by omega)]
  · have hr : ¬ isRuneP r := fun h => hv ((valid_iff r).2 h)
    unfold isRuneP at hr
    unfold encB Utf8.encode Lib.encodeRune
    dsimp only
    rw [if_neg hv, Lib.encodeRuneZ_bad (by omega)]
    decide
set_option maxRecDepth 10000 in
theorem decode_rune (s : ByteArray) (i : Nat) : isRuneP ((Utf8.decode s i).1 : Int) := by
  have h0 := (s.get! i).toNat_lt
  have h1 := (s.get! (i + 1)).toNat_lt
  have h2 := (s.get! (i + 2)).toNat_lt
  have h3 := (s.get! (i + 3)).toNat_lt
  obtain ⟨x, hx⟩ : ∃ x, Utf8.decode s i = x := ⟨_, rfl⟩
  rw [hx]
  simp only [Utf8.decode, Nat.add_zero] at hx
  simp only [Bool.and_eq_true, beq_iff_eq, decide_eq_true_iff, Gl.valid_iff] at hx
  generalize (s.get! i).toNat = a at *
  generalize (s.get! (i + 1)).toNat = b at *
  generalize (s.get! (i + 2)).toNat = c at *
  generalize (s.get! (i + 3)).toNat = d at *
  have hE : Utf8.runeError = 65533 := rfl
  rw [hE] at hx
  unfold isRuneP
  repeat' split at hx
  all_goals
    subst hx
    dsimp only
    omega
theorem runes_rune {s : ByteArray} {i : Nat} {r : Int} (h : r ∈ runesL s i) : isRuneP r := by
  unfold runesL at h
  obtain ⟨j, _, rfl⟩ := List.mem_map.1 h
  exact decode_rune s j
section
variable {s : ByteArray} {i c : Nat}
theorem dec_of {x n : Nat} (hx : Utf8.decode s i = (x, n)) (h : n ≠ 1 ∨ x ≠ 65533) (_h1 : 1 ≤ n) : runeW s i = n := by
  obtain ⟨e1, e2⟩ := decode_runeW s i
  rw [hx] at e1 e2
  by_cases hz : runeW s i = 0
  · rw [if_pos hz] at e1
    have e1 : n = 1 := e1
    have e2 : x = 65533 := e2 hz
    omega
  · rw [if_neg hz] at e1
    exact e1.symm
set_option maxRecDepth 100000 in
/-- what is read where a rune's bytes lie -/
theorem dec_enc {r : Int} (hr : isRuneP r) (hb : ∀ k (h : k < (encB r).length), i + k < s.size ∧ s.get! (i + k) = (encB r)[k]) : Utf8.decode s i = (r.toNat, (encB r).length) := by
  have hv := (valid_iff r).2 hr
  unfold isRuneP at hr
  obtain ⟨c, rfl⟩ : ∃ c : Nat, r = c := ⟨r.toNat, by omega⟩
  have e0 : ((c : Int)).toNat = c := by omega
  have hE : Utf8.runeError = 65533 := rfl
  rw [e0]
  by_cases h1 : c < 0x80
  · have he : encB (c : Int) = [UInt8.ofNat c] := by unfold encB Utf8.encode; dsimp only; rw [if_pos hv, e0, if_pos h1]
    rw [he] at hb ⊢
    obtain ⟨b0, b1⟩ := hb 0 (by simp)
    have t0 := congrArg UInt8.toNat b1
    simp only [List.getElem_cons_zero, UInt8.toNat_ofNat'] at t0
    rw [Nat.add_zero] at t0
    have t1 : (s.get! i).toNat = c := by omega
    clear hb b1 he hv b0 t0
    simp only [Utf8.decode, Nat.add_zero, t1]
    rw [if_pos h1]
    rfl
  · by_cases h2 : c < 0x800
    · have he : encB (c : Int) = [UInt8.ofNat (0xC0 + c / 64), UInt8.ofNat (0x80 + c % 64)] := by unfold encB Utf8.encode; dsimp only; rw [if_pos hv, e0, if_neg h1, if_pos h2]
      rw [he] at hb ⊢
      obtain ⟨b0, b1⟩ := hb 0 (by simp)
      obtain ⟨b2, b3⟩ := hb 1 (by simp)
      have t0 := congrArg UInt8.toNat b1
      have t1 := congrArg UInt8.toNat b3
      simp only [List.getElem_cons_zero, List.getElem_cons_succ, UInt8.toNat_ofNat'] at t0 t1
      simp only [Utf8.decode, Nat.add_zero, Bool.and_eq_true, beq_iff_eq, decide_eq_true_iff]
      rw [Nat.add_zero] at t0
      generalize (s.get! i).toNat = a at *
      generalize (s.get! (i + 1)).toNat = b at *
      rw [if_neg (by omega), if_pos ⟨by omega, b2, by omega⟩, if_pos (by omega)]
      refine Prod.ext ?_ rfl
      dsimp only
      omega
    · by_cases h3 : c < 0x10000
      · have he : encB (c : Int) = [UInt8.ofNat (0xE0 + c / 4096), UInt8.ofNat (0x80 + c / 64 % 64), UInt8.ofNat (0x80 + c % 64)] := by unfold encB Utf8.encode; dsimp only; rw [if_pos hv, e0, if_neg h1, if_neg h2, if_pos h3]
        rw [he] at hb ⊢
        obtain ⟨b0, b1⟩ := hb 0 (by simp)
        obtain ⟨b2, b3⟩ := hb 1 (by simp)
        obtain ⟨b4, b5⟩ := hb 2 (by simp)
        have t0 := congrArg UInt8.toNat b1
        have t1 := congrArg UInt8.toNat b3
        have t2 := congrArg UInt8.toNat b5
        simp only [List.getElem_cons_zero, List.getElem_cons_succ, UInt8.toNat_ofNat'] at t0 t1 t2
        simp only [Utf8.decode, Nat.add_zero, Bool.and_eq_true, beq_iff_eq, decide_eq_true_iff, Gl.valid_iff]
        rw [Nat.add_zero] at t0
        generalize (s.get! i).toNat = a at *
        generalize (s.get! (i + 1)).toNat = b at *
        generalize (s.get! (i + 2)).toNat = d at *
        rw [if_neg (by omega), if_neg (by omega), if_pos ⟨⟨by omega, b2, by omega⟩, b4, by omega⟩, if_pos ⟨by omega, by omega⟩]
        refine Prod.ext ?_ rfl
        dsimp only
        omega
      · have he : encB (c : Int) = [UInt8.ofNat (0xF0 + c / 262144), UInt8.ofNat (0x80 + c / 4096 % 64), UInt8.ofNat (0x80 + c / 64 % 64), UInt8.ofNat (0x80 + c % 64)] := by unfold encB Utf8.encode; dsimp only; rw [if_pos hv, e0, if_neg h1, if_neg h2, if_neg h3]
        rw [he] at hb ⊢
        obtain ⟨b0, b1⟩ := hb 0 (by simp)
        obtain ⟨b2, b3⟩ := hb 1 (by simp)
        obtain ⟨b4, b5⟩ := hb 2 (by simp)
        obtain ⟨b6, b7⟩ := hb 3 (by simp)
        have t0 := congrArg UInt8.toNat b1
        have t1 := congrArg UInt8.toNat b3
        have t2 := congrArg UInt8.toNat b5
        have t3 := congrArg UInt8.toNat b7
        simp only [List.getElem_cons_zero, List.getElem_cons_succ, UInt8.toNat_ofNat'] at t0 t1 t2 t3
        simp only [Utf8.decode, Nat.add_zero, Bool.and_eq_true, beq_iff_eq, decide_eq_true_iff, Gl.valid_iff]
        rw [Nat.add_zero] at t0
        generalize (s.get! i).toNat = a at *
        generalize (s.get! (i + 1)).toNat = b at *
        generalize (s.get! (i + 2)).toNat = d at *
        generalize (s.get! (i + 3)).toNat = f at *
        rw [if_neg (by omega), if_neg (by omega), if_neg (by omega), if_pos ⟨⟨⟨by omega, b2, by omega⟩, b4, by omega⟩, b6, by omega⟩, if_pos ⟨by omega, by omega⟩]
        refine Prod.ext ?_ rfl
        dsimp only
        omega
end
theorem get_at {s : ByteArray} {l : List UInt8} (h : s.data.toList = l) {k : Nat} (hk : k < l.length) : k < s.size ∧ s.get! k = l[k] := by
  subst h
  have h1 : k < s.size := by simpa using hk
  refine ⟨h1, ?_⟩
  rw [get_bang h1]
  rfl
theorem runes_cons {rest : List UInt8} {r : Int} {pre : List UInt8} {s : ByteArray} (hr : isRuneP r) (h : s.data.toList = pre ++ (encB r ++ rest)) :
    pre.length < s.size ∧ stepW s pre.length = (encB r).length ∧ runeW s pre.length ≠ 0 ∧ ((Utf8.decode s pre.length).1 : Int) = r := by
  have hl := encB_len r
  have hb : ∀ k (hk : k < (encB r).length), pre.length + k < s.size ∧ s.get! (pre.length + k) = (encB r)[k] := by
    intro k hk
    obtain ⟨a, b⟩ := get_at h (k := pre.length + k) (by simp; omega)
    refine ⟨a, b.trans ?_⟩
    rw [List.getElem_append_right (by omega), List.getElem_append_left (by simp; omega)]
    congr 1
    omega
  have hd := dec_enc hr hb
  have hw : runeW s pre.length = (encB r).length := dec_of hd (by
    by_cases e : (encB r).length = 1
    · right
      intro h9
      have h8 : r = 65533 := by unfold isRuneP at hr; omega
      subst h8
      revert e
      decide
    · exact .inl e) hl.1
  refine ⟨(hb 0 hl.1).1, ?_, by omega, ?_⟩
  · unfold stepW
    rw [if_neg (by omega), hw]
  · rw [hd]
    unfold isRuneP at hr
    show ((r.toNat : Nat) : Int) = r
    omega
theorem runes_enc {s : ByteArray} : ∀ (rs : List Int) (pre : List UInt8), (∀ r ∈ rs, isRuneP r) → s.data.toList = pre ++ rs.flatMap encB → runesL s pre.length = rs ∧ badFrom s pre.length = -1
  | [], pre, _, h => by
    have hs : ¬ pre.length < s.size := by
      have h1 : s.data.toList.length = pre.length := by rw [h]; simp
      have h2 : s.data.toList.length = s.size := by simp
      omega
    exact ⟨runes_end hs, badFrom_end hs⟩
  | r :: rs, pre, hr, h => by
    rw [List.flatMap_cons] at h
    obtain ⟨h1, h2, h3, h4⟩ := runes_cons (hr r (List.mem_cons_self ..)) h
    have ih := runes_enc (s := s) rs (pre ++ encB r) (fun x hx => hr x (List.mem_cons_of_mem _ hx)) (by rw [h, List.append_assoc])
    rw [List.length_append] at ih
    rw [runes_next h1, badFrom_good h1 h3, h2, h4, ih.1, ih.2]
    exact ⟨rfl, rfl⟩
/-- the bytes of runes, as a text -/
def runeText (rs : List Int) : ByteArray := ⟨(rs.flatMap encB).toArray⟩
theorem runeText_runes {rs : List Int} (h : ∀ r ∈ rs, isRuneP r) : runesL (runeText rs) 0 = rs ∧ badB (runeText rs) = false := by
  have := runes_enc (s := runeText rs) rs [] h (by simp [runeText])
  refine ⟨this.1, ?_⟩
  unfold badB
  rw [show badFrom (runeText rs) 0 = -1 from this.2]
  rfl
theorem flat_len (rs : List Int) : rs.length ≤ (rs.flatMap encB).length ∧ (rs.flatMap encB).length ≤ 4 * rs.length := by
  induction rs with
  | nil => simp
  | cons r rs ih => have := encB_len r; simp only [List.flatMap_cons, List.length_append, List.length_cons]; omega
theorem runeText_size (rs : List Int) : (runeText rs).size = (rs.flatMap encB).length := by
  show (rs.flatMap encB).toArray.size = _
  rw [List.size_toArray]
end Go.Proofs.Ytlafodnaifghcaa.Tr
