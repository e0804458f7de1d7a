/- Text, by a range over All. -/
import Derived.Test.YtlafodnaifghcaaT14
import Derived.Test.YtlafodnaifghcaaT29
namespace Go.Proofs.Ytlafodnaifghcaa.Tr
open Go.RowKit Go.Proofs.Ytlafodnaifghcaa.St Go.Shelf
attribute [local go_sem] Oper.semAt_some
def encB (r : Int) : List UInt8 := (Utf8.encode r).data.toList
theorem encB_len (r : Int) : 1 ≤ (encB r).length ∧ (encB r).length ≤ 4 := by
  unfold encB Utf8.encode
  dsimp only
  generalize (if Utf8.valid r = true then r.toNat else Utf8.runeError) = c
  by_cases h1 : c < 0x80
  · rw [if_pos h1]; simp
  · by_cases h2 : c < 0x800
    · rw [if_neg h1, if_pos h2]; simp
    · by_cases h3 : c < 0x10000
      · rw [if_neg h1, if_neg h2, if_pos h3]; simp
      · rw [if_neg h1, if_neg h2, if_neg h3]; simp
/-- what is shown, as bytes -/
def textB (L : List Nd) : List UInt8 := L.flatMap fun n => encB n.rune
theorem textB_snoc (L : List Nd) (m : Nd) : textB (L ++ [m]) = textB L ++ encB m.rune := by simp [textB]
theorem textB_len (L : List Nd) : (textB L).length ≤ 4 * L.length := by
  induction L with
  | nil => simp [textB]
  | cons m L ih => have := (encB_len m.rune).2; simp only [textB, List.flatMap_cons, List.length_append, List.length_cons] at *; omega
theorem textB_ne {L : List Nd} (h : L ≠ []) : textB L ≠ [] := by
  cases L with
  | nil => exact absurd rfl h
  | cons m L => intro e; have h1 := congrArg List.length e; have := (encB_len m.rune).1; simp only [textB, List.flatMap_cons, List.length_append, List.length_nil] at h1; omega
theorem encode_any (r : Int) (w : World) : Calls Try.prog 46 #[.int .i32 r] w fun e w' => e = .returned (.string ⟨(encB r).toArray⟩) ∧ w = w' := by
  have hc : (convert 21 9 (.int .i32 r)).run Try.prog w = .ok (.string (Utf8.encode r)) w := by
    simp [convert, run_underlying Try.underlying21, run_underlying Try.underlying9, Conv.intToString, go_sem]
  have e : (⟨(encB r).toArray⟩ : ByteArray) = Utf8.encode r := by unfold encB; simp
  rw [e]
  go_enter Try.func46, Try.ntmps46
  go_wp2
  go_ret
  exact ⟨rfl, rfl⟩
/-- between two rounds -/
structure TxtJ (w : World) (z B bl : Nat) (v : Value) (Ls : List Nd) (i : Nat) (X : Nat → Prop) (W : World) : Prop where
  kept : Kept (fun _ => False) w W
  bld : ∃ vb, Bld W z (B + 2) vb (textB (Ls.take i)) ∧ (∀ b, vb.ownBlock = some b → ¬ X b) ∧ (i = 0 → vb = .slice none 0 0)
  box : Blk W bl 42 #[v]
  row : SlAt nodeE W v Ls
  vlt : ∀ b, v.ownBlock = some b → z < b ∧ b < B
  far : ∀ b, X b → B ≤ b ∧ b < W.heap.size
  lt : w.heap.size ≤ z ∧ z < bl ∧ bl < B
  sz : B ≤ W.heap.size
theorem Bld.keep {w w' : World} {b base : Nat} {v : Value} {bs : List UInt8} {Y : Nat → Prop} (h : Bld w b base v bs) (hk : Kept Y w w') (h1 : ¬ Y b) (h2 : ∀ g, v.ownBlock = some g → ¬ Y g) : Bld w' b base v bs := by
  obtain ⟨p, hp, hb⟩ := h.at_
  exact ⟨⟨p, hp, hk.blk h1 hb⟩, bld_keep h.row hk h2⟩
theorem bld_lt {w : World} {base n size : Nat} {e : TypeId} {v : Value} {xs : List Value} (h : w.ownsRow base e size v n xs) : ∀ b, v.ownBlock = some b → base ≤ b ∧ b < w.heap.size := owns_lt h
theorem TxtJ.step {w W W' : World} {z B bl : Nat} {v : Value} {Ls : List Nd} {i : Nat} {X X' Y : Nat → Prop} (h : TxtJ w z B bl v Ls i X W) (hk : Kept Y W W') (hY : ∀ b, Y b → B ≤ b) (hYb : ∀ b, Y b → B + 2 ≤ b → X b) (hX : ∀ b, X' b → X b ∨ (W.heap.size ≤ b ∧ b < W'.heap.size)) : TxtJ w z B bl v Ls i X' W' := by
  obtain ⟨vb, hb, hx, hz⟩ := h.bld
  have hlt := owns_lt hb.row
  exact { kept := h.kept.trans hk fun b hb hy => by have := hY b hy; have := h.lt; omega
          bld := ⟨vb, hb.keep hk (fun hy => by have := hY _ hy; have := h.lt; omega) (fun g hg hy => hx g hg (hYb g hy (hlt g hg).1)), fun b hb hx' => by
            rcases hX b hx' with h1 | h1
            · exact hx b hb h1
            · have := (hlt b hb).2; omega, hz⟩
          box := hk.blk (fun hy => by have := hY _ hy; have := h.lt; omega) h.box
          row := h.row.keep hk fun b hb _ hy => by have := hY b hy; have := (h.vlt b hb).2; omega
          vlt := h.vlt
          far := fun b hb => by
            rcases hX b hb with h1 | h1
            · exact ⟨(h.far b h1).1, Nat.lt_of_lt_of_le (h.far b h1).2 hk.size⟩
            · have := h.sz; exact ⟨by omega, h1.2⟩
          lt := h.lt
          sz := Nat.le_trans h.sz hk.size }
set_option maxRecDepth 100000 in
set_option maxHeartbeats 8000000 in
theorem text_core {w : World} {p : Option Addr} {Ls : List Nd} (hlen : Ls.length ≤ 900000) (hA : Calls Try.prog 44 #[.pointer p] (w.alloc (.cells #[.pointer none, .slice none 0 0] 100)) fun e w' => (∃ b v, e = .returned (.func (.func 70) #[] #[.pointer (some ⟨b, 0, none⟩)]) ∧ (w.alloc (.cells #[.pointer none, .slice none 0 0] 100)).heap.size ≤ b ∧ Blk w' b 42 #[v] ∧ w'.ownsRow (w.alloc (.cells #[.pointer none, .slice none 0 0] 100)).heap.size 59 6 v Ls.length (nodeE.flat Ls)) ∧ Kept (fun _ => False) (w.alloc (.cells #[.pointer none, .slice none 0 0] 100)) w') :
    Calls Try.prog 17 #[.pointer p] w fun e w' => e = .returned (.string ⟨(textB Ls).toArray⟩) ∧ Kept (fun _ => False) w w' := by
  refine (callsIn_wide (n := 6)).1 ?_
  have k0 : Kept (fun _ => False) w (w.alloc (.cells #[.pointer none, .slice none 0 0] 100)) := (Kept.refl _ _).alloc _
  have b0 := Blk.new w 100 #[.pointer none, .slice none 0 0]
  have HA := Lib.hid hA
  have K0 := Lib.hid k0
  have B0 := Lib.hid b0
  have HL := Lib.hid hlen
  clear hA k0 b0 hlen
  refine callsIn_of_wp_marks Try.func17 rfl trivial ?_ rfl
  simp only [Try.ntmps17, List.size_toArray, List.length_cons, List.length_nil, Nat.reduceAdd, Nat.reduceSub, Array.replicate_succ, Array.replicate_zero, List.push_toArray, List.append_toArray, List.nil_append, List.cons_append]
  gi_wp2_with (refine ⟨trivial, ?_⟩; gi_at_call 44; refine (callsIn_wide.2 HA.out).mono ?_; rintro e W0 ⟨⟨bl, v, rfl, hbl, hbox, hrow⟩, hk⟩)
  have hz1 : (w.alloc (.cells #[.pointer none, .slice none 0 0] 100)).heap.size = w.heap.size + 1 := World.size_alloc _ _
  rw [hz1] at hbl hrow
  have hT : TxtJ w w.heap.size W0.heap.size bl v Ls 0 (fun _ => False) W0 :=
    { kept := K0.out.trans hk fun _ _ h => h
      bld := ⟨.slice none 0 0, ⟨⟨.pointer none, .inl rfl, hk.blk (fun h => h) B0.out⟩, by simp [textB, Lib.byteCells]; exact World.ownsRow_nil ..⟩, (fun b hb => by cases hb), fun _ => rfl⟩
      box := hbox
      row := owns_slAt (E := nodeE) hrow
      vlt := fun b hb => by have := owns_lt hrow b hb; omega
      far := fun _ h => h.elim
      lt := ⟨Nat.le_refl _, by omega, hbox.lt⟩
      sz := Nat.le_refl _ }
  have HT := Lib.hid hT
  clear hbl hbox hrow hk hz1 hT
  refine wpIn_iter rfl (by decide) (gf := 70) (lb := #[.pointer (some ⟨bl, 0, none⟩)]) rfl trivial (enters_of Try.func70 (by kernel_rfl) rfl) (all2_iter (L := Ls) (v := v) (by have := HL.out; omega)) (fun _ _ => rfl) W0.heap.size rfl (TxtJ w w.heap.size W0.heap.size bl v Ls) (fun _ _ _ => False) ?hrd ?hgr ?hgx ?hob ?hox ?h0 ?round ?done ?stop
  case hrd => intro i X W hJ; exact ⟨hJ.box.cell' rfl, hJ.row⟩
  case hgr => intro i X W W' hJ hk; exact hJ.step hk (fun b hb => (hJ.far b hb).1) (fun _ hb _ => hb) fun _ hb => hb
  case hgx => intro c X W W' h _; exact h
  case hob => intro i X W o' hJ; exact hJ.step (kept_put W (W0.heap.size + 1) o') (fun b hb => by rw [hb]; omega) (fun b hb h2 => by rw [hb] at h2; omega) fun _ hb => .inl hb
  case hox => intro c X W o' hJ; exact hJ
  case h0 => intro o1 o2; exact (HT.out.step (((Kept.refl (fun _ => False) W0).alloc o1).alloc o2) (fun _ h => h.elim) (fun _ h => h.elim) fun _ h => h.elim)
  case round =>
    intro i W K hi hK
    have hm := nth_lt hi
    unfold nodeEnc
    generalize nth Ls i = m at hm ⊢
    gi_wp2
    rintro X W h2 hJ
    have hil := hi
    obtain ⟨vb, hb, hx, _⟩ := hJ.bld
    have hlen2 := textB_len (Ls.take i)
    have hlen3 := List.length_take_le i Ls
    have henc := encB_len m.rune
    have hw := bld_write hb ⟨(encB m.rune).toArray⟩ (by have := HL.out; show _ + (encB m.rune).toArray.size ≤ _; rw [List.size_toArray]; omega) (by omega)
    have H2 := Lib.hid h2
    have HJ := Lib.hid hJ
    have HX := Lib.hid hx
    have HM := Lib.hid hm
    have HBO := Lib.hid (owns_lt hb.row)
    have HW := Lib.hid hw
    have he := encode_any m.rune W
    clear h2 hJ hb hx hm hw hlen2 hlen3 henc hil
    gi_wp2_with (first | (refine ⟨trivial, ?_⟩; gi_at_call 46; refine (CallsIn.inRound _ (callsIn_wide.2 he)).mono ?_; rintro e w' ⟨rfl, rfl⟩) | (refine ⟨trivial, ?_⟩; gi_at_call 45; refine (CallsIn.inRound _ (callsIn_wide.2 HW.out)).mono ?_; rintro e w2 ⟨rfl, v2, hb2, hk2, hv2⟩))
    have hj := HJ.out
    have hlz : w.heap.size < bl ∧ bl < W0.heap.size := ⟨hj.lt.2.1, hj.lt.2.2⟩
    have hno : ∀ b, (b = w.heap.size ∨ vb.ownBlock = some b) → b < W.heap.size → b = w.heap.size ∨ W0.heap.size + 2 ≤ b := fun b hb _ => hb.imp id fun h => (HBO.out b h).1
    refine ⟨fun x hx => hk2.block x ?_ ?_, hk2.size, ?_⟩
    · rcases hx with hx | rfl | rfl
      · exact (hj.far x hx).2
      · have := H2.out; omega
      · exact H2.out
    · rintro (e | e)
      · rcases hx with hx | hx | hx
        · have := (hj.far x hx).1; omega
        · omega
        · omega
      · rcases hx with hx | hx | hx
        · exact HX.out x e hx
        · have := (HBO.out x e).1; omega
        · have := (HBO.out x e).1; omega
    · exact { kept := hj.kept.trans hk2 fun b hb hy => by rcases hy with e | e; omega; have := (HBO.out b e).1; omega
              bld := ⟨v2, by rw [List.take_add_one, HM.out]; show Bld w2 w.heap.size (W0.heap.size + 2) v2 (textB (List.take i Ls ++ [m])); rw [textB_snoc]; simpa using hb2, (fun b hb hXb => by
                rcases hv2 with e | e
                · rw [e] at hb; exact HX.out b hb hXb
                · rw [e] at hb; injection hb with hb; have := (hj.far b hXb).2; omega), fun e => by omega⟩
              box := hk2.blk (fun hy => by rcases hy with e | e; omega; have := (HBO.out bl e).1; omega) hj.box
              row := hj.row.keep hk2 fun b hb _ hy => by have := hj.vlt b hb; rcases hy with e | e; omega; have := (HBO.out b e).1; omega
              vlt := hj.vlt
              far := fun b hb => ⟨(hj.far b hb).1, Nat.lt_of_lt_of_le (hj.far b hb).2 hk2.size⟩
              lt := hj.lt
              sz := Nat.le_trans hj.sz hk2.size }
  case done =>
    rintro X W hJ hK
    obtain ⟨vb, hb, hx, hz⟩ := hJ.bld
    rw [List.take_length] at hb
    have hst : Calls Try.prog 47 #[.pointer (some ⟨w.heap.size, 0, none⟩)] W fun e w' => e = .returned (.string ⟨(textB Ls).toArray⟩) ∧ Kept (fun x => vb.ownBlock = some x) W w' := by
      by_cases hl : Ls = []
      · subst hl
        have hz2 := hz rfl
        subst hz2
        exact (bld_string0 hb).mono fun e w' ⟨h1, h2⟩ => ⟨h1, h2.mono fun _ _ h => h.elim⟩
      · exact bld_string hb (textB_ne hl)
    have HJ := Lib.hid hJ
    have HK := Lib.hid hK
    have HBO := Lib.hid (owns_lt hb.row)
    have HS := Lib.hid hst
    clear hJ hb hx hz hK hst
    gi_wp2_with (refine ⟨trivial, ?_⟩; gi_at_call 47; refine (callsIn_wide.2 HS.out).mono ?_; rintro e w2 ⟨rfl, hk2⟩)
    refine ret_range ((hk2.block _ (Array.getElem?_eq_some_iff.1 HK.out).1 (fun e => by have := (HBO.out _ e).1; omega)).trans HK.out) (results_tmp rfl _ _ _) ⟨rfl, ?_⟩
    have hlt := HJ.out.lt
    exact (HJ.out.kept.trans hk2 fun b hb e => by have := (HBO.out b e).1; omega).trans (kept_put w2 W0.heap.size (.deferred none)) fun b hb e => by omega
  case stop =>
    rintro c X W h _
    exact h.elim
theorem text_any {w : World} {g : Nat} {L : List Nd} {A : ID → Nat} {S : ID → Rw} {mp : Option Nat} (h : TAt w g L A S mp) (hdoc : Doc L) (hlen : L.length ≤ 900000) :
    Calls Try.prog 17 #[.pointer (some ⟨g, 0, none⟩)] w fun e w' => e = .returned (.string ⟨(textB (shL L)).toArray⟩) ∧ Kept (fun _ => False) w w' :=
  text_core (by have := shL_le L; omega) (allf_any (h.still ((Kept.refl (fun _ => False) w).alloc (.cells #[.pointer none, .slice none 0 0] 100))) hdoc hlen)
end Go.Proofs.Ytlafodnaifghcaa.Tr
