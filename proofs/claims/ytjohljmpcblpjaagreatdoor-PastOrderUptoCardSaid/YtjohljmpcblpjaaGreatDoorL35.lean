/- Text, by a range over All. The nil Tree: shown. Span, by a range over shown. Span, by a range over shown: what may be asked for. Find, by a range over all. At, by a range over shown. -/
import Derived.Test.YtjohljmpcblpjaaGreatDoorL12
import Derived.Test.YtjohljmpcblpjaaGreatDoorL34
import Derived.Test.YtjohljmpcblpjaaGreatDoorL11
import Derived.Test.YtjohljmpcblpjaaGreatDoorL16
import Derived.Sort.QuietTacIn
import Derived.IntWalk
import Derived.Test.YtjohljmpcblpjaaGreatDoorL10
namespace Go.Proofs.YtjohljmpcblpjaaGreatDoor.Tr
open Go.RowKit Go.Proofs.YtjohljmpcblpjaaGreatDoor.St Go.Shelf
attribute [local go_sem] Oper.semAt_some
def encB (r : Int) : List UInt8 := (Utf8.encode r).data.toList
theorem encB_len (r : Int) : 1 ≤ (encB r).length ∧ (encB r).length ≤ 4 := by
  unfold encB Utf8.encode
  dsimp only
  generalize (if Utf8.valid r = true then r.toNat else Utf8.runeError) = c
  by_cases h1 : c < 0x80
  · rw [if_pos h1]; simp
  · by_cases h2 : c < 0x800
    · rw [if_neg h1, if_pos h2]; simp
    · by_cases h3 : c < 0x10000
      · rw [if_neg h1, if_neg h2, if_pos h3]; simp
      · rw [if_neg h1, if_neg h2, if_neg h3]; simp
/-- what is shown, as bytes -/
def textB (L : List Nd) : List UInt8 := L.flatMap fun n => encB n.rune
theorem textB_snoc (L : List Nd) (m : Nd) : textB (L ++ [m]) = textB L ++ encB m.rune := by simp [textB]
theorem textB_len (L : List Nd) : (textB L).length ≤ 4 * L.length := by
  induction L with
  | nil => simp [textB]
  | cons m L ih => have := (encB_len m.rune).2; simp only [textB, List.flatMap_cons, List.length_append, List.length_cons] at *; omega
theorem textB_ne {L : List Nd} (h : L ≠ []) : textB L ≠ [] := by
  cases L with
  | nil => exact absurd rfl h
  | cons m L => intro e; have h1 := congrArg List.length e; have := (encB_len m.rune).1; simp only [textB, List.flatMap_cons, List.length_append, List.length_nil] at h1; omega
theorem encode_any (r : Int) (w : World) : Calls Tryz.prog 93 #[.int .i32 r] w fun e w' => e = .returned (.string ⟨(encB r).toArray⟩) ∧ w = w' := by
  have hc : (convert 21 9 (.int .i32 r)).run Tryz.prog w = .ok (.string (Utf8.encode r)) w := by
    simp [convert, run_underlying Tryz.underlying21, run_underlying Tryz.underlying9, Conv.intToString, go_sem]
  have e : (⟨(encB r).toArray⟩ : ByteArray) = Utf8.encode r := by unfold encB; simp
  rw [e]
  go_enter Tryz.func93, Tryz.ntmps93
  go_wp2
  go_ret
  exact ⟨rfl, rfl⟩
/-- between two rounds -/
structure TxtJ (w : World) (z B bl : Nat) (v : Value) (Ls : List Nd) (i : Nat) (X : Nat → Prop) (W : World) : Prop where
  kept : Kept (fun _ => False) w W
  bld : ∃ vb, Bld W z (B + 2) vb (textB (Ls.take i)) ∧ (∀ b, vb.ownBlock = some b → ¬ X b) ∧ (i = 0 → vb = .slice none 0 0)
  box : Blk W bl 51 #[v]
  row : SlAt nodeE W v Ls
  vlt : ∀ b, v.ownBlock = some b → z < b ∧ b < B
  far : ∀ b, X b → B ≤ b ∧ b < W.heap.size
  lt : w.heap.size ≤ z ∧ z < bl ∧ bl < B
  sz : B ≤ W.heap.size
theorem Bld.keep {w w' : World} {b base : Nat} {v : Value} {bs : List UInt8} {Y : Nat → Prop} (h : Bld w b base v bs) (hk : Kept Y w w') (h1 : ¬ Y b) (h2 : ∀ g, v.ownBlock = some g → ¬ Y g) : Bld w' b base v bs := by
  obtain ⟨p, hp, hb⟩ := h.at_
  exact ⟨⟨p, hp, hk.blk h1 hb⟩, bld_keep h.row hk h2⟩
theorem bld_lt {w : World} {base n size : Nat} {e : TypeId} {v : Value} {xs : List Value} (h : w.ownsRow base e size v n xs) : ∀ b, v.ownBlock = some b → base ≤ b ∧ b < w.heap.size := owns_lt h
theorem TxtJ.step {w W W' : World} {z B bl : Nat} {v : Value} {Ls : List Nd} {i : Nat} {X X' Y : Nat → Prop} (h : TxtJ w z B bl v Ls i X W) (hk : Kept Y W W') (hY : ∀ b, Y b → B ≤ b) (hYb : ∀ b, Y b → B + 2 ≤ b → X b) (hX : ∀ b, X' b → X b ∨ (W.heap.size ≤ b ∧ b < W'.heap.size)) : TxtJ w z B bl v Ls i X' W' := by
  obtain ⟨vb, hb, hx, hz⟩ := h.bld
  have hlt := owns_lt hb.row
  exact { kept := h.kept.trans hk fun b hb hy => by have := hY b hy; have := h.lt; omega
          bld := ⟨vb, hb.keep hk (fun hy => by have := hY _ hy; have := h.lt; omega) (fun g hg hy => hx g hg (hYb g hy (hlt g hg).1)), fun b hb hx' => by
            rcases hX b hx' with h1 | h1
            · exact hx b hb h1
            · have := (hlt b hb).2; omega, hz⟩
          box := hk.blk (fun hy => by have := hY _ hy; have := h.lt; omega) h.box
          row := h.row.keep hk fun b hb _ hy => by have := hY b hy; have := (h.vlt b hb).2; omega
          vlt := h.vlt
          far := fun b hb => by
            rcases hX b hb with h1 | h1
            · exact ⟨(h.far b h1).1, Nat.lt_of_lt_of_le (h.far b h1).2 hk.size⟩
            · have := h.sz; exact ⟨by omega, h1.2⟩
          lt := h.lt
          sz := Nat.le_trans h.sz hk.size }
set_option maxRecDepth 100000 in
set_option maxHeartbeats 8000000 in
theorem text_core {w : World} {p : Option Addr} {Ls : List Nd} (hlen : Ls.length ≤ 900000) (hA : Calls Tryz.prog 91 #[.pointer p] (w.alloc (.cells #[.pointer none, .slice none 0 0] 146)) fun e w' => (∃ b v, e = .returned (.func (.func 132) #[] #[.pointer (some ⟨b, 0, none⟩)]) ∧ (w.alloc (.cells #[.pointer none, .slice none 0 0] 146)).heap.size ≤ b ∧ Blk w' b 51 #[v] ∧ w'.ownsRow (w.alloc (.cells #[.pointer none, .slice none 0 0] 146)).heap.size 84 6 v Ls.length (nodeE.flat Ls)) ∧ Kept (fun _ => False) (w.alloc (.cells #[.pointer none, .slice none 0 0] 146)) w') :
    Calls Tryz.prog 54 #[.pointer p] w fun e w' => e = .returned (.string ⟨(textB Ls).toArray⟩) ∧ Kept (fun _ => False) w w' := by
  refine (callsIn_wide (n := 6)).1 ?_
  have k0 : Kept (fun _ => False) w (w.alloc (.cells #[.pointer none, .slice none 0 0] 146)) := (Kept.refl _ _).alloc _
  have b0 := Blk.new w 146 #[.pointer none, .slice none 0 0]
  have HA := Lib.hid hA
  have K0 := Lib.hid k0
  have B0 := Lib.hid b0
  have HL := Lib.hid hlen
  clear hA k0 b0 hlen
  refine callsIn_of_wp_marks Tryz.func54 rfl trivial ?_ rfl
  simp only [Tryz.ntmps54, List.size_toArray, List.length_cons, List.length_nil, Nat.reduceAdd, Nat.reduceSub, Array.replicate_succ, Array.replicate_zero, List.push_toArray, List.append_toArray, List.nil_append, List.cons_append]
  gi_wp2_with (refine ⟨trivial, ?_⟩; gi_at_call 91; refine (callsIn_wide.2 HA.out).mono ?_; rintro e W0 ⟨⟨bl, v, rfl, hbl, hbox, hrow⟩, hk⟩)
  have hz1 : (w.alloc (.cells #[.pointer none, .slice none 0 0] 146)).heap.size = w.heap.size + 1 := World.size_alloc _ _
  rw [hz1] at hbl hrow
  have hT : TxtJ w w.heap.size W0.heap.size bl v Ls 0 (fun _ => False) W0 :=
    { kept := K0.out.trans hk fun _ _ h => h
      bld := ⟨.slice none 0 0, ⟨⟨.pointer none, .inl rfl, hk.blk (fun h => h) B0.out⟩, by simp [textB, Lib.byteCells]; exact World.ownsRow_nil ..⟩, (fun b hb => by cases hb), fun _ => rfl⟩
      box := hbox
      row := owns_slAt (E := nodeE) hrow
      vlt := fun b hb => by have := owns_lt hrow b hb; omega
      far := fun _ h => h.elim
      lt := ⟨Nat.le_refl _, by omega, hbox.lt⟩
      sz := Nat.le_refl _ }
  have HT := Lib.hid hT
  clear hbl hbox hrow hk hz1 hT
  refine wpIn_iter rfl (by decide) (gf := 132) (lb := #[.pointer (some ⟨bl, 0, none⟩)]) rfl trivial (enters_of Tryz.func132 (by kernel_rfl) rfl) (all2_iter (L := Ls) (v := v) (by have := HL.out; omega)) (fun _ _ => rfl) W0.heap.size rfl (TxtJ w w.heap.size W0.heap.size bl v Ls) (fun _ _ _ => False) ?hrd ?hgr ?hgx ?hob ?hox ?h0 ?round ?done ?stop
  case hrd => intro i X W hJ; exact ⟨hJ.box.cell' rfl, hJ.row⟩
  case hgr => intro i X W W' hJ hk; exact hJ.step hk (fun b hb => (hJ.far b hb).1) (fun _ hb _ => hb) fun _ hb => hb
  case hgx => intro c X W W' h _; exact h
  case hob => intro i X W o' hJ; exact hJ.step (kept_put W (W0.heap.size + 1) o') (fun b hb => by rw [hb]; omega) (fun b hb h2 => by rw [hb] at h2; omega) fun _ hb => .inl hb
  case hox => intro c X W o' hJ; exact hJ
  case h0 => intro o1 o2; exact (HT.out.step (((Kept.refl (fun _ => False) W0).alloc o1).alloc o2) (fun _ h => h.elim) (fun _ h => h.elim) fun _ h => h.elim)
  case round =>
    intro i W K hi hK
    have hm := nth_lt hi
    unfold nodeEnc
    generalize nth Ls i = m at hm ⊢
    gi_wp2
    rintro X W h2 hJ
    have hil := hi
    obtain ⟨vb, hb, hx, _⟩ := hJ.bld
    have hlen2 := textB_len (Ls.take i)
    have hlen3 := List.length_take_le i Ls
    have henc := encB_len m.rune
    have hw := bld_write hb ⟨(encB m.rune).toArray⟩ (by have := HL.out; show _ + (encB m.rune).toArray.size ≤ _; rw [List.size_toArray]; omega) (by omega)
    have H2 := Lib.hid h2
    have HJ := Lib.hid hJ
    have HX := Lib.hid hx
    have HM := Lib.hid hm
    have HBO := Lib.hid (owns_lt hb.row)
    have HW := Lib.hid hw
    have he := encode_any m.rune W
    clear h2 hJ hb hx hm hw hlen2 hlen3 henc hil
    gi_wp2_with (first | (refine ⟨trivial, ?_⟩; gi_at_call 93; refine (CallsIn.inRound _ (callsIn_wide.2 he)).mono ?_; rintro e w' ⟨rfl, rfl⟩) | (refine ⟨trivial, ?_⟩; gi_at_call 92; refine (CallsIn.inRound _ (callsIn_wide.2 HW.out)).mono ?_; rintro e w2 ⟨rfl, v2, hb2, hk2, hv2⟩))
    have hj := HJ.out
    have hlz : w.heap.size < bl ∧ bl < W0.heap.size := ⟨hj.lt.2.1, hj.lt.2.2⟩
    have hno : ∀ b, (b = w.heap.size ∨ vb.ownBlock = some b) → b < W.heap.size → b = w.heap.size ∨ W0.heap.size + 2 ≤ b := fun b hb _ => hb.imp id fun h => (HBO.out b h).1
    refine ⟨fun x hx => hk2.block x ?_ ?_, hk2.size, ?_⟩
    · rcases hx with hx | rfl | rfl
      · exact (hj.far x hx).2
      · have := H2.out; omega
      · exact H2.out
    · rintro (e | e)
      · rcases hx with hx | hx | hx
        · have := (hj.far x hx).1; omega
        · omega
        · omega
      · rcases hx with hx | hx | hx
        · exact HX.out x e hx
        · have := (HBO.out x e).1; omega
        · have := (HBO.out x e).1; omega
    · exact { kept := hj.kept.trans hk2 fun b hb hy => by rcases hy with e | e; omega; have := (HBO.out b e).1; omega
              bld := ⟨v2, by rw [List.take_add_one, HM.out]; show Bld w2 w.heap.size (W0.heap.size + 2) v2 (textB (List.take i Ls ++ [m])); rw [textB_snoc]; simpa using hb2, (fun b hb hXb => by
                rcases hv2 with e | e
                · rw [e] at hb; exact HX.out b hb hXb
                · rw [e] at hb; injection hb with hb; have := (hj.far b hXb).2; omega), fun e => by omega⟩
              box := hk2.blk (fun hy => by rcases hy with e | e; omega; have := (HBO.out bl e).1; omega) hj.box
              row := hj.row.keep hk2 fun b hb _ hy => by have := hj.vlt b hb; rcases hy with e | e; omega; have := (HBO.out b e).1; omega
              vlt := hj.vlt
              far := fun b hb => ⟨(hj.far b hb).1, Nat.lt_of_lt_of_le (hj.far b hb).2 hk2.size⟩
              lt := hj.lt
              sz := Nat.le_trans hj.sz hk2.size }
  case done =>
    rintro X W hJ hK
    obtain ⟨vb, hb, hx, hz⟩ := hJ.bld
    rw [List.take_length] at hb
    have hst : Calls Tryz.prog 94 #[.pointer (some ⟨w.heap.size, 0, none⟩)] W fun e w' => e = .returned (.string ⟨(textB Ls).toArray⟩) ∧ Kept (fun x => vb.ownBlock = some x) W w' := by
      by_cases hl : Ls = []
      · subst hl
        have hz2 := hz rfl
        subst hz2
        exact (bld_string0 hb).mono fun e w' ⟨h1, h2⟩ => ⟨h1, h2.mono fun _ _ h => h.elim⟩
      · exact bld_string hb (textB_ne hl)
    have HJ := Lib.hid hJ
    have HK := Lib.hid hK
    have HBO := Lib.hid (owns_lt hb.row)
    have HS := Lib.hid hst
    clear hJ hb hx hz hK hst
    gi_wp2_with (refine ⟨trivial, ?_⟩; gi_at_call 94; refine (callsIn_wide.2 HS.out).mono ?_; rintro e w2 ⟨rfl, hk2⟩)
    refine ret_range ((hk2.block _ (Array.getElem?_eq_some_iff.1 HK.out).1 (fun e => by have := (HBO.out _ e).1; omega)).trans HK.out) (results_tmp rfl _ _ _) ⟨rfl, ?_⟩
    have hlt := HJ.out.lt
    exact (HJ.out.kept.trans hk2 fun b hb e => by have := (HBO.out b e).1; omega).trans (kept_put w2 W0.heap.size (.deferred none)) fun b hb e => by omega
  case stop =>
    rintro c X W h _
    exact h.elim
theorem text_any {w : World} {g : Nat} {L : List Nd} {A : ID → Nat} {S : ID → Rw} {mp : Option Nat} (h : TAt w g L A S mp) (hdoc : Doc L) (hlen : L.length ≤ 900000) :
    Calls Tryz.prog 54 #[.pointer (some ⟨g, 0, none⟩)] w fun e w' => e = .returned (.string ⟨(textB (shL L)).toArray⟩) ∧ Kept (fun _ => False) w w' :=
  text_core (by have := shL_le L; omega) (allf_any (h.still ((Kept.refl (fun _ => False) w).alloc (.cells #[.pointer none, .slice none 0 0] 146))) hdoc hlen)
end Go.Proofs.YtjohljmpcblpjaaGreatDoor.Tr
namespace Go.Proofs.YtjohljmpcblpjaaGreatDoor.Tr
open Go.RowKit Go.Proofs.YtjohljmpcblpjaaGreatDoor.St Go.Shelf
attribute [local go_sem] Oper.semAt_some
/-- shown's own blocks, while nothing is handed over -/
def NilS (B t : Nat) (I : Nat → (Nat → Prop) → World → Prop) (_ : Nat) (X : Nat → Prop) (W : World) : Prop :=
  ∃ X', I 0 X' W ∧ (∀ b, X b → X' b ∧ B ≤ b) ∧ X' B ∧ X' (B + 1) ∧ Blk W t 102 #[.pointer none] ∧ t < B ∧ B + 1 < W.heap.size
set_option maxHeartbeats 4000000 in
theorem shown1_nil {pl : Nat} (enc : Nat → Array Value) :
    IterOk Fence.wide 5 Tryz.prog 160 #[.pointer (some ⟨pl, 0, none⟩)] 0 enc (fun w => w.cell? ⟨pl, 0, none⟩ = some (.pointer none)) := by
  intro yl I Z X0 w hrd hgr hgz hy h0
  have GR := Lib.hid hgr
  have r0 := hrd _ _ _ h0
  have hpl : pl < w.heap.size := World.block_lt_of_cell? w _ r0
  clear hrd hgr hgz hy
  refine callsIn_of_wp_marks Tryz.func160 rfl trivial ?_ rfl
  simp only [Tryz.ntmps160, List.size_toArray, List.length_cons, List.length_nil, Nat.reduceAdd, Nat.reduceSub, Array.replicate_succ, Array.replicate_zero, List.push_toArray, List.append_toArray, List.nil_append, List.cons_append]
  gi_wp2_with (refine ⟨trivial, ?_⟩; gi_at_call 99; refine (callsIn_wide.2 (all_nil _)).mono ?_; rintro e w' ⟨rfl, rfl⟩)
  obtain ⟨W0, hW0⟩ : ∃ W0, (((w.alloc (.cells #[.func (.yield yl) #[] #[]] 224)).alloc (.cells #[.int .i64 0] 3)).alloc (.cells #[.pointer none] 102)) = W0 := ⟨_, rfl⟩
  have z0 : W0.heap.size = w.heap.size + 3 := by rw [← hW0]; simp
  have k0 : Kept (fun _ => False) w W0 := by rw [← hW0]; exact (((Kept.refl _ _).alloc _).alloc _).alloc _
  have b2 : Blk W0 (w.heap.size + 1 + 1) 102 #[.pointer none] := by rw [← hW0]; have h9 := Blk.new ((w.alloc (.cells #[.func (.yield yl) #[] #[]] 224)).alloc (.cells #[.int .i64 0] 3)) 102 #[.pointer none]; simp only [World.size_alloc] at h9; exact h9
  have Z0 := Lib.hid z0
  have K0 := Lib.hid k0
  have H0 := Lib.hid h0
  have B0 := Lib.hid b2
  rw [hW0]
  clear hW0 z0 k0 h0 b2 r0
  refine wpIn_iter (N := 0) (enc := fun _ => #[]) rfl (by decide) (gf := 140) (lb := #[.pointer (some ⟨w.heap.size + 1 + 1, 0, none⟩)]) rfl trivial (enters_of Tryz.func140 (by kernel_rfl) rfl) (all1_nil trivial rfl _) (fun i h => absurd h (Nat.not_lt_zero _)) W0.heap.size rfl (NilS W0.heap.size (w.heap.size + 1 + 1) I) (fun _ _ _ => False) ?hrd ?hgr ?hgx ?hob ?hox ?h0 ?round ?done ?stop
  case hrd => rintro i X W ⟨X', h1, h2, h3, h4, h5, _⟩; exact h5.cell' rfl
  case hgr =>
    rintro i X W W' ⟨X', h1, h2, h3, h4, h5, h6, h7⟩ hk
    exact ⟨_, GR.out _ _ _ _ h1 (hk.mono fun b _ h => (h2 b h).1), fun b hb => hb.elim (fun h => ⟨.inl (h2 b h).1, (h2 b h).2⟩) (fun h => ⟨.inr h, by omega⟩), .inl h3, .inl h4, hk.blk (fun h => by have := (h2 _ h).2; omega) h5, h6, Nat.lt_of_lt_of_le h7 hk.size⟩
  case hgx => intro c X W W' h _; exact h
  case hob =>
    rintro i X W o' ⟨X', h1, h2, h3, h4, h5, h6, h7⟩
    have hk := kept_put W (W0.heap.size + 1) o'
    exact ⟨_, GR.out _ _ _ _ h1 (hk.mono fun b _ h => by rw [h]; exact h4), fun b hb => ⟨.inl (h2 b hb).1, (h2 b hb).2⟩, .inl h3, .inl h4, hk.blk (by omega) h5, h6, Nat.lt_of_lt_of_le h7 hk.size⟩
  case hox => intro c X W o' hJ; exact hJ
  case h0 =>
    intro o1 o2
    have hz := Z0.out
    have hk : Kept X0 w ((W0.alloc o1).alloc o2) := ((K0.out.alloc _).alloc _).mono fun _ _ h => h.elim
    have hs : ((W0.alloc o1).alloc o2).heap.size = w.heap.size + 5 := by simp; omega
    exact ⟨_, GR.out _ _ _ _ H0.out hk, fun _ h => h.elim, .inr ⟨by omega, by omega⟩, .inr ⟨by omega, by omega⟩, (B0.out.alloc _).alloc _, by omega, by omega⟩
  case round => intro i W K hi; exact absurd hi (Nat.not_lt_zero _)
  case done =>
    rintro X W ⟨X', h1, h2, h3, h4, h5, h6, h7⟩ hK
    have H1 := Lib.hid h1
    have H3 := Lib.hid h3
    have HK := Lib.hid hK
    clear h1 h2 h3 h4 h5 hK
    gi_wp2
    exact ret_range HK.out (results_none rfl _ _ _) ⟨⟨_, rfl⟩, .inl ⟨_, GR.out _ _ _ _ H1.out ((kept_put W W0.heap.size (.deferred none)).mono fun b _ h => by rw [h]; exact H3.out)⟩⟩
  case stop => rintro c X W h _; exact h.elim
theorem shown_nil (w : World) : Calls Tryz.prog 131 #[.pointer none] w fun e w' =>
    e = .returned (.func (.func 160) #[] #[.pointer (some ⟨w.heap.size, 0, none⟩)]) ∧ w' = w.alloc (.cells #[.pointer none] 102) := by
  go_enter Tryz.func131, Tryz.ntmps131
  go_wp2
  go_ret
  exact ⟨rfl, rfl⟩
set_option maxHeartbeats 4000000 in
theorem allf_nil (w : World) :
    Calls Tryz.prog 91 #[.pointer none] w fun e w' => e = .returned (.func (.func 132) #[] #[.pointer (some ⟨w.heap.size, 0, none⟩)]) ∧ Blk w' w.heap.size 51 #[.slice none 0 0] ∧ Kept (fun _ => False) w w' := by
  refine (callsIn_wide (n := 6)).1 ?_
  refine callsIn_of_wp_marks Tryz.func91 rfl trivial ?_ rfl
  simp only [Tryz.ntmps91, List.size_toArray, List.length_cons, List.length_nil, Nat.reduceAdd, Nat.reduceSub, Array.replicate_succ, Array.replicate_zero, List.push_toArray, List.append_toArray, List.nil_append, List.cons_append]
  gi_wp2_with (refine ⟨trivial, ?_⟩; gi_at_call 131; refine (callsIn_wide.2 (shown_nil _)).mono ?_; rintro e w' ⟨rfl, rfl⟩)
  obtain ⟨W0, hW0⟩ : ∃ W0, ((w.alloc (.cells #[.slice none 0 0] 51)).alloc (.cells #[.pointer none] 102)) = W0 := ⟨_, rfl⟩
  have hJ0 : NilJ w W0.heap.size [(w.heap.size, 51, #[.slice none 0 0]), (w.heap.size + 1, 102, #[.pointer none])] 0 (fun _ => False) W0 := by
    rw [← hW0]
    have h9 := ((NilJ.start w).boxed #[.slice none 0 0] 51).boxed #[.pointer none] 102
    simp only [World.size_alloc] at h9 ⊢
    exact h9
  rw [hW0]
  clear hW0
  refine wpIn_iter (N := 0) (enc := fun _ => #[]) rfl (by decide) (gf := 160) (lb := #[.pointer (some ⟨w.heap.size + 1, 0, none⟩)]) rfl trivial (enters_of Tryz.func160 (by kernel_rfl) rfl) (shown1_nil _) (fun i h => absurd h (Nat.not_lt_zero _)) W0.heap.size rfl (NilJ w W0.heap.size [(w.heap.size, 51, #[.slice none 0 0]), (w.heap.size + 1, 102, #[.pointer none])]) (fun _ _ _ => False) ?hrd ?hgr ?hgx ?hob ?hox ?h0 ?round ?done ?stop
  case hrd => intro i X W hJ; exact hJ.cell 1 rfl 0 rfl
  case hgr => intro i X W W' hJ hk; exact hJ.grow hk
  case hgx => intro c X W W' h _; exact h
  case hob => intro i X W o' hJ; exact hJ.step (kept_put W _ o') (fun b hb => by rw [hb]; omega) hJ.2.2.1
  case hox => intro c X W o' hJ; exact hJ
  case h0 => intro o1 o2; exact hJ0.step (((Kept.refl (fun _ => False) W0).alloc o1).alloc o2) (fun _ h => h.elim) (fun _ h => h.elim)
  case round => intro i W K hi; exact absurd hi (Nat.not_lt_zero _)
  case done =>
    intro X W hJ hK
    have HJ := Lib.hid hJ
    have HK := Lib.hid hK
    clear hJ hK
    gi_wp2
    have h9 := (HJ.out.step (X' := fun _ => False) (kept_put W W0.heap.size (.deferred none)) (fun b hb => by rw [hb]; exact Nat.le_refl _) (fun _ h => h.elim))
    exact ret_range HK.out (results_tmp rfl _ _ _) ⟨rfl, (h9.2.1 _ List.mem_cons_self).1, h9.1⟩
  case stop => rintro c X W h _; exact h.elim
def fnilB (z : Nat) (t s : Int) : List Box :=
  [(z, 59, #[.int .i64 t, .int .i64 s]), (z + 1, 3, #[.int .i64 0]), (z + 1 + 1, 3, #[.int .i64 0]), (z + 1 + 1 + 1, 3, #[.int .i64 0]), (z + 1 + 1 + 1 + 1, 102, #[.pointer none])]
theorem text_nil0 (w : World) : Calls Tryz.prog 54 #[.pointer none] w fun e w' => e = .returned (.string ⟨(textB []).toArray⟩) ∧ Kept (fun _ => False) w w' :=
  text_core (Nat.zero_le _) ((allf_nil _).mono fun _ _ ⟨h1, h2, h3⟩ => ⟨⟨_, _, h1, Nat.le_refl _, h2, World.ownsRow_nil ..⟩, h3⟩)
end Go.Proofs.YtjohljmpcblpjaaGreatDoor.Tr
namespace Go.Proofs.YtjohljmpcblpjaaGreatDoor.Tr
open Go.RowKit Go.Proofs.YtjohljmpcblpjaaGreatDoor.St Go.Shelf
attribute [local go_sem] Oper.semAt_some
/-- may so many be asked for -/
def spanOk (L : List Nd) (i n : Int) : Prop := 0 ≤ i ∧ 0 ≤ n ∧ i ≤ (shL L).length ∧ n ≤ (shL L).length - i
/-- the identifiers of n shown ones from i on -/
def spanL (L : List Nd) (i n : Int) (k : Nat) : List ID := (ids ((shL L).take k)).drop i.toNat |>.take n.toNat
theorem spanL_up {L : List Nd} {i n : Int} (h : spanOk L i n) {k : Nat} {m : Nd} (hm : (shL L)[k]? = some m) (h1 : i ≤ k) (h2 : (k : Int) < i + n) : spanL L i n (k + 1) = spanL L i n k ++ [m.id] ∧ (spanL L i n k).length = k - i.toNat := by
  have hk := (List.getElem?_eq_some_iff.1 hm).1
  obtain ⟨h3, h4, h5, h6⟩ := h
  have hl : (ids ((shL L).take k)).length = k := by simp [ids]; omega
  have e1 : spanL L i n k = (ids ((shL L).take k)).drop i.toNat := by
    unfold spanL; exact List.take_of_length_le (by rw [List.length_drop, hl]; omega)
  have e2 : spanL L i n (k + 1) = (ids ((shL L).take (k + 1))).drop i.toNat := by
    unfold spanL; exact List.take_of_length_le (by rw [List.length_drop]; simp [ids]; omega)
  refine ⟨?_, by rw [e1, List.length_drop, hl]⟩
  rw [e1, e2, List.take_add_one, hm]
  show List.drop i.toNat (ids (List.take k (shL L) ++ [m])) = _
  rw [ids_append, List.drop_append_of_le_length (by rw [hl]; omega)]
  rfl
theorem spanL_low {L : List Nd} {i n : Int} {k : Nat} (h1 : (k : Int) < i) : spanL L i n (k + 1) = spanL L i n k := by
  have e : ∀ j : Nat, (j : Int) ≤ i → spanL L i n j = [] := fun j hj => by
    unfold spanL
    rw [List.drop_eq_nil_of_le (by simp [ids]; omega), List.take_nil]
  rw [e k (by omega), e (k + 1) (by omega)]
theorem spanL_high {L : List Nd} {i n : Int} {k : Nat} (h0 : 0 ≤ i ∧ 0 ≤ n) (h1 : i + n ≤ (k : Int)) (hk : k < (shL L).length) : spanL L i n (k + 1) = spanL L i n k := by
  unfold spanL
  rw [List.take_add_one, List.getElem?_eq_getElem hk]
  show List.take n.toNat (List.drop i.toNat (ids (List.take k (shL L) ++ [_]))) = _
  have hl : (ids ((shL L).take k)).length = k := by simp [ids]; omega
  rw [ids_append, List.drop_append_of_le_length (by omega), List.take_append_of_le_length (by rw [List.length_drop, hl]; omega)]
/-- ahead of the rounds: the two boxes -/
structure SpanW (w : World) (g : Nat) (ix n : Int) (L : List Nd) (A : ID → Nat) (S : ID → Rw) (mp : Option Nat) (W : World) : Prop where
  cj : CJ w (w.heap.size + 2) (fun _ => False) [(w.heap.size, 3, #[.int .i64 ix]), (w.heap.size + 1, 3, #[.int .i64 n])] g L A S mp (fun _ => False) W
variable {w W : World} {g : Nat} {ix n : Int} {L : List Nd} {A : ID → Nat} {S : ID → Rw} {mp : Option Nat}
theorem SpanW.c0 (h : SpanW w g ix n L A S mp W) : W.cell? ⟨w.heap.size, 0, none⟩ = some (.int .i64 ix) := h.cj.cell 0 rfl 0 rfl
theorem SpanW.c1 (h : SpanW w g ix n L A S mp W) : W.cell? ⟨w.heap.size + 1, 0, none⟩ = some (.int .i64 n) := h.cj.cell 1 rfl 0 rfl
theorem SpanW.drew (h : SpanW w g ix n L A S mp W) : SpanW w g ix n L A S mp W.drew := ⟨h.cj.drew⟩
theorem span_start (h : TAt w g L A S mp) : SpanW w g ix n L A S mp ((w.alloc (.cells #[.int .i64 ix] 3)).alloc (.cells #[.int .i64 n] 3)) := by
  have h9 := ((CJ.start (M := fun _ => False) h).boxed #[.int .i64 ix] 3).boxed #[.int .i64 n] 3
  simp only [World.size_alloc] at h9
  exact ⟨h9⟩
end Go.Proofs.YtjohljmpcblpjaaGreatDoor.Tr
namespace Go.Proofs.YtjohljmpcblpjaaGreatDoor.Tr
open Go.RowKit Go.Proofs.YtjohljmpcblpjaaGreatDoor.St Go.Shelf
attribute [local go_sem] Oper.semAt_some
def spanB (z y g : Nat) (i n : Int) (v : Value) : List Box :=
  [(z, 3, #[.int .i64 i]), (z + 1, 3, #[.int .i64 n]), (y, 39, #[v]), (y + 1, 102, #[.pointer (some ⟨g, 0, none⟩)])]
theorem spanB_nodup {z y : Nat} (hy : z + 2 ≤ y) (g : Nat) (i n : Int) (v : Value) : ((spanB z y g i n v).map (·.1)).Nodup := by
  simp [spanB]
  omega
theorem CJ.raise {w W : World} {B : Nat} {M : Nat → Prop} {bs : List Box} {g : Nat} {L : List Nd} {A : ID → Nat} {S : ID → Rw} {mp : Option Nat} (h : CJ w B M bs g L A S mp (fun _ => False) W) : CJ w W.heap.size M bs g L A S mp (fun _ => False) W :=
  { box := fun x hx => ⟨⟨(h.box x hx).1.1, Nat.lt_of_lt_of_le (h.box x hx).1.2 h.size.2⟩, (h.box x hx).2⟩
    tree := h.tree, low := h.low, far := fun _ h => h.elim, size := ⟨Nat.le_trans h.size.1 h.size.2, Nat.le_refl _⟩, kept := h.kept }
def spanJ (w : World) (y B g : Nat) (ix n : Int) (L : List Nd) (A : ID → Nat) (S : ID → Rw) (mp : Option Nat) (i : Nat) (X : Nat → Prop) (W : World) : Prop :=
  Gro idE 59 w B (fun _ => False) (spanB w.heap.size y g ix n) g L A S mp (spanL L ix n i) X W
variable {w W : World} {g : Nat} {ix n : Int} {L : List Nd} {A : ID → Nat} {S : ID → Rw} {mp : Option Nat}
end Go.Proofs.YtjohljmpcblpjaaGreatDoor.Tr
namespace Go.Proofs.YtjohljmpcblpjaaGreatDoor.Tr
open Go.RowKit Go.Proofs.YtjohljmpcblpjaaGreatDoor.St Go.Shelf
attribute [local go_sem] Oper.semAt_some
/-- how many shown elements stand ahead of an element, and its state -/
def findP (L : List Nd) (i : ID) : Int × Int := match L.findIdx? (fun n => decide (n.id = i)) with
  | some k => ((((L.take k).filter fun n => decide (n.st = 1)).length : Int), (L[k]?.map Nd.st).getD 0)
  | none => (0, 0)
theorem findP_at {L : List Nd} {i : Nat} {m : Nd} {x : ID} (hm : L[i]? = some m) (hid : m.id = x) (hne : ∀ m ∈ L.take i, m.id ≠ x) : findP L x = ((((L.take i).filter fun n => decide (n.st = 1)).length : Int), m.st) := by
  have hi := (List.getElem?_eq_some_iff.1 hm).1
  have h1 : L.findIdx? (fun n => decide (n.id = x)) = some i := by
    rw [List.findIdx?_eq_some_iff_getElem]
    refine ⟨hi, by rw [(List.getElem?_eq_some_iff.1 hm).2]; simpa using hid, fun j hj => ?_⟩
    have := hne L[j] (List.mem_take_iff_getElem.2 ⟨j, by omega, rfl⟩)
    simpa using this
  unfold findP
  rw [h1]
  simp [hm]
theorem findP_no {L : List Nd} {x : ID} (hne : ∀ m ∈ L, m.id ≠ x) : findP L x = (0, 0) := by
  have h1 : L.findIdx? (fun n => decide (n.id = x)) = none := by
    rw [List.findIdx?_eq_none_iff]
    intro m hm
    simpa using hne m hm
  unfold findP
  rw [h1]
def findB (z g : Nat) (t s k a b : Int) : List Box :=
  [(z, 59, #[.int .i64 t, .int .i64 s]), (z + 1, 3, #[.int .i64 a]), (z + 1 + 1, 3, #[.int .i64 b]), (z + 1 + 1 + 1, 3, #[.int .i64 k]), (z + 1 + 1 + 1 + 1, 102, #[.pointer (some ⟨g, 0, none⟩)])]
def shownN (L : List Nd) : Int := ((L.filter fun n => decide (n.st = 1)).length : Int)
theorem shown_snoc (A : List Nd) (m : Nd) : shownN (A ++ [m]) = shownN A + if m.st = 1 then 1 else 0 := by
  unfold shownN
  rw [List.filter_append, List.length_append]
  by_cases h : m.st = 1
  · simp [h]
  · simp [h]
theorem shown_le (A : List Nd) : 0 ≤ shownN A ∧ shownN A ≤ A.length := by
  unfold shownN
  exact ⟨by omega, by have := List.length_filter_le (fun n : Nd => decide (n.st = 1)) A; omega⟩
theorem findB_nodup (z g : Nat) (t s k a b : Int) : ((findB z g t s k a b).map (·.1)).Nodup := by
  simp [findB]
  omega
def findJ (w : World) (B g : Nat) (t s : Int) (L : List Nd) (A : ID → Nat) (S : ID → Rw) (mp : Option Nat) (i : Nat) (X : Nat → Prop) (W : World) : Prop :=
  CJ w B (fun _ => False) (findB w.heap.size g t s (shownN (L.take i)) 0 0) g L A S mp X W ∧ ∀ m ∈ L.take i, m.id ≠ ⟨t, s⟩
def findX (w : World) (B g : Nat) (t s : Int) (L : List Nd) (A : ID → Nat) (S : ID → Rw) (mp : Option Nat) (c : Code) (X : Nat → Prop) (W : World) : Prop :=
  c = .ret ∧ ∃ k, CJ w B (fun _ => False) (findB w.heap.size g t s k (findP L ⟨t, s⟩).1 (findP L ⟨t, s⟩).2) g L A S mp X W
end Go.Proofs.YtjohljmpcblpjaaGreatDoor.Tr
namespace Go.Proofs.YtjohljmpcblpjaaGreatDoor.Tr
open Go.RowKit Go.Proofs.YtjohljmpcblpjaaGreatDoor.St Go.Shelf
attribute [local go_sem] Oper.semAt_some
def atP (L : List Nd) (i : Int) : ID × Int := if 0 ≤ i ∧ i < (shL L).length then ((nth (shL L) i.toNat).id, 0) else (ID.zero, 3)
def atB (z g : Nat) (i t s k : Int) : List Box :=
  [(z, 3, #[.int .i64 i]), (z + 1, 59, #[.int .i64 t, .int .i64 s]), (z + 1 + 1, 30, #[.int .i64 k]), (z + 1 + 1 + 1, 102, #[.pointer (some ⟨g, 0, none⟩)])]
theorem atB_nodup (z g : Nat) (i t s k : Int) : ((atB z g i t s k).map (·.1)).Nodup := by
  simp [atB]
  omega
def atJ (w : World) (B g : Nat) (ix : Int) (L : List Nd) (A : ID → Nat) (S : ID → Rw) (mp : Option Nat) (i : Nat) (X : Nat → Prop) (W : World) : Prop :=
  CJ w B (fun _ => False) (atB w.heap.size g ix 0 0 0) g L A S mp X W ∧ ∀ k : Nat, k < i → (k : Int) ≠ ix
def atX (w : World) (B g : Nat) (ix : Int) (L : List Nd) (A : ID → Nat) (S : ID → Rw) (mp : Option Nat) (c : Code) (X : Nat → Prop) (W : World) : Prop :=
  c = .ret ∧ CJ w B (fun _ => False) (atB w.heap.size g ix (atP L ix).1.t (atP L ix).1.s (atP L ix).2) g L A S mp X W
end Go.Proofs.YtjohljmpcblpjaaGreatDoor.Tr
