/- At, by a range over shown. What the document fixes: the calls of known, one by one. -/
import Derived.Test.YtlafodnaifghcaaK21
import Derived.Test.YtlafodnaifghcaaK28
import Derived.Test.YtlafodnaifghcaaK31
import Derived.Test.YtlafodnaifghcaaK32
import Derived.Test.YtlafodnaifghcaaK23
namespace Go.Proofs.Ytlafodnaifghcaa.Tr
open Go.RowKit Go.Proofs.Ytlafodnaifghcaa.St Go.Shelf
attribute [local go_sem] Oper.semAt_some
def atP (L : List Nd) (i : Int) : ID × Int := if 0 ≤ i ∧ i < (shL L).length then ((nth (shL L) i.toNat).id, 0) else (ID.zero, 3)
def atB (z g : Nat) (i t s k : Int) : List Box :=
  [(z, 3, #[.int .i64 i]), (z + 1, 27, #[.int .i64 t, .int .i64 s]), (z + 1 + 1, 31, #[.int .i64 k]), (z + 1 + 1 + 1, 25, #[.pointer (some ⟨g, 0, none⟩)])]
theorem atB_nodup (z g : Nat) (i t s k : Int) : ((atB z g i t s k).map (·.1)).Nodup := by
  simp [atB]
  omega
def atJ (w : World) (B g : Nat) (ix : Int) (L : List Nd) (A : ID → Nat) (S : ID → Rw) (mp : Option Nat) (i : Nat) (X : Nat → Prop) (W : World) : Prop :=
  CJ w B (fun _ => False) (atB w.heap.size g ix 0 0 0) g L A S mp X W ∧ ∀ k : Nat, k < i → (k : Int) ≠ ix
def atX (w : World) (B g : Nat) (ix : Int) (L : List Nd) (A : ID → Nat) (S : ID → Rw) (mp : Option Nat) (c : Code) (X : Nat → Prop) (W : World) : Prop :=
  c = .ret ∧ CJ w B (fun _ => False) (atB w.heap.size g ix (atP L ix).1.t (atP L ix).1.s (atP L ix).2) g L A S mp X W
set_option maxHeartbeats 8000000 in
theorem at_any {w : World} {g : Nat} {L : List Nd} {A : ID → Nat} {S : ID → Rw} {mp : Option Nat} (h : TAt w g L A S mp) (hdoc : Doc L) (hlen : L.length ≤ 900000) (ix : Int) :
    Calls Try.prog 10 #[.pointer (some ⟨g, 0, none⟩), .int .i64 ix] w fun e w' => e = .returned (.tuple #[.agg #[.int .i64 (atP L ix).1.t, .int .i64 (atP L ix).1.s], .int .i64 (atP L ix).2]) ∧ Kept (fun _ => False) w w' := by
  refine (callsIn_wide (n := 6)).1 ?_
  refine callsIn_of_wp_marks Try.func10 rfl trivial ?_ rfl
  simp only [Try.ntmps10, List.size_toArray, List.length_cons, List.length_nil, Nat.reduceAdd, Nat.reduceSub, Array.replicate_succ, Array.replicate_zero, List.push_toArray, List.append_toArray, List.nil_append, List.cons_append]
  gi_wp2_with (refine ⟨trivial, ?_⟩; gi_at_call 31; refine (callsIn_wide.2 (shown_any g _)).mono ?_; rintro e w' ⟨rfl, rfl⟩)
  obtain ⟨W0, hW0⟩ : ∃ W0, ((((w.alloc (.cells #[.int .i64 ix] 3)).alloc (.cells #[.int .i64 0, .int .i64 0] 27)).alloc (.cells #[.int .i64 0] 31)).alloc (.cells #[.pointer (some ⟨g, 0, none⟩)] 25)) = W0 := ⟨_, rfl⟩
  have hC : CJ w W0.heap.size (fun _ => False) (atB w.heap.size g ix 0 0 0) g L A S mp (fun _ => False) W0 := by
    rw [← hW0]
    have h9 := ((((CJ.start (M := fun _ => False) h).boxed #[.int .i64 ix] 3).boxed #[.int .i64 0, .int .i64 0] 27).boxed #[.int .i64 0] 31).boxed #[.pointer (some ⟨g, 0, none⟩)] 25
    simp only [World.size_alloc] at h9 ⊢
    exact h9
  rw [hW0]
  clear hW0
  refine wpIn_iter rfl (by decide) (gf := 55) (lb := #[.pointer (some ⟨w.heap.size + 1 + 1 + 1, 0, none⟩)]) rfl trivial (enters_of Try.func55 (by kernel_rfl) rfl) (shown1_iter (A := A) (S := S) (g := g) (mp := mp) hdoc hlen) (fun _ _ => rfl) W0.heap.size rfl (atJ w W0.heap.size g ix L A S mp) (atX w W0.heap.size g ix L A S mp) ?hrd ?hgr ?hgx ?hob ?hox ?h0 ?round ?done ?stop
  case hrd => intro i X W hJ; exact ⟨hJ.1.cell 3 rfl 0 rfl, hJ.1.tree⟩
  case hgr => intro i X W W' hJ hk; exact ⟨CJ.grow hJ.1 hk, hJ.2⟩
  case hgx => intro c X W W' h hk; exact ⟨h.1, CJ.grow h.2 hk⟩
  case hob => intro i X W o' hJ; exact ⟨CJ.put hJ.1 (Nat.le_succ _) o', hJ.2⟩
  case hox => intro c X W o' h; exact ⟨h.1, CJ.put h.2 (Nat.le_succ _) o'⟩
  case h0 => intro o1 o2; exact ⟨(hC.alloc o1).alloc o2, fun k hk => absurd hk (Nat.not_lt_zero _)⟩
  case round =>
    intro i W K hi hK
    have hm := nth_lt hi
    unfold shEnc
    have hat : (i : Int) = ix → atP L ix = ((nth (shL L) i).id, 0) := fun e => by
      unfold atP
      rw [if_pos ⟨by omega, by omega⟩, show ix.toNat = i by omega]
    have HAT := Lib.hid hat
    clear hat
    generalize nth (shL L) i = m at *
    gi_wp2
    rintro X W h2 hJ0
    obtain ⟨hJ, hne⟩ : CJ w W0.heap.size (fun _ => False) (atB w.heap.size g ix 0 0 0) g L A S mp X W ∧ ∀ k : Nat, k < i → (k : Int) ≠ ix := hJ0
    have hmL : m ∈ L := (List.mem_filter.1 (List.mem_of_getElem? hm)).1
    have he := hJ.tree.elt m hmL
    have e0 : W.cell? ⟨A m.id, 0, none⟩ = some (.int .i64 m.id.t) := he.cell' rfl
    have e1 : W.cell? ⟨A m.id, 1, none⟩ = some (.int .i64 m.id.s) := he.cell' rfl
    have c0 : W.cell? ⟨w.heap.size, 0, none⟩ = some (.int .i64 ix) := hJ.cell 0 rfl 0 rfl
    have c1 : W.cell? ⟨w.heap.size + 1, 0, none⟩ = some (.int .i64 0) := hJ.cell 1 rfl 0 rfl
    have c2 : W.cell? ⟨w.heap.size + 1, 1, none⟩ = some (.int .i64 0) := hJ.cell 1 rfl 1 rfl
    have c3 : W.cell? ⟨w.heap.size + 1 + 1, 0, none⟩ = some (.int .i64 0) := hJ.cell 2 rfl 0 rfl
    have f1 := hJ.frozen 1 rfl 0
    have f2 := hJ.frozen 1 rfl 1
    have f3 := hJ.frozen 2 rfl 0
    have HJ := Lib.hid hJ
    have H2 := Lib.hid h2
    have HN := Lib.hid hne
    clear hJ h2 hne hm hmL he
    by_cases q : (i : Int) = ix
    · have hP := HAT.out q
      have HP := Lib.hid hP
      have q1 : ((i : Int) == ix) = true := by simpa using q
      clear q hP
      gi_wp2
      have hl : w.heap.size + 1 + 1 + 1 < W0.heap.size := (HJ.out.box _ (List.mem_of_getElem? (i := 3) rfl)).1.2
      have hk : Kept (fun b => b = w.heap.size + 1 ∨ b = w.heap.size + 1 + 1) W (((W.setCell ⟨w.heap.size + 1, 0, none⟩ (.int .i64 m.id.t)).setCell ⟨w.heap.size + 1, 1, none⟩ (.int .i64 m.id.s)).setCell ⟨w.heap.size + 1 + 1, 0, none⟩ (.int .i64 0)) :=
        (((Kept.refl _ _).setCell (p := ⟨w.heap.size + 1, 0, none⟩) (fun _ => .inl rfl) _).setCell (p := ⟨w.heap.size + 1, 1, none⟩) (fun _ => .inl rfl) _).setCell (p := ⟨w.heap.size + 1 + 1, 0, none⟩) (fun _ => .inr rfl) _
      have ho := HJ.out.off H2.out hk (fun b hb => by omega)
      refine ⟨ho.1, ho.2, rfl, ?_⟩
      rw [HP.out]
      exact ((HJ.out.seti 1 0 (.int .i64 m.id.t) rfl (atB_nodup ..)).seti 1 1 (.int .i64 m.id.s) rfl (by exact atB_nodup ..)).set 2 (.int .i64 0) rfl (by exact atB_nodup ..)
    · have q1 : ((i : Int) == ix) = false := by simpa using q
      have Q := Lib.hid q
      clear q
      gi_wp2
      refine ⟨fun _ _ => rfl, Nat.le_refl _, HJ.out, fun k hk => ?_⟩
      rcases Nat.lt_succ_iff_lt_or_eq.1 hk with hk | rfl
      · exact HN.out k hk
      · exact Q.out
  case done =>
    rintro X W hJ0 hK
    obtain ⟨hJ, hne⟩ : CJ w W0.heap.size (fun _ => False) (atB w.heap.size g ix 0 0 0) g L A S mp X W ∧ ∀ k : Nat, k < (shL L).length → (k : Int) ≠ ix := hJ0
    have hP : atP L ix = (ID.zero, 3) := by
      unfold atP
      rw [if_neg]
      intro h
      exact hne ix.toNat (by omega) (by omega)
    have HP := Lib.hid hP
    have HJ := Lib.hid hJ
    have HK := Lib.hid hK
    have c1 : W.cell? ⟨w.heap.size + 1, 0, none⟩ = some (.int .i64 0) := hJ.cell 1 rfl 0 rfl
    have c2 : W.cell? ⟨w.heap.size + 1, 1, none⟩ = some (.int .i64 0) := hJ.cell 1 rfl 1 rfl
    have c3 : W.cell? ⟨w.heap.size + 1 + 1, 0, none⟩ = some (.int .i64 0) := hJ.cell 2 rfl 0 rfl
    have f1 := hJ.frozen 1 rfl 0
    have f2 := hJ.frozen 1 rfl 1
    have f3 := hJ.frozen 2 rfl 0
    clear hJ hne hP hK
    gi_wp2
    have hl : w.heap.size + 1 + 1 + 1 < W0.heap.size := (HJ.out.box _ (List.mem_of_getElem? (i := 3) rfl)).1.2
    have hk : Kept (fun b => b = w.heap.size + 1 ∨ b = w.heap.size + 1 + 1) W (((W.setCell ⟨w.heap.size + 1, 0, none⟩ (.int .i64 0)).setCell ⟨w.heap.size + 1, 1, none⟩ (.int .i64 0)).setCell ⟨w.heap.size + 1 + 1, 0, none⟩ (.int .i64 3)) :=
      (((Kept.refl _ _).setCell (p := ⟨w.heap.size + 1, 0, none⟩) (fun _ => .inl rfl) _).setCell (p := ⟨w.heap.size + 1, 1, none⟩) (fun _ => .inl rfl) _).setCell (p := ⟨w.heap.size + 1 + 1, 0, none⟩) (fun _ => .inr rfl) _
    have hC2 := (((HJ.out.seti 1 0 (.int .i64 0) rfl (atB_nodup ..)).seti 1 1 (.int .i64 0) rfl (by exact atB_nodup ..)).set 2 (.int .i64 3) rfl (by exact atB_nodup ..)).taken (.deferred none)
    refine ret_range (v := .tuple #[.agg #[.int .i64 (atP L ix).1.t, .int .i64 (atP L ix).1.s], .int .i64 (atP L ix).2]) ((hk.block _ (by have := (Array.getElem?_eq_some_iff.1 HK.out).1; exact this) (by omega)).trans HK.out) ?_ ⟨rfl, hC2.kept⟩
    have d1 := hC2.cell 1 rfl 0 rfl
    have d2 := hC2.cell 1 rfl 1 rfl
    have d3 := hC2.cell 2 rfl 0 rfl
    rw [HP.out]
    simp [results, Try.results10, go_sem, d1, d2, d3, ID.zero]
  case stop =>
    rintro c X W ⟨rfl, hJ⟩ hK
    have HJ := Lib.hid hJ
    have HK := Lib.hid hK
    clear hJ hK
    gi_wp2
    have hC2 := HJ.out.taken (.deferred none)
    refine ret_range (v := .tuple #[.agg #[.int .i64 (atP L ix).1.t, .int .i64 (atP L ix).1.s], .int .i64 (atP L ix).2]) HK.out ?_ ⟨rfl, hC2.kept⟩
    have d1 := hC2.cell 1 rfl 0 rfl
    have d2 := hC2.cell 1 rfl 1 rfl
    have d3 := hC2.cell 2 rfl 0 rfl
    simp [results, Try.results10, go_sem, d1, d2, d3]
end Go.Proofs.Ytlafodnaifghcaa.Tr
namespace Go.Proofs.Ytlafodnaifghcaa.Tr
open Go.RowKit Go.Proofs.Ytlafodnaifghcaa.St Go.Proofs.Ytlafodnaifghcaa.Gl Go.Proofs.Ytlafodnaifghcaa
theorem insE_is0 {L : List Nd} {i ref : ID} {sz : Nat} {bad : Bool} {rs : List Int} (h1 : i.Is ∧ (ref = ID.zero ∨ ref.Is)) (h2 : sz ≠ 0 ∧ bad = false) (h3 : i.t + rs.length - 1 ≤ 2147483647) (h4 : ref.lt i) (h5 : ref = ID.zero ∨ ref ∈ ids L) (h6 : ¬ ∃ m ∈ L, m.id.s = i.s ∧ i.t ≤ m.id.t ∧ m.id.t - i.t < rs.length) : insE L i ref sz bad rs = 0 := by
  have h7 : ¬ hasAny L i rs.length := fun h => h6 ((hasAny_iff L i rs.length).1 h)
  unfold insE
  rw [if_neg (fun h => h.elim (fun h => h h1.1) fun h => h1.2.elim h.1 h.2), if_neg (fun h => h.elim h2.1 (fun h => by rw [h2.2] at h; cases h)), if_neg (by omega), if_neg (fun h => h h4), if_neg (fun h => h5.elim h.1 h.2), if_neg h7]
theorem insE_is12 {L : List Nd} {i ref : ID} {sz : Nat} {bad : Bool} {rs : List Int} (h1 : i.Is ∧ (ref = ID.zero ∨ ref.Is)) (h2 : sz ≠ 0 ∧ bad = false) (h3 : i.t + rs.length - 1 ≤ 2147483647) (h4 : ref.lt i) (h5 : ref = ID.zero ∨ ref ∈ ids L) (h6 : ∃ m ∈ L, m.id.s = i.s ∧ i.t ≤ m.id.t ∧ m.id.t - i.t < rs.length) : insE L i ref sz bad rs = 12 := by
  have h7 : hasAny L i rs.length := (hasAny_iff L i rs.length).2 h6
  unfold insE
  rw [if_neg (fun h => h.elim (fun h => h h1.1) fun h => h1.2.elim h.1 h.2), if_neg (fun h => h.elim h2.1 (fun h => by rw [h2.2] at h; cases h)), if_neg (by omega), if_neg (fun h => h h4), if_neg (fun h => h5.elim h.1 h.2), if_pos h7]
/-- a document made behind w0 -/
def KT (w0 : World) (g : Nat) (L : List Nd) (w : World) : Prop := Kept (fun _ => False) w0 w ∧ TBox w g L fun b => w0.heap.size ≤ b
variable {w0 w w' : World} {g : Nat} {L : List Nd}
theorem KT.still (h : KT w0 g L w) (hk : Kept (fun _ => False) w w') : KT w0 g L w' := ⟨h.1.trans hk fun _ _ h => h, h.2.still hk⟩
theorem KT.made (w : World) : KT w w.heap.size [] (w.alloc (.cells #[.slice none 0 0, .map none] 88)) :=
  ⟨(Kept.refl _ _).alloc _, (TBox.made w).mono fun b hb => by rw [hb]; exact Nat.le_refl _⟩
theorem KT.insert (h : KT w0 g L w) (i ref : ID) (s : ByteArray) (hs : s.size ≤ maxLen) (hlen : L.length + countR s ≤ 900000) :
    Calls Try.prog 13 #[.pointer (some ⟨g, 0, none⟩), idV i, idV ref, .string s] w fun e w' => e = .returned (.int .i64 (insE L i ref s.size (badB s) (runesL s 0))) ∧ KT w0 g (insL L i ref s.size (badB s) (runesL s 0)) w' := by
  refine (h.2.insert i ref s hs hlen).mono ?_
  rintro e w' ⟨he, h1, h2⟩
  refine ⟨he, h.1.trans h2 fun b hb h9 => ?_, h1.mono fun b hb => ?_⟩
  · omega
  · rcases hb with hb | hb
    · exact hb
    · exact Nat.le_trans h.1.size hb.1
/-- runs handed over in a new row -/
theorem KT.lit (h : KT w0 g L w) (cs : Array Value) (t : TypeId) (b : Nat) (hb : b = w.heap.size) : TBox (w.alloc (.cells cs t)) g L (fun b => w0.heap.size ≤ b ∧ b < w.heap.size) ∧ ∀ n c, ∀ b', (Value.slice (some ⟨b, 0, none⟩) n c).ownBlock = some b' → b' < (w.alloc (.cells cs t)).heap.size → ¬ (w0.heap.size ≤ b' ∧ b' < w.heap.size) := by
  refine ⟨h.2.low.still ((Kept.refl _ _).alloc _), fun n c b' h1 _ h2 => ?_⟩
  have h3 : b' = b := by simpa [Value.ownBlock] using h1.symm
  omega
theorem KT.delete (h : KT w0 g L w) (hlen : L.length ≤ 900000) {cs : Array Value} {rs : List Run} (hcs : cs = (runE.flat rs).toArray) (hin : ∀ r ∈ rs, r.In) (hrl : rs.length ≤ 1000) :
    Calls Try.prog 14 #[.pointer (some ⟨g, 0, none⟩), .slice (some ⟨w.heap.size, 0, none⟩) rs.length rs.length] (w.alloc (.cells cs 61)) fun e w' => e = .returned (.int .i64 (turnN rs 1 L)) ∧ KT w0 g (L.map (turnF rs 1 2)) w' := by
  obtain ⟨h1, h2⟩ := h.lit cs 61 w.heap.size rfl
  refine (h1.delete hlen (SlAt.lit rs cs hcs (by unfold maxLen; omega)) hin (by omega) (h2 _ _)).mono ?_
  rintro e w' ⟨he, h3, h4⟩
  exact ⟨he, (h.1.alloc _).trans h4 fun b hb h9 => by omega, h3.mono fun b hb => hb.1⟩
theorem KT.settle (h : KT w0 g L w) (hlen : L.length ≤ 900000) {cs : Array Value} {rs : List Run} (hcs : cs = (runE.flat rs).toArray) (hin : ∀ r ∈ rs, r.In) (hrl : rs.length ≤ 1000) :
    Calls Try.prog 15 #[.pointer (some ⟨g, 0, none⟩), .slice (some ⟨w.heap.size, 0, none⟩) rs.length rs.length] (w.alloc (.cells cs 61)) fun e w' => e = .returned (.int .i64 (turnN rs 2 L)) ∧ KT w0 g (L.map (turnF rs 2 3)) w' := by
  obtain ⟨h1, h2⟩ := h.lit cs 61 w.heap.size rfl
  refine (h1.settle hlen (SlAt.lit rs cs hcs (by unfold maxLen; omega)) hin (by omega) (h2 _ _)).mono ?_
  rintro e w' ⟨he, h3, h4⟩
  exact ⟨he, (h.1.alloc _).trans h4 fun b hb h9 => by omega, h3.mono fun b hb => hb.1⟩
theorem KT.collect (h : KT w0 g L w) (hlen : L.length ≤ 900000) :
    Calls Try.prog 16 #[.pointer (some ⟨g, 0, none⟩)] w fun e w' => e = .returned (.int .i64 (collN L)) ∧ KT w0 g (collR L) w' := by
  refine (h.2.collect hlen).mono ?_
  rintro e w' ⟨he, h3, h4⟩
  exact ⟨he, h.1.trans h4 fun b hb h9 => by omega, h3⟩
theorem TBox.text {F : Nat → Prop} (h : TBox w g L F) (hlen : L.length ≤ 900000) : Calls Try.prog 17 #[.pointer (some ⟨g, 0, none⟩)] w fun e w' => e = .returned (.string ⟨(textB (shL L)).toArray⟩) ∧ Kept (fun _ => False) w w' := by
  obtain ⟨A, S, mp, h1, _⟩ := h.at_
  exact text_any h1 h.doc hlen
theorem TBox.len {F : Nat → Prop} (h : TBox w g L F) (hlen : L.length ≤ 900000) : Calls Try.prog 18 #[.pointer (some ⟨g, 0, none⟩)] w fun e w' => e = .returned (.int .i64 (shL L).length) ∧ Kept (fun _ => False) w w' := by
  obtain ⟨A, S, mp, h1, _⟩ := h.at_
  exact len_any h1 h.doc hlen
theorem TBox.kept {F : Nat → Prop} (h : TBox w g L F) : Calls Try.prog 19 #[.pointer (some ⟨g, 0, none⟩)] w fun e w' => e = .returned (.int .i64 L.length) ∧ w = w' := by
  obtain ⟨A, S, mp, h1, _⟩ := h.at_
  exact kept_any h1
theorem TBox.look {F : Nat → Prop} (h : TBox w g L F) (hlen : L.length ≤ 900000) (ix : Int) :
    Calls Try.prog 10 #[.pointer (some ⟨g, 0, none⟩), .int .i64 ix] w fun e w' => e = .returned (.tuple #[.agg #[.int .i64 (atP L ix).1.t, .int .i64 (atP L ix).1.s], .int .i64 (atP L ix).2]) ∧ Kept (fun _ => False) w w' := by
  obtain ⟨A, S, mp, h1, _⟩ := h.at_
  exact at_any h1 h.doc hlen ix
theorem TBox.find {F : Nat → Prop} (h : TBox w g L F) (hlen : L.length ≤ 900000) (i : ID) :
    Calls Try.prog 12 #[.pointer (some ⟨g, 0, none⟩), idV i] w fun e w' => e = .returned (.tuple #[.int .i64 (findP L i).1, .int .i64 (findP L i).2]) ∧ Kept (fun _ => False) w w' := by
  obtain ⟨A, S, mp, h1, _⟩ := h.at_
  exact find_any h1 h.doc hlen i
theorem TBox.span {F : Nat → Prop} {ix n : Int} (h : TBox w g L F) (hlen : L.length ≤ 900000) (hok : spanOk L ix n) :
    Calls Try.prog 11 #[.pointer (some ⟨g, 0, none⟩), .int .i64 ix, .int .i64 n] w fun e w' => (∃ v T, e = .returned (.tuple #[v, .int .i64 0]) ∧ SetOf (spanL L ix n (shL L).length) T ∧ w'.ownsRow w.heap.size 61 3 v (packL T).length (runE.flat (packL T))) ∧ Kept (fun _ => False) w w' := by
  obtain ⟨A, S, mp, h1, _⟩ := h.at_
  exact span_ok h1 h.doc hlen hok
/-! the very documents -/
def kn (t s rt rs r st : Int) : Nd := ⟨⟨t, s⟩, ⟨rt, rs⟩, r, st⟩
def k1 : List Nd := [kn 1 1 0 0 104 1, kn 2 1 1 1 233 1, kn 3 1 2 1 121 1]
def k2 : List Nd := [kn 1 1 0 0 104 1, kn 4 2 1 1 120 1, kn 2 1 1 1 233 1, kn 3 1 2 1 121 1]
def k3 : List Nd := [kn 1 1 0 0 104 1, kn 4 3 1 1 122 1, kn 4 2 1 1 120 1, kn 2 1 1 1 233 1, kn 3 1 2 1 121 1]
def k4 : List Nd := [kn 1 1 0 0 104 2, kn 4 3 1 1 122 1, kn 4 2 1 1 120 1, kn 2 1 1 1 233 2, kn 3 1 2 1 121 2]
def k5 : List Nd := [kn 1 1 0 0 104 2, kn 4 3 1 1 122 1, kn 4 2 1 1 120 1, kn 2 1 1 1 233 3, kn 3 1 2 1 121 3]
def k6 : List Nd := [kn 1 1 0 0 104 2, kn 4 3 1 1 122 1, kn 4 2 1 1 120 1]
def sHey : ByteArray := ⟨#[104, 195, 169, 121]⟩
theorem runes_hey : runesL sHey 0 = [104, 233, 121] := by decide +kernel
theorem runes_x : runesL ⟨#[120]⟩ 0 = [120] := by decide +kernel
theorem runes_z : runesL ⟨#[122]⟩ 0 = [122] := by decide +kernel
theorem runes_q : runesL ⟨#[113]⟩ 0 = [113] := by decide +kernel
theorem kins1 : insE [] ⟨1, 1⟩ ⟨0, 0⟩ sHey.size (badB sHey) (runesL sHey 0) = 0 ∧ insL [] ⟨1, 1⟩ ⟨0, 0⟩ sHey.size (badB sHey) (runesL sHey 0) = k1 := by
  have h : insE [] ⟨1, 1⟩ ⟨0, 0⟩ sHey.size (badB sHey) (runesL sHey 0) = 0 := insE_is0 (by decide) (by decide +kernel) (by rw [runes_hey]; decide) (by decide) (.inl rfl) (by rw [runes_hey]; decide +kernel)
  refine ⟨h, ?_⟩
  unfold insL
  rw [if_neg (fun hh => hh h), runes_hey]
  decide +kernel
theorem kins2 : insE k1 ⟨4, 2⟩ ⟨1, 1⟩ (ByteArray.mk #[120]).size (badB ⟨#[120]⟩) (runesL ⟨#[120]⟩ 0) = 0 ∧ insL k1 ⟨4, 2⟩ ⟨1, 1⟩ (ByteArray.mk #[120]).size (badB ⟨#[120]⟩) (runesL ⟨#[120]⟩ 0) = k2 := by
  have h : insE k1 ⟨4, 2⟩ ⟨1, 1⟩ (ByteArray.mk #[120]).size (badB ⟨#[120]⟩) (runesL ⟨#[120]⟩ 0) = 0 := insE_is0 (by decide) (by decide +kernel) (by rw [runes_x]; decide) (by decide) (.inr (by decide)) (by rw [runes_x]; decide +kernel)
  refine ⟨h, ?_⟩
  unfold insL
  rw [if_neg (fun hh => hh h), runes_x]
  decide +kernel
theorem kins3 : insE k2 ⟨4, 3⟩ ⟨1, 1⟩ (ByteArray.mk #[122]).size (badB ⟨#[122]⟩) (runesL ⟨#[122]⟩ 0) = 0 ∧ insL k2 ⟨4, 3⟩ ⟨1, 1⟩ (ByteArray.mk #[122]).size (badB ⟨#[122]⟩) (runesL ⟨#[122]⟩ 0) = k3 := by
  have h : insE k2 ⟨4, 3⟩ ⟨1, 1⟩ (ByteArray.mk #[122]).size (badB ⟨#[122]⟩) (runesL ⟨#[122]⟩ 0) = 0 := insE_is0 (by decide) (by decide +kernel) (by rw [runes_z]; decide) (by decide) (.inr (by decide)) (by rw [runes_z]; decide +kernel)
  refine ⟨h, ?_⟩
  unfold insL
  rw [if_neg (fun hh => hh h), runes_z]
  decide +kernel
theorem kins4 : insE k3 ⟨4, 2⟩ ⟨1, 1⟩ (ByteArray.mk #[113]).size (badB ⟨#[113]⟩) (runesL ⟨#[113]⟩ 0) = 12 ∧ insL k3 ⟨4, 2⟩ ⟨1, 1⟩ (ByteArray.mk #[113]).size (badB ⟨#[113]⟩) (runesL ⟨#[113]⟩ 0) = k3 := by
  have h : insE k3 ⟨4, 2⟩ ⟨1, 1⟩ (ByteArray.mk #[113]).size (badB ⟨#[113]⟩) (runesL ⟨#[113]⟩ 0) = 12 := insE_is12 (by decide) (by decide +kernel) (by rw [runes_q]; decide) (by decide) (.inr (by decide)) (by rw [runes_q]; decide +kernel)
  refine ⟨h, ?_⟩
  unfold insL
  rw [if_pos (by rw [h]; decide)]
theorem kspan : spanOk k3 0 5 ∧ ∀ T, SetOf (spanL k3 0 5 (shL k3).length) T → packL T = [⟨⟨1, 1⟩, 3⟩, ⟨⟨4, 2⟩, 1⟩, ⟨⟨4, 3⟩, 1⟩] := by
  refine ⟨by unfold spanOk; decide +kernel, fun T hT => ?_⟩
  have h1 : SetOf (spanL k3 0 5 (shL k3).length) [⟨1, 1⟩, ⟨2, 1⟩, ⟨3, 1⟩, ⟨4, 2⟩, ⟨4, 3⟩] := by
    rw [show spanL k3 0 5 (shL k3).length = [⟨1, 1⟩, ⟨4, 3⟩, ⟨4, 2⟩, ⟨2, 1⟩, ⟨3, 1⟩] by decide +kernel]
    refine ⟨by unfold Rising; decide, fun x => ?_⟩
    simp only [List.mem_cons, List.not_mem_nil, or_false]
    constructor
    · rintro (rfl | rfl | rfl | rfl | rfl) <;> exact ⟨by simp, by decide⟩
    · rintro ⟨rfl | rfl | rfl | rfl | rfl, _⟩ <;> simp
  rw [hT.unique h1]
  decide +kernel
theorem kdel : turnN [⟨⟨1, 1⟩, 3⟩] 1 k3 = 3 ∧ k3.map (turnF [⟨⟨1, 1⟩, 3⟩] 1 2) = k4 := by decide +kernel
theorem ksettle : turnN [⟨⟨2, 1⟩, 2⟩] 2 k4 = 2 ∧ k4.map (turnF [⟨⟨2, 1⟩, 2⟩] 2 3) = k5 := by decide +kernel
theorem kcoll : collN k5 = 2 ∧ collR k5 = k6 := by decide +kernel
theorem ktext : textB (shL k3) = [104, 122, 120, 195, 169, 121] ∧ textB (shL k6) = [122, 120] ∧ (shL k6).length = 2 ∧ k6.length = 3 := by decide +kernel
theorem kfind : findP k4 ⟨2, 1⟩ = (2, 2) ∧ atP k3 1 = (⟨4, 3⟩, 0) := by decide +kernel
end Go.Proofs.Ytlafodnaifghcaa.Tr
