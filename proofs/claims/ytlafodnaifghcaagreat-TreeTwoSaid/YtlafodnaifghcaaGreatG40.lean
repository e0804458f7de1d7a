/- hearsaylaw11.does: any step. A tree, the document's row in a box of its own. known: what the document fixes. Nodes as an argument; what a load gives. -/
import Derived.Test.YtlafodnaifghcaaGreatG38
import Derived.Test.YtlafodnaifghcaaGreatG39
import Derived.Test.YtlafodnaifghcaaGreatG30
import Derived.Test.YtlafodnaifghcaaGreatG31
import Derived.Deep.RegionHeld3
namespace Go.Proofs.YtlafodnaifghcaaGreat.Tr
open Go.RowKit Go.Sort Go.Proofs.YtlafodnaifghcaaGreat.St Go.Proofs.YtlafodnaifghcaaGreat Go.Proofs.YtlafodnaifghcaaGreat.Gl
set_option maxRecDepth 10000 in
theorem decode_isRune (s : ByteArray) (i : Nat) : isRuneP ((Utf8.decode s i).1 : Int) := by
  have h0 := (s.get! i).toNat_lt
  have h1 := (s.get! (i + 1)).toNat_lt
  have h2 := (s.get! (i + 2)).toNat_lt
  have h3 := (s.get! (i + 3)).toNat_lt
  obtain ⟨x, hx⟩ : ∃ x, Utf8.decode s i = x := ⟨_, rfl⟩
  rw [hx]
  simp only [Utf8.decode, Nat.add_zero] at hx
  simp only [Bool.and_eq_true, beq_iff_eq, decide_eq_true_iff, Gl.valid_iff] at hx
  generalize (s.get! i).toNat = a at *
  generalize (s.get! (i + 1)).toNat = b at *
  generalize (s.get! (i + 2)).toNat = c at *
  generalize (s.get! (i + 3)).toNat = d at *
  have hE : Utf8.runeError = 65533 := rfl
  rw [hE] at hx
  unfold isRuneP
  repeat' split at hx
  all_goals
    subst hx
    dsimp only
    omega
theorem runesL_isRune {s : ByteArray} {i : Nat} {r : Int} (h : r ∈ runesL s i) : isRuneP r := by
  unfold runesL at h
  obtain ⟨j, _, rfl⟩ := List.mem_map.1 h
  exact decode_isRune s j
theorem fresh_ok : ∀ {rs : List Int} {i ref : ID} {y : Nd}, y ∈ freshL i ref rs → y.rune ∈ rs ∧ y.st = 1
  | [], _, _, _, h => by simp [freshL] at h
  | r :: rs, i, ref, y, h => by
    simp only [freshL, List.mem_cons] at h
    rcases h with rfl | h
    · exact ⟨List.mem_cons_self .., rfl⟩
    · exact ⟨List.mem_cons_of_mem _ (fresh_ok h).1, (fresh_ok h).2⟩
/-- what a step leaves of the document -/
noncomputable def goOn (x : StV) (rs : List Run) (L : List Nd) : List Nd :=
  if x.kind = 1 then insL L x.id x.ref x.text.size (badB x.text) (runesL x.text 0)
  else if x.kind = 2 then L.map (turnF rs 1 2) else if x.kind = 3 then L.map (turnF rs 2 3) else if x.kind = 4 then collR L else L
/-- what stays of the elements through any steps -/
structure OkN (L : List Nd) (N : Nat) : Prop where
  len : L.length ≤ N
  ok : ∀ n ∈ L, isRuneP n.rune ∧ 1 ≤ n.st ∧ n.st ≤ 3
theorem OkN.turned {L : List Nd} {N M : Nat} (h : OkN L N) (hM : N ≤ M) (rs : List Run) {fr tz : Int} (ht : 1 ≤ tz ∧ tz ≤ 3) : OkN (L.map (turnF rs fr tz)) M := by
  refine ⟨by rw [List.length_map]; exact Nat.le_trans h.len hM, fun n hn => ?_⟩
  obtain ⟨m, hm, rfl⟩ := List.mem_map.1 hn
  have h9 := h.ok m hm
  unfold turnF
  split
  · exact ⟨h9.1, ht⟩
  · exact h9
theorem OkN.step {L : List Nd} {N : Nat} (h : OkN L N) (x : StV) (rs : List Run) : OkN (goOn x rs L) (N + x.text.size) := by
  have hN : N ≤ N + x.text.size := Nat.le_add_right _ _
  have hL : OkN L (N + x.text.size) := ⟨Nat.le_trans h.len hN, h.ok⟩
  unfold goOn
  split
  · unfold insL
    split
    · exact hL
    · refine ⟨?_, fun n hn => ?_⟩
      · have h1 := countR_le x.text
        have h2 := runesL_len x.text
        have h3 := h.len
        simp only [List.length_append, List.length_take, List.length_drop, freshL_len]
        omega
      · rcases List.mem_append.1 hn with hn | hn
        · rcases List.mem_append.1 hn with hn | hn
          · exact h.ok n (List.mem_of_mem_take hn)
          · obtain ⟨a, b⟩ := fresh_ok hn
            exact ⟨runesL_isRune a, by omega, by omega⟩
        · exact h.ok n (List.mem_of_mem_drop hn)
  · split
    · exact h.turned hN rs (by decide)
    · split
      · exact h.turned hN rs (by decide)
      · split
        · exact ⟨Nat.le_trans (collR_sub L).length_le hL.len, fun n hn => h.ok n ((collR_sub L).subset hn)⟩
        · exact hL
theorem PT.is {w0 w : World} {g : Nat} {L M : List Nd} {v : Value} {Y : Nat → Prop} (h : PT w0 w g L M v Y) : ∀ n ∈ L, n.id.Is := by
  obtain ⟨F, h1, _⟩ := h.tree
  exact h1.is
theorem PT.doc {w0 w : World} {g : Nat} {L M : List Nd} {v : Value} {Y : Nat → Prop} (h : PT w0 w g L M v Y) : Doc L := by
  obtain ⟨F, h1, _⟩ := h.tree
  exact h1.doc
def DoesPost (w0 w : World) (L' : List Nd) (Y : Nat → Prop) (e : Ending) (w' : World) : Prop := ∃ g' ua uc, e = .returned (.tuple #[.pointer (some ⟨g', 0, none⟩), .agg #[.slice ua L'.length uc], .bool true]) ∧ PT w0 w' g' L' L' (.slice ua L'.length uc) (grown Y w w') ∧ Kept Y w w'
theorem does_post {w0 w w' : World} {L' : List Nd} {Y : Nat → Prop} {e : Ending} {g : Nat} (h : ∃ u, e = .returned (.tuple #[.pointer (some ⟨g, 0, none⟩), .agg #[u], .bool true]) ∧ PT w0 w' g L' L' u (grown Y w w') ∧ Kept Y w w') : DoesPost w0 w L' Y e w' := by
  obtain ⟨u, he, hp, hk⟩ := h
  obtain ⟨ua, uc, rfl, _, _⟩ := hp.row.sl
  exact ⟨g, ua, uc, he, hp, hk⟩
theorem does_any {w0 w : World} {g : Nat} {L : List Nd} {v : Value} {Y : Nat → Prop} (h : PT w0 w g L L v Y) {N : Nat} (ho : OkN L N) (hN : N ≤ 600000) {x : StV} {rs : List Run} (hs : StepIn w0 x rs) (hrl : rs.length ≤ 1000000) (ht : x.text.size ≤ 100000) :
    Calls Tryz.prog 10 #[.pointer (some ⟨g, 0, none⟩), .agg #[v], .agg #[.int .i64 x.kind, .int .i64 x.id.t, .int .i64 x.id.s, .int .i64 x.ref.t, .int .i64 x.ref.s, .string x.text, .slice x.runs.a x.runs.n x.runs.c, .int .i64 x.i, .int .i64 x.n]] w (DoesPost w0 w (goOn x rs L) Y) := by
  obtain ⟨k, i, ref, s, r, a, b⟩ := x
  have hlen : L.length ≤ 600000 := Nat.le_trans ho.len hN
  have hI := h.is
  by_cases k1 : k = 1
  · subst k1
    exact (does1_any h hlen hI i ref s a b ht).mono fun _ _ h9 => does_post h9
  by_cases k2 : k = 2
  · subst k2
    exact (does2_any h hlen hI i ref s a b hs.row hrl hs.rin).mono fun _ _ h9 => does_post h9
  by_cases k3 : k = 3
  · subst k3
    exact (does3_any h hlen hI i ref s a b hs.row hrl hs.rin).mono fun _ _ h9 => does_post h9
  by_cases k4 : k = 4
  · subst k4
    exact (does4_any h hlen hI i ref s a b).mono fun _ _ h9 => does_post h9
  have hsame : goOn ⟨k, i, ref, s, r, a, b⟩ rs L = L := by unfold goOn; rw [if_neg k1, if_neg k2, if_neg k3, if_neg k4]
  rw [hsame]
  by_cases k5 : k = 5
  · subst k5
    exact (does5_any h hlen hI i ref s a b ⟨hs.nums.2.1, hs.nums.2.2⟩).mono fun _ _ h9 => does_post h9
  by_cases k6 : k = 6
  · subst k6
    exact (does6_any h hlen hI i ref s a b).mono fun _ _ h9 => does_post h9
  by_cases k7 : k = 7
  · subst k7
    exact (does7_any h hlen hI i ref s a b).mono fun _ _ h9 => does_post h9
  by_cases k8 : k = 8
  · subst k8
    refine (does8_any h hlen hI i ref s a b (load_doc h.doc fun n hn => ⟨hI n hn, ho.ok n hn⟩).1 fun n hn => (ho.ok n hn).1).mono ?_
    rintro e w' ⟨g', u, he, hp, hk⟩
    exact does_post ⟨u, he, hp, hk⟩
  exact (does0_any h hlen hI i ref s a b k1 k2 k3 k4 k5 k6 k7 k8).mono fun _ _ h9 => does_post h9
end Go.Proofs.YtlafodnaifghcaaGreat.Tr
namespace Go.Proofs.YtlafodnaifghcaaGreat.Tr
open Go.RowKit Go.Sort Go.Proofs.YtlafodnaifghcaaGreat.St Go.Proofs.YtlafodnaifghcaaGreat Go.Proofs.YtlafodnaifghcaaGreat.Gl
/-- the pair, and a box of the document's row -/
structure PJ (w0 : World) (z : Nat) (g : Nat) (L : List Nd) (v : Value) (Y : Nat → Prop) (W : World) : Prop where
  pt : PT w0 W g L L v Y
  box : Blk W z 33 #[v]
  far : w0.heap.size ≤ z ∧ ¬ Y z
section
variable {w0 W W' : World} {z g g' : Nat} {L L' : List Nd} {v v' : Value} {Y : Nat → Prop}
theorem PJ.keep {S : Nat → Prop} (h : PJ w0 z g L v Y W) (hk : Kept S W W') (hS : ∀ b, S b → w0.heap.size ≤ b ∧ ¬ Y b ∧ ¬ b = z) : PJ w0 z g L v Y W' :=
  ⟨h.pt.keep hk fun b hb => ⟨(hS b hb).1, (hS b hb).2.1⟩, hk.blk (fun h9 => (hS z h9).2.2 rfl) h.box, h.far⟩
theorem PJ.still (h : PJ w0 z g L v Y W) (hk : Kept (fun _ => False) W W') : PJ w0 z g L v Y W' := h.keep hk fun _ h => h.elim
theorem PJ.cell (h : PJ w0 z g L v Y W) : W.cell? ⟨z, 0, none⟩ = some v := h.box.cell' (i := 0) rfl
theorem PJ.kept (h : PJ w0 z g L v Y W) : Kept (fun _ => False) w0 W := h.pt.kept
/-- a call of does, its row laid into the box -/
theorem PJ.does (h : PJ w0 z g L v Y W) (hp : PT w0 W' g' L' L' v' (grown Y W W')) (hk : Kept Y W W') : PJ w0 z g' L' v' (grown Y W W') (W'.setCell ⟨z, 0, none⟩ v') ∧ Kept (fun b => Y b ∨ b = z) W (W'.setCell ⟨z, 0, none⟩ v') := by
  have hz : ¬ grown Y W W' z := fun h9 => h9.elim h.far.2 fun h8 => by have := h.box.lt; omega
  exact ⟨⟨hp.keep (kept_cell W' z v') fun b hb => by subst hb; exact ⟨h.far.1, hz⟩, (hk.blk h.far.2 h.box).set_ 0 v', h.far.1, hz⟩, (hk.mono fun _ _ h => .inl h).trans (kept_cell W' z v') fun b _ hb => .inr hb⟩
theorem PJ.drew (h : PJ w0 z g L v Y W) : PJ w0 z g L v Y W.drew := h.still (Kept.refl _ _).drew
theorem PJ.out (h : PJ w0 z g L v Y W) {b : Nat} (hb : Y b ∨ b = z) : w0.heap.size ≤ b := hb.elim (fun h9 => (h.pt.room b h9).1) fun e => by rw [e]; exact h.far.1
/-- none -/
theorem pt_made {w0 w : World} (hk : Kept (fun _ => False) w0 w) : PT w0 (w.alloc (.cells #[.slice none 0 0, .map none] 30)) w.heap.size [] [] (.slice none 0 0) (· = w.heap.size) :=
  ⟨hk.alloc _, ⟨_, TBox.made w, fun b hb => ⟨hb, fun e => by cases e⟩⟩, .inl ⟨rfl, rfl⟩, .inl rfl, fun b hb => (by cases hb), fun b hb => by subst hb; exact ⟨hk.size, by rw [World.size_alloc]; omega⟩⟩
/-- the box of none -/
theorem PT.boxed {w : World} (h : PT w0 w g L L v Y) : PJ w0 w.heap.size g L v Y (w.alloc (.cells #[v] 33)) :=
  ⟨h.still ((Kept.refl _ _).alloc _), Blk.new w _ _, h.kept.size, fun h9 => by have := (h.room _ h9).2; omega⟩
theorem okN_nil (N : Nat) : OkN [] N := ⟨Nat.zero_le _, fun n hn => by simp at hn⟩
end
/-- two pairs, apart from one another -/
structure TJ (w0 : World) (zc zd a b : Nat) (M : List Nd) (v : Value) (Ya : Nat → Prop) (M' : List Nd) (v' : Value) (Yb : Nat → Prop) (W : World) : Prop where
  one : PJ w0 zc a M v Ya W
  two : PJ w0 zd b M' v' Yb W
  apart : ∀ x, Ya x → ¬ Yb x
  sep : ¬ Ya zd ∧ ¬ Yb zc ∧ ¬ zc = zd
section
variable {w0 W W' : World} {zc zd a b g' : Nat} {M M' L' : List Nd} {v v' u : Value} {Ya Yb : Nat → Prop}
theorem TJ.swap (h : TJ w0 zc zd a b M v Ya M' v' Yb W) : TJ w0 zd zc b a M' v' Yb M v Ya W :=
  ⟨h.two, h.one, fun x hb ha => h.apart x ha hb, h.sep.2.1, h.sep.1, fun e => h.sep.2.2 e.symm⟩
theorem TJ.still (h : TJ w0 zc zd a b M v Ya M' v' Yb W) (hk : Kept (fun _ => False) W W') : TJ w0 zc zd a b M v Ya M' v' Yb W' := ⟨h.one.still hk, h.two.still hk, h.apart, h.sep⟩
theorem TJ.drew (h : TJ w0 zc zd a b M v Ya M' v' Yb W) : TJ w0 zc zd a b M v Ya M' v' Yb W.drew := h.still (Kept.refl _ _).drew
theorem TJ.first (h : TJ w0 zc zd a b M v Ya M' v' Yb W) (hp : PT w0 W' g' L' L' u (grown Ya W W')) (hk : Kept Ya W W') : TJ w0 zc zd g' b L' u (grown Ya W W') M' v' Yb (W'.setCell ⟨zc, 0, none⟩ u) := by
  obtain ⟨h1, h2⟩ := h.one.does hp hk
  refine ⟨h1, h.two.keep h2 fun x hx => ⟨h.one.out hx, fun hy => hx.elim (fun h9 => h.apart x h9 hy) fun e => h.sep.2.1 (e ▸ hy), fun e => hx.elim (fun h9 => h.sep.1 (e ▸ h9)) fun e2 => h.sep.2.2 (e2.symm.trans e)⟩, ?_, ?_, h.sep.2⟩
  · rintro x (hx | hx) hy
    · exact h.apart x hx hy
    · have := (h.two.pt.room x hy).2; omega
  · rintro (hx | hx)
    · exact h.sep.1 hx
    · have := h.two.box.lt; omega
theorem TJ.second (h : TJ w0 zc zd a b M v Ya M' v' Yb W) (hp : PT w0 W' g' L' L' u (grown Yb W W')) (hk : Kept Yb W W') : TJ w0 zc zd a g' M v Ya L' u (grown Yb W W') (W'.setCell ⟨zd, 0, none⟩ u) := (h.swap.first hp hk).swap
end
/-- the steps' own runs, each step's -/
def StepsIn (w : World) (L : List StV) : Prop := ∀ s ∈ L, ∃ rs, StepIn w s rs
theorem StepIn.len {w : World} {s : StV} {rs : List Run} (h : StepIn w s rs) (hn : s.runs.n ≤ 400) : rs.length ≤ 1000000 := by
  obtain ⟨a, c, e, _, _⟩ := h.row.sl
  have e9 : s.runs.n = rs.length := by injection e
  omega
theorem textN_take (L : List StV) (n : Nat) : textN (L.take n) ≤ textN L := by
  have h := List.take_append_drop n L
  have h2 : textN L = textN (L.take n) + textN (L.drop n) := by
    conv => lhs; rw [← h]
    unfold textN
    rw [List.map_append, List.sum_append]
  omega
end Go.Proofs.YtlafodnaifghcaaGreat.Tr
namespace Go.Proofs.YtlafodnaifghcaaGreat.Tr
open Go.RowKit Go.Sort Go.Proofs.YtlafodnaifghcaaGreat.St Go.Proofs.YtlafodnaifghcaaGreat.Gl Go.Proofs.YtlafodnaifghcaaGreat
/-- the runs that are told -/
def kruns : List Run := [⟨⟨1, 1⟩, 3⟩, ⟨⟨4, 2⟩, 1⟩, ⟨⟨4, 3⟩, 1⟩]
/-- behind the inserts: the document's blocks are those up to W; an identifier and runs lie behind them -/
structure KW (w W : World) (g : Nat) (za : Nat) (v : Value) (L : List Nd) (Wc : World) : Prop where
  box : TBox Wc g L fun b => w.heap.size ≤ b ∧ b < W.heap.size
  kept : Kept (fun _ => False) w Wc
  a : Blk Wc za 37 #[.int .i64 4, .int .i64 3]
  za : W.heap.size ≤ za
  row : SlAt runE Wc v kruns
  far : ∀ b, v.ownBlock = some b → W.heap.size ≤ b
  size : W.heap.size ≤ Wc.heap.size
variable {w W Wc : World} {g za : Nat} {v : Value} {L : List Nd}
theorem KW.still {w' : World} (h : KW w W g za v L Wc) (hk : Kept (fun _ => False) Wc w') : KW w W g za v L w' :=
  ⟨h.box.still hk, h.kept.trans hk fun _ _ h => h, hk.blk (fun h => h) h.a, h.za, h.row.kept hk, h.far, Nat.le_trans h.size hk.size⟩
theorem KW.turned {w' : World} {L' : List Nd} (h : KW w W g za v L Wc) (ht : TBox w' g L' fun b => w.heap.size ≤ b ∧ b < W.heap.size) (hk : Kept (fun b => w.heap.size ≤ b ∧ b < W.heap.size) Wc w') : KW w W g za v L' w' :=
  ⟨ht, h.kept.trans hk fun b hb h9 => by omega, hk.blk (fun h9 => by have := h.za; omega) h.a, h.za, h.row.keep hk fun b hb _ h9 => by have := h.far b hb; omega, h.far, Nat.le_trans h.size hk.size⟩
theorem KW.lit (h : KW w W g za v L Wc) (n c : Nat) : ∀ b', (Value.slice (some ⟨Wc.heap.size, 0, none⟩) n c).ownBlock = some b' → ¬ (w.heap.size ≤ b' ∧ b' < W.heap.size) := fun b' h1 h2 => by
  have h3 : b' = Wc.heap.size := by simpa [Value.ownBlock] using h1.symm
  have := h.size
  omega
theorem KW.del (h : KW w W g za v k3 Wc) : Calls Tryz.prog 24 #[.pointer (some ⟨g, 0, none⟩), .slice (some ⟨Wc.heap.size, 0, none⟩) 1 1] (Wc.alloc (.cells #[.int .i64 1, .int .i64 1, .int .i64 3] 69)) fun e w' => e = .returned (.int .i64 3) ∧ KW w W g za v k4 w' := by
  have h2 := h.still ((Kept.refl _ Wc).alloc (.cells #[.int .i64 1, .int .i64 1, .int .i64 3] 69))
  refine (h2.box.delete (by decide) (SlAt.lit [⟨⟨1, 1⟩, 3⟩] #[.int .i64 1, .int .i64 1, .int .i64 3] rfl (by simp [maxLen])) (fun r hr => by rw [List.mem_singleton.1 hr]; simp [Run.In, I64]) (by decide) fun b hb _ => h.lit 1 1 b hb).mono ?_
  rintro e w' ⟨he, h3, h4⟩
  rw [kdel.1] at he
  rw [kdel.2] at h3
  exact ⟨he, h2.turned h3 h4⟩
theorem KW.set (h : KW w W g za v k4 Wc) : Calls Tryz.prog 26 #[.pointer (some ⟨g, 0, none⟩), .slice (some ⟨Wc.heap.size, 0, none⟩) 1 1] (Wc.alloc (.cells #[.int .i64 2, .int .i64 1, .int .i64 2] 69)) fun e w' => e = .returned (.int .i64 2) ∧ KW w W g za v k5 w' := by
  have h2 := h.still ((Kept.refl _ Wc).alloc (.cells #[.int .i64 2, .int .i64 1, .int .i64 2] 69))
  refine (h2.box.settle (by decide) (SlAt.lit [⟨⟨2, 1⟩, 2⟩] #[.int .i64 2, .int .i64 1, .int .i64 2] rfl (by simp [maxLen])) (fun r hr => by rw [List.mem_singleton.1 hr]; simp [Run.In, I64]) (by decide) fun b hb _ => h.lit 1 1 b hb).mono ?_
  rintro e w' ⟨he, h3, h4⟩
  rw [ksettle.1] at he
  rw [ksettle.2] at h3
  exact ⟨he, h2.turned h3 h4⟩
theorem KW.coll (h : KW w W g za v k5 Wc) : Calls Tryz.prog 27 #[.pointer (some ⟨g, 0, none⟩)] Wc fun e w' => e = .returned (.int .i64 2) ∧ KW w W g za v k6 w' := by
  refine (h.box.collect (by decide)).mono ?_
  rintro e w' ⟨he, h3, h4⟩
  rw [kcoll.1] at he
  rw [kcoll.2] at h3
  exact ⟨he, h.turned h3 h4⟩
theorem KW.runs (h : KW w W g za v L Wc) : Calls Tryz.prog 28 #[v, .slice (some ⟨Wc.heap.size, 0, none⟩) 3 3] (Wc.alloc (.cells #[.int .i64 1, .int .i64 1, .int .i64 3, .int .i64 4, .int .i64 2, .int .i64 1, .int .i64 4, .int .i64 3, .int .i64 1] 69)) fun e w' => e = .returned (.bool true) ∧ KW w W g za v L w' := by
  have h2 := h.still ((Kept.refl _ Wc).alloc (.cells #[.int .i64 1, .int .i64 1, .int .i64 3, .int .i64 4, .int .i64 2, .int .i64 1, .int .i64 4, .int .i64 3, .int .i64 1] 69))
  refine (lruns_eq h2.row (SlAt.lit kruns _ rfl (by simp [maxLen, kruns])) (by decide)).mono ?_
  rintro e w' ⟨he, q, rfl⟩
  exact ⟨he, h2.still ((Kept.refl _ _).drewN q)⟩
theorem KW.text (h : KW w W g za v k6 Wc) : Calls Tryz.prog 21 #[.pointer (some ⟨g, 0, none⟩)] Wc fun e w' => e = .returned (.string ⟨#[122, 120]⟩) ∧ KW w W g za v k6 w' := by
  refine (h.box.text (by decide)).mono ?_
  rintro e w' ⟨he, h4⟩
  rw [ktext.2.1] at he
  exact ⟨he, h.still h4⟩
theorem KW.len (h : KW w W g za v k6 Wc) : Calls Tryz.prog 30 #[.pointer (some ⟨g, 0, none⟩)] Wc fun e w' => e = .returned (.int .i64 2) ∧ KW w W g za v k6 w' := by
  refine (h.box.len (by decide)).mono ?_
  rintro e w' ⟨he, h4⟩
  rw [ktext.2.2.1] at he
  exact ⟨he, h.still h4⟩
theorem KW.many (h : KW w W g za v k6 Wc) : Calls Tryz.prog 29 #[.pointer (some ⟨g, 0, none⟩)] Wc fun e w' => e = .returned (.int .i64 3) ∧ KW w W g za v k6 w' := by
  refine h.box.kept.mono ?_
  rintro e w' ⟨he, rfl⟩
  exact ⟨he, h⟩
theorem KW.find (h : KW w W g za v k4 Wc) : Calls Tryz.prog 25 #[.pointer (some ⟨g, 0, none⟩), .agg #[.int .i64 2, .int .i64 1]] Wc fun e w' => e = .returned (.tuple #[.int .i64 2, .int .i64 2]) ∧ KW w W g za v k4 w' := by
  refine (h.box.find (by decide) ⟨2, 1⟩).mono ?_
  rintro e w' ⟨he, h4⟩
  rw [kfind.1] at he
  exact ⟨he, h.still h4⟩
set_option maxRecDepth 100000 in
set_option maxHeartbeats 8000000 in
theorem known_any (w : World) : Calls Tryz.prog 8 #[] w fun e w' => e = .returned (.bool true) ∧ Kept (fun _ => False) w w' := by
  have ST := Lib.hid (KT.made w)
  have I1 : Hid (∀ W, KT w w.heap.size [] W → Calls Tryz.prog 19 #[.pointer (some ⟨w.heap.size, 0, none⟩), .agg #[.int .i64 1, .int .i64 1], .agg #[.int .i64 0, .int .i64 0], .string ⟨#[104, 195, 169, 121]⟩] W fun e w' => e = .returned (.int .i64 0) ∧ KT w w.heap.size k1 w') := Lib.hid fun W h => by
    have h9 := h.insert ⟨1, 1⟩ ⟨0, 0⟩ sHey (by decide) (by decide +kernel)
    rw [kins1.1, kins1.2] at h9
    exact h9
  have I2 : Hid (∀ W, KT w w.heap.size k1 W → Calls Tryz.prog 19 #[.pointer (some ⟨w.heap.size, 0, none⟩), .agg #[.int .i64 4, .int .i64 2], .agg #[.int .i64 1, .int .i64 1], .string ⟨#[120]⟩] W fun e w' => e = .returned (.int .i64 0) ∧ KT w w.heap.size k2 w') := Lib.hid fun W h => by
    have h9 := h.insert ⟨4, 2⟩ ⟨1, 1⟩ ⟨#[120]⟩ (by decide) (by decide +kernel)
    rw [kins2.1, kins2.2] at h9
    exact h9
  have I3 : Hid (∀ W, KT w w.heap.size k2 W → Calls Tryz.prog 19 #[.pointer (some ⟨w.heap.size, 0, none⟩), .agg #[.int .i64 4, .int .i64 3], .agg #[.int .i64 1, .int .i64 1], .string ⟨#[122]⟩] W fun e w' => e = .returned (.int .i64 0) ∧ KT w w.heap.size k3 w') := Lib.hid fun W h => by
    have h9 := h.insert ⟨4, 3⟩ ⟨1, 1⟩ ⟨#[122]⟩ (by decide) (by decide +kernel)
    rw [kins3.1, kins3.2] at h9
    exact h9
  have I4 : Hid (∀ W, KT w w.heap.size k3 W → Calls Tryz.prog 19 #[.pointer (some ⟨w.heap.size, 0, none⟩), .agg #[.int .i64 4, .int .i64 2], .agg #[.int .i64 1, .int .i64 1], .string ⟨#[113]⟩] W fun e w' => e = .returned (.int .i64 12) ∧ KT w w.heap.size k3 w') := Lib.hid fun W h => by
    have h9 := h.insert ⟨4, 2⟩ ⟨1, 1⟩ ⟨#[113]⟩ (by decide) (by decide +kernel)
    rw [kins4.1, kins4.2] at h9
    exact h9
  have TX : Hid (∀ W, KT w w.heap.size k3 W → Calls Tryz.prog 21 #[.pointer (some ⟨w.heap.size, 0, none⟩)] W fun e w' => e = .returned (.string ⟨#[104, 122, 120, 195, 169, 121]⟩) ∧ Kept (fun _ => False) W w') := Lib.hid fun W h => by
    have h9 := h.2.text (by decide)
    rw [ktext.1] at h9
    exact h9
  go_enter Tryz.func8, Tryz.ntmps8
  go_upto_region 4 with (first
    | (go_at_call 9; refine (new_any _).mono ?_; rintro e w' ⟨rfl, rfl⟩; have K0 := Lib.hid ST.out)
    | (go_at_call 20; refine (id_any _ _ _).mono ?_; rintro e w' ⟨rfl, hg⟩; first | have K3 := Lib.hid (K3.out.still hg.kept) | have K2 := Lib.hid (K2.out.still hg.kept) | have K1 := Lib.hid (K1.out.still hg.kept) | have K0 := Lib.hid (K0.out.still hg.kept); clear hg)
    | (go_at_call 19; with_reducible refine (I4.out _ K3.out).mono ?_; rintro e w' ⟨rfl, ht⟩; have K3 := Lib.hid ht; clear ht)
    | (go_at_call 19; with_reducible refine (I3.out _ K2.out).mono ?_; rintro e w' ⟨rfl, ht⟩; have K3 := Lib.hid ht; clear ht)
    | (go_at_call 19; with_reducible refine (I2.out _ K1.out).mono ?_; rintro e w' ⟨rfl, ht⟩; have K2 := Lib.hid ht; clear ht)
    | (go_at_call 19; with_reducible refine (I1.out _ K0.out).mono ?_; rintro e w' ⟨rfl, ht⟩; have K1 := Lib.hid ht; clear ht)
    | (go_at_call 21; refine (TX.out _ K3.out).mono ?_; rintro e w' ⟨rfl, ht⟩; have K3 := Lib.hid (K3.out.still ht); clear ht))
  obtain ⟨W4, hW4⟩ : ∃ W4 : World, W4 = w' := ⟨_, rfl⟩
  rw [← hW4] at K3 ⊢
  clear hW4 I1 I2 I3 I4 TX ST
  have T4 := Lib.hid K3.out.2.low
  go_upto_region 5 with (go_at_call 22; refine (T4.out.look (by decide) 1).mono ?_; rw [kfind.2]; rintro e w5 ⟨rfl, hk5⟩)
  have hA := Blk.new w5 37 #[.int .i64 4, .int .i64 3]
  have hk6 : Kept (fun _ => False) W4 (w5.alloc (.cells #[.int .i64 4, .int .i64 3] 37)) := hk5.alloc _
  have hza := hk5.size
  have T6 := Lib.hid (T4.out.still hk6)
  have KK6 := Lib.hid hk6
  have KT4 := Lib.hid K3.out.1
  have HA := Lib.hid hA
  have HZ := Lib.hid hza
  obtain ⟨za, hz⟩ : ∃ za, w5.heap.size = za := ⟨_, rfl⟩
  obtain ⟨w6, hw6⟩ : ∃ w6, w5.alloc (.cells #[.int .i64 4, .int .i64 3] 37) = w6 := ⟨_, rfl⟩
  rw [hz] at HZ HA ⊢
  rw [hw6] at HA T6 KK6 ⊢
  clear hw6 hz hA hk6 hza hk5 K3 T4
  go_upto_region 6 with (go_at_call 23; refine (T6.out.span (by decide) kspan.1).mono ?_; rintro e w7 ⟨⟨v, T, rfl, hT, ho⟩, hk7⟩)
  have hKW : KW w W4 w.heap.size za v k3 w7 := by
    rw [kspan.2 T hT] at ho
    exact ⟨T6.out.still hk7, (KT4.out.trans KK6.out fun _ _ h => h).trans hk7 fun _ _ h => h, hk7.blk (fun h => h) HA.out, HZ.out, owns_slAt ho, fun b hb => Nat.le_trans KK6.out.size (owns_lt ho b hb).1, Nat.le_trans KK6.out.size hk7.size⟩
  have K := Lib.hid hKW
  clear hKW hT ho hk7 HA HZ T6 KK6 KT4
  go_upto_region 10 with (first
    | (go_at_call 20; refine (id_any _ _ _).mono ?_; rintro e w' ⟨rfl, hg⟩; have K := Lib.hid (K.out.still hg.kept); clear hg)
    | (go_at_call 24; refine K.out.del.mono ?_; rintro e w' ⟨rfl, ht⟩; have K := Lib.hid ht; clear ht)
    | (go_at_call 26; refine K.out.set.mono ?_; rintro e w' ⟨rfl, ht⟩; have K := Lib.hid ht; clear ht)
    | (go_at_call 25; refine K.out.find.mono ?_; rintro e w' ⟨rfl, ht⟩; have K := Lib.hid ht; clear ht)
    | (go_at_call 27; refine K.out.coll.mono ?_; rintro e w' ⟨rfl, ht⟩; have K := Lib.hid ht; clear ht))
  have c0 := K.out.a.cell' (i := 0) (v := .int .i64 4) rfl
  have c1 := K.out.a.cell' (i := 1) (v := .int .i64 3) rfl
  have K := Lib.hid (K.out.still ((Kept.refl _ _).drew))
  go_region_held3 (fun w' : World => w'.cell? ⟨za, 0, none⟩ = some (.int .i64 4) ∧ w'.cell? ⟨za, 1, none⟩ = some (.int .i64 3)) (first | exact ⟨K.out.a.cell' rfl, K.out.a.cell' rfl⟩ | go_keep) (first
    | (go_at_call 20; refine (id_any _ _ _).mono ?_; rintro e w'' ⟨rfl, hg⟩; have K := Lib.hid (K.out.still hg.kept); clear hg)
    | (go_at_call 28; refine K.out.runs.mono ?_; rintro e w' ⟨rfl, ht⟩; have K := Lib.hid ht; clear ht)
    | (go_at_call 21; refine K.out.text.mono ?_; rintro e w' ⟨rfl, ht⟩; have K := Lib.hid ht; clear ht)
    | (go_at_call 29; refine K.out.many.mono ?_; rintro e w' ⟨rfl, ht⟩; have K := Lib.hid ht; clear ht)
    | (go_at_call 30; refine K.out.len.mono ?_; rintro e w' ⟨rfl, ht⟩; have K := Lib.hid ht; clear ht))
  go_wp2
  go_ret
  exact ⟨rfl, K.out.kept⟩
end Go.Proofs.YtlafodnaifghcaaGreat.Tr
namespace Go.Proofs.YtlafodnaifghcaaGreat.Tr
open Go.RowKit Go.Sort Go.Proofs.YtlafodnaifghcaaGreat.St Go.Proofs.YtlafodnaifghcaaGreat Go.Proofs.YtlafodnaifghcaaGreat.Gl
section
open Go.ChangeShapes Go.WideShapes Go.Deep
variable {H : Type} {enc : TypeId × Value → H} {w : World} {base b0 : Nat} {spare : Nat → Bool} {held : Bool}
theorem fields_node : ∃ f0 f1 f2 f3 : Field, Tryz.prog.underlying 45 = some (.struct #[f0, f1, f2, f3]) ∧ (f0.offset = 0 ∧ f1.offset = 2 ∧ f2.offset = 4 ∧ f3.offset = 5) ∧
    f0.type = 37 ∧ f1.type = 37 ∧ f2.type = 21 ∧ f3.type = 3 :=
  ⟨_, _, _, _, Tryz.underlying45, ⟨rfl, rfl, rfl, rfl⟩, rfl, rfl, rfl, rfl⟩
theorem cells_i32 : Tryz.prog.cellsOf 21 = 1 := by kernel_rfl
theorem cells_node : Tryz.prog.cellsOf 45 = 6 := by kernel_rfl
set_option maxRecDepth 100000 in
theorem elem_node (n : Nat) (cs : List Value) (d : DataW H × List MemPlace) (h : DataW.trod enc Tryz.prog w base spare held n 45 cs = some d) : ∃ x : Nd, cs = nodeE.enc x ∧ True := by
  obtain ⟨f0, f1, f2, f3, hs, ⟨o0, o1, o2, o3⟩, e0, e1, e2, e3⟩ := fields_node
  obtain ⟨ys, n', _, _, hlen, hyl, hg⟩ := DataW.trod_struct hs h
  rw [cells_node] at hlen
  match cs, hlen with
  | [c0, c1, c2, c3, c4, c5], _ =>
    match ys, hyl with
    | [y0, y1, y2, y3], _ =>
      have g0 := hg 0 f0 rfl
      have g1 := hg 1 f1 rfl
      have g2 := hg 2 f2 rfl
      have g3 := hg 3 f3 rfl
      rw [o0, e0, cells_id] at g0
      rw [o1, e1, cells_id] at g1
      rw [o2, e2, cells_i32] at g2
      rw [o3, e3, cells_int] at g3
      obtain ⟨x0, z0, _⟩ := elem_id2 _ _ _ g0
      obtain ⟨x1, z1, _⟩ := elem_id2 _ _ _ g1
      obtain ⟨n2, z2, _, _⟩ := DataW.trod_int Tryz.underlying21 g2
      obtain ⟨n3, z3, _, _⟩ := DataW.trod_int Tryz.underlying3 g3
      simp at z2 z3
      simp [idE] at z0 z1
      obtain ⟨rfl, rfl⟩ := z0
      obtain ⟨rfl, rfl⟩ := z1
      subst z2 z3
      exact ⟨⟨x0, x1, n2, n3⟩, rfl, trivial⟩
set_option maxRecDepth 100000 in
theorem open_nodes {r : Reach} {v : Value} {d : DataW H} {ps : List MemPlace} (hv : Value.okWide Tryz.prog w r b0 31 v)
    (h : DataW.Trod enc Tryz.prog w base spare held 31 v d ps) : ∃ L, SlAt nodeE w v L ∧ ∀ s ∈ L, True :=
  open_rows nodeE Tryz.underlying31 cells_node elem_node hv h
end
theorem lit_node7 (w : World) (c : Int) : SlAt nodeE (w.alloc (.cells #[.int .i64 0, .int .i64 0, .int .i64 0, .int .i64 0, .int .i32 0, .int .i64 c] 45)) (.slice (some ⟨w.heap.size, 0, none⟩) 1 1) [(⟨⟨0, 0⟩, ⟨0, 0⟩, 0, c⟩ : Nd)] :=
  SlAt.lit (E := nodeE) [⟨⟨0, 0⟩, ⟨0, 0⟩, 0, c⟩] _ rfl (by show 1 ≤ maxLen; decide)
theorem offs_each : ∀ {L : List Nd} {seen : List ID}, offsC seen L = 0 → ∀ n ∈ L, n.id.Is ∧ isRuneP n.rune ∧ 1 ≤ n.st ∧ n.st ≤ 3
  | [], _, _, n, hn => by simp at hn
  | x :: r, seen, h, n, hn => by
    unfold offsC at h
    split at h
    · exact absurd h (by assumption)
    · next hx =>
      have h0 : offC seen x = 0 := by
        by_cases hz : offC seen x = 0
        · exact hz
        · exact absurd hz hx
      obtain ⟨a, _, _, _, _, b, c, d⟩ := off_ok h0
      rcases List.mem_cons.1 hn with rfl | hn
      · exact ⟨a, b, c, d⟩
      · exact offs_each h n hn
theorem load_each {L : List Nd} (h : loadC L = 0) : ∀ n ∈ L, n.id.Is ∧ isRuneP n.rune ∧ 1 ≤ n.st ∧ n.st ≤ 3 := by
  unfold loadC at h
  split at h
  · exact absurd h (by assumption)
  · next hx => exact offs_each (by by_cases hz : offsC [] L = 0; exact hz; exact absurd hz hx)
/-- a tree and a row that lie behind w2, boxed -/
theorem pj_loaded {w w2 w3 w4 : World} {g : Nat} {L : List Nd} {A : ID → Nat} {S : ID → Rw} {mp : Option Nat} {u : Value} (k2 : Kept (fun _ => False) w w2) (k3 : Kept (fun _ => False) w2 w3) (k4 : Kept (fun _ => False) w3 w4) (hz : loadC L = 0) (ht : TAt w3 g L A S mp) (hd : Doc L) (hf : ∀ b, foot g L A S mp b → w2.heap.size ≤ b)
    (ho : w4.ownsRow w3.heap.size 45 6 u L.length (nodeE.flat L)) :
    PJ w w4.heap.size g L u (fun b => w2.heap.size ≤ b ∧ b < w4.heap.size) (w4.alloc (.cells #[u] 33)) := by
  have hlow : ∀ b, u.ownBlock = some b → w3.heap.size ≤ b ∧ b < w4.heap.size := fun b hb => ⟨owns_new ho b hb, by
    obtain ⟨_, ⟨rfl, _⟩ | ⟨g', cap, rfl, _, hO⟩⟩ := own_of (E := nodeE) ho
    · cases hb
    · cases hb; exact hO.lt⟩
  have hb : TBox w3 g L fun b => w2.heap.size ≤ b := ⟨⟨A, S, mp, ht, hf⟩, hd, fun n hn => (load_each hz n hn).1⟩
  have hp : PT w w4 g L L u (fun b => w2.heap.size ≤ b ∧ b < w4.heap.size) :=
    ⟨(k2.trans k3 fun _ _ h => h).trans k4 fun _ _ h => h, ⟨_, hb.low.still k4, fun b hb => ⟨⟨hb.1, Nat.lt_of_lt_of_le hb.2 k4.size⟩, fun e => by have := (hlow b e).1; have := hb.2; omega⟩⟩, owns_slAt (E := nodeE) ho, rowV_owns (E := nodeE) ho, fun b hb => ⟨Nat.le_trans k3.size (hlow b hb).1, (hlow b hb).2⟩, fun b hb => ⟨Nat.le_trans k2.size hb.1, hb.2⟩⟩
  exact hp.boxed
end Go.Proofs.YtlafodnaifghcaaGreat.Tr
