/- known: what the document fixes. More calls on a document made behind w0. Arguments opened for the laws of laid inserts: pieces, runs (with where their row lies). A document is told by the set of its elements: plainly. -/
import Derived.Test.YtlafodnaifghcaaK33
import Derived.Test.YtlafodnaifghcaaK36
import Derived.Deep.RegionHeld3
import Derived.Test.YtlafodnaifghcaaK34
import Derived.Test.YtlafodnaifghcaaK25
import Derived.Test.YtlafodnaifghcaaK14
import Derived.Test.YtlafodnaifghcaaK3
namespace Go.Proofs.Ytlafodnaifghcaa.Tr
open Go.RowKit Go.Sort Go.Proofs.Ytlafodnaifghcaa.St Go.Proofs.Ytlafodnaifghcaa.Gl Go.Proofs.Ytlafodnaifghcaa
/-- the runs that are told -/
def kruns : List Run := [⟨⟨1, 1⟩, 3⟩, ⟨⟨4, 2⟩, 1⟩, ⟨⟨4, 3⟩, 1⟩]
/-- behind the inserts: the document's blocks are those up to W; an identifier and runs lie behind them -/
structure KW (w W : World) (g : Nat) (za : Nat) (v : Value) (L : List Nd) (Wc : World) : Prop where
  box : TBox Wc g L fun b => w.heap.size ≤ b ∧ b < W.heap.size
  kept : Kept (fun _ => False) w Wc
  a : Blk Wc za 27 #[.int .i64 4, .int .i64 3]
  za : W.heap.size ≤ za
  row : SlAt runE Wc v kruns
  far : ∀ b, v.ownBlock = some b → W.heap.size ≤ b
  size : W.heap.size ≤ Wc.heap.size
variable {w W Wc : World} {g za : Nat} {v : Value} {L : List Nd}
theorem KW.still {w' : World} (h : KW w W g za v L Wc) (hk : Kept (fun _ => False) Wc w') : KW w W g za v L w' :=
  ⟨h.box.still hk, h.kept.trans hk fun _ _ h => h, hk.blk (fun h => h) h.a, h.za, h.row.kept hk, h.far, Nat.le_trans h.size hk.size⟩
theorem KW.turned {w' : World} {L' : List Nd} (h : KW w W g za v L Wc) (ht : TBox w' g L' fun b => w.heap.size ≤ b ∧ b < W.heap.size) (hk : Kept (fun b => w.heap.size ≤ b ∧ b < W.heap.size) Wc w') : KW w W g za v L' w' :=
  ⟨ht, h.kept.trans hk fun b hb h9 => by omega, hk.blk (fun h9 => by have := h.za; omega) h.a, h.za, h.row.keep hk fun b hb _ h9 => by have := h.far b hb; omega, h.far, Nat.le_trans h.size hk.size⟩
theorem KW.lit (h : KW w W g za v L Wc) (n c : Nat) : ∀ b', (Value.slice (some ⟨Wc.heap.size, 0, none⟩) n c).ownBlock = some b' → ¬ (w.heap.size ≤ b' ∧ b' < W.heap.size) := fun b' h1 h2 => by
  have h3 : b' = Wc.heap.size := by simpa [Value.ownBlock] using h1.symm
  have := h.size
  omega
theorem KW.del (h : KW w W g za v k3 Wc) : Calls Try.prog 14 #[.pointer (some ⟨g, 0, none⟩), .slice (some ⟨Wc.heap.size, 0, none⟩) 1 1] (Wc.alloc (.cells #[.int .i64 1, .int .i64 1, .int .i64 3] 61)) fun e w' => e = .returned (.int .i64 3) ∧ KW w W g za v k4 w' := by
  have h2 := h.still ((Kept.refl _ Wc).alloc (.cells #[.int .i64 1, .int .i64 1, .int .i64 3] 61))
  refine (h2.box.delete (by decide) (SlAt.lit [⟨⟨1, 1⟩, 3⟩] #[.int .i64 1, .int .i64 1, .int .i64 3] rfl (by simp [maxLen])) (fun r hr => by rw [List.mem_singleton.1 hr]; simp [Run.In, I64]) (by decide) fun b hb _ => h.lit 1 1 b hb).mono ?_
  rintro e w' ⟨he, h3, h4⟩
  rw [kdel.1] at he
  rw [kdel.2] at h3
  exact ⟨he, h2.turned h3 h4⟩
theorem KW.set (h : KW w W g za v k4 Wc) : Calls Try.prog 15 #[.pointer (some ⟨g, 0, none⟩), .slice (some ⟨Wc.heap.size, 0, none⟩) 1 1] (Wc.alloc (.cells #[.int .i64 2, .int .i64 1, .int .i64 2] 61)) fun e w' => e = .returned (.int .i64 2) ∧ KW w W g za v k5 w' := by
  have h2 := h.still ((Kept.refl _ Wc).alloc (.cells #[.int .i64 2, .int .i64 1, .int .i64 2] 61))
  refine (h2.box.settle (by decide) (SlAt.lit [⟨⟨2, 1⟩, 2⟩] #[.int .i64 2, .int .i64 1, .int .i64 2] rfl (by simp [maxLen])) (fun r hr => by rw [List.mem_singleton.1 hr]; simp [Run.In, I64]) (by decide) fun b hb _ => h.lit 1 1 b hb).mono ?_
  rintro e w' ⟨he, h3, h4⟩
  rw [ksettle.1] at he
  rw [ksettle.2] at h3
  exact ⟨he, h2.turned h3 h4⟩
theorem KW.coll (h : KW w W g za v k5 Wc) : Calls Try.prog 16 #[.pointer (some ⟨g, 0, none⟩)] Wc fun e w' => e = .returned (.int .i64 2) ∧ KW w W g za v k6 w' := by
  refine (h.box.collect (by decide)).mono ?_
  rintro e w' ⟨he, h3, h4⟩
  rw [kcoll.1] at he
  rw [kcoll.2] at h3
  exact ⟨he, h.turned h3 h4⟩
theorem KW.runs (h : KW w W g za v L Wc) : Calls Try.prog 25 #[v, .slice (some ⟨Wc.heap.size, 0, none⟩) 3 3] (Wc.alloc (.cells #[.int .i64 1, .int .i64 1, .int .i64 3, .int .i64 4, .int .i64 2, .int .i64 1, .int .i64 4, .int .i64 3, .int .i64 1] 61)) fun e w' => e = .returned (.bool true) ∧ KW w W g za v L w' := by
  have h2 := h.still ((Kept.refl _ Wc).alloc (.cells #[.int .i64 1, .int .i64 1, .int .i64 3, .int .i64 4, .int .i64 2, .int .i64 1, .int .i64 4, .int .i64 3, .int .i64 1] 61))
  refine (lruns_eq h2.row (SlAt.lit kruns _ rfl (by simp [maxLen, kruns])) (by decide)).mono ?_
  rintro e w' ⟨he, q, rfl⟩
  exact ⟨he, h2.still ((Kept.refl _ _).drewN q)⟩
theorem KW.text (h : KW w W g za v k6 Wc) : Calls Try.prog 17 #[.pointer (some ⟨g, 0, none⟩)] Wc fun e w' => e = .returned (.string ⟨#[122, 120]⟩) ∧ KW w W g za v k6 w' := by
  refine (h.box.text (by decide)).mono ?_
  rintro e w' ⟨he, h4⟩
  rw [ktext.2.1] at he
  exact ⟨he, h.still h4⟩
theorem KW.len (h : KW w W g za v k6 Wc) : Calls Try.prog 18 #[.pointer (some ⟨g, 0, none⟩)] Wc fun e w' => e = .returned (.int .i64 2) ∧ KW w W g za v k6 w' := by
  refine (h.box.len (by decide)).mono ?_
  rintro e w' ⟨he, h4⟩
  rw [ktext.2.2.1] at he
  exact ⟨he, h.still h4⟩
theorem KW.many (h : KW w W g za v k6 Wc) : Calls Try.prog 19 #[.pointer (some ⟨g, 0, none⟩)] Wc fun e w' => e = .returned (.int .i64 3) ∧ KW w W g za v k6 w' := by
  refine h.box.kept.mono ?_
  rintro e w' ⟨he, rfl⟩
  exact ⟨he, h⟩
theorem KW.find (h : KW w W g za v k4 Wc) : Calls Try.prog 12 #[.pointer (some ⟨g, 0, none⟩), .agg #[.int .i64 2, .int .i64 1]] Wc fun e w' => e = .returned (.tuple #[.int .i64 2, .int .i64 2]) ∧ KW w W g za v k4 w' := by
  refine (h.box.find (by decide) ⟨2, 1⟩).mono ?_
  rintro e w' ⟨he, h4⟩
  rw [kfind.1] at he
  exact ⟨he, h.still h4⟩
set_option maxRecDepth 100000 in
set_option maxHeartbeats 8000000 in
theorem known_any (w : World) : Calls Try.prog 9 #[] w fun e w' => e = .returned (.bool true) ∧ Kept (fun _ => False) w w' := by
  have ST := Lib.hid (KT.made w)
  have I1 : Hid (∀ W, KT w w.heap.size [] W → Calls Try.prog 13 #[.pointer (some ⟨w.heap.size, 0, none⟩), .agg #[.int .i64 1, .int .i64 1], .agg #[.int .i64 0, .int .i64 0], .string ⟨#[104, 195, 169, 121]⟩] W fun e w' => e = .returned (.int .i64 0) ∧ KT w w.heap.size k1 w') := Lib.hid fun W h => by
    have h9 := h.insert ⟨1, 1⟩ ⟨0, 0⟩ sHey (by decide) (by decide +kernel)
    rw [kins1.1, kins1.2] at h9
    exact h9
  have I2 : Hid (∀ W, KT w w.heap.size k1 W → Calls Try.prog 13 #[.pointer (some ⟨w.heap.size, 0, none⟩), .agg #[.int .i64 4, .int .i64 2], .agg #[.int .i64 1, .int .i64 1], .string ⟨#[120]⟩] W fun e w' => e = .returned (.int .i64 0) ∧ KT w w.heap.size k2 w') := Lib.hid fun W h => by
    have h9 := h.insert ⟨4, 2⟩ ⟨1, 1⟩ ⟨#[120]⟩ (by decide) (by decide +kernel)
    rw [kins2.1, kins2.2] at h9
    exact h9
  have I3 : Hid (∀ W, KT w w.heap.size k2 W → Calls Try.prog 13 #[.pointer (some ⟨w.heap.size, 0, none⟩), .agg #[.int .i64 4, .int .i64 3], .agg #[.int .i64 1, .int .i64 1], .string ⟨#[122]⟩] W fun e w' => e = .returned (.int .i64 0) ∧ KT w w.heap.size k3 w') := Lib.hid fun W h => by
    have h9 := h.insert ⟨4, 3⟩ ⟨1, 1⟩ ⟨#[122]⟩ (by decide) (by decide +kernel)
    rw [kins3.1, kins3.2] at h9
    exact h9
  have I4 : Hid (∀ W, KT w w.heap.size k3 W → Calls Try.prog 13 #[.pointer (some ⟨w.heap.size, 0, none⟩), .agg #[.int .i64 4, .int .i64 2], .agg #[.int .i64 1, .int .i64 1], .string ⟨#[113]⟩] W fun e w' => e = .returned (.int .i64 12) ∧ KT w w.heap.size k3 w') := Lib.hid fun W h => by
    have h9 := h.insert ⟨4, 2⟩ ⟨1, 1⟩ ⟨#[113]⟩ (by decide) (by decide +kernel)
    rw [kins4.1, kins4.2] at h9
    exact h9
  have TX : Hid (∀ W, KT w w.heap.size k3 W → Calls Try.prog 17 #[.pointer (some ⟨w.heap.size, 0, none⟩)] W fun e w' => e = .returned (.string ⟨#[104, 122, 120, 195, 169, 121]⟩) ∧ Kept (fun _ => False) W w') := Lib.hid fun W h => by
    have h9 := h.2.text (by decide)
    rw [ktext.1] at h9
    exact h9
  go_enter Try.func9, Try.ntmps9
  go_upto_region 4 with (first
    | (go_at_call 23; refine (new_any _).mono ?_; rintro e w' ⟨rfl, rfl⟩; have K0 := Lib.hid ST.out)
    | (go_at_call 28; refine (id_any _ _ _).mono ?_; rintro e w' ⟨rfl, hg⟩; first | have K3 := Lib.hid (K3.out.still hg.kept) | have K2 := Lib.hid (K2.out.still hg.kept) | have K1 := Lib.hid (K1.out.still hg.kept) | have K0 := Lib.hid (K0.out.still hg.kept); clear hg)
    | (go_at_call 13; with_reducible refine (I4.out _ K3.out).mono ?_; rintro e w' ⟨rfl, ht⟩; have K3 := Lib.hid ht; clear ht)
    | (go_at_call 13; with_reducible refine (I3.out _ K2.out).mono ?_; rintro e w' ⟨rfl, ht⟩; have K3 := Lib.hid ht; clear ht)
    | (go_at_call 13; with_reducible refine (I2.out _ K1.out).mono ?_; rintro e w' ⟨rfl, ht⟩; have K2 := Lib.hid ht; clear ht)
    | (go_at_call 13; with_reducible refine (I1.out _ K0.out).mono ?_; rintro e w' ⟨rfl, ht⟩; have K1 := Lib.hid ht; clear ht)
    | (go_at_call 17; refine (TX.out _ K3.out).mono ?_; rintro e w' ⟨rfl, ht⟩; have K3 := Lib.hid (K3.out.still ht); clear ht))
  obtain ⟨W4, hW4⟩ : ∃ W4 : World, W4 = w' := ⟨_, rfl⟩
  rw [← hW4] at K3 ⊢
  clear hW4 I1 I2 I3 I4 TX ST
  have T4 := Lib.hid K3.out.2.low
  go_upto_region 5 with (go_at_call 10; refine (T4.out.look (by decide) 1).mono ?_; rw [kfind.2]; rintro e w5 ⟨rfl, hk5⟩)
  have hA := Blk.new w5 27 #[.int .i64 4, .int .i64 3]
  have hk6 : Kept (fun _ => False) W4 (w5.alloc (.cells #[.int .i64 4, .int .i64 3] 27)) := hk5.alloc _
  have hza := hk5.size
  have T6 := Lib.hid (T4.out.still hk6)
  have KK6 := Lib.hid hk6
  have KT4 := Lib.hid K3.out.1
  have HA := Lib.hid hA
  have HZ := Lib.hid hza
  obtain ⟨za, hz⟩ : ∃ za, w5.heap.size = za := ⟨_, rfl⟩
  obtain ⟨w6, hw6⟩ : ∃ w6, w5.alloc (.cells #[.int .i64 4, .int .i64 3] 27) = w6 := ⟨_, rfl⟩
  rw [hz] at HZ HA ⊢
  rw [hw6] at HA T6 KK6 ⊢
  clear hw6 hz hA hk6 hza hk5 K3 T4
  go_upto_region 6 with (go_at_call 11; refine (T6.out.span (by decide) kspan.1).mono ?_; rintro e w7 ⟨⟨v, T, rfl, hT, ho⟩, hk7⟩)
  have hKW : KW w W4 w.heap.size za v k3 w7 := by
    rw [kspan.2 T hT] at ho
    exact ⟨T6.out.still hk7, (KT4.out.trans KK6.out fun _ _ h => h).trans hk7 fun _ _ h => h, hk7.blk (fun h => h) HA.out, HZ.out, owns_slAt ho, fun b hb => Nat.le_trans KK6.out.size (owns_lt ho b hb).1, Nat.le_trans KK6.out.size hk7.size⟩
  have K := Lib.hid hKW
  clear hKW hT ho hk7 HA HZ T6 KK6 KT4
  go_upto_region 10 with (first
    | (go_at_call 28; refine (id_any _ _ _).mono ?_; rintro e w' ⟨rfl, hg⟩; have K := Lib.hid (K.out.still hg.kept); clear hg)
    | (go_at_call 14; refine K.out.del.mono ?_; rintro e w' ⟨rfl, ht⟩; have K := Lib.hid ht; clear ht)
    | (go_at_call 15; refine K.out.set.mono ?_; rintro e w' ⟨rfl, ht⟩; have K := Lib.hid ht; clear ht)
    | (go_at_call 12; refine K.out.find.mono ?_; rintro e w' ⟨rfl, ht⟩; have K := Lib.hid ht; clear ht)
    | (go_at_call 16; refine K.out.coll.mono ?_; rintro e w' ⟨rfl, ht⟩; have K := Lib.hid ht; clear ht))
  have c0 := K.out.a.cell' (i := 0) (v := .int .i64 4) rfl
  have c1 := K.out.a.cell' (i := 1) (v := .int .i64 3) rfl
  have K := Lib.hid (K.out.still ((Kept.refl _ _).drew))
  go_region_held3 (fun w' : World => w'.cell? ⟨za, 0, none⟩ = some (.int .i64 4) ∧ w'.cell? ⟨za, 1, none⟩ = some (.int .i64 3)) (first | exact ⟨K.out.a.cell' rfl, K.out.a.cell' rfl⟩ | go_keep) (first
    | (go_at_call 28; refine (id_any _ _ _).mono ?_; rintro e w'' ⟨rfl, hg⟩; have K := Lib.hid (K.out.still hg.kept); clear hg)
    | (go_at_call 25; refine K.out.runs.mono ?_; rintro e w' ⟨rfl, ht⟩; have K := Lib.hid ht; clear ht)
    | (go_at_call 17; refine K.out.text.mono ?_; rintro e w' ⟨rfl, ht⟩; have K := Lib.hid ht; clear ht)
    | (go_at_call 19; refine K.out.many.mono ?_; rintro e w' ⟨rfl, ht⟩; have K := Lib.hid ht; clear ht)
    | (go_at_call 18; refine K.out.len.mono ?_; rintro e w' ⟨rfl, ht⟩; have K := Lib.hid ht; clear ht))
  go_wp2
  go_ret
  exact ⟨rfl, K.out.kept⟩
end Go.Proofs.Ytlafodnaifghcaa.Tr
namespace Go.Proofs.Ytlafodnaifghcaa.Tr
open Go.RowKit Go.Sort Go.Proofs.Ytlafodnaifghcaa.St Go.Proofs.Ytlafodnaifghcaa.Gl Go.Proofs.Ytlafodnaifghcaa
section
variable {w0 w : World} {g : Nat} {L : List Nd}
theorem KT.del (h : KT w0 g L w) (hlen : L.length ≤ 900000) {v : Value} {rs : List Run} (hv : SlAt runE w0 v rs) (hin : ∀ r ∈ rs, r.In) (hrl : rs.length ≤ 1000000000) (hvb : ∀ b, v.ownBlock = some b → b < w0.heap.size) :
    Calls Try.prog 14 #[.pointer (some ⟨g, 0, none⟩), v] w fun e w' => e = .returned (.int .i64 (turnN rs 1 L)) ∧ KT w0 g (L.map (turnF rs 1 2)) w' := by
  refine (h.2.delete hlen (hv.kept h.1) hin hrl (fun b hb _ hF => by have := hvb b hb; omega)).mono ?_
  rintro e w' ⟨he, h3, h4⟩
  exact ⟨he, h.1.trans h4 fun b hb h9 => by omega, h3⟩
theorem KT.settle_ (h : KT w0 g L w) (hlen : L.length ≤ 900000) {v : Value} {rs : List Run} (hv : SlAt runE w0 v rs) (hin : ∀ r ∈ rs, r.In) (hrl : rs.length ≤ 1000000000) (hvb : ∀ b, v.ownBlock = some b → b < w0.heap.size) :
    Calls Try.prog 15 #[.pointer (some ⟨g, 0, none⟩), v] w fun e w' => e = .returned (.int .i64 (turnN rs 2 L)) ∧ KT w0 g (L.map (turnF rs 2 3)) w' := by
  refine (h.2.settle hlen (hv.kept h.1) hin hrl (fun b hb _ hF => by have := hvb b hb; omega)).mono ?_
  rintro e w' ⟨he, h3, h4⟩
  exact ⟨he, h.1.trans h4 fun b hb h9 => by omega, h3⟩
theorem KT.text (h : KT w0 g L w) (hlen : L.length ≤ 900000) : Calls Try.prog 17 #[.pointer (some ⟨g, 0, none⟩)] w fun e w' => e = .returned (.string (runeText ((shL L).map Nd.rune))) ∧ KT w0 g L w' :=
  (h.2.text hlen).mono fun _ _ ⟨he, hk⟩ => ⟨by rw [he]; unfold textB runeText; rw [List.flatMap_map], h.still hk⟩
theorem KT.len (h : KT w0 g L w) (hlen : L.length ≤ 900000) : Calls Try.prog 18 #[.pointer (some ⟨g, 0, none⟩)] w fun e w' => e = .returned (.int .i64 (shL L).length) ∧ KT w0 g L w' :=
  (h.2.len hlen).mono fun _ _ ⟨he, hk⟩ => ⟨he, h.still hk⟩
theorem KT.at_ (h : KT w0 g L w) (hlen : L.length ≤ 900000) {k : Nat} {x : Nd} (hx : (shL L)[k]? = some x) : Calls Try.prog 10 #[.pointer (some ⟨g, 0, none⟩), .int .i64 k] w fun e w' => e = .returned (.tuple #[.agg #[.int .i64 x.id.t, .int .i64 x.id.s], .int .i64 0]) ∧ KT w0 g L w' := by
  have hk := (List.getElem?_eq_some_iff.1 hx).1
  have e1 : atP L k = (x.id, 0) := by
    unfold atP
    rw [if_pos ⟨by omega, by omega⟩, show ((k : Int)).toNat = k by omega, nth_some hx]
  refine (h.2.look hlen k).mono fun _ _ ⟨he, hk⟩ => ⟨?_, h.still hk⟩
  rw [he, e1]
theorem KT.ins (h : KT w0 g L w) (x : Lad) (hs : x.text.size ≤ maxLen) (hlen : L.length + countR x.text ≤ 900000) :
    Calls Try.prog 13 #[.pointer (some ⟨g, 0, none⟩), .agg #[.int .i64 x.id.t, .int .i64 x.id.s], .agg #[.int .i64 x.ref.t, .int .i64 x.ref.s], .string x.text] w fun e w' => e = .returned (.int .i64 (insXE L x)) ∧ KT w0 g (insX L x) w' :=
  h.insert x.id x.ref x.text hs hlen
end
theorem LaidPost.form {w w' : World} {e : Ending} (h : LaidPost w e w') : Kept (fun _ => False) w w' ∧ ∃ a n c b, e = .returned (.tuple #[.slice a n c, .bool b]) ∧ (b = true → ∃ M t, n = M.length ∧ LaidOk M t ∧ M.length ≤ 60 ∧ w'.ownsRow w.heap.size 52 5 (.slice a n c) M.length (ladE.flat M)) := by
  obtain ⟨hk, rfl | ⟨u, M, t, rfl, h1, h2, h3⟩⟩ := h
  · exact ⟨hk, none, 0, 0, false, rfl, fun h => by cases h⟩
  · obtain ⟨a, c, rfl⟩ := owns_sl h3
    exact ⟨hk, a, M.length, c, true, rfl, fun _ => ⟨M, t, rfl, h1, h2, h3⟩⟩
theorem LaidOk.take_some {M : List Lad} {i : Nat} {x : Lad} (hx : M[i]? = some x) : M.take (i + 1) = M.take i ++ [x] := by rw [List.take_add_one, hx]; rfl
theorem KT.lad {w0 W : World} {g : Nat} {M : List Lad} {t i : Nat} {x : Lad} (hok : LaidOk M t) (hM : M.length ≤ 60) (hx : M[i]? = some x) (h : KT w0 g (insM (M.take i)) W) :
    Calls Try.prog 13 #[.pointer (some ⟨g, 0, none⟩), .agg #[.int .i64 x.id.t, .int .i64 x.id.s], .agg #[.int .i64 x.ref.t, .int .i64 x.ref.s], .string x.text] W fun e W' => e = .returned (.int .i64 0) ∧ KT w0 g (insM (M.take (i + 1))) W' := by
  obtain ⟨t', h1, _, h3, h4, h5, h6, _⟩ := hok.turn (by omega) i x hx
  have ht := hok.len.2
  have hl := (h1.ins (by rw [List.length_take]; omega)).len
  refine (h.ins x (by unfold maxLen; omega) (by omega)).mono ?_
  rintro e W' ⟨rfl, hk⟩
  refine ⟨?_, ?_⟩
  · rw [h6]
  · rw [LaidOk.take_some hx, insM_snoc]
    exact hk
end Go.Proofs.Ytlafodnaifghcaa.Tr
namespace Go.Proofs.Ytlafodnaifghcaa.Tr
open Go.RowKit Go.Proofs.Ytlafodnaifghcaa.St
open Go.ChangeShapes Go.WideShapes Go.Deep
variable {H : Type} {enc : TypeId × Value → H} {w : World} {base b0 : Nat} {spare : Nat → Bool} {held : Bool}
theorem okWide_blk {P : Program} {t e : TypeId} {r : Reach} {v : Value} (ht : P.underlying t = some (.slice e)) (hv : Value.okWide P w r b0 t v) : ∀ b, v.ownBlock = some b → b < w.heap.size := by
  obtain ⟨a, len, cap, rfl⟩ := okWide_slice ht hv
  intro b hb
  cases a with
  | none => simp [Value.ownBlock] at hb
  | some x =>
    have hb : x.block = b := by simpa [Value.ownBlock] using hb
    subst hb
    simp only [Value.okWide, ht, Cell.okWide, Cell.ok] at hv
    obtain ⟨_, _, _, _, row, cells, hs, _⟩ := hv
    rcases Nat.lt_or_ge x.block w.heap.size with h | h
    · exact h
    · unfold World.shape? at hs
      rw [Array.getElem?_eq_none h] at hs
      cases hs
theorem i64_of {n : Int} (h : (Lit.int .i64 n).wf = true) : I64 n := bounds_i64 h
set_option maxRecDepth 100000 in
theorem open_runs {r : Reach} {v : Value} {d : DataW H} {ps : List MemPlace} (hv : Value.okWide Try.prog w r b0 28 v)
    (h : DataW.Trod enc Try.prog w base spare held 28 v d ps) : ∃ L, SlAt runE w v L ∧ (∀ s ∈ L, s.In) ∧ ∀ b, v.ownBlock = some b → b < w.heap.size := by
  obtain ⟨L, h1, h2⟩ := open_rows runE Try.underlying28 cells_run elem_run2 hv h
  exact ⟨L, h1, h2, okWide_blk Try.underlying28 hv⟩
end Go.Proofs.Ytlafodnaifghcaa.Tr
namespace Go.Proofs.Ytlafodnaifghcaa.Tr
open Go.Proofs.Ytlafodnaifghcaa.St
theorem sorted_same : ∀ {A B : List Nd}, (A.Pairwise fun a b => b.id.lt a.id) → (B.Pairwise fun a b => b.id.lt a.id) → (∀ n, n ∈ A ↔ n ∈ B) → A = B
  | [], [], _, _, _ => rfl
  | [], b :: B, _, _, h => by have := (h b).2 List.mem_cons_self; simp at this
  | a :: A, [], _, _, h => by have := (h a).1 List.mem_cons_self; simp at this
  | a :: A, b :: B, hA, hB, h => by
    obtain ⟨a1, a2⟩ := List.pairwise_cons.1 hA
    obtain ⟨b1, b2⟩ := List.pairwise_cons.1 hB
    have e : a = b := by
      rcases List.mem_cons.1 ((h a).1 List.mem_cons_self) with h1 | h1
      · exact h1
      · rcases List.mem_cons.1 ((h b).2 List.mem_cons_self) with h2 | h2
        · exact h2.symm
        · exact absurd (ID.lt_trans (a1 b h2) (b1 a h1)) (ID.lt_irrefl _)
    subst e
    have hn : ∀ n, n ∈ A ↔ n ∈ B := by
      intro n
      constructor
      · intro hn
        rcases List.mem_cons.1 ((h n).1 (List.mem_cons_of_mem _ hn)) with h1 | h1
        · subst h1; exact absurd (a1 n hn) (ID.lt_irrefl _)
        · exact h1
      · intro hn
        rcases List.mem_cons.1 ((h n).2 (List.mem_cons_of_mem _ hn)) with h1 | h1
        · subst h1; exact absurd (b1 n hn) (ID.lt_irrefl _)
        · exact h1
    rw [sorted_same a2 b2 hn]
mutual
theorem flat_same {L L' : List Nd} (hk : ∀ s, kids L s = kids L' s) : ∀ (t t' : T), t.n = t'.n → (∀ u ∈ subs t, kids L u.n.id = u.ks.map T.n) → (∀ u ∈ subs t', kids L' u.n.id = u.ks.map T.n) → flat t = flat t'
  | .mk n ks, .mk n' ks', e, h, h' => by
    have e : n = n' := e
    subst e
    show n :: flats ks = n :: flats ks'
    have h1 := h (.mk n ks) List.mem_cons_self
    have h2 := h' (.mk n ks') List.mem_cons_self
    have e1 : ks.map T.n = ks'.map T.n := h1.symm.trans ((hk n.id).trans h2)
    rw [flats_same hk ks ks' e1 (fun u hu => h u (List.mem_cons_of_mem _ hu)) (fun u hu => h' u (List.mem_cons_of_mem _ hu))]
theorem flats_same {L L' : List Nd} (hk : ∀ s, kids L s = kids L' s) : ∀ (F F' : List T), F.map T.n = F'.map T.n → (∀ u ∈ subss F, kids L u.n.id = u.ks.map T.n) → (∀ u ∈ subss F', kids L' u.n.id = u.ks.map T.n) → flats F = flats F'
  | [], [], _, _, _ => rfl
  | [], t' :: ts', e, _, _ => by simp at e
  | t :: ts, [], e, _, _ => by simp at e
  | t :: ts, t' :: ts', e, h, h' => by
    have e : t.n :: ts.map T.n = t'.n :: ts'.map T.n := e
    injection e with e1 e2
    show flat t ++ flats ts = flat t' ++ flats ts'
    rw [flat_same hk t t' e1 (fun u hu => h u (List.mem_append.2 (.inl hu))) (fun u hu => h' u (List.mem_append.2 (.inl hu))),
      flats_same hk ts ts' e2 (fun u hu => h u (List.mem_append.2 (.inr hu))) (fun u hu => h' u (List.mem_append.2 (.inr hu)))]
end
theorem Doc.kids_sorted {L : List Nd} (h : Doc L) (s : ID) : (kids L s).Pairwise fun a b => b.id.lt a.id := by
  obtain ⟨F, rfl, hw, hnd⟩ := h
  by_cases hz : s = ID.zero
  · rw [hz, kids_root hw]
    exact hw.sorted
  · by_cases hs : s ∈ ids (flats F)
    · obtain ⟨n, hn, e⟩ := List.mem_map.1 hs
      rw [← subss_flat] at hn
      obtain ⟨u, hu, rfl⟩ := List.mem_map.1 hn
      rw [← e, kids_subs F hw hnd u hu]
      obtain ⟨r', hr'⟩ := WFs.sub F hw u hu
      exact ((WF.eq.1 hr').2.2).sorted
    · rw [kids_none]
      · exact List.Pairwise.nil
      · intro m hm e
        rcases hw.refs m hm with h1 | h1
        · exact hz (e.symm.trans h1)
        · exact hs (e ▸ h1)
/-- the same elements, the same document -/
theorem Doc.uniq {L L' : List Nd} (h : Doc L) (h' : Doc L') (hm : ∀ n, n ∈ L ↔ n ∈ L') : L = L' := by
  have hk : ∀ s, kids L s = kids L' s := fun s => sorted_same (h.kids_sorted s) (h'.kids_sorted s) fun n => by
    unfold kids
    rw [List.mem_filter, List.mem_filter, hm n]
  obtain ⟨F, e1, hw, hnd⟩ := h
  obtain ⟨F', e2, hw', hnd'⟩ := h'
  subst e1 e2
  have e : F.map T.n = F'.map T.n := (kids_root hw).symm.trans ((hk ID.zero).trans (kids_root hw'))
  exact flats_same hk F F' e (fun u hu => kids_subs F hw hnd u hu) (fun u hu => kids_subs F' hw' hnd' u hu)
theorem puts_mem {y : Nd} : ∀ {xs L : List Nd}, y ∈ puts L xs ↔ y ∈ L ∨ y ∈ xs
  | [], L => by simp [puts]
  | x :: xs, L => by
    show y ∈ puts (put L _ x) xs ↔ _
    rw [puts_mem, put_mem, List.mem_cons]
    constructor
    · rintro ((h | h) | h)
      · exact .inr (.inl h)
      · exact .inl h
      · exact .inr (.inr h)
    · rintro (h | h | h)
      · exact .inl (.inr h)
      · exact .inl (.inl h)
      · exact .inr h
/-- what may stand in a document one by one -/
theorem offs_doc {L : List Nd} (h : Doc L) (hi : ∀ n ∈ L, n.id.Is ∧ isRuneP n.rune ∧ 1 ≤ n.st ∧ n.st ≤ 3) : offsC [] L = 0 := by
  have hnd := h.nodup
  obtain ⟨F, hF, hw, _⟩ := h
  have key : ∀ (K P : List Nd), L = P ++ K → offsC (ids P) K = 0 := by
    intro K
    induction K with
    | nil => intro P _; rfl
    | cons x K ih =>
      intro P e
      have hx : x ∈ L := by rw [e]; simp
      obtain ⟨h1, h2, h3, h4⟩ := hi x hx
      have href : x.ref = ID.zero ∨ x.ref ∈ ids P := WFs.ahead F hw P K x (hF.trans e)
      have hrl : x.ref.lt x.id := by
        rw [← hF, ← subss_flat] at hx
        obtain ⟨u, hu, rfl⟩ := List.mem_map.1 hx
        obtain ⟨r', hr'⟩ := WFs.sub F hw u hu
        have := WF.eq.1 hr'
        rw [this.1]
        exact this.2.1
      have hnx : x.id ∉ ids P := by
        intro hm
        rw [e] at hnd
        have h9 : (ids P ++ ids (x :: K)).Nodup := by rw [← ids_append]; exact hnd
        exact (List.nodup_append.1 h9).2.2 x.id hm x.id (List.mem_map.2 ⟨x, List.mem_cons_self, rfl⟩) rfl
      have h0 : offC (ids P) x = 0 := by
        unfold offC
        rw [if_neg, if_neg, if_neg (fun h => h hrl), if_neg hnx, if_neg (fun h => href.elim h.1 h.2)]
        · rintro (h | h | h)
          · exact h h2
          · omega
          · omega
        · rintro (h | h)
          · exact h h1
          · rcases href with h5 | h5
            · exact h.1 h5
            · obtain ⟨n, hn, en⟩ := List.mem_map.1 h5
              exact h.2 (by rw [← en]; exact (hi n (by rw [e]; exact List.mem_append.2 (.inl hn))).1)
      unfold offsC
      rw [if_neg (fun h => h h0)]
      have h9 := ih (P ++ [x]) (by rw [e]; simp)
      rw [ids_append] at h9
      exact h9
  exact key L [] rfl
/-- a document's elements load as the document -/
theorem load_doc {L : List Nd} (h : Doc L) (hi : ∀ n ∈ L, n.id.Is ∧ isRuneP n.rune ∧ 1 ≤ n.st ∧ n.st ≤ 3) : loadC L = 0 ∧ puts [] L = L := by
  have h0 := offs_doc h hi
  have h1 : puts [] L = L := (puts_doc L [] Doc.nil h0).uniq h fun n => by rw [puts_mem]; simp
  refine ⟨?_, h1⟩
  unfold loadC
  rw [if_neg (fun hh => hh h0), if_pos h1]
end Go.Proofs.Ytlafodnaifghcaa.Tr
