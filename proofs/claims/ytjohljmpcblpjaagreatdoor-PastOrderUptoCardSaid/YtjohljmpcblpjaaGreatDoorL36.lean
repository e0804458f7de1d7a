/- What the document fixes: the calls of known, one by one. past.Text, past.Order. What operations say, apart from where their lists lie; what past tells of them hangs on that alone. hearsayref24.there, whole. -/
import Derived.Test.YtjohljmpcblpjaaGreatDoorL32
import Derived.Test.YtjohljmpcblpjaaGreatDoorL35
import Derived.Test.YtjohljmpcblpjaaGreatDoorL33
import Derived.Test.YtjohljmpcblpjaaGreatDoorL21
import Derived.Deep.RegionHeld3
namespace Go.Proofs.YtjohljmpcblpjaaGreatDoor.Tr
open Go.RowKit Go.Proofs.YtjohljmpcblpjaaGreatDoor.St Go.Proofs.YtjohljmpcblpjaaGreatDoor.Gl Go.Proofs.YtjohljmpcblpjaaGreatDoor
theorem insE_is0 {L : List Nd} {i ref : ID} {sz : Nat} {bad : Bool} {rs : List Int} (h1 : i.Is ∧ (ref = ID.zero ∨ ref.Is)) (h2 : sz ≠ 0 ∧ bad = false) (h3 : i.t + rs.length - 1 ≤ 2147483647) (h4 : ref.lt i) (h5 : ref = ID.zero ∨ ref ∈ ids L) (h6 : ¬ ∃ m ∈ L, m.id.s = i.s ∧ i.t ≤ m.id.t ∧ m.id.t - i.t < rs.length) : insE L i ref sz bad rs = 0 := by
  have h7 : ¬ hasAny L i rs.length := fun h => h6 ((hasAny_iff L i rs.length).1 h)
  unfold insE
  rw [if_neg (fun h => h.elim (fun h => h h1.1) fun h => h1.2.elim h.1 h.2), if_neg (fun h => h.elim h2.1 (fun h => by rw [h2.2] at h; cases h)), if_neg (by omega), if_neg (fun h => h h4), if_neg (fun h => h5.elim h.1 h.2), if_neg h7]
theorem insE_is12 {L : List Nd} {i ref : ID} {sz : Nat} {bad : Bool} {rs : List Int} (h1 : i.Is ∧ (ref = ID.zero ∨ ref.Is)) (h2 : sz ≠ 0 ∧ bad = false) (h3 : i.t + rs.length - 1 ≤ 2147483647) (h4 : ref.lt i) (h5 : ref = ID.zero ∨ ref ∈ ids L) (h6 : ∃ m ∈ L, m.id.s = i.s ∧ i.t ≤ m.id.t ∧ m.id.t - i.t < rs.length) : insE L i ref sz bad rs = 12 := by
  have h7 : hasAny L i rs.length := (hasAny_iff L i rs.length).2 h6
  unfold insE
  rw [if_neg (fun h => h.elim (fun h => h h1.1) fun h => h1.2.elim h.1 h.2), if_neg (fun h => h.elim h2.1 (fun h => by rw [h2.2] at h; cases h)), if_neg (by omega), if_neg (fun h => h h4), if_neg (fun h => h5.elim h.1 h.2), if_pos h7]
/-- a document made behind w0 -/
def KT (w0 : World) (g : Nat) (L : List Nd) (w : World) : Prop := Kept (fun _ => False) w0 w ∧ TBox w g L fun b => w0.heap.size ≤ b
variable {w0 w w' : World} {g : Nat} {L : List Nd}
theorem KT.still (h : KT w0 g L w) (hk : Kept (fun _ => False) w w') : KT w0 g L w' := ⟨h.1.trans hk fun _ _ h => h, h.2.still hk⟩
theorem KT.made (w : World) : KT w w.heap.size [] (w.alloc (.cells #[.slice none 0 0, .map none] 187)) :=
  ⟨(Kept.refl _ _).alloc _, (TBox.made w).mono fun b hb => by rw [hb]; exact Nat.le_refl _⟩
theorem KT.insert (h : KT w0 g L w) (i ref : ID) (s : ByteArray) (hs : s.size ≤ maxLen) (hlen : L.length + countR s ≤ 900000) :
    Calls Tryz.prog 88 #[.pointer (some ⟨g, 0, none⟩), idV i, idV ref, .string s] w fun e w' => e = .returned (.int .i64 (insE L i ref s.size (badB s) (runesL s 0))) ∧ KT w0 g (insL L i ref s.size (badB s) (runesL s 0)) w' := by
  refine (h.2.insert i ref s hs hlen).mono ?_
  rintro e w' ⟨he, h1, h2⟩
  refine ⟨he, h.1.trans h2 fun b hb h9 => ?_, h1.mono fun b hb => ?_⟩
  · omega
  · rcases hb with hb | hb
    · exact hb
    · exact Nat.le_trans h.1.size hb.1
/-- runs handed over in a new row -/
theorem KT.lit (h : KT w0 g L w) (cs : Array Value) (t : TypeId) (b : Nat) (hb : b = w.heap.size) : TBox (w.alloc (.cells cs t)) g L (fun b => w0.heap.size ≤ b ∧ b < w.heap.size) ∧ ∀ n c, ∀ b', (Value.slice (some ⟨b, 0, none⟩) n c).ownBlock = some b' → b' < (w.alloc (.cells cs t)).heap.size → ¬ (w0.heap.size ≤ b' ∧ b' < w.heap.size) := by
  refine ⟨h.2.low.still ((Kept.refl _ _).alloc _), fun n c b' h1 _ h2 => ?_⟩
  have h3 : b' = b := by simpa [Value.ownBlock] using h1.symm
  omega
theorem KT.delete (h : KT w0 g L w) (hlen : L.length ≤ 900000) {cs : Array Value} {rs : List Run} (hcs : cs = (runE.flat rs).toArray) (hin : ∀ r ∈ rs, r.In) (hrl : rs.length ≤ 1000) :
    Calls Tryz.prog 90 #[.pointer (some ⟨g, 0, none⟩), .slice (some ⟨w.heap.size, 0, none⟩) rs.length rs.length] (w.alloc (.cells cs 89)) fun e w' => e = .returned (.int .i64 (turnN rs 1 L)) ∧ KT w0 g (L.map (turnF rs 1 2)) w' := by
  obtain ⟨h1, h2⟩ := h.lit cs 89 w.heap.size rfl
  refine (h1.delete hlen (SlAt.lit rs cs hcs (by unfold maxLen; omega)) hin (by omega) (h2 _ _)).mono ?_
  rintro e w' ⟨he, h3, h4⟩
  exact ⟨he, (h.1.alloc _).trans h4 fun b hb h9 => by omega, h3.mono fun b hb => hb.1⟩
theorem KT.settle (h : KT w0 g L w) (hlen : L.length ≤ 900000) {cs : Array Value} {rs : List Run} (hcs : cs = (runE.flat rs).toArray) (hin : ∀ r ∈ rs, r.In) (hrl : rs.length ≤ 1000) :
    Calls Tryz.prog 64 #[.pointer (some ⟨g, 0, none⟩), .slice (some ⟨w.heap.size, 0, none⟩) rs.length rs.length] (w.alloc (.cells cs 89)) fun e w' => e = .returned (.int .i64 (turnN rs 2 L)) ∧ KT w0 g (L.map (turnF rs 2 3)) w' := by
  obtain ⟨h1, h2⟩ := h.lit cs 89 w.heap.size rfl
  refine (h1.settle hlen (SlAt.lit rs cs hcs (by unfold maxLen; omega)) hin (by omega) (h2 _ _)).mono ?_
  rintro e w' ⟨he, h3, h4⟩
  exact ⟨he, (h.1.alloc _).trans h4 fun b hb h9 => by omega, h3.mono fun b hb => hb.1⟩
theorem KT.collect (h : KT w0 g L w) (hlen : L.length ≤ 900000) :
    Calls Tryz.prog 65 #[.pointer (some ⟨g, 0, none⟩)] w fun e w' => e = .returned (.int .i64 (collN L)) ∧ KT w0 g (collR L) w' := by
  refine (h.2.collect hlen).mono ?_
  rintro e w' ⟨he, h3, h4⟩
  exact ⟨he, h.1.trans h4 fun b hb h9 => by omega, h3⟩
theorem TBox.text {F : Nat → Prop} (h : TBox w g L F) (hlen : L.length ≤ 900000) : Calls Tryz.prog 54 #[.pointer (some ⟨g, 0, none⟩)] w fun e w' => e = .returned (.string ⟨(textB (shL L)).toArray⟩) ∧ Kept (fun _ => False) w w' := by
  obtain ⟨A, S, mp, h1, _⟩ := h.at_
  exact text_any h1 h.doc hlen
/-! the very documents -/
def kn (t s rt rs r st : Int) : Nd := ⟨⟨t, s⟩, ⟨rt, rs⟩, r, st⟩
def k1 : List Nd := [kn 1 1 0 0 104 1, kn 2 1 1 1 233 1, kn 3 1 2 1 121 1]
def k2 : List Nd := [kn 1 1 0 0 104 1, kn 4 2 1 1 120 1, kn 2 1 1 1 233 1, kn 3 1 2 1 121 1]
def k3 : List Nd := [kn 1 1 0 0 104 1, kn 4 3 1 1 122 1, kn 4 2 1 1 120 1, kn 2 1 1 1 233 1, kn 3 1 2 1 121 1]
def k4 : List Nd := [kn 1 1 0 0 104 2, kn 4 3 1 1 122 1, kn 4 2 1 1 120 1, kn 2 1 1 1 233 2, kn 3 1 2 1 121 2]
def k5 : List Nd := [kn 1 1 0 0 104 2, kn 4 3 1 1 122 1, kn 4 2 1 1 120 1, kn 2 1 1 1 233 3, kn 3 1 2 1 121 3]
def k6 : List Nd := [kn 1 1 0 0 104 2, kn 4 3 1 1 122 1, kn 4 2 1 1 120 1]
def sHey : ByteArray := ⟨#[104, 195, 169, 121]⟩
theorem runes_hey : runesL sHey 0 = [104, 233, 121] := by decide +kernel
theorem runes_x : runesL ⟨#[120]⟩ 0 = [120] := by decide +kernel
theorem runes_z : runesL ⟨#[122]⟩ 0 = [122] := by decide +kernel
theorem runes_q : runesL ⟨#[113]⟩ 0 = [113] := by decide +kernel
theorem kins1 : insE [] ⟨1, 1⟩ ⟨0, 0⟩ sHey.size (badB sHey) (runesL sHey 0) = 0 ∧ insL [] ⟨1, 1⟩ ⟨0, 0⟩ sHey.size (badB sHey) (runesL sHey 0) = k1 := by
  have h : insE [] ⟨1, 1⟩ ⟨0, 0⟩ sHey.size (badB sHey) (runesL sHey 0) = 0 := insE_is0 (by decide) (by decide +kernel) (by rw [runes_hey]; decide) (by decide) (.inl rfl) (by rw [runes_hey]; decide +kernel)
  refine ⟨h, ?_⟩
  unfold insL
  rw [if_neg (fun hh => hh h), runes_hey]
  decide +kernel
theorem kins2 : insE k1 ⟨4, 2⟩ ⟨1, 1⟩ (ByteArray.mk #[120]).size (badB ⟨#[120]⟩) (runesL ⟨#[120]⟩ 0) = 0 ∧ insL k1 ⟨4, 2⟩ ⟨1, 1⟩ (ByteArray.mk #[120]).size (badB ⟨#[120]⟩) (runesL ⟨#[120]⟩ 0) = k2 := by
  have h : insE k1 ⟨4, 2⟩ ⟨1, 1⟩ (ByteArray.mk #[120]).size (badB ⟨#[120]⟩) (runesL ⟨#[120]⟩ 0) = 0 := insE_is0 (by decide) (by decide +kernel) (by rw [runes_x]; decide) (by decide) (.inr (by decide)) (by rw [runes_x]; decide +kernel)
  refine ⟨h, ?_⟩
  unfold insL
  rw [if_neg (fun hh => hh h), runes_x]
  decide +kernel
theorem kins3 : insE k2 ⟨4, 3⟩ ⟨1, 1⟩ (ByteArray.mk #[122]).size (badB ⟨#[122]⟩) (runesL ⟨#[122]⟩ 0) = 0 ∧ insL k2 ⟨4, 3⟩ ⟨1, 1⟩ (ByteArray.mk #[122]).size (badB ⟨#[122]⟩) (runesL ⟨#[122]⟩ 0) = k3 := by
  have h : insE k2 ⟨4, 3⟩ ⟨1, 1⟩ (ByteArray.mk #[122]).size (badB ⟨#[122]⟩) (runesL ⟨#[122]⟩ 0) = 0 := insE_is0 (by decide) (by decide +kernel) (by rw [runes_z]; decide) (by decide) (.inr (by decide)) (by rw [runes_z]; decide +kernel)
  refine ⟨h, ?_⟩
  unfold insL
  rw [if_neg (fun hh => hh h), runes_z]
  decide +kernel
theorem kins4 : insE k3 ⟨4, 2⟩ ⟨1, 1⟩ (ByteArray.mk #[113]).size (badB ⟨#[113]⟩) (runesL ⟨#[113]⟩ 0) = 12 ∧ insL k3 ⟨4, 2⟩ ⟨1, 1⟩ (ByteArray.mk #[113]).size (badB ⟨#[113]⟩) (runesL ⟨#[113]⟩ 0) = k3 := by
  have h : insE k3 ⟨4, 2⟩ ⟨1, 1⟩ (ByteArray.mk #[113]).size (badB ⟨#[113]⟩) (runesL ⟨#[113]⟩ 0) = 12 := insE_is12 (by decide) (by decide +kernel) (by rw [runes_q]; decide) (by decide) (.inr (by decide)) (by rw [runes_q]; decide +kernel)
  refine ⟨h, ?_⟩
  unfold insL
  rw [if_pos (by rw [h]; decide)]
theorem kspan : spanOk k3 0 5 ∧ ∀ T, SetOf (spanL k3 0 5 (shL k3).length) T → packL T = [⟨⟨1, 1⟩, 3⟩, ⟨⟨4, 2⟩, 1⟩, ⟨⟨4, 3⟩, 1⟩] := by
  refine ⟨by unfold spanOk; decide +kernel, fun T hT => ?_⟩
  have h1 : SetOf (spanL k3 0 5 (shL k3).length) [⟨1, 1⟩, ⟨2, 1⟩, ⟨3, 1⟩, ⟨4, 2⟩, ⟨4, 3⟩] := by
    rw [show spanL k3 0 5 (shL k3).length = [⟨1, 1⟩, ⟨4, 3⟩, ⟨4, 2⟩, ⟨2, 1⟩, ⟨3, 1⟩] by decide +kernel]
    refine ⟨by unfold Rising; decide, fun x => ?_⟩
    simp only [List.mem_cons, List.not_mem_nil, or_false]
    constructor
    · rintro (rfl | rfl | rfl | rfl | rfl) <;> exact ⟨by simp, by decide⟩
    · rintro ⟨rfl | rfl | rfl | rfl | rfl, _⟩ <;> simp
  rw [hT.unique h1]
  decide +kernel
theorem kdel : turnN [⟨⟨1, 1⟩, 3⟩] 1 k3 = 3 ∧ k3.map (turnF [⟨⟨1, 1⟩, 3⟩] 1 2) = k4 := by decide +kernel
theorem ksettle : turnN [⟨⟨2, 1⟩, 2⟩] 2 k4 = 2 ∧ k4.map (turnF [⟨⟨2, 1⟩, 2⟩] 2 3) = k5 := by decide +kernel
theorem kcoll : collN k5 = 2 ∧ collR k5 = k6 := by decide +kernel
theorem ktext : textB (shL k3) = [104, 122, 120, 195, 169, 121] ∧ textB (shL k6) = [122, 120] ∧ (shL k6).length = 2 ∧ k6.length = 3 := by decide +kernel
theorem kfind : findP k4 ⟨2, 1⟩ = (2, 2) ∧ atP k3 1 = (⟨4, 3⟩, 0) := by decide +kernel
end Go.Proofs.YtjohljmpcblpjaaGreatDoor.Tr
namespace Go.Proofs.YtjohljmpcblpjaaGreatDoor.Pa
open Go.RowKit Go.Proofs.YtjohljmpcblpjaaGreatDoor.St Go.Proofs.YtjohljmpcblpjaaGreatDoor Go.Proofs.YtjohljmpcblpjaaGreatDoor.Tr
/-- what is shown of operations that may be no closed set -/
noncomputable def docS (l : List Ent) : List Nd := if closedE l = 0 then docP l else []
/-- what document answers, in one way of speaking -/
theorem doc_post {w w' : World} {l : List Ent} {e : Ending} (h : DocPost w l e w') (htx : textN l ≤ 900000) :
    (∃ g : Option Nat, e = .returned (.tuple #[.pointer (g.map fun g => ⟨g, 0, none⟩), .int .i64 (closedE l)]) ∧ (g = none ∧ docS l = [] ∨ ∃ b F, g = some b ∧ TBox w' b (docS l) F ∧ (docS l).length ≤ 900000 ∧ ∀ x, F x → w.heap.size ≤ x)) ∧ Kept (fun _ => False) w w' := by
  obtain ⟨h1, h2⟩ := h
  refine ⟨?_, h2⟩
  rcases h1 with ⟨hc, rfl⟩ | ⟨hc, g, F, rfl, hT, hF⟩
  · exact ⟨none, rfl, .inl ⟨rfl, by unfold docS; rw [if_neg hc]⟩⟩
  · have e1 : docS l = docP l := by unfold docS; rw [if_pos hc]
    have h3 := docP_len (closed_is hc).1
    exact ⟨some g, by rw [hc]; rfl, .inr ⟨g, F, rfl, by rw [e1]; exact hT, by rw [e1]; omega, hF⟩⟩
set_option maxRecDepth 100000 in
set_option maxHeartbeats 1000000 in
theorem text_past {w : World} {lv : Value} {l : List Ent} (hl : SlAt entE w lv l) (hin : ∀ e ∈ l, OpIn w e) (hlen : l.length ≤ 1000000) (hdl : ∀ e ∈ l, e.D.length ≤ 1000000 ∧ e.G.length ≤ 1000000) (htx : textN l ≤ 900000) :
    Calls Tryz.prog 17 #[lv] w fun e w' => e = .returned (.tuple #[.string ⟨(textB (shL (docS l))).toArray⟩, .int .i64 (closedE l)]) ∧ Kept (fun _ => False) w w' := by
  have DOC := Lib.hid ((document_any hl hin hlen hdl htx).mono fun e w' h => doc_post h htx)
  obtain ⟨c, hc⟩ : ∃ c, closedE l = c := ⟨_, rfl⟩
  obtain ⟨D, hD⟩ : ∃ D, docS l = D := ⟨_, rfl⟩
  rw [hc, hD] at DOC ⊢
  clear hl hin hdl hc hD
  go_enter Tryz.func17, Tryz.ntmps17
  go_upto_region 2 with (go_at_call 53; refine DOC.out.mono ?_; rintro e w1 ⟨⟨g, rfl, hg⟩, hk1⟩)
  have HK1 := Lib.hid hk1
  clear hk1
  rcases hg with ⟨rfl, hn⟩ | ⟨b, F, rfl, hT, hL, _⟩
  · subst hn
    have TX := Lib.hid (text_nil0 w1)
    go_wp2_with (go_at_call 54; refine TX.out.mono ?_; rintro e w2 ⟨rfl, hk2⟩)
    go_ret2
    exact ⟨rfl, HK1.out.trans hk2 fun _ _ h => h⟩
  · have TX := Lib.hid (hT.text hL)
    clear hT hL
    go_wp2_with (go_at_call 54; refine TX.out.mono ?_; rintro e w2 ⟨rfl, hk2⟩)
    go_ret2
    exact ⟨rfl, HK1.out.trans hk2 fun _ _ h => h⟩
end Go.Proofs.YtjohljmpcblpjaaGreatDoor.Pa
namespace Go.Proofs.YtjohljmpcblpjaaGreatDoor.Pa
open Go.RowKit Go.Proofs.YtjohljmpcblpjaaGreatDoor.St Go.Proofs.YtjohljmpcblpjaaGreatDoor Go.Proofs.YtjohljmpcblpjaaGreatDoor.Tr
structure Op0 where
  dot : Dot
  kind : Int
  id : ID
  ref : ID
  text : ByteArray
  site : Int
  D : List Dot
  G : List Run
def keyE (e : Ent) : Op0 := ⟨e.v.dot, e.v.kind, e.v.id, e.v.ref, e.v.text, e.v.site, e.D, e.G⟩
section
variable {α β : Type} {f : β → Dot} {D : β → List Dot} (k : α → β)
theorem candP_key (l : List α) (V : List Dot) (s : Nat) : (candP (fun a => f (k a)) (fun a => D (k a)) l V s).map k = candP f D (l.map k) V s := by
  unfold candP
  rw [List.find?_map]
  rfl
theorem firstP_key (l : List α) (V : List Dot) : ∀ ss, (firstP (fun a => f (k a)) (fun a => D (k a)) l V ss).map k = firstP f D (l.map k) V ss
  | [] => rfl
  | s :: r => by
    unfold firstP
    have h1 := candP_key (f := f) (D := D) k l V s
    have h2 := firstP_key l V r
    rw [← h1, ← h2]
    cases candP (fun a => f (k a)) (fun a => D (k a)) l V s with
    | none => simp
    | some x => simp
theorem rowP_key (l : List α) : ∀ n V, (rowP (fun a => f (k a)) (fun a => D (k a)) l n V).map k = rowP f D (l.map k) n V
  | 0, _ => rfl
  | n + 1, V => by
    have h1 := firstP_key (f := f) (D := D) k l V sites16
    rw [row_next, row_next]
    unfold nextP
    rw [← h1]
    cases hn : firstP (fun a => f (k a)) (fun a => D (k a)) l V sites16 with
    | none => rfl
    | some e =>
      simp only [Option.map_some, List.map_cons]
      rw [rowP_key l n]
end
theorem rowL_key (l : List Ent) : (rowL l).map keyE = rowA Op0.dot Op0.D (l.map keyE) := by
  unfold rowL rowA
  rw [List.length_map]
  exact rowP_key (f := Op0.dot) (D := Op0.D) keyE l l.length []
theorem rowL_same {l m : List Ent} (h : l.map keyE = m.map keyE) : (rowL l).map keyE = (rowL m).map keyE := by rw [rowL_key, rowL_key, h]
theorem foldD_same : ∀ {R S : List Ent} (L : List Nd), R.map keyE = S.map keyE → R.foldl stepD L = S.foldl stepD L
  | [], [], _, _ => rfl
  | [], _ :: _, _, h => by simp at h
  | _ :: _, [], _, h => by simp at h
  | a :: R, b :: S, L, h => by
    simp only [List.map_cons, List.cons.injEq] at h
    have e : stepD L a = stepD L b := by
      unfold stepD
      have h1 := h.1
      unfold keyE at h1
      injection h1 with h2 h3 h4 h5 h6 h7 h8 h9
      rw [h3, h4, h5, h6, h9]
    rw [List.foldl_cons, List.foldl_cons, e]
    exact foldD_same _ h.2
theorem docP_same {l m : List Ent} (h : l.map keyE = m.map keyE) : docP l = docP m := foldD_same [] (rowL_same h)
theorem mem_same {l m : List Ent} (h : l.map keyE = m.map keyE) {e : Ent} (he : e ∈ l) : ∃ x ∈ m, keyE x = keyE e := by
  have h1 : keyE e ∈ m.map keyE := h ▸ List.mem_map_of_mem he
  obtain ⟨x, hx, h2⟩ := List.mem_map.1 h1
  exact ⟨x, hx, h2⟩
theorem dots_same {l m : List Ent} (h : l.map keyE = m.map keyE) : l.map dotOf = m.map dotOf := by
  have h1 := congrArg (List.map Op0.dot) h
  rw [List.map_map, List.map_map] at h1
  exact h1
theorem text_same {l m : List Ent} (h : l.map keyE = m.map keyE) : textN l = textN m := by
  have h1 := congrArg (List.map fun o : Op0 => o.text.size) h
  rw [List.map_map, List.map_map] at h1
  exact congrArg List.sum h1
theorem len_same {l m : List Ent} (h : l.map keyE = m.map keyE) : l.length = m.length := by
  have := congrArg List.length h
  simpa using this
theorem op_same {e x : Ent} (h : keyE e = keyE x) (he : e.v.gone.n = e.G.length) (hx : x.v.gone.n = x.G.length) : opOk e.v e.D e.G ↔ opOk x.v x.D x.G := by
  unfold keyE at h
  injection h with h2 h3 h4 h5 h6 h7 h8 h9
  have hn : e.v.gone.n = x.v.gone.n := by rw [he, hx, h9]
  unfold opOk rightOk insOk removeOk joinOk bareOk
  rw [h2, h3, h4, h5, h6, h7, h8, h9, hn]
theorem closed_same {l m : List Ent} (h : l.map keyE = m.map keyE) (hl : ∀ e ∈ l, e.v.gone.n = e.G.length) (hm : ∀ e ∈ m, e.v.gone.n = e.G.length) : closedE l = closedE m := by
  have h1 : (∃ e ∈ l, badE e) ↔ ∃ e ∈ m, badE e := by
    constructor
    · rintro ⟨e, he, hb⟩
      obtain ⟨x, hx, hk⟩ := mem_same h he
      exact ⟨x, hx, fun h9 => hb ((op_same hk (hm x hx) (hl e he)).1 h9)⟩
    · rintro ⟨e, he, hb⟩
      obtain ⟨x, hx, hk⟩ := mem_same h.symm he
      exact ⟨x, hx, fun h9 => hb ((op_same hk (hl x hx) (hm e he)).1 h9)⟩
  have h2 := dots_same h
  have h3 : (∃ e ∈ l, ¬ wholeP (l.map dotOf) (depOf e)) ↔ ∃ e ∈ m, ¬ wholeP (m.map dotOf) (depOf e) := by
    rw [h2]
    constructor
    · rintro ⟨e, he, hb⟩
      obtain ⟨x, hx, hk⟩ := mem_same h he
      have hd : x.D = e.D := congrArg Op0.D hk
      exact ⟨x, hx, by unfold depOf at hb ⊢; rw [hd]; exact hb⟩
    · rintro ⟨e, he, hb⟩
      obtain ⟨x, hx, hk⟩ := mem_same h.symm he
      have hd : x.D = e.D := congrArg Op0.D hk
      exact ⟨x, hx, by unfold depOf at hb ⊢; rw [hd]; exact hb⟩
  unfold closedE closedC
  by_cases k1 : ∃ e ∈ l, badE e
  · rw [if_pos k1, if_pos (h1.1 k1)]
  · rw [if_neg k1, if_neg (fun h => k1 (h1.2 h))]
    by_cases k2 : (l.map dotOf).Nodup
    · rw [if_neg (show ¬ ¬ (l.map dotOf).Nodup from fun h => h k2), if_neg (show ¬ ¬ (m.map dotOf).Nodup from fun h => h (h2 ▸ k2))]
      by_cases k3 : ∃ e ∈ l, ¬ wholeP (l.map dotOf) (depOf e)
      · rw [if_pos k3, if_pos (h3.1 k3)]
      · rw [if_neg k3, if_neg (fun h => k3 (h3.2 h))]
    · rw [if_pos k2, if_pos (fun h => k2 (h2 ▸ h))]
theorem docS_same {l m : List Ent} (h : l.map keyE = m.map keyE) (hl : ∀ e ∈ l, e.v.gone.n = e.G.length) (hm : ∀ e ∈ m, e.v.gone.n = e.G.length) : docS l = docS m := by
  unfold docS
  rw [closed_same h hl hm, docP_same h]
theorem gone_n {w : World} {e : Ent} (h : e.At w) : e.v.gone.n = e.G.length := by
  obtain ⟨_, _, he, _⟩ := h.gone.sl
  injection he
end Go.Proofs.YtjohljmpcblpjaaGreatDoor.Pa
namespace Go.Proofs.YtjohljmpcblpjaaGreatDoor.Pa
open Go.RowKit Go.Proofs.YtjohljmpcblpjaaGreatDoor.St Go.Proofs.YtjohljmpcblpjaaGreatDoor
theorem SlAt.opdot {w : World} {v : Value} {L : List Ent} (h : SlAt entE w v L) (hn : 0 < L.length) : ∃ g o c, v = .slice (some ⟨g, o, none⟩) L.length c ∧ ∀ (i : Nat) (x : Ent), L[i]? = some x → w.cell? ⟨g, o + i * 11, none⟩ = some (.int .i64 x.v.dot.site) ∧ w.cell? ⟨g, o + i * 11 + 1, none⟩ = some (.int .i64 x.v.dot.seq) := by
  obtain ⟨g, o, c, rfl, _, _, _, hc⟩ := h.one hn
  exact ⟨g, o, c, rfl, fun i x hx => ⟨hc i x hx 0 _ rfl, hc i x hx 1 _ rfl⟩⟩
set_option maxRecDepth 100000 in
set_option maxHeartbeats 4000000 in
theorem there_any {w : World} {lv : Value} {l : List Ent} (hl : SlAt entE w lv l) (d : Dot) (hlen : l.length ≤ 1000000000) :
    Calls Tryz.prog 44 #[lv, .agg #[.int .i64 d.site, .int .i64 d.seq]] w fun e w' => e = .returned (.bool (decide (d ∈ l.map dotOf))) ∧ Kept (fun _ => False) w w' := by
  obtain ⟨la, lc, rfl, _, _⟩ := hl.sl
  have HL := Lib.hid hl
  have k0 : Kept (fun _ => False) w (w.alloc (.cells #[.int .i64 d.site, .int .i64 d.seq] 29)) := (Kept.refl _ _).alloc _
  have K0 := Lib.hid k0
  have B0 := Lib.hid (Blk.new w 29 #[.int .i64 d.site, .int .i64 d.seq])
  obtain ⟨R, hR⟩ : ∃ R, decide (d ∈ l.map dotOf) = R := ⟨_, rfl⟩
  rw [hR]
  have HR := Lib.hid hR
  clear hl k0 hR
  go_enter Tryz.func44, Tryz.ntmps44
  go_upto_region 1 with fail
  obtain ⟨W1, hW1⟩ : ∃ W1, w.alloc (.cells #[.int .i64 d.site, .int .i64 d.seq] 29) = W1 := ⟨_, rfl⟩
  obtain ⟨z, hz⟩ : ∃ z, w.heap.size = z := ⟨_, rfl⟩
  rw [hW1] at K0 B0 ⊢
  rw [hz] at B0 ⊢
  clear hW1 hz
  go_wp2_with fail
  go_loopw [5] (fun iv wr => ∃ n : Nat, iv = .int .i64 n ∧ n ≤ l.length ∧ Kept (fun _ => False) W1 wr ∧ d ∉ (l.take n).map dotOf) (fun iv _ => l.length - (intOf iv).toNat)
  case atStart => exact ⟨0, rfl, Nat.zero_le _, Kept.refl _ _, fun h => by simp at h⟩
  case round =>
    obtain ⟨n, rfl, hn, hk, hno⟩ := hrel
    have hn0 : (0 : Int) ≤ n := by omega
    have K1 := Lib.hid hk
    have NO := Lib.hid hno
    clear hk hno
    by_cases hlt : n < l.length
    case neg =>
      have hnl : ¬ (n : Int) < l.length := by omega
      have e9 : decide (d ∈ l.map dotOf) = false := decide_eq_false (by have h9 := NO.out; rwa [List.take_of_length_le (by omega)] at h9)
      obtain rfl : R = false := HR.out.symm.trans e9
      clear e9
      go_wp2_with fail
      go_ret
      exact ⟨rfl, K0.out.trans K1.out fun _ _ h => h⟩
    case pos =>
      have hnl : (n : Int) < l.length := by omega
      obtain ⟨x, hx⟩ := get_of_lt hlt
      have hxm := List.mem_of_getElem? hx
      obtain ⟨lg, lo, lc', e2, hcs⟩ := SlAt.opdot (HL.out.kept (K0.out.trans K1.out fun _ _ h => h)) (by omega)
      cases e2
      obtain ⟨c0, c1⟩ := hcs n x hx
      have htk : l.take (n + 1) = l.take n ++ [x] := by rw [List.take_add_one, hx]; rfl
      have e1 : IntKind.i64.wrap ((n : Int) + 1) = (n : Int) + 1 := IntWalk.i64_in _ (by omega)
      have q0 := (K1.out.blk (fun h => h) B0.out).cell' (i := 0) (v := .int .i64 d.site) rfl
      have q1 := (K1.out.blk (fun h => h) B0.out).cell' (i := 1) (v := .int .i64 d.seq) rfl
      by_cases hd : x.v.dot = d
      case pos =>
        have e9 : decide (d ∈ l.map dotOf) = true := decide_eq_true (by rw [← hd]; exact List.mem_map_of_mem (f := dotOf) hxm)
        obtain rfl : R = true := HR.out.symm.trans e9
        rw [hd] at c0 c1
        clear e9 hcs hx hxm htk hd
        go_upto_region 4 with fail
        go_region_held3 (fun W9 : World => W9.cell? ⟨lg, lo + n * 11, none⟩ = some (.int .i64 d.site) ∧ W9.cell? ⟨lg, lo + n * 11 + 1, none⟩ = some (.int .i64 d.seq) ∧ W9.cell? ⟨z, 0, none⟩ = some (.int .i64 d.site) ∧ W9.cell? ⟨z, 1, none⟩ = some (.int .i64 d.seq)) (first | exact ⟨c0, c1, q0, q1⟩) (fail)
        all_goals go_wp2_with fail
        all_goals go_ret
        all_goals exact ⟨rfl, (K0.out.trans K1.out fun _ _ h => h).drew⟩
      case neg =>
        have NE : Hid (d ∉ (l.take (n + 1)).map dotOf) := Lib.hid (by
          rw [htk, List.map_append]
          intro h9
          rcases List.mem_append.1 h9 with h9 | h9
          · exact NO.out h9
          · exact hd (List.mem_singleton.1 h9).symm)
        obtain ⟨xs, xq, hs, hq⟩ : ∃ xs xq, x.v.dot.site = xs ∧ x.v.dot.seq = xq := ⟨_, _, rfl, rfl⟩
        have hne : ¬ (xs = d.site ∧ xq = d.seq) := fun h9 => hd (Dot.ext (hs.trans h9.1) (hq.trans h9.2))
        rw [hs] at c0
        rw [hq] at c1
        clear hcs hx hxm htk hd hs hq
        by_cases h1 : xs = d.site
        · have h2 : ¬ xq = d.seq := fun h9 => hne ⟨h1, h9⟩
          clear hne
          go_upto_region 4 with fail
          go_region_held3 (fun W9 : World => W9.cell? ⟨lg, lo + n * 11, none⟩ = some (.int .i64 xs) ∧ W9.cell? ⟨lg, lo + n * 11 + 1, none⟩ = some (.int .i64 xq) ∧ W9.cell? ⟨z, 0, none⟩ = some (.int .i64 d.site) ∧ W9.cell? ⟨z, 1, none⟩ = some (.int .i64 d.seq)) (first | exact ⟨c0, c1, q0, q1⟩) (fail)
          all_goals
            go_wp2_with fail
            go_roundw
            case rel => exact ⟨n + 1, by go_num, by omega, K1.out.drew, NE.out⟩
            case measure => simp [intOf]; omega
        · clear hne
          go_upto_region 4 with fail
          go_region_held3 (fun W9 : World => W9.cell? ⟨lg, lo + n * 11, none⟩ = some (.int .i64 xs) ∧ W9.cell? ⟨lg, lo + n * 11 + 1, none⟩ = some (.int .i64 xq) ∧ W9.cell? ⟨z, 0, none⟩ = some (.int .i64 d.site) ∧ W9.cell? ⟨z, 1, none⟩ = some (.int .i64 d.seq)) (first | exact ⟨c0, c1, q0, q1⟩) (fail)
          all_goals
            go_wp2_with fail
            go_roundw
            case rel => exact ⟨n + 1, by go_num, by omega, K1.out.drew, NE.out⟩
            case measure => simp [intOf]; omega
end Go.Proofs.YtjohljmpcblpjaaGreatDoor.Pa
