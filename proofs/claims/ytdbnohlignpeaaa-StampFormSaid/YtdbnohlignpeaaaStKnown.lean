/- known: what the document fixes. -/
import Derived.Test.YtdbnohlignpeaaaStRows
import Derived.Test.YtdbnohlignpeaaaStRowApp
namespace Go.Proofs.Ytdbnohlignpeaaa.St
open Go.RowKit

theorem num300 : numL 300 = [172, 2] := by rw [numL_ge (by decide), numL_lt (by decide)]; rfl
theorem num2 : numL 2 = [2] := by rw [numL_lt (by decide)]; rfl
def kIds : List ID := [⟨3, 1⟩, ⟨2, 1⟩, ⟨2, 2⟩]
def kSet : List ID := [⟨2, 1⟩, ⟨2, 2⟩, ⟨3, 1⟩]
def kRuns : List Run := [⟨⟨2, 1⟩, 2⟩, ⟨⟨2, 2⟩, 1⟩]
theorem known_set : SetOf kIds kSet := by
  refine ⟨by unfold Rising kSet; simp [ID.lt], fun x => ?_⟩
  constructor
  · intro h
    simp only [kSet, List.mem_cons, List.not_mem_nil, or_false] at h
    rcases h with rfl | rfl | rfl
    · exact ⟨by simp [kIds], by decide⟩
    · exact ⟨by simp [kIds], by decide⟩
    · exact ⟨by simp [kIds], by decide⟩
  · rintro ⟨h, _⟩
    simp only [kIds, List.mem_cons, List.not_mem_nil, or_false] at h
    rcases h with rfl | rfl | rfl <;> simp [kSet]
theorem known_pack : packL kSet = kRuns := by decide
theorem known_good : Good kRuns := by
  intro n x hx
  match n with
  | 0 => simp [kRuns] at hx; subst hx; decide
  | 1 => simp [kRuns] at hx; subst hx; simp [kRuns, why, Run.Ok, ID.Is, ID.lt]
  | n + 2 => simp [kRuns] at hx
theorem known_has : HasIs kRuns ⟨3, 1⟩ true := ⟨fun _ => ⟨known_good, ⟨⟨2, 1⟩, 2⟩, by simp [kRuns], rfl, by decide, by decide⟩, fun _ => rfl⟩
theorem known_in : ∀ r ∈ kRuns, r.In := by
  intro r hr
  simp only [kRuns, List.mem_cons, List.not_mem_nil, or_false] at hr
  rcases hr with rfl | rfl <;> simp [Run.In, I64]

set_option maxRecDepth 100000 in
set_option maxHeartbeats 4000000 in
theorem known_any (w : World) : Calls Try.prog 17 #[] w fun e w' => e = .returned (.bool true) ∧ Kept (fun _ => False) w w' := by
  have h1 : WrIs (w.alloc (.cells #[.slice none 0 0, .int .i64 0] 46)) w.heap.size [] 0 (fun b => b = w.heap.size ∨ (Value.slice none 0 0).ownBlock = some b) := ⟨_, Blk.new w _ _, World.ownsRow_nil _ _ _ _, rfl⟩
  have n1 : Calls Try.prog 40 #[.pointer (some ⟨w.heap.size, 0, none⟩), .int .i64 300] (w.alloc (.cells #[.slice none 0 0, .int .i64 0] 46)) _ := wnum_ok h1 300 (by decide) (by decide)
  rw [num300] at n1
  have k0 : Kept (fun _ => False) w (w.alloc (.cells #[.slice none 0 0, .int .i64 0] 46)) := (Kept.refl _ _).alloc _
  have K0 := Lib.hid k0
  clear h1 k0
  go_enter Try.func17, Try.ntmps17
  go_wp2_with fail
  refine n1.mono ?_
  rintro e w1 ⟨rfl, F1, h1, hF1, hk1⟩
  have n2 := wtext_ok h1 ⟨#[97, 98]⟩ (by decide) (by decide)
  rw [show ([] : List UInt8) ++ [172, 2] ++ numL (ByteArray.size ⟨#[97, 98]⟩) ++ (ByteArray.mk #[97, 98]).data.toList = [172, 2, 2, 97, 98] by rw [show ByteArray.size ⟨#[97, 98]⟩ = 2 from rfl, num2]; rfl] at n2
  have hFw : ∀ b, b < w.heap.size → ¬ F1 b := fun b hb h => by
    have := hF1 b (by simp; omega) h
    rcases this with rfl | h
    · omega
    · cases h
  have kw1 := Lib.hid (K0.out.trans hk1 (fun b hb h => by rcases h with rfl | h; exact absurd hb (Nat.lt_irrefl _); cases h))
  have FW := Lib.hid hFw
  clear h1 hF1 hk1 hFw
  go_wp2_with fail
  refine n2.mono ?_
  rintro e w2 ⟨rfl, F2, h2, hF2, hk2⟩
  have kw2 := Lib.hid (kw1.out.trans hk2 (fun b hb h => FW.out b hb h))
  have FW2 := Lib.hid (show ∀ b, b < w.heap.size → ¬ F2 b from fun b hb h => FW.out b hb (hF2 b (Nat.lt_of_lt_of_le hb kw1.out.size) h))
  have n3 := wdata_any h2 (by decide)
  have H2 := Lib.hid h2
  clear hF2 hk2 h2
  go_wp2_with fail
  refine n3.mono ?_
  rintro e w3 ⟨v3, rfl, ho3, hk3⟩
  have n4 := read_any (owns_slAt (E := byteE) ho3) (by decide)
  obtain ⟨a3, c3, rfl⟩ := owns_sl ho3
  have kw3 := Lib.hid (kw2.out.trans hk3 (fun _ _ h => h))
  have H3 := Lib.hid (H2.out.keep hk3 (fun _ _ h => h))
  clear ho3 hk3
  go_wp2_with fail
  refine n4.mono ?_
  rintro e w4 ⟨R, FR, rfl, hR, hFR, hk4⟩
  have kw4 := Lib.hid (kw3.out.trans hk4 (fun _ _ h => h))
  have n5 := wdata_any (H3.out.keep hk4 (fun _ _ h => h)) (by decide)
  have hRb : w.heap.size ≤ R := Nat.le_trans kw3.out.size (hFR R (by obtain ⟨v, _, _, _, rfl⟩ := hR; exact .inl rfl)).1
  have HR := Lib.hid hR
  clear hR hk4 hFR
  go_wp2_with fail
  refine n5.mono ?_
  rintro e w5 ⟨v5, rfl, ho5, hk5⟩
  have kw5 := Lib.hid (kw4.out.trans hk5 (fun _ _ h => h))
  have HR5 := Lib.hid (HR.out.keep hk5 (fun _ _ _ h => h))
  have n6 := bytes_eq ((owns_slAt (E := byteE) ho5).kept ((Kept.refl _ w5).alloc (.cells #[.int .u8 172, .int .u8 2, .int .u8 2, .int .u8 97, .int .u8 98] 5))) (SlAt.lit (E := byteE) (w := w5) (t := 5) [172, 2, 2, 97, 98] #[.int .u8 172, .int .u8 2, .int .u8 2, .int .u8 97, .int .u8 98] (by rfl) (by decide)) (by decide)
  obtain ⟨a5, c5, rfl⟩ := owns_sl ho5
  rw [decide_eq_true rfl] at n6
  clear ho5 hk5
  go_wp2_with fail
  refine n6.mono ?_
  rintro e w6 ⟨rfl, q6, rfl⟩
  have HR6 := Lib.hid (HR5.out.keep (((Kept.refl (fun _ => False) w5).alloc (.cells #[.int .u8 172, .int .u8 2, .int .u8 2, .int .u8 97, .int .u8 98] 5)).drewN q6) (fun _ _ _ h => h))
  have kw6 := Lib.hid ((kw5.out.alloc (.cells #[.int .u8 172, .int .u8 2, .int .u8 2, .int .u8 97, .int .u8 98] 5)).drewN q6)
  have n7 := rnum_ok HR6.out (by decide)
  rw [show takeN [172, 2, 2, 97, 98] 0 0 = (0, 300, [2, 97, 98]) by decide] at n7
  go_wp2_with fail
  refine n7.mono ?_
  rintro e w7 ⟨rfl, hR7, hk7⟩
  have kw7 := Lib.hid (Kept.newer kw6.out hk7 hRb)
  have n8 := rtext_ok (L := [2, 97, 98]) hR7 (by decide)
  rw [show takeT [2, 97, 98] = (0, [97, 98], []) by decide] at n8
  simp only [show strOf [97, 98] = (⟨#[97, 98]⟩ : ByteArray) from rfl] at n8
  clear hR7 hk7
  go_wp2_with fail
  refine n8.mono ?_
  rintro e w8 ⟨rfl, hR8, hk8⟩
  have kw8 := Lib.hid (Kept.newer kw7.out hk8 hRb)
  have n9 := rend_any hR8
  rw [show endE 0 ([] : List UInt8).length = 0 from rfl] at n9
  clear hR8 hk8
  go_wp2_with fail
  refine n9.mono ?_
  rintro e w9 ⟨rfl, rfl⟩
  have n10 := pack_any (SlAt.lit (E := idE) (w := w8) (t := 23) kIds #[.int .i64 3, .int .i64 1, .int .i64 2, .int .i64 1, .int .i64 2, .int .i64 2] (by rfl) (by decide)) (by decide)
  go_wp2_with fail
  refine n10.mono ?_
  rintro e w10 ⟨v10, S, rfl, hS, ho10, hk10⟩
  obtain rfl := hS.unique known_set
  rw [known_pack] at ho10
  have kw10 := Lib.hid ((kw8.out.alloc (.cells #[.int .i64 3, .int .i64 1, .int .i64 2, .int .i64 1, .int .i64 2, .int .i64 2] 23)).trans hk10 (fun _ _ h => h))
  have hsl := owns_slAt (E := runE) ho10
  have hka : Kept (fun _ => False) w10 (w10.alloc (.cells #[.int .i64 2, .int .i64 1, .int .i64 2, .int .i64 2, .int .i64 2, .int .i64 1] 35)) := (Kept.refl _ w10).alloc _
  have n11 := runs_eq (hsl.kept hka) (SlAt.lit (E := runE) (w := w10) (t := 35) kRuns #[.int .i64 2, .int .i64 1, .int .i64 2, .int .i64 2, .int .i64 2, .int .i64 1] (by rfl) (by decide)) (by decide)
  rw [decide_eq_true rfl] at n11
  have SL := Lib.hid hsl
  have KA := Lib.hid hka
  obtain ⟨a10, c10, rfl⟩ := owns_sl ho10
  clear hS ho10 hk10 hsl hka
  go_wp2_with fail
  refine n11.mono ?_
  rintro e w11 ⟨rfl, q11, rfl⟩
  have SL11 := Lib.hid (SL.out.kept (KA.out.drewN q11))
  have kw11 := Lib.hid ((kw10.out.trans KA.out (fun _ _ h => h)).drewN q11)
  have n12 := check_any SL11.out known_in (by decide)
  go_wp2_with fail
  refine n12.mono ?_
  rintro e w12 ⟨c, rfl, hc, hk12⟩
  obtain rfl := hc.unique (.inl ⟨rfl, known_good⟩)
  have n13 := has_any (SL11.out.kept hk12) known_in (by decide) ⟨3, 1⟩
  have kw12 := Lib.hid (kw11.out.trans hk12 (fun _ _ h => h))
  clear hc hk12
  go_wp2_with fail
  refine n13.mono ?_
  rintro e w13 ⟨b, rfl, hb, hk13⟩
  obtain rfl := hb.unique known_has
  have kw13 := Lib.hid (kw12.out.trans hk13 (fun _ _ h => h))
  have n14 := compare_any ⟨1, 9⟩ ⟨2, 1⟩ w13
  rw [show ID.cmp ⟨1, 9⟩ ⟨2, 1⟩ = -1 by decide] at n14
  clear hb hk13
  go_wp2_with fail
  refine n14.mono ?_
  rintro e w14 ⟨rfl, hg14⟩
  go_wp2_with fail
  go_ret
  exact ⟨rfl, kw13.out.trans hg14.kept (fun _ _ h => h)⟩
end Go.Proofs.Ytdbnohlignpeaaa.St
