/- known: what the document fixes. -/
import Derived.Test.YtmfjeeogeilgfaaAlDoes
namespace Go.Proofs.Ytmfjeeogeilgfaa.Al
open Go.RowKit

theorem known_due : DueIs 7 13 [⟨-3, 2, 12⟩, ⟨5, 2, 12⟩] [-3, 5] [⟨-3, 4, 17⟩, ⟨5, 4, 17⟩] := by
  unfold DueIs
  rw [if_pos (by decide)]
  refine .step (t := ⟨-3, 2, 12⟩) (r := [⟨5, 2, 12⟩]) (List.Perm.refl _) (by simp [T.le]) (by decide) ?_
  refine .step (t := ⟨5, 2, 12⟩) (r := [⟨-3, 4, 17⟩]) ?_ (by simp [T.le]) (by decide) ?_
  · exact List.Perm.swap _ _ _
  · refine .stop ?_ ?_
    · simp only [T.bump, List.mem_cons, List.not_mem_nil, or_false, forall_eq_or_imp, forall_eq]; decide
    · exact List.Perm.swap _ _ _
theorem known_gap : GapIs [⟨-3, 4, 17⟩, ⟨5, 4, 17⟩] 5 4 17 := .inr ⟨⟨5, 4, 17⟩, by simp, rfl, rfl, rfl⟩
theorem known_next : NextIs [⟨-3, 4, 17⟩, ⟨5, 4, 17⟩] (-3) 17 true := .inr ⟨⟨-3, 4, 17⟩, by simp, by simp [T.le], rfl, rfl, rfl⟩
theorem known_set1 : setE 2 [] 5 10 = 0 ∧ setT 2 [] 5 10 = [⟨5, 2, 12⟩] := by simp [setE, setT, tickB, hasK]
theorem known_set2 : setE 2 [⟨5, 2, 12⟩] 5 11 = 12 ∧ setT 2 [⟨5, 2, 12⟩] 5 11 = [⟨5, 2, 12⟩] := by simp [setE, setT, tickB, hasK]
theorem known_set3 : setE 2 [⟨5, 2, 12⟩] (-3) 10 = 0 ∧ setT 2 [⟨5, 2, 12⟩] (-3) 10 = [⟨-3, 2, 12⟩, ⟨5, 2, 12⟩] := by simp [setE, setT, tickB, hasK]
theorem known_keys : (([⟨-3, 2, 12⟩, ⟨5, 2, 12⟩] : List T).map (·.key)).Nodup := by decide
theorem known_keys' : (([⟨-3, 4, 17⟩, ⟨5, 4, 17⟩] : List T).map (·.key)).Nodup := by decide

theorem aset1 {w : World} {A : Nat} {l m : Int} {ts us : List T} {F : Nat → Prop} (h : AlarmIs w A l m ts F) (k now e0 : Int) (hbig : ts.length < 1000000) (he : setE l ts k now = e0 ∧ setT l ts k now = us) :
    Calls Try.prog 17 #[.pointer (some ⟨A, 0, none⟩), .int .i64 k, .int .i64 now] w fun e w' => e = .returned (.int .i64 e0) ∧ Leaves (fun w F => AlarmIs w A l m us F) w F w' := by
  have := aset h k now hbig
  rwa [he.1, he.2] at this
theorem IntsAt.two (w : World) (x y : Int) : IntsAt (w.alloc (.cells #[.int .i64 x, .int .i64 y] 3)) (.slice (some ⟨w.heap.size, 0, none⟩) 2 2) [x, y] :=
  ⟨⟨_, _, rfl⟩, rfl, .inr ⟨_, 2, _, rfl, Nat.zero_le _, Blk.new _ _ _, by simp, by decide, rfl, rfl⟩⟩

set_option maxHeartbeats 1000000 in
theorem known_any (w : World) : Calls Try.prog 12 #[] w fun e w' => e = .returned (.bool true) ∧ Kept (fun _ => False) w w' := by
  go_enter Try.func12, Try.ntmps12
  go_wp2_with fail
  refine (new_ok (l := 2) (m := 7) (by decide) (by decide) (by decide) _).mono ?_
  rintro e w1 ⟨rfl, h1, hk1⟩
  have h1 : AlarmIs w1 w.heap.size 2 7 [] (fun b => b = w.heap.size) := ⟨[], h1, List.Perm.refl _⟩
  go_wp2_with fail
  refine (aset1 h1 5 10 0 (by decide) known_set1).mono ?_
  rintro e w2 ⟨rfl, F2, h2, hF2, hk2⟩
  go_wp2_with fail
  refine (aset1 h2 5 11 12 (by decide) known_set2).mono ?_
  rintro e w3 ⟨rfl, F3, h3, hF3, hk3⟩
  go_wp2_with fail
  refine (aset1 h3 (-3) 10 0 (by decide) known_set3).mono ?_
  rintro e w4 ⟨rfl, F4, h4, hF4, hk4⟩
  go_wp2_with fail
  refine (adue h4 13 (by decide)).mono ?_
  rintro e w5 ⟨v, ks, us, rfl, hd, ha, F5, h5, hF5, hk5⟩
  obtain ⟨rfl, hp⟩ := known_due.unique known_keys hd
  have h5 := h5.perm hp
  go_wp2_with fail
  refine (agap h5 5).mono ?_
  rintro e w6 ⟨g, d, q6, hg, rfl, rfl⟩
  obtain ⟨rfl, rfl⟩ := known_gap.unique known_keys' hg
  go_wp2_with fail
  refine (anext (h5.drewN q6)).mono ?_
  rintro e w7 ⟨k, d, ok, q7, hn, rfl, rfl⟩
  obtain ⟨rfl, rfl, rfl⟩ := known_next.unique hn
  go_wp2_with fail
  refine (ints_same ((ha.ints.keep ((Kept.refl _ _).drewN (q6 + q7)) (fun _ _ h => h)).keep ((Kept.refl _ _).alloc _) (fun _ _ h => h)) (IntsAt.two (w5.drewN (q6 + q7)) (-3) 5) (by decide)).mono ?_
  rintro e w8 ⟨rfl, q8, rfl⟩
  go_wp2_with fail
  refine (alen (((h5.drewN (q6 + q7)).keep ((Kept.refl _ _).alloc _) (fun _ _ h => h)).drewN q8)).mono ?_
  rintro e w9 ⟨rfl, rfl⟩
  go_wp2_with fail
  go_ret
  have s1 := hk1.size
  have s2 := hk2.size
  have s3 := hk3.size
  have s4 := hk4.size
  have f1 : ∀ b, b < w.heap.size → b = w.heap.size → False := fun b h e => by omega
  have f2 : ∀ b, b < w.heap.size → F2 b → False := fun b h e => f1 b h (hF2 b (by omega) e)
  have f3 : ∀ b, b < w.heap.size → F3 b → False := fun b h e => f2 b h (hF3 b (by omega) e)
  have f4 : ∀ b, b < w.heap.size → F4 b → False := fun b h e => f3 b h (hF4 b (by omega) e)
  exact ⟨rfl, ((((((hk1.trans hk2 f1).trans hk3 f2).trans hk4 f3).trans hk5 f4).drewN _).alloc _).drewN _⟩
end Go.Proofs.Ytmfjeeogeilgfaa.Al
