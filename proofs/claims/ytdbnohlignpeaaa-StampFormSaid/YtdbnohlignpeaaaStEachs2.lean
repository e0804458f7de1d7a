/- StampEachs: the iterator called with its three functions. -/
import Derived.Test.YtdbnohlignpeaaaStEachs
import Derived.Shelf.Abstract
namespace Go.Proofs.Ytdbnohlignpeaaa.St
open Go.RowKit
namespace stampEachs
/-- what the calls of the iterator read -/
structure Env (B : Nat) (w : World) (Bl Bw Bs : Nat) (vl vw : Value) (G : List Run) (W : List ID) (stop : Int) : Prop where
  bl : Blk w Bl 29 #[vl]
  bw : Blk w Bw 28 #[vw]
  bs : Blk w Bs 3 #[.int .i64 stop]
  lr : SlAt runE w vl G
  wr : SlAt idE w vw W
  ll : Bl < B
  wl : Bw < B
  sl : Bs < B
  vl : ∀ b, vl.ownBlock = some b → b < B
  vw : ∀ b, vw.ownBlock = some b → b < B
theorem Env.keep {B : Nat} {w w' : World} {Bl Bw Bs : Nat} {vl vw : Value} {G : List Run} {W : List ID} {stop : Int} {S : Nat → Prop} (h : Env B w Bl Bw Bs vl vw G W stop) (hk : Kept S w w') (hs : ∀ b, S b → B ≤ b) : Env B w' Bl Bw Bs vl vw G W stop :=
  ⟨hk.blk (fun e => by have := hs _ e; have := h.ll; omega) h.bl, hk.blk (fun e => by have := hs _ e; have := h.wl; omega) h.bw, hk.blk (fun e => by have := hs _ e; have := h.sl; omega) h.bs,
    h.lr.keep hk (fun b hb _ e => by have := hs _ e; have := h.vl b hb; omega), h.wr.keep hk (fun b hb _ e => by have := hs _ e; have := h.vw b hb; omega), h.ll, h.wl, h.sl, h.vl, h.vw⟩
theorem want_at {l : List ID} {i : Nat} {x : ID} (h : l[i]? = some x) (hi : i < 3000) : (l.take 3000)[i]? = some x := by rw [List.getElem?_take, if_pos hi]; exact h
theorem want_end {l : List ID} (h : l.length < 3000) : l.length = (l.take 3000).length := by rw [List.length_take]; omega
theorem want_full {l : List ID} {i : Nat} {x : ID} (h : l[i]? = some x) (hi : i < 3000) (h2 : ¬ i + 1 < 3000) : i + 1 = (l.take 3000).length := by
  have := (List.getElem?_eq_some_iff.1 h).1
  rw [List.length_take]; omega
theorem en2 : ∀ args w, Sem.run Try.prog (callFunc 44 args) w = .ok (.enter 44 args) w := Go.Proofs.enters_of Try.func44 (by kernel_rfl) rfl
theorem en3 : ∀ args w, Sem.run Try.prog (callFunc 45 args) w = .ok (.enter 45 args) w := Go.Proofs.enters_of Try.func45 (by kernel_rfl) rfl
/-- the third: it counts, and may stop -/
theorem it3_any {B : Nat} {w : World} {Bl Bw Bs Bn : Nat} {vl vw : Value} {G : List Run} {stop : Int} (h : Env B w Bl Bw Bs vl vw G ((idsOf G).take 3000) stop) (hG : ∀ r ∈ G, r.Ok) (hb : G.length ≤ 1000000) (hn : Blk w Bn 3 #[.int .i64 0]) (hB : B ≤ Bn) :
    Calls Try.prog 73 #[.func (.func 45) #[] #[.pointer (some ⟨Bn, 0, none⟩), .pointer (some ⟨Bs, 0, none⟩)], .pointer (some ⟨Bl, 0, none⟩)] w fun e w' =>
      e = .returned (.tuple #[]) ∧ Kept (· = Bn) w w' ∧ ∃ m : Nat, Blk w' Bn 3 #[.int .i64 m] ∧ (m = ((idsOf G).take 3000).length ∨ (m : Int) = stop) := by
  refine (each1_any (S := (· = Bn)) (v := vl) hG hb 45 _ (fun i w' => i < 3000 ∧ Env B w' Bl Bw Bs vl vw G ((idsOf G).take 3000) stop ∧ Blk w' Bn 3 #[.int .i64 i]) (fun w' => ∃ m : Nat, Blk w' Bn 3 #[.int .i64 m] ∧ (m = ((idsOf G).take 3000).length ∨ (m : Int) = stop))
    (fun i w' hi => ⟨hi.2.1.bl.cell' rfl, hi.2.1.lr⟩) (fun i w1 w2 hi hk => ⟨hi.1, hi.2.1.keep hk (fun _ h => h.elim), hk.blk (fun h => h) hi.2.2⟩) (fun i x w1 hx hi => ?_) (fun b hb => by have hb : b = Bn := hb; rw [hb]; exact hn.lt) en3 ⟨by omega, h, hn⟩).mono ?_
  · refine (f3_any x i stop hi.2.2 hi.2.1.bs hi.1 (by have := h.sl; omega)).mono ?_
    rintro e w2 ⟨rfl, hb2, hk2⟩
    refine ⟨_, rfl, hk2, fun hb => ?_, fun hb => ?_⟩
    · have h3 : i + 1 < 3000 := by
        rw [Bool.and_eq_true] at hb
        exact of_decide_eq_true hb.2
      exact ⟨h3, hi.2.1.keep hk2 (fun b hb => by have hb : b = Bn := hb; omega), hb2⟩
    · refine ⟨i + 1, hb2, ?_⟩
      by_cases h3 : i + 1 < 3000
      · right
        rw [decide_eq_true h3, Bool.and_true] at hb
        exact Decidable.not_not.1 (of_decide_eq_false hb)
      · exact .inl (want_full hx hi.1 h3)
  · rintro e w2 ⟨rfl, hk, hI | hZ⟩
    · exact ⟨rfl, hk, _, hI.2.2, .inl (want_end hI.1)⟩
    · exact ⟨rfl, hk, hZ⟩
/-- the second: within the first -/
theorem it2_any {B : Nat} {w : World} {Bl Bw Bs Bo Bk : Nat} {vl vw : Value} {G : List Run} {stop : Int} (h : Env B w Bl Bw Bs vl vw G ((idsOf G).take 3000) stop) (hG : ∀ r ∈ G, r.Ok) (hb : G.length ≤ 1000000) (ho : Blk w Bo 4 #[.bool true]) (hn : Blk w Bk 3 #[.int .i64 0]) (hB : B ≤ Bo) (hB2 : B ≤ Bk) (hne : Bo ≠ Bk) :
    Calls Try.prog 73 #[.func (.func 44) #[] #[.pointer (some ⟨Bo, 0, none⟩), .pointer (some ⟨Bk, 0, none⟩), .pointer (some ⟨Bw, 0, none⟩), .pointer (some ⟨Bs, 0, none⟩)], .pointer (some ⟨Bl, 0, none⟩)] w fun e w' =>
      e = .returned (.tuple #[]) ∧ Kept (fun b => b = Bo ∨ b = Bk) w w' ∧ Blk w' Bo 4 #[.bool true] ∧ ∃ m : Nat, Blk w' Bk 3 #[.int .i64 m] ∧ (m = ((idsOf G).take 3000).length ∨ (m : Int) = stop) := by
  refine (each1_any (S := fun b => b = Bo ∨ b = Bk) (v := vl) hG hb 44 _ (fun i w' => i < 3000 ∧ Env B w' Bl Bw Bs vl vw G ((idsOf G).take 3000) stop ∧ Blk w' Bo 4 #[.bool true] ∧ Blk w' Bk 3 #[.int .i64 i]) (fun w' => Blk w' Bo 4 #[.bool true] ∧ ∃ m : Nat, Blk w' Bk 3 #[.int .i64 m] ∧ (m = ((idsOf G).take 3000).length ∨ (m : Int) = stop))
    (fun i w' hi => ⟨hi.2.1.bl.cell' rfl, hi.2.1.lr⟩) (fun i w1 w2 hi hk => ⟨hi.1, hi.2.1.keep hk (fun _ h => h.elim), hk.blk (fun h => h) hi.2.2.1, hk.blk (fun h => h) hi.2.2.2⟩) (fun i x w1 hx hi => ?_) (fun b hb => by rcases hb with rfl | rfl; exact ho.lt; exact hn.lt) en2 ⟨by omega, h, ho, hn⟩).mono ?_
  · have h1 := h.wl
    have h2 := h.sl
    refine (f2_any x i stop hi.2.2.1 hi.2.2.2 hi.2.1.bw hi.2.1.bs hi.2.1.wr (want_at hx hi.1) hi.1 hne (by omega) (by omega) (by omega) (by omega) (fun b hb => by have := h.vw b hb; omega)).mono ?_
    rintro e w2 ⟨rfl, ho2, hb2, hk2⟩
    refine ⟨_, rfl, hk2, fun hb => ?_, fun hb => ?_⟩
    · have h3 : i + 1 < 3000 := by
        rw [Bool.and_eq_true] at hb
        exact of_decide_eq_true hb.2
      exact ⟨h3, hi.2.1.keep hk2 (fun b hb => by rcases hb with rfl | rfl; exact hB; exact hB2), ho2, hb2⟩
    · refine ⟨ho2, i + 1, hb2, ?_⟩
      by_cases h3 : i + 1 < 3000
      · right
        rw [decide_eq_true h3, Bool.and_true] at hb
        exact Decidable.not_not.1 (of_decide_eq_false hb)
      · exact .inl (want_full hx hi.1 h3)
  · rintro e w2 ⟨rfl, hk, hI | hZ⟩
    · exact ⟨rfl, hk, hI.2.2.1, _, hI.2.2.2, .inl (want_end hI.1)⟩
    · exact ⟨rfl, hk, hZ⟩
end stampEachs
end Go.Proofs.Ytdbnohlignpeaaa.St
