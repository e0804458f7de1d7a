/- heap.Push, heap.Remove, heap.Fix over the timers of an Alarm. -/
import Derived.Test.YtmfjeeogeilgfaaAlPush
namespace Go.Proofs.Ytmfjeeogeilgfaa.Al
open Go.RowKit
section
variable {w : World} {A sb cap : Nat} {l m : Int} {mv : Value} {X : Row}

/-- the timers' row: none as yet, or a heap; F: its blocks -/
def RowAt (w : World) (A : Nat) (l m : Int) (mv : Value) (X : Row) (F : Nat → Prop) : Prop :=
  (X = [] ∧ Blk w A 42 #[.int .i64 l, .int .i64 m, mv, .slice none 0 0] ∧ F = fun b => b = A) ∨
  (∃ sb cap, HeapAt w A sb cap l m mv X ∧ HeapOk X ∧ F = fun b => b = A ∨ HF sb X b)

theorem len_any (a : Option Addr) (n c : Nat) (w : World) : Calls Try.prog 55 #[.slice a n c] w fun e w' => e = .returned (.int .i64 n) ∧ w = w' := by
  go_enter Try.func55, Try.ntmps55
  go_wp2
  go_ret
  exact ⟨rfl, rfl⟩

theorem heap_pushed {w1 : World} {v : Value} {tb g c : Nat} {t : T} (hX : ∀ (i : Nat) (x : Nat × T), X[i]? = some x → Blk w x.1 64 (tcells x.2 i) ∧ x.1 ≠ A ∧ x.1 ≠ tb ∧ v.ownBlock ≠ some x.1) (hnod : (X.map (·.1)).Nodup)
    (h1 : Blk w1 A 42 #[.int .i64 l, .int .i64 m, mv, .slice (some ⟨g, 0, none⟩) (X.length + 1) c]) (h2 : Blk w1 tb 64 (tcells t X.length))
    (h3 : w1.ownsRow 0 60 1 (.slice (some ⟨g, 0, none⟩) (X.length + 1) c) (X.length + 1) (ptrs X ++ [.pointer (some ⟨tb, 0, none⟩)])) (hk : Kept (fun b => b = A ∨ b = tb ∨ v.ownBlock = some b) w w1) :
    HeapAt w1 A g c l m mv (X ++ [(tb, t)]) := by
  have e : (X ++ [(tb, t)]).length = X.length + 1 := by simp
  have e2 : ptrs X ++ [.pointer (some ⟨tb, 0, none⟩)] = ptrs (X ++ [(tb, t)]) := by simp [ptrs]
  rw [← e, e2] at h3
  obtain ⟨r1, r2, r3⟩ := row_of_owns h3
  refine ⟨by rw [e]; exact h1, r1, r2, fun i x hx => ?_, ?_, r3⟩
  · by_cases hi : i < X.length
    · rw [List.getElem?_append_left hi] at hx
      obtain ⟨b, n1, n2, n3⟩ := hX i x hx
      exact hk.blk (fun h => by rcases h with h | h | h <;> contradiction) b
    · obtain rfl : i = X.length := by have := lt_of_get hx; omega
      simp at hx
      subst hx
      exact h2
  · rw [List.map_append, List.nodup_append]
    refine ⟨hnod, by simp, fun b hb c hc => ?_⟩
    simp only [List.map_cons, List.map_nil, List.mem_singleton] at hc
    subst hc
    obtain ⟨x, hx, rfl⟩ := List.mem_map.1 hb
    obtain ⟨i, hi⟩ := List.getElem?_of_mem hx
    exact (hX i x hi).2.2.1

theorem fX_append (X Y : Row) {k : Nat} (h : k < X.length) : fX (X ++ Y) k = fX X k := by simp [fX, List.getElem?_append_left h]

/-- what heap.Push does, told of the slice as it stands -/
theorem hpush_core (v : Value) (hv : ∃ a c, v = .slice a X.length c) (hA : Blk w A 42 #[.int .i64 l, .int .i64 m, mv, v]) (hown : w.ownsRow 0 60 1 v X.length (ptrs X))
    (tb : Nat) (t : T) (at0 : Nat) (ht : Blk w tb 64 (tcells t at0))
    (hX : ∀ (i : Nat) (x : Nat × T), X[i]? = some x → Blk w x.1 64 (tcells x.2 i) ∧ x.1 ≠ A ∧ x.1 ≠ tb ∧ v.ownBlock ≠ some x.1) (hnod : (X.map (·.1)).Nodup) (hok : HeapOk X) (hbig : X.length < 1000000) :
    Calls Try.prog 31 #[.iface 62 (.pointer (some ⟨A, 3, none⟩)), .iface 60 (.pointer (some ⟨tb, 0, none⟩))] w fun e w' => e = .returned (.tuple #[]) ∧
      ∃ Y g c, HeapAt w' A g c l m mv Y ∧ HeapOk Y ∧ Y.Perm ((tb, t) :: X) ∧ (v.ownBlock = some g ∨ w.heap.size ≤ g) ∧ Kept (fun b => b = A ∨ b = tb ∨ v.ownBlock = some b ∨ b ∈ X.map (·.1)) w w' := by
  have hmp := m_Push ⟨A, 3, none⟩ w
  go_enter Try.func31, Try.ntmps31
  go_wp2_with fail
  refine (push_any tb t at0 v X.length (ptrs X) (by omega) hA hv ht hown).mono ?_
  rintro e w1 ⟨rfl, g, c, h1, h2, h3, h4, hk⟩
  have hH := heap_pushed hX hnod h1 h2 h3 hk
  have hml := m_Len (a := ⟨A, 3, none⟩) (h1.cell' rfl)
  go_wp2_with (go_at_call 55; refine (len_any _ _ _ _).mono ?_; rintro e w' ⟨rfl, rfl⟩)
  refine (up_heap hH (j := X.length) (n := X.length + 1) (by omega) (by simp) (Hp.up_of_ok hok (fun k hk => fX_append X _ hk)) (by simp; omega)).mono ?_
  rintro e w2 ⟨rfl, Y, hp, hY, hokY, -, hk2⟩
  go_wp2_with fail
  go_end0
  refine ⟨rfl, Y, g, c, hY, ?_, hp.trans (List.perm_append_singleton _ _), h4, ?_⟩
  · unfold HeapOk; rw [hp.length_eq]; simpa using hokY
  · refine (hk.mono fun b _ hb => ?_).trans hk2 fun b hb hs => ?_
    · rcases hb with h | h | h
      · exact .inl h
      · exact .inr (.inl h)
      · exact .inr (.inr (.inl h))
    · rcases hs with h | h
      · subst h
        rcases h4 with h4 | h4
        · exact .inr (.inr (.inl h4))
        · omega
      · rw [List.map_append, List.mem_append] at h
        rcases h with h | h
        · exact .inr (.inr (.inr h))
        · simp at h; exact .inr (.inl h)

theorem hpush {F : Nat → Prop} (h : RowAt w A l m mv X F) (tb : Nat) (t : T) (at0 : Nat) (ht : Blk w tb 64 (tcells t at0)) (hnew : ∀ x ∈ X, x.1 ≠ tb) (hbig : X.length < 1000000) :
    Calls Try.prog 31 #[.iface 62 (.pointer (some ⟨A, 3, none⟩)), .iface 60 (.pointer (some ⟨tb, 0, none⟩))] w fun e w' => e = .returned (.tuple #[]) ∧
      ∃ Y F', RowAt w' A l m mv Y F' ∧ Y.Perm ((tb, t) :: X) ∧ (∀ b, b < w.heap.size → F' b → F b ∨ b = tb) ∧ Kept (fun b => F b ∨ b = tb) w w' := by
  rcases h with ⟨rfl, hA, rfl⟩ | ⟨sb, cap, hH, hok, rfl⟩
  · refine (hpush_core (X := []) (.slice none 0 0) ⟨_, _, rfl⟩ hA (World.ownsRow_nil _ _ _ _) tb t at0 ht (fun i x hi => by simp at hi) (by simp) (fun k _ hk => by simp at hk) (by simp)).mono ?_
    rintro e w' ⟨rfl, Y, g, c, hY, hok, hp, hg, hk⟩
    refine ⟨rfl, Y, _, .inr ⟨g, c, hY, hok, rfl⟩, hp, fun b hb hF => ?_, hk.mono fun b _ hb => ?_⟩
    · rcases hF with h | h
      · exact .inl h
      · rcases HF_perm hp h with h | h
        · subst h; rcases hg with h | h
          · simp [Value.ownBlock] at h
          · omega
        · simp at h; exact .inr h
    · rcases hb with h | h | h | h
      · exact .inl h
      · exact .inr h
      · simp [Value.ownBlock] at h
      · simp at h
  · refine (hpush_core _ ⟨_, _, rfl⟩ hH.top hH.owns tb t at0 ht (fun i x hi => ⟨hH.tim i x hi, (hH.A_ne hi).symm, hnew x (List.mem_of_getElem? hi), fun e => hH.sb_ne hi (by simpa [Value.ownBlock] using e)⟩) hH.nod hok hbig).mono ?_
    rintro e w' ⟨rfl, Y, g, c, hY, hok, hp, hg, hk⟩
    refine ⟨rfl, Y, _, .inr ⟨g, c, hY, hok, rfl⟩, hp, fun b hb hF => ?_, hk.mono fun b _ hb => ?_⟩
    · rcases hF with h | h
      · exact .inl (.inl h)
      · rcases HF_perm hp h with h | h
        · subst h; rcases hg with h | h
          · exact .inl (.inr (.inl (by simpa [Value.ownBlock] using h.symm)))
          · omega
        · simp only [List.map_cons, List.mem_cons] at h
          rcases h with h | h
          · exact .inr h
          · exact .inl (.inr (.inr h))
    · rcases hb with h | h | h | h
      · exact .inl (.inl h)
      · exact .inr h
      · exact .inl (.inr (.inl (by simpa [Value.ownBlock] using h.symm)))
      · exact .inl (.inr (.inr h))

theorem split_last {Y : Row} {n : Nat} {x : Nat × T} (hl : Y.length = n + 1) (hx : Y[n]? = some x) : ∃ Z : Row, Y = Z ++ [x] ∧ Z.length = n := by
  refine ⟨Y.take n, ?_, by simp; omega⟩
  have h := List.take_append_drop n Y
  rw [List.drop_eq_getElem_cons (by omega), List.drop_of_length_le (by omega)] at h
  rw [List.getElem?_eq_getElem (by omega)] at hx
  rw [← Option.some.inj hx]
  exact h.symm

theorem hremove (h : HeapAt w A sb cap l m mv X) (hok : HeapOk X) {i : Nat} {x : Nat × T} (hi : X[i]? = some x) (hbig : X.length ≤ 1000000) :
    Calls Try.prog 29 #[.iface 62 (.pointer (some ⟨A, 3, none⟩)), .int .i64 i] w fun e w' => e = .returned (.iface 60 (.pointer (some ⟨x.1, 0, none⟩))) ∧
      ∃ Y, HeapAt w' A sb cap l m mv Y ∧ HeapOk Y ∧ (x :: Y).Perm X ∧ Kept (fun b => b = A ∨ HF sb X b) w w' := by
  have hil := lt_of_get hi
  obtain ⟨n, hn⟩ : ∃ n, X.length = n + 1 := ⟨X.length - 1, by omega⟩
  have hml := m_Len h.sl
  by_cases e : i = n
  · subst e
    obtain ⟨Z, rfl, rfl⟩ := split_last hn hi
    have hmp := m_Pop ⟨A, 3, none⟩ w
    go_enter Try.func29, Try.ntmps29
    go_wp2_with (first
      | (go_at_call 55; refine (len_any _ _ _ _).mono ?_; rintro e w' ⟨rfl, rfl⟩)
      | (go_at_call 58; refine (pop_heap h (by simp at hbig; omega)).mono ?_; rintro e w' ⟨rfl, hY, hk⟩))
    go_ret
    exact ⟨rfl, Z, hY, Hp.ok_mono hok (by simp) (fun k hk => (fX_append Z _ hk).symm), (List.perm_append_singleton x Z).symm, hk.mono fun b _ hb => hb.imp id .inl⟩
  · obtain ⟨y, hy⟩ := get_of_lt (X := X) (i := n) (by omega)
    have hni : (((n : Nat) : Int) == (i : Int)) = false := by simp; omega
    have hne : ((n : Int) != (i : Int)) = true := by simp; omega
    have hlen1 : ((X.length : Nat) : Int) - 1 = n := by omega
    have H1 := Lib.hid hi
    have H2 := Lib.hid hy
    have H3 := Lib.hid hn
    clear hi hy hn
    have hms := m_Swap h.sl
    have hdown : Hp.Down T.le (fX (swl X i n)) n i i := by
      have h1 : Hp.Ok T.le (fX X) n := Hp.ok_mono hok (by omega) (fun _ _ => rfl)
      refine Hp.down_congr (Hp.down_of_ok h1 i (fun k => if k = i then fX (swl X i n) i else fX X k) (fun k hk => if_neg hk) T.le_trans) (by omega) (fun k hk => ?_)
      by_cases e2 : k = i
      · subst e2; rw [if_pos rfl]
      · rw [if_neg e2, fX_swl H1.out H2.out]
        unfold Hp.swf
        rw [if_neg e2, if_neg (by omega)]
    have hlast : (swl X i n)[n]? = some x := by rw [swl_get H1.out H2.out, if_pos rfl]
    have hlen2 : (swl X i n).length = n + 1 := by rw [swl_len]; exact H3.out
    have hperm := swl_perm X i n
    have D := Lib.hid hdown
    have L := Lib.hid hlast
    have L2 := Lib.hid hlen2
    have HP := Lib.hid hperm
    clear hdown hlast hlen2 hperm
    have hin : i < n := by omega
    go_enter Try.func29, Try.ntmps29
    go_wp2_with (first
      | (go_at_call 55; refine (len_any _ _ _ _).mono ?_; rintro e w' ⟨rfl, rfl⟩)
      | (go_at_call 57; refine (swap_heap h H1.out H2.out (by omega)).mono ?_; rintro e w1 ⟨rfl, hZ, hk1⟩))
    refine (down_heap hZ (i0 := i) (n := n) hin (by have := L2.out; omega) D.out (by have := L2.out; have := H3.out; omega)).mono ?_
    rintro e w2 ⟨Y, b, rfl, hp, hY, hT, hF, htl, hk2⟩
    have hk12 : Kept (HF sb X) w w2 := hk1.trans hk2 fun b _ hb => HF_perm HP.out hb
    cases b
    · have U := Lib.hid (hF rfl)
      have TL := Lib.hid htl
      clear hT hF htl
      go_wp2_with fail
      have hlY : Y.length = n + 1 := by rw [hp.length_eq]; exact L2.out
      refine (up_heap hY (j := i) (n := n) hin (by omega) U.out (by have := H3.out; omega)).mono ?_
      rintro e w3 ⟨rfl, Y3, hp3, hY3, hok3, htl3, hk3⟩
      have hm := m_Pop ⟨A, 3, none⟩ w3
      have hlY3 : Y3.length = n + 1 := by rw [hp3.length_eq]; exact hlY
      have hl3 : Y3[n]? = some x := by rw [htl3 n (Nat.le_refl _), TL.out n (Nat.le_refl _)]; exact L.out
      obtain ⟨Z, rfl, rfl⟩ := split_last hlY3 hl3
      have P3 := Lib.hid hp3
      clear hlY3 hl3 hlY hp3 htl3
      go_wp2_with (go_at_call 58; refine (pop_heap hY3 (by have := H3.out; omega)).mono ?_; rintro e w' ⟨rfl, hY4, hk4⟩)
      go_ret
      have hpa := (P3.out.trans hp).trans HP.out
      refine ⟨rfl, Z, hY4, Hp.ok_mono hok3 (Nat.le_refl _) (fun k hk => (fX_append Z _ hk).symm), (List.perm_append_singleton x Z).symm.trans hpa, ?_⟩
      refine (hk12.mono fun b _ hb => .inr hb).trans ((hk3.mono fun b _ hb => ?_).trans hk4 fun b _ hb => ?_) fun b _ hb => hb
      · exact .inr (HF_perm (hp.trans HP.out) hb)
      · exact hb.imp id .inl
    · have U := Lib.hid (hT rfl)
      have TL := Lib.hid htl
      clear hT hF htl
      have hm := m_Pop ⟨A, 3, none⟩ w2
      have hlY : Y.length = n + 1 := by rw [hp.length_eq]; exact L2.out
      have hl3 : Y[n]? = some x := by rw [TL.out n (Nat.le_refl _)]; exact L.out
      obtain ⟨Z, rfl, rfl⟩ := split_last hlY hl3
      have P3 := Lib.hid hp
      clear hlY hl3 hp
      go_wp2_with (go_at_call 58; refine (pop_heap hY (by have := H3.out; omega)).mono ?_; rintro e w' ⟨rfl, hY4, hk4⟩)
      go_ret
      refine ⟨rfl, Z, hY4, Hp.ok_mono U.out (Nat.le_refl _) (fun k hk => (fX_append Z _ hk).symm), (List.perm_append_singleton x Z).symm.trans (P3.out.trans HP.out), ?_⟩
      exact (hk12.mono fun b _ hb => .inr hb).trans hk4 fun b _ hb => hb.imp id .inl

theorem hfix (h : HeapAt w A sb cap l m mv X) {i : Nat} (hi : i < X.length) (hd : Hp.Down T.le (fX X) X.length i i) (hbig : X.length ≤ 1000000) :
    Calls Try.prog 32 #[.iface 62 (.pointer (some ⟨A, 3, none⟩)), .int .i64 i] w fun e w' => e = .returned (.tuple #[]) ∧
      ∃ Y, HeapAt w' A sb cap l m mv Y ∧ HeapOk Y ∧ Y.Perm X ∧ Kept (HF sb X) w w' := by
  have hml := m_Len h.sl
  have D := Lib.hid hd
  clear hd
  go_enter Try.func32, Try.ntmps32
  go_wp2_with (go_at_call 55; refine (len_any _ _ _ _).mono ?_; rintro e w' ⟨rfl, rfl⟩)
  refine (down_heap h (i0 := i) (n := X.length) hi (Nat.le_refl _) D.out hbig).mono ?_
  rintro e w2 ⟨Y, b, rfl, hp, hY, hT, hF, htl, hk2⟩
  have P := Lib.hid hp
  have hl := hp.length_eq
  have L := Lib.hid hl
  cases b
  · have U := Lib.hid (hF rfl)
    clear hT hF htl hp hl
    go_wp2_with fail
    refine (up_heap hY (j := i) (n := X.length) hi (by have := L.out; omega) U.out (by have := L.out; omega)).mono ?_
    rintro e w3 ⟨rfl, Y3, hp3, hY3, hok3, -, hk3⟩
    have P3 := Lib.hid hp3
    clear hp3
    go_wp2_with fail
    first | go_end0 | refine bodyPost_ret (results_none rfl _ _ _) rfl ?_
    refine ⟨rfl, Y3, hY3, ?_, P3.out.trans P.out, hk2.trans hk3 fun b _ hb => HF_perm P.out hb⟩
    unfold HeapOk; rw [(P3.out.trans P.out).length_eq]; exact hok3
  · have U := Lib.hid (hT rfl)
    clear hT hF htl hp hl
    go_wp2_with fail
    first | go_end0 | refine bodyPost_ret (results_none rfl _ _ _) rfl ?_
    exact ⟨rfl, Y, hY, by unfold HeapOk; rw [L.out]; exact U.out, P.out, hk2⟩
end
end Go.Proofs.Ytmfjeeogeilgfaa.Al
