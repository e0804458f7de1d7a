/- glyph.Cut. Just where it is asked for: plainly. -/
import Derived.Test.YtlafodnaifghcaaK34
import Derived.Test.YtlafodnaifghcaaK21
namespace Go.Proofs.Ytlafodnaifghcaa.Tr
open Go.RowKit Go.Proofs.Ytlafodnaifghcaa.St Go.Shelf Go.Proofs.Ytlafodnaifghcaa.Gl Go.Proofs.Ytlafodnaifghcaa
attribute [local go_sem] Oper.semAt_some
theorem gall_any (s : ByteArray) (w : World) : Calls Try.prog 51 #[.string s] w fun e w' =>
    e = .returned (.func (.func 74) #[] #[.pointer (some ⟨w.heap.size, 0, none⟩)]) ∧ w' = w.alloc (.cells #[.string s] 9) := by
  go_enter Try.func51, Try.ntmps51
  go_wp2
  go_ret
  exact ⟨rfl, rfl⟩
/-- where Cut cuts -/
def cutG (s : ByteArray) (n : Nat) : Nat := (pieces s 0)[n]?.getD s.size
theorem pieces_lt {s : ByteArray} : ∀ (m i : Nat), s.size - i ≤ m → ∀ p ∈ pieces s i, p < s.size := by
  intro m
  induction m with
  | zero => intro i hm p hp; rw [pieces_end (by omega)] at hp; simp at hp
  | succ m ih =>
    intro i hm p hp
    by_cases h : i < s.size
    · rw [pieces_next h] at hp
      rcases List.mem_cons.1 hp with rfl | hp
      · exact h
      · exact ih _ (by have := stepW_pos s i; omega) p hp
    · rw [pieces_end h] at hp; simp at hp
theorem cutG_le (s : ByteArray) (n : Nat) : cutG s n ≤ s.size := by
  unfold cutG
  cases h : (pieces s 0)[n]? with
  | none => exact Nat.le_refl _
  | some p => exact Nat.le_of_lt (pieces_lt _ 0 (Nat.le_refl _) p (List.mem_of_getElem? h))
def cutB (z : Nat) (s : ByteArray) (n at_ k : Nat) : List Box := [(z, 3, #[.int .i64 n]), (z + 1, 3, #[.int .i64 at_]), (z + 2, 3, #[.int .i64 k]), (z + 3, 9, #[.string s])]
theorem cutB_nodup (z : Nat) (s : ByteArray) (n at_ k : Nat) : ((cutB z s n at_ k).map (·.1)).Nodup := by simp [cutB]
def cutJ (w : World) (B : Nat) (s : ByteArray) (n : Nat) (i : Nat) (X : Nat → Prop) (W : World) : Prop := BJ w B (cutB w.heap.size s n s.size i) X W ∧ i ≤ n
def cutX (w : World) (B : Nat) (s : ByteArray) (n : Nat) (c : Code) (X : Nat → Prop) (W : World) : Prop := c = .exit 0 ∧ n < (pieces s 0).length ∧ BJ w B (cutB w.heap.size s n (cutG s n) n) X W
set_option maxRecDepth 100000 in
set_option maxHeartbeats 8000000 in
theorem cut_any (s : ByteArray) (n : Nat) (hs : s.size ≤ 1000000) (hn : n ≤ 1000000) (w : World) :
    Calls Try.prog 29 #[.string s, .int .i64 n] w fun e w' => e = .returned (.tuple #[.string (s.extract 0 (if n = 0 then 0 else cutG s n)), .string (s.extract (if n = 0 then 0 else cutG s n) s.size)]) ∧ Kept (fun _ => False) w w' := by
  obtain ⟨kk, hkk⟩ : ∃ kk, (if n = 0 then 0 else cutG s n) = kk := ⟨_, rfl⟩
  rw [hkk]
  have HKK := Lib.hid hkk
  clear hkk
  refine (callsIn_wide (n := 6)).1 ?_
  refine callsIn_of_wp_marks Try.func29 rfl trivial ?_ rfl
  simp only [Try.ntmps29, List.size_toArray, List.length_cons, List.length_nil, Nat.reduceAdd, Nat.reduceSub, Array.replicate_succ, Array.replicate_zero, List.push_toArray, List.append_toArray, List.nil_append, List.cons_append]
  gi_wp2
  refine wpIn_scope_straight ?_
  gi_wp2
  refine wpIn_label ?_
  gi_wp2_with (refine ⟨trivial, ?_⟩; gi_at_call 51; refine (callsIn_wide.2 (gall_any s _)).mono ?_; rintro e w' ⟨rfl, rfl⟩)
  obtain ⟨W0, hW0⟩ : ∃ W0, ((((w.alloc (.cells #[.int .i64 n] 3)).alloc (.cells #[.int .i64 s.size] 3)).alloc (.cells #[.int .i64 0] 3)).alloc (.cells #[.string s] 9)) = W0 := ⟨_, rfl⟩
  have hC : BJ w W0.heap.size (cutB w.heap.size s n s.size 0) (fun _ => False) W0 := by
    rw [← hW0]
    have h9 := ((((BJ.start w).boxed #[.int .i64 n] 3).boxed #[.int .i64 s.size] 3).boxed #[.int .i64 0] 3).boxed #[.string s] 9
    simp only [World.size_alloc] at h9 ⊢
    exact h9
  rw [hW0]
  clear hW0
  have hpl := pieces_len s s.size 0 (by omega)
  refine wpIn_iter rfl (by decide) (gf := 74) (lb := #[.pointer (some ⟨w.heap.size + 1 + 1 + 1, 0, none⟩)]) rfl trivial (enters_of Try.func74 (by kernel_rfl) rfl) (gall_iter (s := s)) (fun _ _ => rfl) W0.heap.size rfl (cutJ w W0.heap.size s n) (cutX w W0.heap.size s n) ?hrd ?hgr ?hgx ?hob ?hox ?h0 ?round ?done ?stop
  case hrd => intro i X W hJ; exact hJ.1.cell 3 rfl 0 rfl
  case hgr => intro i X W W' hJ hk; exact ⟨BJ.grow hJ.1 hk, hJ.2⟩
  case hgx => intro c X W W' h hk; exact ⟨h.1, h.2.1, BJ.grow h.2.2 hk⟩
  case hob => intro i X W o' hJ; exact ⟨BJ.put hJ.1 (Nat.le_succ _) o', hJ.2⟩
  case hox => intro c X W o' h; exact ⟨h.1, h.2.1, BJ.put h.2.2 (Nat.le_succ _) o'⟩
  case h0 => intro o1 o2; exact ⟨(hC.alloc o1).alloc o2, Nat.zero_le _⟩
  case round =>
    intro i W K hi hK
    have hib : (i : Int) ≤ 1000000 := by omega
    have hnb : (0 : Int) ≤ n ∧ (n : Int) ≤ 1000000 := by omega
    unfold glyEnc
    obtain ⟨pp, hpp⟩ : ∃ pp, placeG s i = pp := ⟨_, rfl⟩
    have PP := Lib.hid hpp
    rw [hpp]
    clear hpl hpp
    gi_wp2
    rintro X W h2 hJ
    have HI := Lib.hid (And.intro hi hJ.2)
    have hJ : BJ w W0.heap.size (cutB w.heap.size s n s.size i) X W := hJ.1
    have HJ := Lib.hid hJ
    have H2 := Lib.hid h2
    have c0 : W.cell? ⟨w.heap.size, 0, none⟩ = some (.int .i64 n) := hJ.cell 0 rfl 0 rfl
    have c1 : W.cell? ⟨w.heap.size + 1, 0, none⟩ = some (.int .i64 s.size) := hJ.cell 1 rfl 0 rfl
    have c2 : W.cell? ⟨w.heap.size + 2, 0, none⟩ = some (.int .i64 i) := hJ.cell 2 rfl 0 rfl
    have f1 := hJ.frozen 1 rfl 0
    have f2 := hJ.frozen 2 rfl 0
    clear hJ h2
    by_cases hin : i = n
    · subst hin
      gi_wp2
      have ho := HJ.out.off H2.out (Y := (· = w.heap.size + 1)) (kept_cell W (w.heap.size + 1) (.int .i64 pp)) (fun b hb => by rw [hb]; exact (HJ.out.box _ (.tail _ (.head _))).1.2)
      refine ⟨ho.1, ho.2, rfl, HI.out.1, ?_⟩
      have e1 : cutG s i = pp := by
        have h1 := PP.out
        unfold placeG at h1
        unfold cutG
        rw [List.getElem?_eq_getElem HI.out.1] at h1 ⊢
        exact h1
      rw [e1]
      exact HJ.out.set 1 (.int .i64 pp) rfl (cutB_nodup ..)
    · have hin' : ((i : Int) == n) = false := by simp; omega
      gi_wp2
      have ho := HJ.out.off H2.out (Y := (· = w.heap.size + 2)) (kept_cell W (w.heap.size + 2) (.int .i64 ((i : Int) + 1))) (fun b hb => by rw [hb]; exact (HJ.out.box _ (.tail _ (.tail _ (.head _)))).1.2)
      refine ⟨ho.1, ho.2, ?_, by have := HI.out.2; omega⟩
      have h9 := HJ.out.set 2 (.int .i64 ((i : Int) + 1)) rfl (cutB_nodup ..)
      have e1 : (((i + 1 : Nat) : Int)) = (i : Int) + 1 := by omega
      show BJ _ _ (cutB w.heap.size s n s.size (i + 1)) _ _
      unfold cutB
      rw [e1]
      exact h9
  case done =>
    rintro X W ⟨hJ, hle⟩ hK
    have hce : cutG s n = s.size := by
      unfold cutG
      rw [List.getElem?_eq_none hle]
      rfl
    rw [← hce] at hJ
    have hJ : BJ w W0.heap.size (cutB w.heap.size s n (cutG s n) (pieces s 0).length) X W := by
      have h9 := hJ
      rw [hce] at h9 ⊢
      exact h9
    have HJ := Lib.hid hJ
    have HK := Lib.hid hK
    have c0 : W.cell? ⟨w.heap.size, 0, none⟩ = some (.int .i64 n) := hJ.cell 0 rfl 0 rfl
    have hcut := cutG_le s n
    obtain ⟨cc, hcc⟩ : ∃ cc, cutG s n = cc := ⟨_, rfl⟩
    rw [hcc] at hJ HJ hcut
    have hkk := HKK.out
    rw [hcc] at hkk
    have hccI : (cc : Int) ≤ s.size := by omega
    have hcc0 : (0 : Int) ≤ cc := by omega
    have c1 : W.cell? ⟨w.heap.size + 1, 0, none⟩ = some (.int .i64 cc) := hJ.cell 1 rfl 0 rfl
    have f1 := hJ.frozen 1 rfl 0
    clear hJ hK hcc hpl
    by_cases hn0 : n = 0
    · subst hn0
      rw [if_pos rfl] at hkk
      subst hkk
      clear HKK
      gi_wp2
      have hJ1 := HJ.out.set 1 (.int .i64 0) rfl (cutB_nodup ..)
      have hK1 : (W.setCell ⟨w.heap.size + 1, 0, none⟩ (.int .i64 0)).heap[W0.heap.size]? = some (.deferred (some [])) := by
        rw [(kept_cell W (w.heap.size + 1) (.int .i64 0)).block W0.heap.size (Array.getElem?_eq_some_iff.1 HK.out).1 (fun e => by have := (HJ.out.box _ (.tail _ (.head _))).1.2; have e : W0.heap.size = w.heap.size + 1 := e; simp only at this; omega)]
        exact HK.out
      obtain ⟨W1, hW1⟩ : ∃ W1, W.setCell ⟨w.heap.size + 1, 0, none⟩ (.int .i64 0) = W1 := ⟨_, rfl⟩
      rw [hW1] at hJ1 hK1 ⊢
      have d1 : W1.cell? ⟨w.heap.size + 1, 0, none⟩ = some (.int .i64 0) := hJ1.cell 1 rfl 0 rfl
      have HJ1 := Lib.hid hJ1
      have HK1 := Lib.hid hK1
      clear hW1 hJ1 hK1 HJ HK c0 c1 f1
      gi_region
      all_goals
        gi_wp2
        refine ret_range (v := .tuple #[.string ByteArray.empty, .string s]) (show W1.drew.heap[W0.heap.size]? = _ from HK1.out) (by simp [results, Try.results29, go_sem]) ⟨by simp, (BJ.taken (HJ1.out.step (Y := fun _ => False) ((Kept.refl _ _).drew) fun _ h => h.elim) _).kept⟩
    · have hn1 : ¬ (n : Int) ≤ 0 := by omega
      rw [if_neg hn0] at hkk
      subst hkk
      clear HKK
      gi_wp2
      clear c0
      gi_region
      all_goals
        gi_wp2
        refine ret_range (v := .tuple #[.string (s.extract 0 cc), .string (s.extract cc s.size)]) (show W.drew.heap[W0.heap.size]? = _ from HK.out) (by simp [results, Try.results29, go_sem]) ⟨rfl, (BJ.taken (HJ.out.step (Y := fun _ => False) ((Kept.refl _ _).drew) fun _ h => h.elim) _).kept⟩
  case stop =>
    rintro c X W ⟨rfl, hlt, hJ⟩ hK
    have HJ := Lib.hid hJ
    have HK := Lib.hid hK
    have c0 : W.cell? ⟨w.heap.size, 0, none⟩ = some (.int .i64 n) := hJ.cell 0 rfl 0 rfl
    have hcut := cutG_le s n
    obtain ⟨cc, hcc⟩ : ∃ cc, cutG s n = cc := ⟨_, rfl⟩
    rw [hcc] at hJ HJ hcut
    have hkk := HKK.out
    rw [hcc] at hkk
    have hccI : (cc : Int) ≤ s.size := by omega
    have hcc0 : (0 : Int) ≤ cc := by omega
    have c1 : W.cell? ⟨w.heap.size + 1, 0, none⟩ = some (.int .i64 cc) := hJ.cell 1 rfl 0 rfl
    have f1 := hJ.frozen 1 rfl 0
    clear hJ hK hcc hpl
    by_cases hn0 : n = 0
    · subst hn0
      rw [if_pos rfl] at hkk
      subst hkk
      clear HKK
      gi_wp2
      have hJ1 := HJ.out.set 1 (.int .i64 0) rfl (cutB_nodup ..)
      have hK1 : (W.setCell ⟨w.heap.size + 1, 0, none⟩ (.int .i64 0)).heap[W0.heap.size]? = some (.deferred (some [])) := by
        rw [(kept_cell W (w.heap.size + 1) (.int .i64 0)).block W0.heap.size (Array.getElem?_eq_some_iff.1 HK.out).1 (fun e => by have := (HJ.out.box _ (.tail _ (.head _))).1.2; have e : W0.heap.size = w.heap.size + 1 := e; simp only at this; omega)]
        exact HK.out
      obtain ⟨W1, hW1⟩ : ∃ W1, W.setCell ⟨w.heap.size + 1, 0, none⟩ (.int .i64 0) = W1 := ⟨_, rfl⟩
      rw [hW1] at hJ1 hK1 ⊢
      have d1 : W1.cell? ⟨w.heap.size + 1, 0, none⟩ = some (.int .i64 0) := hJ1.cell 1 rfl 0 rfl
      have HJ1 := Lib.hid hJ1
      have HK1 := Lib.hid hK1
      clear hW1 hJ1 hK1 HJ HK c0 c1 f1
      gi_region
      all_goals
        gi_wp2
        refine ret_range (v := .tuple #[.string ByteArray.empty, .string s]) (show W1.drew.heap[W0.heap.size]? = _ from HK1.out) (by simp [results, Try.results29, go_sem]) ⟨by simp, (BJ.taken (HJ1.out.step (Y := fun _ => False) ((Kept.refl _ _).drew) fun _ h => h.elim) _).kept⟩
    · have hn1 : ¬ (n : Int) ≤ 0 := by omega
      rw [if_neg hn0] at hkk
      subst hkk
      clear HKK
      gi_wp2
      clear c0
      gi_region
      all_goals
        gi_wp2
        refine ret_range (v := .tuple #[.string (s.extract 0 cc), .string (s.extract cc s.size)]) (show W.drew.heap[W0.heap.size]? = _ from HK.out) (by simp [results, Try.results29, go_sem]) ⟨rfl, (BJ.taken (HJ.out.step (Y := fun _ => False) ((Kept.refl _ _).drew) fun _ h => h.elim) _).kept⟩
end Go.Proofs.Ytlafodnaifghcaa.Tr
namespace Go.Proofs.Ytlafodnaifghcaa.Tr
open Go.RowKit Go.Proofs.Ytlafodnaifghcaa.St Go.Proofs.Ytlafodnaifghcaa.Gl Go.Proofs.Ytlafodnaifghcaa
theorem textB_runes (L : List Nd) : (⟨(textB L).toArray⟩ : ByteArray) = runeText (L.map Nd.rune) := by
  unfold textB runeText
  rw [List.flatMap_map]
theorem runeText_append (a b : List Int) : runeText a ++ runeText b = runeText (a ++ b) := by
  apply ByteArray.ext
  rw [ByteArray.data_append]
  unfold runeText
  rw [List.flatMap_append]
  simp
theorem pieces_enc {s : ByteArray} : ∀ (rs : List Int) (pre : List UInt8) (n : Nat), (∀ r ∈ rs, isRuneP r) → s.data.toList = pre ++ rs.flatMap encB → (pieces s pre.length)[n]?.getD s.size = pre.length + ((rs.take n).flatMap encB).length
  | [], pre, n, _, h => by
    have hs : pre.length = s.size := by
      have h1 : s.data.toList.length = pre.length := by rw [h]; simp
      have h2 : s.data.toList.length = s.size := by simp
      omega
    rw [pieces_end (by omega)]
    simp [hs]
  | r :: rs, pre, n, hr, h => by
    rw [List.flatMap_cons] at h
    obtain ⟨h1, h2, h3, h4⟩ := runes_cons (hr r (List.mem_cons_self ..)) h
    rw [pieces_next h1]
    cases n with
    | zero => simp
    | succ n =>
      have ih := pieces_enc (s := s) rs (pre ++ encB r) n (fun x hx => hr x (List.mem_cons_of_mem _ hx)) (by rw [h, List.append_assoc])
      rw [List.length_append] at ih
      rw [List.getElem?_cons_succ, h2, ih, List.take_succ_cons, List.flatMap_cons, List.length_append]
      omega
theorem cut_runes {rs : List Int} (h : ∀ r ∈ rs, isRuneP r) (n : Nat) : (if n = 0 then 0 else cutG (runeText rs) n) = ((rs.take n).flatMap encB).length := by
  have h1 := pieces_enc (s := runeText rs) rs [] n h (by simp [runeText])
  by_cases hn : n = 0
  · subst hn; simp
  · rw [if_neg hn]
    unfold cutG
    rw [List.length_nil] at h1
    rw [h1]
    omega
theorem extract_of {s : ByteArray} {a b : List UInt8} (h : s.data.toList = a ++ b) : s.extract 0 a.length = ⟨a.toArray⟩ ∧ s.extract a.length s.size = ⟨b.toArray⟩ := by
  have hs : s.size = a.length + b.length := by
    have h2 : s.data.toList.length = s.size := by simp
    rw [h, List.length_append] at h2
    omega
  have hd : s.data = (a ++ b).toArray := by rw [← h]
  constructor
  · apply ByteArray.ext
    rw [ByteArray.data_extract, hd]
    simp
  · apply ByteArray.ext
    rw [ByteArray.data_extract, hd, hs]
    simp
theorem cut_parts {rs : List Int} (n : Nat) : (runeText rs).extract 0 ((rs.take n).flatMap encB).length = runeText (rs.take n) ∧ (runeText rs).extract ((rs.take n).flatMap encB).length (runeText rs).size = runeText (rs.drop n) := by
  refine extract_of ?_
  have h : rs.flatMap encB = (rs.take n).flatMap encB ++ (rs.drop n).flatMap encB := by
    rw [← List.flatMap_append, List.take_append_drop]
  simp [runeText, h]
theorem shL_append (A B : List Nd) : shL (A ++ B) = shL A ++ shL B := List.filter_append ..
theorem shL_split : ∀ {L : List Nd} {k : Nat} {x : Nd}, (shL L)[k]? = some x → ∃ P K, L = P ++ x :: K ∧ (shL P).length = k ∧ x.st = 1
  | [], k, x, h => by simp [shL] at h
  | y :: L, k, x, h => by
    by_cases hy : y.st = 1
    · have e : shL (y :: L) = y :: shL L := List.filter_cons_of_pos (by simpa using hy)
      rw [e] at h
      cases k with
      | zero =>
        simp at h
        subst h
        exact ⟨[], L, rfl, rfl, hy⟩
      | succ k =>
        obtain ⟨P, K, h1, h2, h3⟩ := shL_split (L := L) (k := k) (x := x) (by simpa using h)
        refine ⟨y :: P, K, by rw [h1]; rfl, ?_, h3⟩
        have e2 : shL (y :: P) = y :: shL P := List.filter_cons_of_pos (by simpa using hy)
        rw [e2, List.length_cons, h2]
    · have e : shL (y :: L) = shL L := List.filter_cons_of_neg (by simpa using hy)
      rw [e] at h
      obtain ⟨P, K, h1, h2, h3⟩ := shL_split (L := L) (k := k) (x := x) h
      refine ⟨y :: P, K, by rw [h1]; rfl, ?_, h3⟩
      have e2 : shL (y :: P) = shL P := List.filter_cons_of_neg (by simpa using hy)
      rw [e2, h2]
theorem nodup_split {P K : List Nd} {x : Nd} (h : (ids (P ++ x :: K)).Nodup) : ∀ m ∈ P, m.id ≠ x.id := by
  intro m hm e
  have h1 : (ids P ++ ids (x :: K)).Nodup := by rw [← ids_append]; exact h
  obtain ⟨_, _, h3⟩ := List.nodup_append.1 h1
  exact h3 m.id (List.mem_map.2 ⟨m, hm, rfl⟩) x.id (List.mem_map.2 ⟨x, List.mem_cons_self, rfl⟩) e
/-- an element that is shown is found where it stands -/
theorem find_shown {L : List Nd} (hd : Doc L) {k : Nat} {x : Nd} (h : (shL L)[k]? = some x) : findP L x.id = ((k : Int), 1) := by
  obtain ⟨P, K, h1, h2, h3⟩ := shL_split h
  obtain ⟨_, _, _, hnd⟩ := hd
  rw [h1] at hnd ⊢
  have hx : (P ++ x :: K)[P.length]? = some x := by rw [List.getElem?_append_right (Nat.le_refl _)]; simp
  have ht : (P ++ x :: K).take P.length = P := by rw [List.take_append_of_le_length (Nat.le_refl _), List.take_length]
  rw [findP_at hx rfl (by rw [ht]; exact nodup_split hnd), ht]
  show (((shL P).length : Int), x.st) = _
  rw [h2, h3]
theorem place_high {L : List Nd} {i ref : ID} (hlt : ∀ y ∈ ids L, y.lt i) : placeP L i ref = if ref = ID.zero then 0 else L.findIdx (fun n => decide (n.id = ref)) + 1 := by
  unfold placeP
  generalize (if ref = ID.zero then 0 else L.findIdx (fun n => decide (n.id = ref)) + 1) = k
  cases hL : L.length with
  | zero => rfl
  | succ f =>
    unfold placeGo
    cases hk : L[k]? with
    | none => rfl
    | some n =>
      dsimp only
      rw [if_neg]
      rintro ⟨_, h2⟩
      exact ID.lt_irrefl _ (ID.lt_trans h2 (hlt n.id (List.mem_map.2 ⟨n, List.mem_of_getElem? hk, rfl⟩)))
theorem findIdx_split {P K : List Nd} {x : Nd} (h : ∀ m ∈ P, m.id ≠ x.id) : (P ++ x :: K).findIdx (fun n => decide (n.id = x.id)) = P.length := by
  induction P with
  | nil => simp [List.findIdx_cons]
  | cons y P ih =>
    rw [List.cons_append, List.findIdx_cons]
    have e : decide (y.id = x.id) = false := decide_eq_false (h y List.mem_cons_self)
    rw [e, ih fun m hm => h m (List.mem_cons_of_mem _ hm)]
    rfl
theorem just_law {L : List Nd} (hdoc : Doc L) (his : ∀ n ∈ L, n.id.Is) {T : Nat} (hT : T ≤ 1000000) (hle : ∀ y ∈ ids L, y.t ≤ T) {rs : List Int} (hrs : ∀ x ∈ rs, isRuneP x) (hne : rs ≠ []) (hl : rs.length ≤ 1000000) {at_ : Nat} {ref : ID}
    (href : (at_ = 0 ∧ ref = ID.zero) ∨ ∃ k x, at_ = k + 1 ∧ (shL L)[k]? = some x ∧ ref = x.id) :
    insXE L ⟨⟨(T : Int) + 1, 1⟩, ref, runeText rs⟩ = 0 ∧ shL (insX L ⟨⟨(T : Int) + 1, 1⟩, ref, runeText rs⟩) = (shL L).take at_ ++ freshL ⟨(T : Int) + 1, 1⟩ ref rs ++ (shL L).drop at_ := by
  have hlt : ∀ y ∈ ids L, y.lt ⟨(T : Int) + 1, 1⟩ := fun y hy => .inl (by have := hle y hy; show y.t < T + 1; omega)
  have hri : ∀ y ∈ ids L, y.Is := fun y hy => by obtain ⟨n, hn, e⟩ := List.mem_map.1 hy; rw [← e]; exact his n hn
  have hsf : shL (freshL ⟨(T : Int) + 1, 1⟩ ref rs) = freshL ⟨(T : Int) + 1, 1⟩ ref rs := List.filter_eq_self.2 fun n hn => by simpa using (freshL_mem hn).1
  have hr : ref = ID.zero ∨ ref ∈ ids L := by
    rcases href with ⟨_, h⟩ | ⟨k, x, _, hx, h⟩
    · exact .inl h
    · right
      obtain ⟨P, K, h1, _⟩ := shL_split hx
      rw [h, h1]
      exact List.mem_map.2 ⟨x, by simp, rfl⟩
  obtain ⟨e0, e1⟩ := ins_high hT hle (s := 1) (by decide) hr hri hrs hne hl
  refine ⟨e0, ?_⟩
  rw [e1, place_high hlt, shL_append, shL_append, hsf]
  have key : ∀ p : Nat, (shL (L.take p)).length = at_ → shL (L.take p) ++ freshL ⟨(T : Int) + 1, 1⟩ ref rs ++ shL (L.drop p) = (shL L).take at_ ++ freshL ⟨(T : Int) + 1, 1⟩ ref rs ++ (shL L).drop at_ := by
    intro p hp
    have hs : shL L = shL (L.take p) ++ shL (L.drop p) := by rw [← shL_append, List.take_append_drop]
    rw [hs, ← hp, List.take_append_of_le_length (Nat.le_refl _), List.take_length, List.drop_append_of_le_length (Nat.le_refl _), List.drop_length, List.nil_append]
  refine key _ ?_
  rcases href with ⟨h1, h2⟩ | ⟨k, x, h1, hx, h2⟩
  · rw [if_pos h2, h1]; rfl
  · obtain ⟨P, K, g1, g2, g3⟩ := shL_split hx
    obtain ⟨_, _, _, hnd⟩ := hdoc
    have hz : ¬ ref = ID.zero := by
      intro e
      have h9 := hri ref (by rw [h2, g1]; exact List.mem_map.2 ⟨x, by simp, rfl⟩)
      rw [e] at h9
      exact absurd h9.1 (by decide)
    rw [g1] at hnd
    rw [if_neg hz, h2, g1, findIdx_split (nodup_split hnd)]
    have ht : (P ++ x :: K).take (P.length + 1) = P ++ [x] := by
      rw [show P ++ x :: K = (P ++ [x]) ++ K by simp, List.take_append_of_le_length (by simp)]
      exact List.take_of_length_le (by simp)
    rw [ht, shL_append, List.length_append, g2, h1]
    have e3 : shL [x] = [x] := List.filter_eq_self.2 fun n hn => by rw [List.mem_singleton.1 hn]; simpa using g3
    rw [e3]
    rfl
end Go.Proofs.Ytlafodnaifghcaa.Tr
