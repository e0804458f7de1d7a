/- A whole round of offers of a closed set, plainly; hearsaylaw13.CausalAll, walked. -/
import Derived.Test.YtaaeomapbigfgaaQuSet
import Derived.Test.YtaaeomapbigfgaaQuClosed
import Derived.Test.YtaaeomapbigfgaaQuKnown
import Derived.Deep.DeepCutAuto
namespace Go.Proofs.Ytaaeomapbigfgaa
open Go.Proofs.Ytaaeomapbigfgaa.St
/-- what is known of an operation that was offered in the round which began at s0 -/
def DoneK (V0 V : List Dot) (k : Key) : Prop := hasV V k.1 ∨ ∃ V1, growsV V0 V1 ∧ ¬ hasV V1 k.1 ∧ ¬ Ent.can V1 k.1 k.2
/-- so many of an order were offered -/
structure Rnd (K : List Key) (hold : Int) (s0 s : QS) (l : List Key) : Prop where
  ok : QOk K s
  grows : growsV s0.V s.V
  out : s0.O <+: s.O
  done : ∀ k ∈ l, DoneK s0.V s.V k
  room : (K.length : Int) ≤ hold → ∀ k ∈ l, hasV s.V k.1 ∨ ∃ x ∈ s.W, key x = k
theorem Rnd.start {K : List Key} {hold : Int} {s : QS} (h : QOk K s) : Rnd K hold s s [] := ⟨h, growsV.refl _, List.prefix_refl _, by simp, by simp⟩
theorem Rnd.next {K : List Key} {hold a : Int} {s0 s s' : QS} {l : List Key} {e : Ent} (h : Rnd K hold s0 s l) (hC : Cl K) (ho : OfferIs hold s 0 e a s') (hek : key e ∈ K) (hkind : e.v.kind = 3) : Rnd K hold s0 s' (l ++ [key e]) := by
  obtain ⟨h1, h2, h3, h4, h5⟩ := offer_ok hC.ok hC.uniq ho h.ok hek hkind
  refine ⟨h1, h.grows.trans h2, h.out.trans h3, fun k hk => ?_, fun hr k hk => ?_⟩
  · rcases List.mem_append.1 hk with hk | hk
    · rcases h.done k hk with hd | hd
      · exact .inl (h2.has hd)
      · exact .inr hd
    · rw [List.mem_singleton.1 hk]
      rcases h4 with hd | ⟨V1, g1, hn, hc⟩
      · exact .inl hd
      · exact .inr ⟨V1, h.grows.trans g1, hn, hc⟩
  · rcases List.mem_append.1 hk with hk | hk
    · rcases h.room hr k hk with hd | hd
      · exact .inl (h2.has hd)
      · exact (h5 hr).1 k hd
    · rw [List.mem_singleton.1 hk]
      exact (h5 hr).2
theorem prefix_len {α : Type} {A B : List α} (h : A <+: B) (hl : B.length ≤ A.length) : A = B := List.IsPrefix.eq_of_length h (Nat.le_antisymm h.length_le hl)
theorem Rnd.finish {K : List Key} {hold : Int} {s0 s : QS} {l : List Key} (h : Rnd K hold s0 s l) (h0 : QOk K s0) (hC : Cl K) (hl : ∀ k ∈ K, k ∈ l) :
    ((∀ k ∈ K, hasV s.V k.1) ∨ s0.O.length + 1 ≤ s.O.length) ∧ ((K.length : Int) ≤ hold → ∀ k ∈ K, hasV s.V k.1) := by
  refine ⟨?_, fun hr => ?_⟩
  · rcases hC.next s0.V with hn | ⟨k, hk, hnh, hcan⟩
    · exact .inl fun k hk => h.grows.has (hn k hk)
    · right
      have hhas : hasV s.V k.1 := by
        rcases h.done k (hl k hk) with hd | ⟨V1, g1, hn, hc⟩
        · exact hd
        · exact absurd (hcan V1 g1 hn) hc
      have hlt := h.out.length_le
      by_cases he : s0.O.length + 1 ≤ s.O.length
      · exact he
      · exfalso
        have hO := prefix_len h.out (by omega)
        have hm := h.ok.1.has_o k hk hhas
        rw [← hO] at hm
        obtain ⟨x, hx, hxe⟩ := List.mem_map.1 hm
        have := h0.1.o_has x hx
        have hxe : x.v.dot = k.1 := hxe
        rw [hxe] at this
        exact hnh this
  · rcases hC.next s.V with hn | ⟨k, hk, hnh, hcan⟩
    · exact hn
    · exfalso
      rcases h.room hr k (hl k hk) with hd | ⟨x, hx, hxk⟩
      · exact hnh hd
      · have h1 := h.ok.2 x hx
        have e1 : x.v.dot = k.1 := congrArg Prod.fst hxk
        have e2 : x.D = k.2 := congrArg Prod.snd hxk
        rw [e1, e2] at h1
        exact h1 (hcan s.V (growsV.refl _) hnh)
theorem QOk.none {K : List Key} (hC : Cl K) : QOk K ⟨[], [], []⟩ := ⟨Pre.none hC.ok, by simp⟩
theorem QOk.olen {K : List Key} {s : QS} (h : QOk K s) : s.O.length ≤ K.length ∧ s.W.length ≤ K.length := by
  have h1 := nodup_le (M := K.map (·.1)) h.1.o_nodup (fun d hd => by
    obtain ⟨x, hx, rfl⟩ := List.mem_map.1 hd
    exact List.mem_map.2 ⟨key x, h.1.o_in x hx, rfl⟩)
  have h2 := nodup_le (M := K.map (·.1)) h.1.w_nodup (fun d hd => by
    obtain ⟨x, hx, rfl⟩ := List.mem_map.1 hd
    exact List.mem_map.2 ⟨key x, h.1.w_in x hx, rfl⟩)
  simp at h1 h2
  exact ⟨h1, h2⟩
/-- so many rounds are done -/
def RndUp (K : List Key) (s : QS) (n : Nat) : Prop := QOk K s ∧ ((∀ k ∈ K, hasV s.V k.1) ∨ n ≤ s.O.length)
theorem RndUp.all {K : List Key} {s : QS} (h : RndUp K s (K.length + 1)) : ∀ k ∈ K, hasV s.V k.1 := by
  rcases h.2 with h2 | h2
  · exact h2
  · have := h.1.olen
    omega
theorem RndUp.more {K : List Key} {hold : Int} {s0 s : QS} {l : List Key} {n : Nat} (h0 : RndUp K s0 n) (h : Rnd K hold s0 s l) (hC : Cl K) (hl : ∀ k ∈ K, k ∈ l) : RndUp K s (n + 1) := by
  refine ⟨h.ok, ?_⟩
  rcases h0.2 with ha | hn
  · exact .inl fun k hk => h.grows.has (ha k hk)
  · rcases (h.finish h0.1 hC hl).1 with ha | hm
    · exact .inl ha
    · exact .inr (by omega)
end Go.Proofs.Ytaaeomapbigfgaa
/- hearsaylaw13.CausalAll, walked. -/
namespace Go.Proofs.Ytaaeomapbigfgaa
open Go.RowKit Go.Proofs.Ytaaeomapbigfgaa.St
namespace causalAll
theorem mem_swap {α : Type} {M : List α} {i k : Nat} {x z : α} (hx : M[i]? = some x) (hz : M[k]? = some z) (y : α) : y ∈ (M.set i z).set k x ↔ y ∈ M := by
  have hi : i < M.length := (List.getElem?_eq_some_iff.1 hx).1
  have hk : k < M.length := (List.getElem?_eq_some_iff.1 hz).1
  constructor
  · intro h
    rcases List.mem_or_eq_of_mem_set h with h | rfl
    · rcases List.mem_or_eq_of_mem_set h with h | rfl
      · exact h
      · exact List.mem_of_getElem? hz
    · exact List.mem_of_getElem? hx
  · intro h
    obtain ⟨j, hj⟩ := List.mem_iff_getElem?.1 h
    by_cases hjk : k = j
    · subst hjk
      obtain rfl := Option.some.inj (hz.symm.trans hj)
      by_cases hik : k = i
      · subst hik
        obtain rfl := Option.some.inj (hx.symm.trans hj)
        exact List.mem_of_getElem? (i := k) (by rw [List.getElem?_set_self (by simpa using hk)])
      · exact List.mem_of_getElem? (i := i) (by rw [List.getElem?_set_ne hik, List.getElem?_set_self hi])
    · by_cases hij : i = j
      · subst hij
        obtain rfl := Option.some.inj (hx.symm.trans hj)
        exact List.mem_of_getElem? (i := k) (by rw [List.getElem?_set_self (by simpa using hk)])
      · exact List.mem_of_getElem? (i := j) (by rw [List.getElem?_set_ne hjk, List.getElem?_set_ne hij]; exact hj)
/-- an element is laid cell by cell -/
theorem set11 {w : World} {t : TypeId} {g cap i : Nat} {D : List Ent} {x z : Ent} (h : OwnAt entE w t g cap D) (hx : D[i]? = some x) :
    OwnAt entE (((((((((((w.setCell ⟨g, i * 11, none⟩ (.int .i64 z.v.dot.site)).setCell ⟨g, i * 11 + 1, none⟩ (.int .i64 z.v.dot.seq)).setCell ⟨g, i * 11 + 2, none⟩ (.slice z.v.deps.a z.v.deps.n z.v.deps.c)).setCell ⟨g, i * 11 + 3, none⟩ (.int .i64 z.v.kind)).setCell ⟨g, i * 11 + 4, none⟩ (.int .i64 z.v.id.t)).setCell ⟨g, i * 11 + 5, none⟩ (.int .i64 z.v.id.s)).setCell ⟨g, i * 11 + 6, none⟩ (.int .i64 z.v.ref.t)).setCell ⟨g, i * 11 + 7, none⟩ (.int .i64 z.v.ref.s)).setCell ⟨g, i * 11 + 8, none⟩ (.string z.v.text)).setCell ⟨g, i * 11 + 9, none⟩ (.slice z.v.gone.a z.v.gone.n z.v.gone.c)).setCell ⟨g, i * 11 + 10, none⟩ (.int .i64 z.v.site)) t g cap (D.set i z) ∧ Kept (fun b => b = g) w (((((((((((w.setCell ⟨g, i * 11, none⟩ (.int .i64 z.v.dot.site)).setCell ⟨g, i * 11 + 1, none⟩ (.int .i64 z.v.dot.seq)).setCell ⟨g, i * 11 + 2, none⟩ (.slice z.v.deps.a z.v.deps.n z.v.deps.c)).setCell ⟨g, i * 11 + 3, none⟩ (.int .i64 z.v.kind)).setCell ⟨g, i * 11 + 4, none⟩ (.int .i64 z.v.id.t)).setCell ⟨g, i * 11 + 5, none⟩ (.int .i64 z.v.id.s)).setCell ⟨g, i * 11 + 6, none⟩ (.int .i64 z.v.ref.t)).setCell ⟨g, i * 11 + 7, none⟩ (.int .i64 z.v.ref.s)).setCell ⟨g, i * 11 + 8, none⟩ (.string z.v.text)).setCell ⟨g, i * 11 + 9, none⟩ (.slice z.v.gone.a z.v.gone.n z.v.gone.c)).setCell ⟨g, i * 11 + 10, none⟩ (.int .i64 z.v.site)) := by
  have hil := (List.getElem?_eq_some_iff.1 hx).1
  have h0 := h.set1of3 (i := i) (x := x) (m := 0) (y := ⟨⟨⟨z.v.dot.site, x.v.dot.seq⟩, x.v.deps, x.v.kind, ⟨x.v.id.t, x.v.id.s⟩, ⟨x.v.ref.t, x.v.ref.s⟩, x.v.text, x.v.gone, x.v.site⟩, z.D, z.G⟩) hx (b := .int .i64 z.v.dot.site) (by decide) rfl
  have h1 := h0.set1of3 (i := i) (x := ⟨⟨⟨z.v.dot.site, x.v.dot.seq⟩, x.v.deps, x.v.kind, ⟨x.v.id.t, x.v.id.s⟩, ⟨x.v.ref.t, x.v.ref.s⟩, x.v.text, x.v.gone, x.v.site⟩, z.D, z.G⟩) (m := 1) (y := ⟨⟨⟨z.v.dot.site, z.v.dot.seq⟩, x.v.deps, x.v.kind, ⟨x.v.id.t, x.v.id.s⟩, ⟨x.v.ref.t, x.v.ref.s⟩, x.v.text, x.v.gone, x.v.site⟩, z.D, z.G⟩) (by simp [hil]) (b := .int .i64 z.v.dot.seq) (by decide) rfl
  have h2 := h1.set1of3 (i := i) (x := ⟨⟨⟨z.v.dot.site, z.v.dot.seq⟩, x.v.deps, x.v.kind, ⟨x.v.id.t, x.v.id.s⟩, ⟨x.v.ref.t, x.v.ref.s⟩, x.v.text, x.v.gone, x.v.site⟩, z.D, z.G⟩) (m := 2) (y := ⟨⟨⟨z.v.dot.site, z.v.dot.seq⟩, z.v.deps, x.v.kind, ⟨x.v.id.t, x.v.id.s⟩, ⟨x.v.ref.t, x.v.ref.s⟩, x.v.text, x.v.gone, x.v.site⟩, z.D, z.G⟩) (by simp [hil]) (b := .slice z.v.deps.a z.v.deps.n z.v.deps.c) (by decide) rfl
  have h3 := h2.set1of3 (i := i) (x := ⟨⟨⟨z.v.dot.site, z.v.dot.seq⟩, z.v.deps, x.v.kind, ⟨x.v.id.t, x.v.id.s⟩, ⟨x.v.ref.t, x.v.ref.s⟩, x.v.text, x.v.gone, x.v.site⟩, z.D, z.G⟩) (m := 3) (y := ⟨⟨⟨z.v.dot.site, z.v.dot.seq⟩, z.v.deps, z.v.kind, ⟨x.v.id.t, x.v.id.s⟩, ⟨x.v.ref.t, x.v.ref.s⟩, x.v.text, x.v.gone, x.v.site⟩, z.D, z.G⟩) (by simp [hil]) (b := .int .i64 z.v.kind) (by decide) rfl
  have h4 := h3.set1of3 (i := i) (x := ⟨⟨⟨z.v.dot.site, z.v.dot.seq⟩, z.v.deps, z.v.kind, ⟨x.v.id.t, x.v.id.s⟩, ⟨x.v.ref.t, x.v.ref.s⟩, x.v.text, x.v.gone, x.v.site⟩, z.D, z.G⟩) (m := 4) (y := ⟨⟨⟨z.v.dot.site, z.v.dot.seq⟩, z.v.deps, z.v.kind, ⟨z.v.id.t, x.v.id.s⟩, ⟨x.v.ref.t, x.v.ref.s⟩, x.v.text, x.v.gone, x.v.site⟩, z.D, z.G⟩) (by simp [hil]) (b := .int .i64 z.v.id.t) (by decide) rfl
  have h5 := h4.set1of3 (i := i) (x := ⟨⟨⟨z.v.dot.site, z.v.dot.seq⟩, z.v.deps, z.v.kind, ⟨z.v.id.t, x.v.id.s⟩, ⟨x.v.ref.t, x.v.ref.s⟩, x.v.text, x.v.gone, x.v.site⟩, z.D, z.G⟩) (m := 5) (y := ⟨⟨⟨z.v.dot.site, z.v.dot.seq⟩, z.v.deps, z.v.kind, ⟨z.v.id.t, z.v.id.s⟩, ⟨x.v.ref.t, x.v.ref.s⟩, x.v.text, x.v.gone, x.v.site⟩, z.D, z.G⟩) (by simp [hil]) (b := .int .i64 z.v.id.s) (by decide) rfl
  have h6 := h5.set1of3 (i := i) (x := ⟨⟨⟨z.v.dot.site, z.v.dot.seq⟩, z.v.deps, z.v.kind, ⟨z.v.id.t, z.v.id.s⟩, ⟨x.v.ref.t, x.v.ref.s⟩, x.v.text, x.v.gone, x.v.site⟩, z.D, z.G⟩) (m := 6) (y := ⟨⟨⟨z.v.dot.site, z.v.dot.seq⟩, z.v.deps, z.v.kind, ⟨z.v.id.t, z.v.id.s⟩, ⟨z.v.ref.t, x.v.ref.s⟩, x.v.text, x.v.gone, x.v.site⟩, z.D, z.G⟩) (by simp [hil]) (b := .int .i64 z.v.ref.t) (by decide) rfl
  have h7 := h6.set1of3 (i := i) (x := ⟨⟨⟨z.v.dot.site, z.v.dot.seq⟩, z.v.deps, z.v.kind, ⟨z.v.id.t, z.v.id.s⟩, ⟨z.v.ref.t, x.v.ref.s⟩, x.v.text, x.v.gone, x.v.site⟩, z.D, z.G⟩) (m := 7) (y := ⟨⟨⟨z.v.dot.site, z.v.dot.seq⟩, z.v.deps, z.v.kind, ⟨z.v.id.t, z.v.id.s⟩, ⟨z.v.ref.t, z.v.ref.s⟩, x.v.text, x.v.gone, x.v.site⟩, z.D, z.G⟩) (by simp [hil]) (b := .int .i64 z.v.ref.s) (by decide) rfl
  have h8 := h7.set1of3 (i := i) (x := ⟨⟨⟨z.v.dot.site, z.v.dot.seq⟩, z.v.deps, z.v.kind, ⟨z.v.id.t, z.v.id.s⟩, ⟨z.v.ref.t, z.v.ref.s⟩, x.v.text, x.v.gone, x.v.site⟩, z.D, z.G⟩) (m := 8) (y := ⟨⟨⟨z.v.dot.site, z.v.dot.seq⟩, z.v.deps, z.v.kind, ⟨z.v.id.t, z.v.id.s⟩, ⟨z.v.ref.t, z.v.ref.s⟩, z.v.text, x.v.gone, x.v.site⟩, z.D, z.G⟩) (by simp [hil]) (b := .string z.v.text) (by decide) rfl
  have h9 := h8.set1of3 (i := i) (x := ⟨⟨⟨z.v.dot.site, z.v.dot.seq⟩, z.v.deps, z.v.kind, ⟨z.v.id.t, z.v.id.s⟩, ⟨z.v.ref.t, z.v.ref.s⟩, z.v.text, x.v.gone, x.v.site⟩, z.D, z.G⟩) (m := 9) (y := ⟨⟨⟨z.v.dot.site, z.v.dot.seq⟩, z.v.deps, z.v.kind, ⟨z.v.id.t, z.v.id.s⟩, ⟨z.v.ref.t, z.v.ref.s⟩, z.v.text, z.v.gone, x.v.site⟩, z.D, z.G⟩) (by simp [hil]) (b := .slice z.v.gone.a z.v.gone.n z.v.gone.c) (by decide) rfl
  have h10 := h9.set1of3 (i := i) (x := ⟨⟨⟨z.v.dot.site, z.v.dot.seq⟩, z.v.deps, z.v.kind, ⟨z.v.id.t, z.v.id.s⟩, ⟨z.v.ref.t, z.v.ref.s⟩, z.v.text, z.v.gone, x.v.site⟩, z.D, z.G⟩) (m := 10) (y := z) (by simp [hil]) (b := .int .i64 z.v.site) (by decide) rfl
  simp only [List.set_set] at h10
  refine ⟨h10, (((((((((((Kept.refl (fun b => b = g) w).setCell (p := ⟨g, i * 11, none⟩) (fun _ => rfl) _).setCell (p := ⟨g, i * 11 + 1, none⟩) (fun _ => rfl) _).setCell (p := ⟨g, i * 11 + 2, none⟩) (fun _ => rfl) _).setCell (p := ⟨g, i * 11 + 3, none⟩) (fun _ => rfl) _).setCell (p := ⟨g, i * 11 + 4, none⟩) (fun _ => rfl) _).setCell (p := ⟨g, i * 11 + 5, none⟩) (fun _ => rfl) _).setCell (p := ⟨g, i * 11 + 6, none⟩) (fun _ => rfl) _).setCell (p := ⟨g, i * 11 + 7, none⟩) (fun _ => rfl) _).setCell (p := ⟨g, i * 11 + 8, none⟩) (fun _ => rfl) _).setCell (p := ⟨g, i * 11 + 9, none⟩) (fun _ => rfl) _).setCell (p := ⟨g, i * 11 + 10, none⟩) (fun _ => rfl) _⟩
def Post (w : World) (r : Ending) (w' : World) : Prop := r = .returned (.bool true) ∧ Kept (fun _ => False) w w'
set_option maxRecDepth 100000 in
set_option maxHeartbeats 4000000 in
theorem much {w : World} {hold : Int} {a b c : Option Addr} {n m k ca cb cc : Nat} (h : ((40 < n ∨ 40 < m) ∨ 200 < k) ∨ hold < 0 ∨ 256 < hold) :
    Calls Try.prog 3 #[.int .i64 hold, .slice a n ca, .slice b m cb, .slice c k cc] w (Post w) := by
  have HK := Lib.hid (known_any w)
  by_cases h1 : 40 < n
  rotate_left
  by_cases h2 : 40 < m
  rotate_left
  by_cases h3 : 200 < k
  rotate_left
  by_cases h4 : hold < 0
  rotate_left
  have h5 : 256 < hold := by omega
  all_goals
    clear h
    first
      | (have h1I : ¬ (40 : Int) < n := by omega
         have h2I : ¬ (40 : Int) < m := by omega
         have h3I : ¬ (200 : Int) < k := by omega
         clear h1 h2 h3)
      | (have h1I : ¬ (40 : Int) < n := by omega
         have h2I : ¬ (40 : Int) < m := by omega
         have h3I : (200 : Int) < k := by omega
         clear h1 h2 h3)
      | (have h1I : ¬ (40 : Int) < n := by omega
         have h2I : (40 : Int) < m := by omega
         clear h1 h2)
      | (have h1I : (40 : Int) < n := by omega
         clear h1)
    go_enter Try.func3, Try.ntmps3
    go_wp2_with (go_at_call 5; refine HK.out.mono ?_; rintro r w1 ⟨rfl, hk⟩)
    go_ret
    exact ⟨rfl, hk⟩
end causalAll
end Go.Proofs.Ytaaeomapbigfgaa
/- hearsaylaw13.CausalAll within its bounds, walked. -/
namespace Go.Proofs.Ytaaeomapbigfgaa
open Go.RowKit Go.Proofs.Ytaaeomapbigfgaa.St
namespace causalAll
set_option maxRecDepth 100000 in
set_option maxHeartbeats 8000000 in
theorem small {w : World} {hold : Int} {sv nv tv : Value} {S N T : List Int} (hS : SlAt intE w sv S) (hN : SlAt intE w nv N) (hT : SlAt intE w tv T) (hSi : ∀ x ∈ S, I64 x) (hNi : ∀ x ∈ N, I64 x) (hTi : ∀ x ∈ T, I64 x)
    (hSl : S.length ≤ 40) (hNl : N.length ≤ 40) (hTl : T.length ≤ 200) (hh0 : 0 ≤ hold) (hh1 : hold ≤ 256) :
    Calls Try.prog 3 #[.int .i64 hold, sv, nv, tv] w (Post w) := by
  have HCL := Lib.hid (closed_any hS hN hSi hNi hSl hNl)
  obtain ⟨sa, sc, rfl, _, _⟩ := hS.sl
  obtain ⟨na, nc, rfl, _, _⟩ := hN.sl
  obtain ⟨ta, tc, rfl, _, _⟩ := hT.sl
  have HT := Lib.hid hT
  have TI := Lib.hid hTi
  have h1I : ¬ (40 : Int) < S.length := by omega
  have h2I : ¬ (40 : Int) < N.length := by omega
  have h3I : ¬ (200 : Int) < T.length := by omega
  have h4 : ¬ hold < 0 := by omega
  have h5 : ¬ 256 < hold := by omega
  clear hS hN hT hSi hNi hTi
  go_enter Try.func3, Try.ntmps3
  go_upto_region 4 with (go_at_call 6; refine HCL.out.mono ?_; rintro r w1 ⟨lv, W, hb, X, V, rfl, hC, hWl, hk1⟩)
  have hWl2 : W.length ≤ 40 := by omega
  have hrow := hC.row
  obtain ⟨_, hrow0⟩ := own_of (E := entE) hrow
  have hlv : ∃ la lc, lv = .slice la W.length lc := by
    rcases hrow0 with ⟨h1, h2⟩ | ⟨g2, cap, h1, _⟩
    · exact ⟨none, 0, by rw [h1, h2]; rfl⟩
    · exact ⟨_, cap, h1⟩
  obtain ⟨la, lc, rfl⟩ := hlv
  have SL := Lib.hid (owns_slAt (E := entE) hrow)
  have EN := Lib.hid hC.ents
  have CL := Lib.hid hC.cl
  have K1 := Lib.hid hk1
  clear hrow hrow0 hC hk1 HCL h1I h2I h3I h4 h5
  go_upto_region 6 with (at_builtin; (refine wpList_append_row entE rfl (.tmp 51) (.tmp 52) 24 rfl w1.heap.size 34 _ 128 Try.underlying24 info_op rfl rfl rfl (v := .slice none 0 0) (D := []) (World.ownsRow_nil _ _ _ _) SL.out (by unfold maxLen; simp; omega) (by simp; omega) (Nat.le_refl _) ?_); (intro ov w2 ho2 hk2))
  have SZ2 := hk2.size
  have R2 := owns_lower (base' := w.heap.size) ho2 (by have := K1.out.size; omega)
  have K2 := Lib.hid (K1.out.trans hk2 (fun b _ e => by simp [Value.ownBlock] at e))
  have E2 := Lib.hid (fun e he => (EN.out e he).keep (hk2.mono (S' := fun _ => False) (fun b _ e => by simp [Value.ownBlock] at e)) (fun _ _ _ h => h))
  rw [List.nil_append] at R2
  have OB := Lib.hid (owns_new ho2)
  obtain ⟨oa, oc, rfl⟩ := owns_sl R2
  have HR2 := Lib.hid R2
  clear R2 ho2 hk2 SL EN
  go_upto_block 0 with fail
  go_cut [11] (fun _ wx => ∃ D : List Ent, (D.length ≤ W.length ∧ W.length ≤ D.length) ∧ (∀ y, y ∈ D ↔ y ∈ W) ∧ wx.ownsRow w.heap.size 34 11 (.slice oa W.length oc) W.length (entE.flat D) ∧ Kept (fun b => (Value.slice oa W.length oc).ownBlock = some b) w2 wx)
  case first =>
    go_wp2_with fail
    go_loopw [11] (fun iv wr => ∃ (n : Nat) (D : List Ent), iv = .int .i64 n ∧ n ≤ T.length ∧ (D.length ≤ W.length ∧ W.length ≤ D.length) ∧ (∀ y, y ∈ D ↔ y ∈ W) ∧ wr.ownsRow w.heap.size 34 11 (.slice oa W.length oc) W.length (entE.flat D) ∧ Kept (fun b => (Value.slice oa W.length oc).ownBlock = some b) w2 wr) (fun iv _ => T.length - (intOf iv).toNat)
    case atStart => exact ⟨0, W, rfl, Nat.zero_le _, ⟨Nat.le_refl _, Nat.le_refl _⟩, fun _ => Iff.rfl, HR2.out, Kept.refl _ _⟩
    case round =>
      obtain ⟨n, D, rfl, hn, hDW, hmem, hO, hk⟩ := hrel
      have hn0 : (0 : Int) ≤ n := by omega
      by_cases hgo : n < T.length ∧ 0 < W.length
      case pos =>
        obtain ⟨hnT, hW0⟩ := hgo
        have hnTI : (n : Int) < T.length := by omega
        have hLp : (0 : Int) < W.length := by omega
        have hL0b : ((W.length : Int) == 0) = false := beq_eq_false_iff_ne.2 (by omega)
        have MM := Lib.hid hmem
        obtain ⟨u, hu⟩ := get_of_lt hnT
        obtain ⟨tg, tof, tcc, hv, hcs⟩ := SlAt.int (HT.out.kept (K2.out.trans hk (fun b hb e => by have := OB.out b e; have := K1.out.size; omega))) (by omega)
        injection hv with e1 _ e2
        subst e1 e2
        have huc := hcs n u hu
        have hui := TI.out u (List.mem_of_getElem? hu)
        unfold I64 at hui
        have hrlt := Int.tmod_lt_of_pos u hLp
        have hrgt : -(W.length : Int) < u.tmod W.length := by
          have := Int.neg_tmod u W.length
          have := Int.tmod_lt_of_pos (-u) hLp
          omega
        obtain ⟨kk, hkW, hcase⟩ : ∃ kk : Nat, kk < W.length ∧ ((u.tmod W.length < 0 ∧ u.tmod W.length + W.length = (kk : Int)) ∨ (¬ u.tmod W.length < 0 ∧ u.tmod W.length = (kk : Int))) := by
          by_cases hneg : u.tmod W.length < 0
          · exact ⟨(u.tmod W.length + W.length).toNat, by omega, .inl ⟨hneg, by omega⟩⟩
          · exact ⟨(u.tmod W.length).toNat, by omega, .inr ⟨hneg, by omega⟩⟩
        obtain ⟨jj, hjW, hjm⟩ : ∃ jj : Nat, jj < W.length ∧ (n : Int).tmod W.length = (jj : Int) := ⟨n % W.length, Nat.mod_lt _ hW0, by rw [Int.tmod_eq_emod_of_nonneg hn0]; rfl⟩
        have hkI : (kk : Int) < W.length := by omega
        have hk0 : (0 : Int) ≤ kk := by omega
        have hjI : (jj : Int) < W.length := by omega
        have hj0 : (0 : Int) ≤ jj := by omega
        obtain ⟨x, hx⟩ := get_of_lt (show jj < D.length by omega)
        obtain ⟨z, hz⟩ := get_of_lt (show kk < D.length by omega)
        obtain ⟨hDl, ⟨_, hno⟩ | ⟨g, cap, hv2, hg, hO2⟩⟩ := own_of (E := entE) hO
        · rw [hno] at hx; simp at hx
        injection hv2 with e1 _ e2
        subst e1 e2
        have hgl := hO2.lt
        have HX := Lib.hid hx
        have HZ := Lib.hid hz
        have HO := Lib.hid hO2
        have HK := Lib.hid hk
        have GLO := Lib.hid hg
        have B7 := Lib.hid (Blk.new wr 34 zeroOp)
        have k8 : Kept (fun _ => False) wr ((wr.alloc (.cells zeroOp 34)).setRow wr.heap.size (opA x.v)) := ((Kept.refl _ _).alloc _).setRow (fun h => by omega) _
        have K8 := Lib.hid k8
        have HJM := Lib.hid hjm
        clear hO hO2 hx hz hk k8 hcs hu hmem hDl hg
        go_upto_if 73 with fail
        go_cut [12] (fun v wx => v = .int .i64 kk ∧ wr = wx)
        case first =>
          rcases hcase with ⟨hneg, hkk⟩ | ⟨hneg, hkk⟩
          · have hw : IntKind.i64.wrap (u.tmod W.length + W.length) = (kk : Int) := by rw [hkk]; exact IntWalk.i64_in _ (by omega)
            go_wp2_with fail
            go_meet
            case rel => first | exact ⟨rfl, rfl⟩ | exact ⟨by congr 1, rfl⟩
          · go_wp2_with fail
            go_meet
            case rel => first | exact ⟨rfl, rfl⟩ | exact ⟨by congr 1, rfl⟩
        case rest =>
          obtain ⟨rfl, rfl⟩ := hcut
          clear hcase huc hrlt hrgt hui
          have hjm := HJM.out
          go_upto_region 13 with (first
            | (refine wpList_load_elem (E := entE) rfl 34 _ rfl (i := jj) rfl HO.out HX.out Try.underlying34 rfl size_op ?_)
            | (refine wpList_store_row rfl 34 _ _ rfl wr.heap.size (opA x.v) rfl rfl 34 zeroOp B7.out (by rw [opA_size]; exact size_op) (by rw [opA_size]; rfl) (opA_one _) ?_))
          have B8 := Lib.hid (B7.out.row (opA x.v))
          have O8 := Lib.hid (HO.out.keep K8.out (fun h => h))
          have hbn : g ≠ wr.heap.size := by omega
          have hbn2 : wr.heap.size ≠ g := by omega
          have hW8 := K8.out.size
          generalize hbx : wr.heap.size = bx at *
          generalize (wr.alloc (.cells zeroOp 34)).setRow bx (opA x.v) = w8 at *
          dsimp only [Act.put]
          go_cut [12] (fun v wx => v = .int .i64 kk ∧ OwnAt entE wx 34 g oc (D.set jj z) ∧ Kept (fun b => b = g) w8 wx)
          case first =>
            have z0 : w8.cell? ⟨g, kk * 11, none⟩ = some (.int .i64 z.v.dot.site) := O8.out.cell HZ.out (j := 0) rfl
            have z1 : w8.cell? ⟨g, kk * 11 + 1, none⟩ = some (.int .i64 z.v.dot.seq) := O8.out.cell HZ.out (j := 1) rfl
            have z2 : w8.cell? ⟨g, kk * 11 + 2, none⟩ = some (.slice z.v.deps.a z.v.deps.n z.v.deps.c) := O8.out.cell HZ.out (j := 2) rfl
            have z3 : w8.cell? ⟨g, kk * 11 + 3, none⟩ = some (.int .i64 z.v.kind) := O8.out.cell HZ.out (j := 3) rfl
            have z4 : w8.cell? ⟨g, kk * 11 + 4, none⟩ = some (.int .i64 z.v.id.t) := O8.out.cell HZ.out (j := 4) rfl
            have z5 : w8.cell? ⟨g, kk * 11 + 5, none⟩ = some (.int .i64 z.v.id.s) := O8.out.cell HZ.out (j := 5) rfl
            have z6 : w8.cell? ⟨g, kk * 11 + 6, none⟩ = some (.int .i64 z.v.ref.t) := O8.out.cell HZ.out (j := 6) rfl
            have z7 : w8.cell? ⟨g, kk * 11 + 7, none⟩ = some (.int .i64 z.v.ref.s) := O8.out.cell HZ.out (j := 7) rfl
            have z8 : w8.cell? ⟨g, kk * 11 + 8, none⟩ = some (.string z.v.text) := O8.out.cell HZ.out (j := 8) rfl
            have z9 : w8.cell? ⟨g, kk * 11 + 9, none⟩ = some (.slice z.v.gone.a z.v.gone.n z.v.gone.c) := O8.out.cell HZ.out (j := 9) rfl
            have z10 : w8.cell? ⟨g, kk * 11 + 10, none⟩ = some (.int .i64 z.v.site) := O8.out.cell HZ.out (j := 10) rfl
            have x0 : w8.cell? ⟨g, jj * 11, none⟩ = some (.int .i64 x.v.dot.site) := O8.out.cell HX.out (j := 0) rfl
            have x1 : w8.cell? ⟨g, jj * 11 + 1, none⟩ = some (.int .i64 x.v.dot.seq) := O8.out.cell HX.out (j := 1) rfl
            have x2 : w8.cell? ⟨g, jj * 11 + 2, none⟩ = some (.slice x.v.deps.a x.v.deps.n x.v.deps.c) := O8.out.cell HX.out (j := 2) rfl
            have x3 : w8.cell? ⟨g, jj * 11 + 3, none⟩ = some (.int .i64 x.v.kind) := O8.out.cell HX.out (j := 3) rfl
            have x4 : w8.cell? ⟨g, jj * 11 + 4, none⟩ = some (.int .i64 x.v.id.t) := O8.out.cell HX.out (j := 4) rfl
            have x5 : w8.cell? ⟨g, jj * 11 + 5, none⟩ = some (.int .i64 x.v.id.s) := O8.out.cell HX.out (j := 5) rfl
            have x6 : w8.cell? ⟨g, jj * 11 + 6, none⟩ = some (.int .i64 x.v.ref.t) := O8.out.cell HX.out (j := 6) rfl
            have x7 : w8.cell? ⟨g, jj * 11 + 7, none⟩ = some (.int .i64 x.v.ref.s) := O8.out.cell HX.out (j := 7) rfl
            have x8 : w8.cell? ⟨g, jj * 11 + 8, none⟩ = some (.string x.v.text) := O8.out.cell HX.out (j := 8) rfl
            have x9 : w8.cell? ⟨g, jj * 11 + 9, none⟩ = some (.slice x.v.gone.a x.v.gone.n x.v.gone.c) := O8.out.cell HX.out (j := 9) rfl
            have x10 : w8.cell? ⟨g, jj * 11 + 10, none⟩ = some (.int .i64 x.v.site) := O8.out.cell HX.out (j := 10) rfl
            have f0 := O8.out.frozen (jj * 11)
            have f1 := O8.out.frozen (jj * 11 + 1)
            have f2 := O8.out.frozen (jj * 11 + 2)
            have f3 := O8.out.frozen (jj * 11 + 3)
            have f4 := O8.out.frozen (jj * 11 + 4)
            have f5 := O8.out.frozen (jj * 11 + 5)
            have f6 := O8.out.frozen (jj * 11 + 6)
            have f7 := O8.out.frozen (jj * 11 + 7)
            have f8 := O8.out.frozen (jj * 11 + 8)
            have f9 := O8.out.frozen (jj * 11 + 9)
            have f10 := O8.out.frozen (jj * 11 + 10)
            have hWne : ¬ W = [] := by rintro rfl; simp at hW0
            have HS := Lib.hid (set11 (z := z) O8.out HX.out)
            go_region
            clear z0 z1 z2 z3 z4 z5 z6 z7 z8 z9 z10 x0 x1 x2 x3 x4 x5 x6 x7 x8 x9 x10 f0 f1 f2 f3 f4 f5 f6 f7 f8 f9 f10
            go_wp2_with fail
            go_meet
            case rel => exact ⟨rfl, HS.out.1.keep (Kept.refl (fun _ => False) _).drew (fun h => h), HS.out.2.drew⟩
          case rest =>
            obtain ⟨rfl, hO9, hk9⟩ := hcut
            have B9 := Lib.hid (hk9.blk hbn2 B8.out)
            have O9 := Lib.hid hO9
            have K9 := Lib.hid hk9
            have hkD : Hid (kk < (D.set jj z).length) := Lib.hid (by rw [List.length_set]; omega)
            clear hO9 hk9
            go_wp2_with (first
              | (refine wpList_load_row rfl 34 _ rfl bx rfl 34 _ (0, 0) _ B9.out Try.underlying34 rfl (by rw [opA_size]; exact size_op) ?_)
              | (refine wpList_store_elem (E := entE) rfl 34 (.tmp 98) (.tmp 97) rfl x (i := kk) rfl rfl O9.out hkD.out size_op ?_; intro w10 hO10 hk10))
            go_roundw
            case rel =>
              have hl : ((D.set jj z).set kk x).length = W.length := by simp; omega
              have hrow := hO10.owns GLO.out
              rw [hl] at hrow
              refine ⟨n + 1, (D.set jj z).set kk x, by go_num, by omega, ⟨by omega, by omega⟩, fun y => (mem_swap HX.out HZ.out y).trans (MM.out y), hrow, ?_⟩
              refine ((HK.out.trans K8.out (fun _ _ h => h.elim)).trans K9.out (fun b _ e => ?_)).trans hk10 (fun b _ e => ?_)
              · rw [e]; rfl
              · rw [e]; rfl
            case measure => simp [intOf] <;> omega
      case neg =>
        by_cases hnT : n < T.length
        · have hW0 : ¬ 0 < W.length := fun h => hgo ⟨hnT, h⟩
          have hnTI : (n : Int) < T.length := by omega
          have hW0I : ¬ (0 : Int) < W.length := by omega
          have HM := Lib.hid hmem
          clear hmem
          go_wp2_with fail
          go_meet
          case rel => exact ⟨D, hDW, HM.out, hO, hk⟩
        · have hnTI : ¬ (n : Int) < T.length := by omega
          have HM := Lib.hid hmem
          clear hmem
          go_wp2_with fail
          go_meet
          case rel => exact ⟨D, hDW, HM.out, hO, hk⟩
  case rest =>
    obtain ⟨D, hDW, hmem, hO, hk⟩ := hcut
    have KA := Lib.hid (K2.out.trans hk (fun b hb e => by have := OB.out b e; have := K1.out.size; omega))
    have EA := Lib.hid (fun e he => (E2.out e he).keep hk (fun b cs hb e => by obtain ⟨cs2, hc⟩ := owns_spared HR2.out b e; exact hc.ne_ hb (of_decide_eq_true (by kernel_rfl)) rfl))
    have RA := Lib.hid hO
    have MM := Lib.hid hmem
    have hWI : (W.length : Int) ≤ 40 := by omega
    clear hO hk hmem E2 HR2 K2 K1 OB HT TI
    go_wp2_with fail
    go_loopw [14] (fun tv wr => ∃ n : Nat, tv = .int .i64 n ∧ n ≤ 2 ∧ Kept (fun _ => False) wc wr) (fun tv _ => 2 - (intOf tv).toNat)
    case atStart => exact ⟨0, rfl, by omega, Kept.refl _ _⟩
    case round =>
      obtain ⟨n, rfl, hn2, hk⟩ := hrel
      have hn0 : (0 : Int) ≤ n := by omega
      by_cases hlt : n < 2
      case neg =>
        have hltI : ¬ (n : Int) < 2 := by omega
        have HKN := Lib.hid (known_any wr)
        go_wp2_with (go_at_call 5; refine HKN.out.mono ?_; rintro r w9 ⟨rfl, hk9⟩)
        go_ret
        exact ⟨rfl, (KA.out.trans hk (fun _ _ h => h)).trans hk9 (fun _ _ h => h)⟩
      case pos =>
        have hltI : (n : Int) < 2 := by omega
        go_upto_if 108 with fail
        go_cut [15, 16] (fun r t wx => ∃ (R : Int) (U : Nat), r = .int .i64 R ∧ t = .int .i64 U ∧ ((R = hold ∧ U = W.length + 1) ∨ (R = W.length ∧ U = 1)) ∧ wr = wx)
        case first =>
          by_cases h1 : n = 1
          · have h1b : ((n : Int) == 1) = true := beq_iff_eq.2 (by omega)
            go_wp2_with fail
            go_meet
            case rel => exact ⟨W.length, 1, rfl, rfl, .inr ⟨rfl, rfl⟩, rfl⟩
          · have h1b : ((n : Int) == 1) = false := beq_eq_false_iff_ne.2 (by omega)
            go_wp2_with fail
            go_meet
            case rel => exact ⟨hold, W.length + 1, rfl, by go_num, .inl ⟨rfl, rfl⟩, rfl⟩
        case rest =>
          obtain ⟨R, U, rfl, rfl, hRU, rfl⟩ := hcut
          have hR0 : 0 ≤ R := by rcases hRU with h | h <;> omega
          have hR1 : R ≤ 256 := by rcases hRU with h | h <;> omega
          have hU1 : U ≤ 41 := by rcases hRU with h | h <;> omega
          have RU := Lib.hid hRU
          have HN := Lib.hid (new_in (w := wr) (hold := R) (slAt_nil wr) (by simp) (by unfold newC; rw [if_neg (by omega)]; rfl))
          clear hRU
          go_upto_block 4 with (go_at_call 7; refine HN.out.mono ?_; rintro r w5 ⟨g, rfl, hq5⟩)
          go_wp2_with fail
          have RK := Lib.hid (show RndUp (W.map key) ⟨[], [], []⟩ 0 from ⟨QOk.none CL.out, .inr (Nat.zero_le _)⟩)
          clear HN
          generalize wr = w4 at *
          go_loopw [19] (fun kv wx => ∃ (k : Nat) (s : QS), kv = .int .i64 k ∧ k ≤ U ∧ QIn w4 wx g R s ∧ RndUp (W.map key) s k ∧ (((W.map key).length : Int) ≤ R → 0 < k → ∀ x ∈ W.map key, hasV s.V x.1)) (fun kv _ => U - (intOf kv).toNat)
          case atStart => exact ⟨0, _, rfl, Nat.zero_le _, hq5, RK.out, fun _ h => absurd h (by decide)⟩
          case round =>
            clear hq5 RK
            obtain ⟨k, s, rfl, hkU, hq, hup, hall⟩ := hrel
            have QQ := Lib.hid hq
            have UP := Lib.hid hup
            have AL := Lib.hid hall
            clear hq hup hall
            have hk0 : (0 : Int) ≤ k := by omega
            by_cases hlU : k < U
            case pos =>
              have hlUI : (k : Int) < U := by omega
              go_wp2_with fail
              generalize wr = w6 at *
              go_loopw [20] (fun iv wx => ∃ (i : Nat) (s1 : QS), iv = .int .i64 i ∧ i ≤ W.length ∧ QIn w4 wx g R s1 ∧ Rnd (W.map key) R s s1 ((D.take i).map key)) (fun iv _ => W.length - (intOf iv).toNat)
              case atStart => exact ⟨0, s, rfl, Nat.zero_le _, QQ.out, Rnd.start UP.out.1⟩
              case round =>
                obtain ⟨i, s1, rfl, hiW, hq1, hr1⟩ := hrel
                have Q1 := Lib.hid hq1
                have R1 := Lib.hid hr1
                have hi0 : (0 : Int) ≤ i := by omega
                clear hq1 hr1
                by_cases hi : i < W.length
                case pos =>
                  have hiI : (i : Int) < W.length := by omega
                  obtain ⟨e, he⟩ := get_of_lt (show i < D.length by omega)
                  have kw := KA.out.size
                  have KW : Kept (fun _ => False) wc wr := hk.trans Q1.out.2.1 (fun _ _ h => h)
                  obtain ⟨_, ⟨_, hno⟩ | ⟨og, ocap, hv2, _, hO2⟩⟩ := own_of (E := entE) (owns_keep RA.out KW (fun _ _ h => h))
                  · rw [hno] at he; simp at he
                  injection hv2 with e1 _ e2
                  subst e1 e2
                  have heW : e ∈ W := (MM.out e).1 (List.mem_of_getElem? he)
                  have CE := Lib.hid ((EA.out e heW).keep KW (fun _ _ _ h => h))
                  have HE := Lib.hid he
                  have HO := Lib.hid hO2
                  have HEW := Lib.hid heW
                  have hol := R1.out.ok.olen
                  simp only [List.length_map] at hol
                  have HOF := Lib.hid (offer_in Q1.out CE.out.join CE.out.ok (owns_slAt (E := dotE) CE.out.deps) (by rw [CE.out.gone]; exact slAt_nil wr) (Nat.le_trans CE.out.len (by decide)) CE.out.chk CE.out.get (by omega) (by omega))
                  clear hO2 he heW KW kw
                  go_wp2_with (first
                    | (refine wpList_load_elem (E := entE) rfl 34 _ rfl (i := i) rfl HO.out HE.out Try.underlying34 rfl size_op ?_)
                    | (go_at_call 8; refine HOF.out.mono ?_; rintro r w7 ⟨an, e2, s2, rfl, hke, hkd, hof, hq2, _⟩))
                  go_roundw
                  case rel =>
                    refine ⟨i + 1, s2, by go_num, by omega, hq2, ?_⟩
                    have hkk : key e2 = key e := hke
                    have h := R1.out.next CL.out hof (by rw [hkk]; exact List.mem_map_of_mem HEW.out) hkd
                    rw [List.take_add_one, HE.out, List.map_append]
                    rw [hkk] at h
                    exact h
                  case measure => simp [intOf] <;> omega
                case neg =>
                  obtain rfl : i = W.length := by omega
                  have hiI : ¬ (W.length : Int) < W.length := by omega
                  go_wp2_with fail
                  go_roundw
                  case rel =>
                    have hR := R1.out
                    rw [List.take_of_length_le (by omega)] at hR
                    have hl : ∀ x ∈ W.map key, x ∈ D.map key := fun x hx => by
                      obtain ⟨y, hy, rfl⟩ := List.mem_map.1 hx
                      exact List.mem_map_of_mem ((MM.out y).2 hy)
                    exact ⟨k + 1, s1, by go_num, by omega, Q1.out, UP.out.more hR CL.out hl, fun hr _ => (hR.finish UP.out.1 CL.out hl).2 hr⟩
                  case measure => simp [intOf] <;> omega
            case neg =>
              obtain rfl : k = U := by omega
              have hlUI : ¬ (k : Int) < k := by omega
              have hKl : (W.map key).length = W.length := by simp
              have hAll : ∀ x ∈ W.map key, hasV s.V x.1 := by
                rcases RU.out with ⟨hr, hu⟩ | ⟨hr, hu⟩
                · have h := UP.out
                  rw [hu, ← hKl] at h
                  exact h.all
                · exact AL.out (by rw [hKl]; omega) (by omega)
              obtain ⟨hsW, hsO, hsum⟩ := all_done CL.out.uniq UP.out.1 hAll
              rw [hKl] at hsO hsum
              have SUM := Lib.hid hsum
              obtain ⟨sV, sW, sO⟩ := s
              have hsW : sW = [] := hsW
              subst hsW
              have hsO : sO.length = W.length := hsO
              have KD := Lib.hid (fun e (he : e ∈ sO) => UP.out.1.1.kind e he)
              have QS0 := Lib.hid QQ.out
              have SO := Lib.hid hsO
              clear hAll hsum hsO hKl UP AL QQ
              go_wp2_with fail
              generalize wr = w6 at *
              go_loopw [23] (fun mv wx => ∃ (m : Nat) (O : List Ent), mv = .int .i64 m ∧ (m + O.length ≤ W.length ∧ W.length ≤ m + O.length) ∧ QIn w4 wx g R ⟨sV, [], O⟩ ∧ (∀ e ∈ O, e.v.kind = 3)) (fun mv _ => W.length - (intOf mv).toNat)
              case atStart => exact ⟨0, sO, rfl, ⟨by have := SO.out; omega, by have := SO.out; omega⟩, QS0.out, KD.out⟩
              case round =>
                clear KD QS0 SO
                obtain ⟨m, O, rfl, ⟨hm1, hm2⟩, hq, hkd⟩ := hrel
                have hm0 : (0 : Int) ≤ m := by omega
                have Q1 := Lib.hid hq
                have KD := Lib.hid hkd
                clear hkd
                cases O with
                | nil =>
                  obtain rfl : m = W.length := by simp at hm1 hm2; omega
                  have HTK := Lib.hid ((take_in hq).mono (R' := fun r w' => r = .returned (.tuple #[.agg zeroOp, .bool false]) ∧ QIn w4 w' g R ⟨sV, [], []⟩) (fun r w' h => by
                    obtain ⟨_, ⟨_, h1, h2⟩ | ⟨e, O', h1, _⟩⟩ := h
                    · exact ⟨h1, h2⟩
                    · cases h1))
                  clear hq hm1 hm2
                  go_upto_region 41 with (first
                    | (go_at_call 9; refine HTK.out.mono ?_; rintro r w7 ⟨rfl, hq7⟩; have B7 := Lib.hid (Blk.new w7 34 zeroOp); have Q7 := Lib.hid hq7; clear hq7)
                    | (refine wpList_store_row rfl 34 _ _ rfl w7.heap.size zeroOp rfl rfl 34 zeroOp B7.out size_op rfl (by simp [zeroOp, Value.oneCell']) ?_))
                  have Q8 := Lib.hid (Q7.out.kept (((Kept.refl (fun _ => False) w7).alloc (.cells zeroOp 34)).setRow (g := w7.heap.size) (fun h => by omega) zeroOp))
                  generalize (w7.alloc (.cells zeroOp 34)).setRow w7.heap.size zeroOp = w8 at *
                  go_wp2_with (first
                    | (go_at_call 11; refine (vector_in Q8.out).mono ?_; rintro r w9 ⟨v9, rfl, ho9, hk9⟩; have Q9 := Lib.hid (Q8.out.kept hk9); have S9 := Lib.hid ((rsum_any (owns_slAt (E := dotE) ho9) (by obtain ⟨_, _, vv, wv, ov, h3⟩ := Q8.out; exact Nat.le_trans h3.vlen (by decide))).mono (R' := fun r w' => r = .returned (.int .i64 W.length) ∧ Kept (fun _ => False) w9 w') (fun r w' h => ⟨h.1.trans (congrArg (fun n => Ending.returned (.int .i64 n)) SUM.out), h.2⟩)); clear ho9 hk9)
                    | (go_at_call 10; refine S9.out.mono ?_; rintro r w10 ⟨rfl, hk10⟩; have WT := Lib.hid ((waits_in (Q9.out.kept hk10)).mono (R' := fun r w' => (∃ a c, r = .returned (.slice a 0 c)) ∧ Kept (fun _ => False) w10 w') (fun r w' h => by
                        obtain ⟨v, L, rfl, hp, _, ho, hk⟩ := h
                        have hL : L = [] := List.Perm.eq_nil hp
                        subst hL
                        obtain ⟨a, c, rfl⟩ := owns_sl ho
                        exact ⟨⟨a, c, rfl⟩, hk⟩)); have Q10 := Lib.hid (Q9.out.kept hk10); clear hk10)
                    | (go_at_call 12; refine WT.out.mono ?_; rintro r w11 ⟨⟨a11, c11, rfl⟩, hk11⟩))
                  go_roundw
                  case rel => exact ⟨n + 1, by go_num, by omega, hk.trans (Q10.out.kept hk11).2.1 (fun _ _ h => h)⟩
                  case measure => simp [intOf] <;> omega
                | cons e O' =>
                  have hmI : ¬ (W.length : Int) ≤ m := by simp at hm1; omega
                  have HTK := Lib.hid ((take_in hq).mono (R' := fun r w' => r = .returned (.tuple #[.agg (opA e.v), .bool true]) ∧ QIn w4 w' g R ⟨sV, [], O'⟩) (fun r w' h => by
                    obtain ⟨_, ⟨h0, _⟩ | ⟨e', O2, h1, h2, h3⟩⟩ := h
                    · cases h0
                    · injection h1 with h4 h5
                      subst h4 h5
                      exact ⟨h2, h3⟩))
                  have hek := KD.out e List.mem_cons_self
                  clear hq
                  go_upto_region 38 with (first
                    | (go_at_call 9; refine HTK.out.mono ?_; rintro r w7 ⟨rfl, hq7⟩; have B7 := Lib.hid (Blk.new w7 34 zeroOp); have Q7 := Lib.hid hq7; clear hq7)
                    | (refine wpList_store_row rfl 34 _ _ rfl w7.heap.size (opA e.v) rfl rfl 34 zeroOp B7.out (by rw [opA_size]; exact size_op) (by rw [opA_size]; rfl) (opA_one _) ?_))
                  have Q8 := Lib.hid (Q7.out.kept (((Kept.refl (fun _ => False) w7).alloc (.cells zeroOp 34)).setRow (g := w7.heap.size) (fun h => by omega) (opA e.v)))
                  have B8 := B7.out.row (opA e.v)
                  generalize hbx : w7.heap.size = bx at *
                  generalize (w7.alloc (.cells zeroOp 34)).setRow bx (opA e.v) = w8 at *
                  have b3 : w8.cell? ⟨bx, 3, none⟩ = some (.int .i64 3) := by rw [← hek]; exact B8.cell' (i := 3) rfl
                  clear hek B8 B7 hbx HTK
                  go_wp2_with fail
                  go_roundw
                  case rel => exact ⟨m + 1, O', by go_num, ⟨by simp at hm1; omega, by simp at hm2; omega⟩, Q8.out, fun x hx => KD.out x (List.mem_cons_of_mem _ hx)⟩
                  case measure => simp [intOf] at * <;> omega
end causalAll
end Go.Proofs.Ytaaeomapbigfgaa
