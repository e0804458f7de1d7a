/- Two Alarms alike. -/
import Derived.Test.YtmfjeeogeilgfaaAlMore
namespace Go.Proofs.Ytmfjeeogeilgfaa.Al
open Go.RowKit
/-- two Alarms of the same timers, apart, made since w -/
def TwinIn (w : World) (A B : Nat) (l m : Int) (n : Nat) (w' : World) : Prop :=
  ∃ ts F G, AlarmIs w' A l m ts F ∧ AlarmIs w' B l m ts G ∧ (∀ x, F x → ¬ G x) ∧ ts.length ≤ n ∧ (∀ b, b < w.heap.size → ¬ (F b ∨ G b)) ∧ Kept (fun _ => False) w w'
section
variable {w w0 w1 w2 : World} {A B : Nat} {l m : Int} {ts us vs : List T} {F G F1 G1 : Nat → Prop} {n : Nat}
theorem TwinIn.drewN (h : TwinIn w A B l m n w1) (q : Nat) : TwinIn w A B l m n (w1.drewN q) := by
  obtain ⟨ts, F, G, h1, h2, h3, h4, h5, h6⟩ := h
  exact ⟨ts, F, G, h1.drewN q, h2.drewN q, h3, h4, h5, h6.drewN q⟩
theorem TwinIn.mk (hk : Kept (fun _ => False) w w0) (old : ∀ b, b < w.heap.size → ¬ (F b ∨ G b)) (hd : ∀ x, F x → ¬ G x) (hB0 : AlarmIs w0 B l m ts G)
    (hA : AlarmIs w1 A l m us F1) (hF : ∀ b, b < w0.heap.size → F1 b → F b) (hk1 : Kept F w0 w1) (hp : us.Perm vs) (hB : AlarmIs w2 B l m vs G1) (hG : ∀ b, b < w1.heap.size → G1 b → G b) (hk2 : Kept G w1 w2) (hn : us.length ≤ n) :
    TwinIn w A B l m n w2 := by
  have hs0 := hk.size
  have hs1 := hk1.size
  have hd1 : ∀ b, F1 b → ¬ G b := fun b hb hg => by have hlt := hB0.lt b hg; exact hd b (hF b hlt hb) hg
  refine ⟨us, F1, G1, hA.keep hk2 (fun b hb hg => hd1 b hb hg), hB.perm hp.symm, fun b hb hg => ?_, hn, fun b hb h' => ?_, (hk.trans hk1 fun b hb h => old b hb (.inl h)).trans hk2 fun b hb h => old b hb (.inr h)⟩
  · have hlt := hA.lt b hb
    exact hd1 b hb (hG b hlt hg)
  · rcases h' with h' | h'
    · exact old b hb (.inl (hF b (by omega) h'))
    · exact old b hb (.inr (hG b (by omega) h'))
theorem TwinIn.new (hA : AlarmAt w1 w.heap.size l m [] (fun b => b = w.heap.size)) (k1 : Kept (fun _ => False) w w1) (hB : AlarmAt w2 w1.heap.size l m [] (fun b => b = w1.heap.size)) (k2 : Kept (fun _ => False) w1 w2) : TwinIn w w.heap.size w1.heap.size l m 0 w2 := by
  have hA : AlarmIs w1 w.heap.size l m [] (fun b => b = w.heap.size) := ⟨[], hA, List.Perm.refl _⟩
  have hB : AlarmIs w2 w1.heap.size l m [] (fun b => b = w1.heap.size) := ⟨[], hB, List.Perm.refl _⟩
  have := hA.lt _ rfl
  exact ⟨[], _, _, hA.keep k2 (fun _ _ h => h), hB, fun b hb hg => by omega, Nat.le_refl _, fun b hb h => by omega, k1.trans k2 (fun _ _ h => h)⟩

/-- the loop that takes what Next tells away -/
def WantRel (w : World) (A B : Nat) (l m now : Int) (ts : List T) (F : Nat → Prop) (wv kv : Value) (wr : World) : Prop :=
  ∃ (r : List T) (G : Nat → Prop) (ws : List Int) (a : Option Addr) (c k : Nat), wv = .slice a ws.length c ∧ kv = .int .i64 k ∧ wr.ownsRow w.heap.size 3 1 wv ws.length (ws.map (Value.int .i64)) ∧
    AlarmIs wr A l m ts F ∧ AlarmIs wr B l m r G ∧ (∀ x, F x → ¬ G x) ∧ (∀ b, wv.ownBlock = some b → ¬ (F b ∨ G b)) ∧ r.length + k = ts.length ∧ ws.length = k ∧ (∀ ks, TakeR now r ks → TakeR now ts (ws ++ ks)) ∧
    (∀ b, b < w.heap.size → ¬ (F b ∨ G b)) ∧ Kept (fun _ => False) w wr
theorem want_next {now : Int} {wr w5 w6 : World} {r : List T} {ws : List Int} {a : Option Addr} {c k g c' : Nat} {t : T}
    (hk : Kept (fun _ => False) w wr) (hA : AlarmIs wr A l m ts F) (hB : AlarmIs wr B l m r G) (hd : ∀ x, F x → ¬ G x) (hs : ∀ b, (Value.slice a ws.length c).ownBlock = some b → ¬ (F b ∨ G b)) (hbase : ∀ b, (Value.slice a ws.length c).ownBlock = some b → w.heap.size ≤ b)
    (hlen : r.length + k = ts.length) (hws : ws.length = k) (hD : ∀ ks, TakeR now r ks → TakeR now ts (ws ++ ks)) (old : ∀ b, b < w.heap.size → ¬ (F b ∨ G b))
    (ht : t ∈ r) (hmin : ∀ u ∈ r, t.le u) (hdue : t.due ≤ now)
    (hown : w5.ownsRow w.heap.size 3 1 (.slice (some ⟨g, 0, none⟩) (ws.length + 1) c') (ws.length + 1) (ws.map (Value.int .i64) ++ [.int .i64 t.key])) (hkw : Kept (fun b => (Value.slice a ws.length c).ownBlock = some b) wr w5)
    (hat : (Value.slice (some ⟨g, 0, none⟩) (ws.length + 1) c').ownBlock = (Value.slice a ws.length c).ownBlock ∨ wr.heap.size ≤ g)
    (hB1 : AlarmIs w6 B l m (r.filter fun u => u.key != t.key) G1) (hG1 : ∀ b, b < w5.heap.size → G1 b → G b) (hk6 : Kept G w5 w6) :
    WantRel w A B l m now ts F (.slice (some ⟨g, 0, none⟩) (ws.length + 1) c') (.int .i64 (k + 1 : Nat)) w6 := by
  have hg : ∀ b, (Value.slice (some ⟨g, 0, none⟩) (ws.length + 1) c').ownBlock = some b → ¬ (F b ∨ G b) := by
    intro b hb
    rcases hat with e | e
    · exact hs b (e ▸ hb)
    · have : g = b := by simpa [Value.ownBlock] using hb
      subst this
      exact fun h => by
        rcases h with h | h
        · have := hA.lt _ h; omega
        · have := hB.lt _ h; omega
  have hgl := hown.lt g rfl
  have hp : r.Perm (t :: r.filter fun u => u.key != t.key) := by
    obtain ⟨s, s', e⟩ := List.append_of_mem ht
    have hn := hB.good.keys
    rw [e] at hn
    simp only [List.map_append, List.map_cons] at hn
    rw [List.nodup_append] at hn
    obtain ⟨_, hn2, hn3⟩ := hn
    have hn4 := (List.nodup_cons.1 hn2).1
    have f1 : s.filter (fun u => u.key != t.key) = s := List.filter_eq_self.2 fun u hu => by
      simp only [bne_iff_ne]
      exact hn3 _ (List.mem_map.2 ⟨u, hu, rfl⟩) _ (List.mem_cons_self ..)
    have f2 : s'.filter (fun u => u.key != t.key) = s' := List.filter_eq_self.2 fun u hu => by
      simp only [bne_iff_ne]
      exact fun e => hn4 (e ▸ List.mem_map.2 ⟨u, hu, rfl⟩)
    have : r.filter (fun u => u.key != t.key) = s ++ s' := by rw [e, List.filter_append, List.filter_cons]; simp [f1, f2]
    rw [this, e]
    exact List.perm_middle
  have hl := hp.length_eq
  simp only [List.length_cons] at hl
  refine ⟨_, G1, ws ++ [t.key], some ⟨g, 0, none⟩, c', k + 1, by simp, rfl, ?_, (hA.keep hkw (fun b hb e => hs b e (.inl hb))).keep hk6 (fun b hb hg => hd b hb hg), hB1, fun b hb hg' => ?_, fun b hb h => ?_, by omega, by simp [hws], fun ks hks => ?_, fun b hb h => ?_, ?_⟩
  · have := owns_keep hown hk6 (fun b hb h => hg b hb (.inr h))
    simpa using this
  · have h1 := hA.lt b hb
    have h2 := hkw.size
    exact hd b hb (hG1 b (by omega) hg')
  · have : g = b := by simpa [Value.ownBlock] using hb
    subst this
    rcases h with h | h
    · exact hg g rfl (.inl h)
    · exact hg g rfl (.inr (hG1 g (by omega) h))
  · have := hD (t.key :: ks) (.step hp (fun u hu => hmin u (List.mem_filter.1 hu).1) hdue hks)
    simpa using this
  · have h1 := hk.size
    have h2 := hkw.size
    rcases h with h | h
    · exact old b hb (.inl h)
    · exact old b hb (.inr (hG1 b (by omega) h))
  · exact (hk.trans hkw fun b hb e => by have := hbase b e; omega).trans hk6 fun b hb h => old b hb (.inr h)
theorem next_stop {now : Int} {r : List T} {k d : Int} {ok : Bool} (h : NextIs r k d ok) (hs : ok = false ∨ now < d) : TakeR now r [] := by
  rcases h with ⟨rfl, _⟩ | ⟨t, ht, hmin, _, hd, hok⟩
  · exact .stop (by simp)
  · refine .stop fun u hu => ?_
    have := hmin u hu
    unfold T.le at this
    rcases hs with e | e
    · rw [hok] at e; cases e
    · omega
end
end Go.Proofs.Ytmfjeeogeilgfaa.Al
