/- The laws' own steps on a Writer: lay, laid. -/
import Derived.Test.YtdbnohlignpeaaaStRefWrite
namespace Go.Proofs.Ytdbnohlignpeaaa.St
open Go.RowKit

theorem SlAt.farther {α : Type} {E : Enc α} {w0 w w' : World} {v : Value} {L0 L : List α} {S : Nat → Prop} (h0 : SlAt E w0 v L0) (h : SlAt E w v L) (hk : Kept S w w') (hs : ∀ b, b < w0.heap.size → ¬ S b) : SlAt E w' v L := by
  by_cases hl : L = []
  · subst hl
    rcases h with h | ⟨x, c, rfl, h1, h2, _, _⟩
    · exact .inl h
    · exact .inr ⟨x, c, rfl, h1, h2, fun e => absurd rfl e, fun i y hy => by simp at hy⟩
  · obtain ⟨a, c, rfl, _, _⟩ := h.sl
    have hlen : L0.length = L.length := by
      obtain ⟨a', c', e, _, _⟩ := h0.sl
      injection e with _ e2 _
      exact e2.symm
    obtain ⟨g, o, c, e, _, _, hg, _⟩ := h0.one (by rw [hlen]; exact List.length_pos_iff.2 hl)
    exact h.keep hk fun b hb _ => by
      rw [e] at hb
      cases hb
      exact hs g hg
def itemV (x : Item) : Value := .agg #[.bool x.text, .int .i64 x.n, .string x.s]
theorem wnum_any {w : World} {A : Nat} {bs : List UInt8} {e : Int} {F : Nat → Prop} (h : WrIs w A bs e F) (n : Int) (hn : I64 n) (hb : bs.length ≤ 10000000) :
    Calls Try.prog 40 #[.pointer (some ⟨A, 0, none⟩), .int .i64 n] w fun e' w' => e' = .returned (.tuple #[]) ∧ WrGoes w A (layN (bs, e) n).1 (layN (bs, e) n).2 F w' := by
  by_cases he : e = 0
  · subst he
    by_cases hm : n < 0
    · rw [layN_neg hm]
      exact wnum_neg h n hm
    · obtain ⟨m, rfl⟩ : ∃ m : Nat, n = m := ⟨n.toNat, by omega⟩
      rw [layN_ok]
      exact wnum_ok h m (by have := hn.2; omega) hb
  · rw [layN_err (s := (bs, e)) he]
    exact (wnum_err h he n).mono fun _ _ ⟨h1, h2⟩ => ⟨h1, h2 ▸ WrGoes.same h⟩
theorem wtext_any {w : World} {A : Nat} {bs : List UInt8} {e : Int} {F : Nat → Prop} (h : WrIs w A bs e F) (s : ByteArray) (hs : s.size ≤ 1000000) (hb : bs.length ≤ 1000000) :
    Calls Try.prog 53 #[.pointer (some ⟨A, 0, none⟩), .string s] w fun e' w' => e' = .returned (.tuple #[]) ∧ WrGoes w A (layT (bs, e) s).1 (layT (bs, e) s).2 F w' := by
  by_cases he : e = 0
  · subst he
    rw [layT_ok]
    exact wtext_ok h s hs hb
  · rw [layT_err (s := (bs, e)) he]
    exact (wtext_err h he s).mono fun _ _ ⟨h1, h2⟩ => ⟨h1, h2 ▸ WrGoes.same h⟩
theorem WrGoes.after {w w1 w2 : World} {A : Nat} {bs : List UInt8} {e : Int} {F : Nat → Prop} (hk : Kept (fun _ => False) w w1) (h : WrGoes w1 A bs e F w2) (hs : w.heap.size ≤ w1.heap.size) : WrGoes w A bs e F w2 := by
  obtain ⟨F', h1, h2, h3⟩ := h
  exact ⟨F', h1, fun b hb hF => h2 b (by omega) hF, (hk.mono (fun _ _ h => h.elim)).trans h3 (fun _ _ h => h)⟩
set_option maxRecDepth 100000 in
theorem lay_any {w : World} {A : Nat} {bs : List UInt8} {e : Int} {F : Nat → Prop} (h : WrIs w A bs e F) (x : Item) (hn : I64 x.n) (hs : x.s.size ≤ 1000000) (hb : bs.length ≤ 1000000) :
    Calls Try.prog 27 #[.pointer (some ⟨A, 0, none⟩), itemV x] w fun e' w' => e' = .returned (.tuple #[]) ∧ WrGoes w A (layI (bs, e) x).1 (layI (bs, e) x).2 F w' := by
  obtain ⟨t, n, s⟩ := x
  have hk : Kept (fun _ => False) w (w.alloc (.cells #[.bool t, .int .i64 n, .string s] 49)) := (Kept.refl _ _).alloc _
  have hw := h.keep hk (fun _ _ h => h)
  have hsz := hk.size
  have K := Lib.hid hk
  unfold itemV
  cases t with
  | true =>
    have hc := wtext_any hw s hs hb
    rw [show layI (bs, e) ⟨true, n, s⟩ = layT (bs, e) s from rfl]
    clear hk hw h
    go_enter Try.func27, Try.ntmps27
    go_wp2_with fail
    refine hc.mono ?_
    rintro e' w1 ⟨rfl, hg⟩
    go_wp2_with fail
    go_end0
    exact ⟨rfl, hg.after K.out hsz⟩
  | false =>
    have hc := wnum_any hw n hn (by omega)
    rw [show layI (bs, e) ⟨false, n, s⟩ = layN (bs, e) n from rfl]
    clear hk hw h
    go_enter Try.func27, Try.ntmps27
    go_wp2_with fail
    refine hc.mono ?_
    rintro e' w1 ⟨rfl, hg⟩
    go_wp2_with fail
    go_end0
    exact ⟨rfl, hg.after K.out hsz⟩
theorem lay_nil (x : Item) (w : World) : Calls Try.prog 27 #[.pointer none, itemV x] w fun e' w' => e' = .returned (.tuple #[]) ∧ Grew w w' := by
  obtain ⟨t, n, s⟩ := x
  have G := Lib.hid ((Grew.refl w).alloc (.cells #[.bool t, .int .i64 n, .string s] 49))
  unfold itemV
  cases t with
  | true =>
    go_enter Try.func27, Try.ntmps27
    go_wp2_with fail
    refine (wtext_nil s _).mono ?_
    rintro e' w1 ⟨rfl, rfl⟩
    go_wp2_with fail
    go_end0
    exact ⟨rfl, G.out⟩
  | false =>
    go_enter Try.func27, Try.ntmps27
    go_wp2_with fail
    refine (wnum_nil n _).mono ?_
    rintro e' w1 ⟨rfl, rfl⟩
    go_wp2_with fail
    go_end0
    exact ⟨rfl, G.out⟩
set_option maxRecDepth 100000 in
set_option maxHeartbeats 1000000 in
theorem laid_any {w : World} {v : Value} {bs : List UInt8} {e : Int} (h : SlAt byteE w v bs) (x : Item) (hn : I64 x.n) (hs : x.s.size ≤ 1000000) (hb : bs.length ≤ 1000000) :
    Calls Try.prog 30 #[.agg #[v, .int .i64 e], itemV x] w fun e' w' => ∃ v', e' = .returned (.agg #[v', .int .i64 (layI (bs, e) x).2]) ∧ SlAt byteE w' v' (layI (bs, e) x).1 ∧ Kept (fun _ => False) w w' ∧ (v' = v ∨ ∀ b, v'.ownBlock = some b → w.heap.size ≤ b ∧ b < w'.heap.size) := by
  obtain ⟨t, n, s⟩ := x
  obtain ⟨a, c, rfl, _, _⟩ := h.sl
  have hk : Kept (fun _ => False) w (((w.alloc (.cells #[.slice a bs.length c, .int .i64 e] 56)).alloc (.cells #[.bool t, .int .i64 n, .string s] 49)).alloc (.cells #[.slice none 0 0, .int .i64 0] 56)) := (((Kept.refl _ _).alloc _).alloc _).alloc _
  have hB := Blk.new ((w.alloc (.cells #[.slice a bs.length c, .int .i64 e] 56)).alloc (.cells #[.bool t, .int .i64 n, .string s] 49)) 56 #[.slice none 0 0, .int .i64 0]
  rw [World.size_alloc, World.size_alloc] at hB
  have hw := h.kept hk
  unfold itemV
  cases t with
  | true =>
    have hc := rwtext_any (e := e) hw hb s hs
    rw [show layI (bs, e) ⟨true, n, s⟩ = layT (bs, e) s from rfl]
    generalize layT (bs, e) s = T at *
    obtain ⟨cs, f⟩ := T
    simp only at hc ⊢
    have K := Lib.hid hk
    have B := Lib.hid hB
    have HQ := Lib.hid h
    clear hk hw h hB
    go_enter Try.func30, Try.ntmps30
    go_wp2_with fail
    refine hc.mono ?_
    rintro e' w1 ⟨v1, rfl, hs1, hk1, hv1⟩
    obtain ⟨a1, c1, rfl, _, _⟩ := hs1.sl
    have b1 := hk1.blk (fun h => h) B.out
    have d0 : _ = some _ := b1.cell' (i := 0) rfl
    have d1 : _ = some _ := b1.cell' (i := 1) rfl
    have f0 := b1.frozen 0
    have f1 := b1.frozen 1
    have HS := Lib.hid hs1
    have HV := Lib.hid hv1
    have KK := Lib.hid (K.out.trans hk1 (fun _ _ h => h))
    clear b1 hs1 hk1 hc hv1
    go_wp2_with fail
    refine bodyPost_ret (v := .agg #[.slice a1 cs.length c1, .int .i64 f]) (by simp [results, Try.results30, go_sem, d0, d1]) rfl ?_
    have hk2 : Kept (fun i => i = w.heap.size + 1 + 1) w1 ((w1.setCell ⟨w.heap.size + 1 + 1, 0, none⟩ (.slice a1 cs.length c1)).setCell ⟨w.heap.size + 1 + 1, 1, none⟩ (.int .i64 f)) := ((Kept.refl (fun i => i = w.heap.size + 1 + 1) w1).setCell (fun _ => by simp) _).setCell (fun _ => by simp) _
    refine ⟨_, rfl, ?_, KK.out.over hk2 (fun b hb => by have h : b = w.heap.size + 1 + 1 := hb; omega), HV.out.imp id (fun hv b hb => ⟨by have := (hv b hb).1; simp at this; omega, Nat.lt_of_lt_of_le (hv b hb).2 hk2.size⟩)⟩
    rcases HV.out with e1 | hv
    · exact SlAt.farther (by rw [e1]; exact HQ.out) HS.out hk2 (fun b hb hS => by have h : b = w.heap.size + 1 + 1 := hS; omega)
    · exact HS.out.keep hk2 (fun b hb _ hS => by have h : b = w.heap.size + 1 + 1 := hS; have := hv b hb; simp at this; omega)
  | false =>
    have hc := rwnum_any (e := e) hw (by omega) n hn
    rw [show layI (bs, e) ⟨false, n, s⟩ = layN (bs, e) n from rfl]
    generalize layN (bs, e) n = T at *
    obtain ⟨cs, f⟩ := T
    simp only at hc ⊢
    have K := Lib.hid hk
    have B := Lib.hid hB
    have HQ := Lib.hid h
    clear hk hw h hB
    go_enter Try.func30, Try.ntmps30
    go_wp2_with fail
    refine hc.mono ?_
    rintro e' w1 ⟨v1, rfl, hs1, hk1, hv1⟩
    obtain ⟨a1, c1, rfl, _, _⟩ := hs1.sl
    have b1 := hk1.blk (fun h => h) B.out
    have d0 : _ = some _ := b1.cell' (i := 0) rfl
    have d1 : _ = some _ := b1.cell' (i := 1) rfl
    have f0 := b1.frozen 0
    have f1 := b1.frozen 1
    have HS := Lib.hid hs1
    have HV := Lib.hid hv1
    have KK := Lib.hid (K.out.trans hk1 (fun _ _ h => h))
    clear b1 hs1 hk1 hc hv1
    go_wp2_with fail
    refine bodyPost_ret (v := .agg #[.slice a1 cs.length c1, .int .i64 f]) (by simp [results, Try.results30, go_sem, d0, d1]) rfl ?_
    have hk2 : Kept (fun i => i = w.heap.size + 1 + 1) w1 ((w1.setCell ⟨w.heap.size + 1 + 1, 0, none⟩ (.slice a1 cs.length c1)).setCell ⟨w.heap.size + 1 + 1, 1, none⟩ (.int .i64 f)) := ((Kept.refl (fun i => i = w.heap.size + 1 + 1) w1).setCell (fun _ => by simp) _).setCell (fun _ => by simp) _
    refine ⟨_, rfl, ?_, KK.out.over hk2 (fun b hb => by have h : b = w.heap.size + 1 + 1 := hb; omega), HV.out.imp id (fun hv b hb => ⟨by have := (hv b hb).1; simp at this; omega, Nat.lt_of_lt_of_le (hv b hb).2 hk2.size⟩)⟩
    rcases HV.out with e1 | hv
    · exact SlAt.farther (by rw [e1]; exact HQ.out) HS.out hk2 (fun b hb hS => by have h : b = w.heap.size + 1 + 1 := hS; omega)
    · exact HS.out.keep hk2 (fun b hb _ hS => by have h : b = w.heap.size + 1 + 1 := hS; have := hv b hb; simp at this; omega)
end Go.Proofs.Ytdbnohlignpeaaa.St
