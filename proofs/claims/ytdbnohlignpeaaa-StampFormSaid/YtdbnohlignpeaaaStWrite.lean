/- stamp.Writer. -/
import Derived.Test.YtdbnohlignpeaaaStClone
import Derived.Lib.AppendStr
import Derived.Laws.BitsAllLaws
namespace Go.Proofs.Ytdbnohlignpeaaa.St
open Go.RowKit

def byteE : Enc UInt8 := ⟨1, fun b => [.int .u8 b.toNat], fun _ => rfl, by decide, fun x u hu => by simp at hu; subst hu; rfl⟩
theorem byte_flat (l : List UInt8) : byteE.flat l = l.map fun b => Value.int .u8 (b.toNat : Int) := by
  induction l with
  | nil => rfl
  | cons x r ih =>
    have : byteE.flat (x :: r) = byteE.enc x ++ byteE.flat r := by simp [Enc.flat]
    rw [this, ih]; rfl
theorem info_u8 : (Try.prog.info? 5).map (fun i => (i.zero, i.size, i.bytes)) = some (some (.int .u8 0), 1, 1) := by kernel_rfl
/-- a number as bytes -/
def numL (v : Nat) : List UInt8 := if v < 128 then [UInt8.ofNat v] else UInt8.ofNat (v % 128 + 128) :: numL (v / 128)
termination_by v
decreasing_by omega
theorem numL_lt {v : Nat} (h : v < 128) : numL v = [UInt8.ofNat v] := by rw [numL, if_pos h]
theorem numL_ge {v : Nat} (h : ¬ v < 128) : numL v = UInt8.ofNat (v % 128 + 128) :: numL (v / 128) := by rw [numL, if_neg h]
theorem numL_len : ∀ (k v : Nat), v < 128 ^ k → 0 < k → (numL v).length ≤ k
  | 0, _, _, h => by omega
  | k + 1, v, h, _ => by
    by_cases hv : v < 128
    · rw [numL_lt hv]; simp
    · rw [numL_ge hv]
      have hk : 0 < k := by
        rcases Nat.eq_zero_or_pos k with rfl | h0
        · simp at h; omega
        · exact h0
      have := numL_len k (v / 128) (Nat.div_lt_of_lt_mul (by rw [Nat.pow_succ, Nat.mul_comm] at h; exact h)) hk
      simp only [List.length_cons]
      omega
theorem ofNat_toNat {v : Nat} (h : v < 256) : ((UInt8.ofNat v).toNat : Int) = v := by
  rw [UInt8.toNat_ofNat', Nat.mod_eq_of_lt (by omega)]
theorem or128 (u : Nat) : bits .or .u8 ((u : Int) % 256) 128 = ((UInt8.ofNat (u % 128 + 128)).toNat : Int) := by
  rw [ofNat_toNat (by omega)]
  have h := u8_or_nat (u % 256) 128 (by omega) (by decide)
  rw [show (((u % 256 : Nat)) : Int) = (u : Int) % 256 by omega, show ((128 : Nat) : Int) = 128 from rfl] at h
  rw [h]
  have key : ∀ b : Fin 256, b.val ||| 128 = b.val % 128 + 128 := by decide +kernel
  have hk := key ⟨u % 256, Nat.mod_lt _ (by decide)⟩
  simp only at hk
  rw [hk, show u % 256 % 128 = u % 128 by omega]
/-- a Writer in memory -/
def WrIs (w : World) (A : Nat) (bs : List UInt8) (e : Int) (F : Nat → Prop) : Prop :=
  ∃ v, Blk w A 46 #[v, .int .i64 e] ∧ w.ownsRow 0 5 1 v bs.length (byteE.flat bs) ∧ F = fun b => b = A ∨ v.ownBlock = some b
section
variable {w w' : World} {A : Nat} {bs : List UInt8} {e : Int} {F : Nat → Prop}
theorem WrIs.lt (h : WrIs w A bs e F) : ∀ b, F b → b < w.heap.size := by
  obtain ⟨v, h1, h2, rfl⟩ := h
  rintro b (rfl | hb)
  · exact h1.lt
  · exact (h2.lt b hb).2
theorem WrIs.keep {S : Nat → Prop} (h : WrIs w A bs e F) (hk : Kept S w w') (hs : ∀ b, F b → ¬ S b) : WrIs w' A bs e F := by
  obtain ⟨v, h1, h2, rfl⟩ := h
  exact ⟨v, hk.blk (hs A (.inl rfl)) h1, owns_keep h2 hk fun b hb => hs b (.inr hb), rfl⟩
theorem wr_ne {v : Value} (h1 : Blk w A 46 #[v, .int .i64 e]) (h2 : w.ownsRow 0 5 1 v bs.length (byteE.flat bs)) : v.ownBlock ≠ some A := own_blk_ne h2 h1 (by decide)
/-- what it has become -/
def WrGoes (w : World) (A : Nat) (bs : List UInt8) (e : Int) (F : Nat → Prop) (w' : World) : Prop := ∃ F', WrIs w' A bs e F' ∧ (∀ b, b < w.heap.size → F' b → F b) ∧ Kept F w w'
theorem WrGoes.same (h : WrIs w A bs e F) : WrGoes w A bs e F w := ⟨F, h, fun _ _ h => h, Kept.refl _ _⟩
end
/-- a Writer's data, appended to and stored back -/
theorem push_done {wr wa w5 : World} {A : Nat} {e : Int} {va va2 : Option Addr} {n vc m vc2 : Nat} {xs : List Value} (h1 : Blk wr A 46 #[.slice va n vc, .int .i64 e]) (hka : Kept (fun _ => False) wr wa) (hvA : (Value.slice va n vc).ownBlock ≠ some A)
    (hgrow : World.grownBy wa w5 (Value.slice va n vc).ownBlock) (hat : (Value.slice va2 m vc2).ownBlock = (Value.slice va n vc).ownBlock ∨ (Value.slice va2 m vc2).ownBlock = some wa.heap.size) (hown5 : w5.ownsRow 0 5 1 (.slice va2 m vc2) m xs) :
    Blk (w5.setCell ⟨A, 0, none⟩ (.slice va2 m vc2)) A 46 #[.slice va2 m vc2, .int .i64 e] ∧ (w5.setCell ⟨A, 0, none⟩ (.slice va2 m vc2)).ownsRow 0 5 1 (.slice va2 m vc2) m xs ∧
      (∀ b, b < wr.heap.size → (Value.slice va2 m vc2).ownBlock = some b → (Value.slice va n vc).ownBlock = some b) ∧ Kept (fun b => b = A ∨ (Value.slice va n vc).ownBlock = some b) wr (w5.setCell ⟨A, 0, none⟩ (.slice va2 m vc2)) := by
  have hBa := hka.blk (fun h => h) h1
  have hB5 := hBa.grown hgrow hvA
  have hk5 : Kept (fun b => (Value.slice va n vc).ownBlock = some b) wr w5 := (hka.mono (fun _ _ h => h.elim)).trans (Kept.grown (Kept.refl (fun b => (Value.slice va n vc).ownBlock = some b) wa) hgrow (fun k e _ => e)) (fun _ _ h => h)
  refine ⟨hB5.set_ 0 _, owns_keep hown5 (Kept.setCell (Kept.refl (· = A) w5) (p := ⟨A, 0, none⟩) (fun _ => rfl) _) (fun b hb e => ?_), fun b hb hv => ?_, (hk5.mono fun _ _ h => .inr h).setCell (fun _ => .inl rfl) _⟩
  · subst e
    exact (own_blk_ne hown5 hB5 (by decide)) hb
  · rcases hat with h | h
    · rw [h] at hv; exact hv
    · rw [h] at hv
      have := hka.size
      cases hv
      omega
set_option maxRecDepth 100000 in
set_option maxHeartbeats 2000000 in
theorem wnum_ok {w : World} {A : Nat} {bs : List UInt8} {F : Nat → Prop} (h : WrIs w A bs 0 F) (n : Nat) (hn : n ≤ 9223372036854775807) (hb : bs.length ≤ 10000000) :
    Calls Try.prog 40 #[.pointer (some ⟨A, 0, none⟩), .int .i64 n] w fun e w' => e = .returned (.tuple #[]) ∧ WrGoes w A (bs ++ numL n) 0 F w' := by
  obtain ⟨v, h1, h2, rfl⟩ := h
  obtain ⟨i0, hi, hz0, hz1, hz2⟩ := info_parts info_u8
  have I := Lib.hid hi
  have Z0 := Lib.hid hz0
  have Z1 := Lib.hid hz1
  have Z2 := Lib.hid hz2
  have c1 : w.cell? ⟨A, 1, none⟩ = some (.int .i64 0) := h1.cell' rfl
  clear hi hz0 hz1 hz2
  have hn0 : (0 : Int) ≤ n := by omega
  go_enter Try.func40, Try.ntmps40
  go_wp2_with fail
  go_loopw [4] (fun uv wr => ∃ (u : Nat) (bs' : List UInt8) (v' : Value), uv = .int .u64 u ∧ u ≤ n ∧ bs' ++ numL u = bs ++ numL n ∧ Blk wr A 46 #[v', .int .i64 0] ∧ wr.ownsRow 0 5 1 v' bs'.length (byteE.flat bs') ∧ (∀ b, b < w.heap.size → v'.ownBlock = some b → v.ownBlock = some b) ∧ Kept (fun b => b = A ∨ v.ownBlock = some b) w wr) (fun uv _ => (intOf uv).toNat)
  case atStart => exact ⟨n, bs, v, rfl, Nat.le_refl _, rfl, h1, h2, fun _ _ h => h, Kept.refl _ _⟩
  case round =>
    clear c1 h1 h2
    obtain ⟨u, bs', v', rfl, hu, hbs, h1, h2, hf, hk⟩ := hrel
    obtain ⟨va, vc, rfl⟩ := owns_sl h2
    have c0 : wr.cell? ⟨A, 0, none⟩ = some (.slice va bs'.length vc) := h1.cell' rfl
    have f0 := h1.frozen 0
    have hu0 : (0 : Int) ≤ u := by omega
    have hu1 : (u : Int) ≤ 9223372036854775807 := by omega
    by_cases h128 : 128 ≤ u
    · have hd : (128 : Int) ≤ u := by omega
      obtain ⟨b, hbb⟩ : ∃ b, b = UInt8.ofNat (u % 128 + 128) := ⟨_, rfl⟩
      have hbit := or128 u
      rw [← hbb] at hbit
      have hlen : bs'.length ≤ 10000100 := by have := congrArg List.length hbs; have := numL_len 9 n (by omega) (by omega); simp at *; omega
      have h63 : bs'.length + 1 ≤ maxLen := by unfold maxLen; omega
      have hby : (bs'.length + 1) * 1 ≤ 140737488355328 := by omega
      have hown := h2.alloc (.cells #[.int .u8 b.toNat] 5)
      have hnw : ∀ j w', [Value.int .u8 (b.toNat : Int)][j]? = some w' → (wr.alloc (.cells #[.int .u8 b.toNat] 5)).cell? ((⟨wr.heap.size, 0, none⟩ : Addr).add j) = some w' := cell_one_new _ _ _
      have hvA := wr_ne h1 h2
      have OW := Lib.hid hown
      have HB := Lib.hid h1
      have NW := Lib.hid hnw
      have BB := Lib.hid hbb
      have BS := Lib.hid hbs
      clear hown hnw hbb hbs h1 h2 hlen
      go_wp2_with (at_builtin; (refine wpList_append_own_at _ rfl (.tmp 27) (.tmp 31) 44 rfl 0 5 i0 (.int .u8 0) 1 1 Try.underlying44 I.out Z0.out Z1.out Z2.out rfl (by decide) _ _ _ rfl OW.out ⟨wr.heap.size, 0, none⟩ 1 1 [.int .u8 b.toNat] rfl rfl NW.out (by simp [Value.oneCell']) h63 hby (Nat.zero_le _) ?_); (intro v2 w5 hown5 hgrow0 _ hat0); (obtain ⟨va2, vc2, rfl⟩ := owns_sl hown5); (have hgrow : World.grownBy _ w5 (Value.slice va bs'.length vc).ownBlock := hgrow0); (have hat : (Value.slice va2 (bs'.length + 1) vc2).ownBlock = (Value.slice va bs'.length vc).ownBlock ∨ (Value.slice va2 (bs'.length + 1) vc2).ownBlock = some (wr.alloc (.cells #[.int .u8 b.toNat] 5)).heap.size := hat0); (clear hgrow0 hat0); (have hB5 := (HB.out.alloc (.cells #[.int .u8 b.toNat] 5)).grown hgrow hvA); (have c5 : w5.cell? ⟨A, 0, none⟩ = some (.slice va bs'.length vc) := hB5.cell' rfl); (have f5 := hB5.frozen 0); (clear hB5))
      go_roundw
      case rel =>
        obtain ⟨g1, g2, g3, g4⟩ := push_done HB.out ((Kept.refl _ _).alloc _) hvA hgrow hat hown5
        refine ⟨u / 128, bs' ++ [b], .slice va2 (bs'.length + 1) vc2, by go_num, by omega, ?_, g1, (by
          rw [byteE.flat_append, byteE.flat_one, List.length_append]
          exact g2), fun b hb hv => hf b hb (g3 b (Nat.lt_of_lt_of_le hb hk.size) hv), hk.trans g4 (fun i hi h => h.imp id (hf i hi))⟩
        rw [List.append_assoc, ← BS.out, numL_ge (v := u) (by omega), BB.out]
        rfl
      case measure => simp [intOf]; omega
    · have hd : ¬ (128 : Int) ≤ u := by omega
      obtain ⟨b, hbb⟩ : ∃ b, b = UInt8.ofNat u := ⟨_, rfl⟩
      have hbit := Lib.hid (show (b.toNat : Int) = u by rw [hbb, ofNat_toNat (by omega)])
      have hlen : bs'.length ≤ 10000100 := by have := congrArg List.length hbs; have := numL_len 9 n (by omega) (by omega); simp at *; omega
      have h63 : bs'.length + 1 ≤ maxLen := by unfold maxLen; omega
      have hby : (bs'.length + 1) * 1 ≤ 140737488355328 := by omega
      have hown := h2.alloc (.cells #[.int .u8 (u : Int)] 5)
      have hnw : ∀ j w', [Value.int .u8 (u : Int)][j]? = some w' → (wr.alloc (.cells #[.int .u8 (u : Int)] 5)).cell? ((⟨wr.heap.size, 0, none⟩ : Addr).add j) = some w' := cell_one_new _ _ _
      have hvA := wr_ne h1 h2
      have OW := Lib.hid hown
      have HB := Lib.hid h1
      have NW := Lib.hid hnw
      have BB := Lib.hid hbb
      have BS := Lib.hid hbs
      clear hown hnw hbb hbs h1 h2 hlen
      go_wp2_with (at_builtin; (refine wpList_append_own_at _ rfl (.tmp 41) (.tmp 44) 44 rfl 0 5 i0 (.int .u8 0) 1 1 Try.underlying44 I.out Z0.out Z1.out Z2.out rfl (by decide) _ _ _ rfl OW.out ⟨wr.heap.size, 0, none⟩ 1 1 [.int .u8 (u : Int)] rfl rfl NW.out (by simp [Value.oneCell']) h63 hby (Nat.zero_le _) ?_); (intro v2 w5 hown5 hgrow0 _ hat0); (obtain ⟨va2, vc2, rfl⟩ := owns_sl hown5); (have hgrow : World.grownBy _ w5 (Value.slice va bs'.length vc).ownBlock := hgrow0); (have hat : (Value.slice va2 (bs'.length + 1) vc2).ownBlock = (Value.slice va bs'.length vc).ownBlock ∨ (Value.slice va2 (bs'.length + 1) vc2).ownBlock = some (wr.alloc (.cells #[.int .u8 (u : Int)] 5)).heap.size := hat0); (clear hgrow0 hat0); (have hB5 := (HB.out.alloc (.cells #[.int .u8 (u : Int)] 5)).grown hgrow hvA); (have c5 : w5.cell? ⟨A, 0, none⟩ = some (.slice va bs'.length vc) := hB5.cell' rfl); (have f5 := hB5.frozen 0); (clear hB5))
      go_end0
      obtain ⟨g1, g2, g3, g4⟩ := push_done HB.out ((Kept.refl _ _).alloc _) hvA hgrow hat hown5
      have hfin : bs' ++ [b] = bs ++ numL n := by rw [← BS.out, numL_lt (v := u) (by omega), BB.out]
      refine ⟨rfl, _, ⟨.slice va2 (bs'.length + 1) vc2, g1, ?_, rfl⟩, fun b hb h => h.imp id fun hv => hf b hb (g3 b (Nat.lt_of_lt_of_le hb hk.size) hv), hk.trans g4 (fun i hi h => h.imp id (hf i hi))⟩
      rw [← hfin, byteE.flat_append, byteE.flat_one, List.length_append, show byteE.enc b = [.int .u8 (u : Int)] from by show [Value.int .u8 (b.toNat : Int)] = _; rw [hbit.out]]
      exact g2
end Go.Proofs.Ytdbnohlignpeaaa.St
