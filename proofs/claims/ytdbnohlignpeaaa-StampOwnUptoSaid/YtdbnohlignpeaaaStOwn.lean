/- hearsaylaw6.StampOwn, walked. -/
import Derived.Test.YtdbnohlignpeaaaStTwo
namespace Go.Proofs.Ytdbnohlignpeaaa
open Go.RowKit Go.Proofs.Ytdbnohlignpeaaa.St
namespace stampOwn
open Go.Proofs.Ytdbnohlignpeaaa.stampNothing (far_cell)
open Go.Proofs.Ytdbnohlignpeaaa.stampBack (wr_zero WNew WNew.goes WNew.kept)
theorem firstFam (B : Nat) (w : World) : Fam B (HH (fun _ => 0) (fun _ => .slice none 0 0) (fun _ => .slice none 0 0)) (fun _ _ => False) w := by
  refine ⟨fun s hs => ?_, fun s hs b h => h.elim, fun s t hs ht hst b h => h.elim⟩
  unfold HH
  split
  · exact .inl ⟨rfl, rfl, rfl, fun b h => h⟩
  · exact .inl ⟨rfl, rfl, rfl, fun b h => h⟩
/-- which rows are written over -/
def st1 (n s : Nat) : Nat := if s / 2 < n then 1 else 0
/-- where the loops stand: the arrays at R, six rows behind them -/
def Ph (st : Nat → Nat) (wb : World) (R : Nat) (wr : World) : Prop :=
  ∃ v x G, Fam (R + 4) (HH st v x) G wr ∧ Arr wr R v x ∧ Kept (fun b => R ≤ b) wb wr
theorem Fam.congr {B : Nat} {H H' : Nat → World → (Nat → Prop) → Prop} {G : Nat → Nat → Prop} {w : World} (h : Fam B H G w) (e : ∀ s, s < 6 → H' s = H s) : Fam B H' G w := ⟨fun s hs => by rw [e s hs]; exact h.holds s hs, h.lo, h.apart⟩
theorem Two.arr1 {wo w wa w1 : World} {R n : Nat} {v x : Nat → Value} {V W X Y X' : Value} {A L : List UInt8} {B M : List Run} (hB : TwoB wo R n V W A B) (h : Two wo R n v x V W A B L M X Y w) (ha : Kept (fun _ => False) w wa) (hg : Grow1 wa w1 X X') : Arr w1 R v (up (up x (2 * n) X) (2 * n + 1) Y) := by
  refine h.arr.keep ((ha.mono (S' := fun b => X.ownBlock = some b) (fun _ _ h => h.elim)).trans (grow_to hg) (fun _ _ h => h)) (fun b hb => ?_)
  have := hB.top
  rcases h.xb b hb with e | e
  · exact (hB.vlo b e).1
  · omega
theorem Two.arr2 {wo w wa w1 : World} {R n : Nat} {v x : Nat → Value} {V W X Y Y' : Value} {A L : List UInt8} {B M : List Run} (hB : TwoB wo R n V W A B) (h : Two wo R n v x V W A B L M X Y w) (ha : Kept (fun _ => False) w wa) (hg : Grow1 wa w1 Y Y') : Arr w1 R v (up (up x (2 * n) X) (2 * n + 1) Y) := by
  refine h.arr.keep ((ha.mono (S' := fun b => Y.ownBlock = some b) (fun _ _ h => h.elim)).trans (grow_to hg) (fun _ _ h => h)) (fun b hb => ?_)
  have := hB.top
  rcases h.yb b hb with e | e
  · exact (hB.wlo b e).1
  · omega
theorem up_at0 (x : Nat → Value) (n : Nat) (X Y : Value) : up (up x (2 * n) X) (2 * n + 1) Y (2 * n) = X := by simp [up]
theorem up_at1 (x : Nat → Value) (n : Nat) (X Y : Value) : up (up x (2 * n) X) (2 * n + 1) Y (2 * n + 1) = Y := by simp [up]
theorem b1_bit (n : Nat) (h : n < 3) : ((b1 n).toNat : Int) = 10 + n := by unfold b1; rw [ofNat_toNat (by omega)]; omega
theorem b2_bit (n : Nat) (h : n < 3) : ((b2 n).toNat : Int) = 100 + n := by unfold b2; rw [ofNat_toNat (by omega)]; omega
theorem lit_b {w : World} {n : Nat} (h : n < 3) : SlAt byteE (w.alloc (.cells #[.int .u8 (100 + n)] 5)) (.slice (some ⟨w.heap.size, 0, none⟩) 1 1) [b2 n] := SlAt.lit (E := byteE) [b2 n] _ (by rw [← b2_bit n h]; rfl) (by show 1 ≤ maxLen; decide)
theorem lit_r {w : World} {n g : Nat} (hg : g = w.heap.size) : SlAt runE (w.alloc (.cells #[.int .i64 0, .int .i64 0, .int .i64 (100 + n)] 35)) (.slice (some ⟨g, 0, none⟩) 1 1) [r2 n] := by subst hg; exact SlAt.lit (E := runE) [r2 n] _ rfl (by show 1 ≤ maxLen; decide)
theorem rep_at {α : Type} {a b : α} {d k : Nat} (h : k < d) : (List.replicate d a ++ List.replicate 40 b)[k]? = some a := by
  rw [List.getElem?_append_left (by simpa using h), List.getElem?_replicate, if_pos h]
theorem rep_at2 {α : Type} {a b : α} {d k : Nat} (h : d ≤ k) (h2 : k < d + 40) : (List.replicate d a ++ List.replicate 40 b)[k]? = some b := by
  rw [List.getElem?_append_right (by simpa using h), List.getElem?_replicate, if_pos (by simp; omega)]
/-- what the last loops read of round n's rows -/
theorem Fam.six {R n : Nat} {v x : Nat → Value} {G : Nat → Nat → Prop} {w : World} (hf : Fam (R + 4) (HH (st2 3) v x) G w) (ha : Arr w R v x) (hn : n < 3) :
    ∃ (d e N M : Nat) (va wa : Option Addr) (vc wc gx ox cx gy oy cy : Nat), N = d + 40 ∧ M = e + 40 ∧ N ≤ 1000000 ∧ M ≤ 1000000 ∧ w.cell? ⟨R, n, none⟩ = some (.slice va d vc) ∧ w.cell? ⟨R + 1, n, none⟩ = some (.slice (some ⟨gx, ox, none⟩) N cx) ∧
      w.cell? ⟨R + 1 + 1, n, none⟩ = some (.slice wa e wc) ∧ w.cell? ⟨R + 1 + 1 + 1, n, none⟩ = some (.slice (some ⟨gy, oy, none⟩) M cy) ∧
      (∀ k, k < d → ∃ g o, va = some ⟨g, o, none⟩ ∧ w.cell? ⟨g, o + k, none⟩ = some (.int .u8 (10 + n)) ∧ w.cell? ⟨gx, ox + k, none⟩ = some (.int .u8 (10 + n))) ∧
      (∀ k, d ≤ k → k < N → w.cell? ⟨gx, ox + k, none⟩ = some (.int .u8 (100 + n))) ∧
      (∀ k, k < e → ∃ g o, wa = some ⟨g, o, none⟩ ∧ w.cell? ⟨g, o + k * 3 + 2, none⟩ = some (.int .i64 (10 + n)) ∧ w.cell? ⟨gy, oy + k * 3 + 2, none⟩ = some (.int .i64 (10 + n))) ∧
      (∀ k, e ≤ k → k < M → w.cell? ⟨gy, oy + k * 3 + 2, none⟩ = some (.int .i64 (100 + n))) := by
  have h0 := hf.holds (2 * n) (by omega)
  have h1 := hf.holds (2 * n + 1) (by omega)
  rw [HH.even] at h0
  rw [HH.odd] at h1
  have s0 : st2 3 (2 * n) = 2 := by unfold st2; rw [if_pos (by omega)]
  have s1 : st2 3 (2 * n + 1) = 2 := by unfold st2; rw [if_pos (by omega)]
  rw [s0] at h0
  rw [s1] at h1
  rcases h0 with h | h | ⟨_, _, _, d, hd, o0, p0⟩
  · exact absurd h.1 (by omega)
  · exact absurd h.1 (by omega)
  rcases h1 with h | h | ⟨_, _, _, e, he, o1, p1⟩
  · exact absurd h.1 (by omega)
  · exact absurd h.1 (by omega)
  obtain ⟨va, vc, hv, _, _⟩ := o0.sl
  obtain ⟨wa, wc, hw, _, _⟩ := o1.sl
  obtain ⟨gx, ox, cx, hx, _, _, _, qx⟩ := St.SlAt.byte p0 (by simp)
  obtain ⟨gy, oy, cy, hy, _, qy⟩ := St.SlAt.run p1 (by simp)
  have c0 : _ = some (v (2 * n)) := ha.1.cell' (tri v hn)
  have c1 : _ = some (x (2 * n)) := ha.2.1.cell' (tri x hn)
  have c2 : _ = some (v (2 * n + 1)) := ha.2.2.1.cell' (tri1 v hn)
  have c3 : _ = some (x (2 * n + 1)) := ha.2.2.2.cell' (tri1 x hn)
  rw [hv, List.length_replicate] at c0
  rw [hx, List.length_append, List.length_replicate, List.length_replicate] at c1
  rw [hw, List.length_replicate] at c2
  rw [hy, List.length_append, List.length_replicate, List.length_replicate] at c3
  refine ⟨d, e, d + 40, e + 40, va, wa, vc, wc, gx, ox, cx, gy, oy, cy, rfl, rfl, by omega, by omega, c0, c1, c2, c3, fun k hk => ?_, fun k hk hk2 => ?_, fun k hk => ?_, fun k hk hk2 => ?_⟩
  · obtain ⟨g, o, c, hv', _, _, _, q⟩ := St.SlAt.byte o0 (by simp; omega)
    rw [hv] at hv'
    injection hv' with e1 _ _
    have r1 := q k (b1 n) (by rw [List.getElem?_replicate, if_pos hk])
    have r2 := qx k (b1 n) (rep_at hk)
    rw [b1_bit n hn] at r1 r2
    exact ⟨g, o, e1, r1, r2⟩
  · have r2 := qx k (b2 n) (rep_at2 hk hk2)
    rw [b2_bit n hn] at r2
    exact r2
  · obtain ⟨g, o, c, hv', _, q⟩ := St.SlAt.run o1 (by simp; omega)
    rw [hw] at hv'
    injection hv' with e1 _ _
    exact ⟨g, o, e1, (q k (r1 n) (by rw [List.getElem?_replicate, if_pos hk])).2.2, (qy k (r1 n) (rep_at hk)).2.2⟩
  · exact (qy k (r2 n) (rep_at2 hk hk2)).2.2
theorem set_len : ∀ {S M : List ID}, S.Nodup → (∀ x ∈ S, x ∈ M) → S.length ≤ M.length
  | [], _, _, _ => Nat.zero_le _
  | x :: S, M, hn, hs => by
    obtain ⟨h1, h2⟩ := List.nodup_cons.1 hn
    have hm := hs x (List.mem_cons_self ..)
    have := set_len (M := M.erase x) h2 (fun y hy => (List.mem_erase_of_ne (fun e => h1 (by rw [← e]; exact hy))).2 (hs y (List.mem_cons_of_mem _ hy)))
    rw [List.length_erase_of_mem hm] at this
    have := List.length_pos_of_mem hm
    simp only [List.length_cons]
    omega
theorem setOf_len {M S : List ID} (h : SetOf M S) : S.length ≤ M.length := by
  refine set_len ?_ (fun x hx => ((h.2 x).1 hx).1)
  refine List.Pairwise.imp (fun hab e => ?_) h.1
  subst e
  exact ID.lt_irrefl _ hab
theorem repl_set {α : Type} {D : List α} {k : Nat} (h : k < D.length) (y : α) : (List.replicate k y ++ D.drop k).set k y = List.replicate (k + 1) y ++ D.drop (k + 1) := by
  obtain ⟨x, hx⟩ := get_of_lt h
  rw [drop_get hx, List.set_append_right _ _ (by simp)]
  simp [List.replicate_succ', List.append_assoc]
theorem repl_len {α : Type} {D : List α} {k : Nat} (h : k ≤ D.length) (y : α) : (List.replicate k y ++ D.drop k).length = D.length := by simp; omega
theorem set_byte {w : World} {g cap k : Nat} {X : List UInt8} {y : UInt8} {z : Int} (h : OwnAt byteE w 5 g cap X) (hk : k < X.length) (hz : (y.toNat : Int) = z) : OwnAt byteE (w.setCell ⟨g, k, none⟩ (.int .u8 z)) 5 g cap (X.set k y) := by
  obtain ⟨x, hx⟩ := get_of_lt hk
  have := h.set1of3 (m := 0) (y := y) hx (b := .int .u8 z) (by decide) (by rw [← hz]; rfl)
  simpa [byteE] using this
theorem set_run {w : World} {g cap k : Nat} {X : List Run} {z : Int} (h : OwnAt runE w 35 g cap X) (hk : k < X.length) :
    OwnAt runE (((w.setCell ⟨g, k * 3, none⟩ (.int .i64 0)).setCell ⟨g, k * 3 + 1, none⟩ (.int .i64 0)).setCell ⟨g, k * 3 + 2, none⟩ (.int .i64 z)) 35 g cap (X.set k ⟨⟨0, 0⟩, z⟩) := by
  obtain ⟨x, hx⟩ := get_of_lt hk
  have h1 := h.set1of3 (m := 0) (y := ⟨⟨0, x.id.s⟩, x.c⟩) hx (b := .int .i64 0) (by decide) rfl
  have h2 := h1.set1of3 (i := k) (x := ⟨⟨0, x.id.s⟩, x.c⟩) (m := 1) (y := ⟨⟨0, 0⟩, x.c⟩) (by simp [hk]) (b := .int .i64 0) (by decide) rfl
  have h3 := h2.set1of3 (i := k) (x := ⟨⟨0, 0⟩, x.c⟩) (m := 2) (y := ⟨⟨0, 0⟩, z⟩) (by simp [hk]) (b := .int .i64 z) (by decide) rfl
  rw [List.set_set, List.set_set] at h3
  exact h3
theorem owns_base {w : World} {b b' : Nat} {t : TypeId} {k n : Nat} {v : Value} {xs : List Value} (h : w.ownsRow b t k v n xs) (hb : b' ≤ b) : w.ownsRow b' t k v n xs := by
  refine ⟨h.1, ?_⟩
  rcases h.2 with h | ⟨g, cap, cur, h1, h2, h3⟩
  · exact .inl h
  · exact .inr ⟨g, cap, cur, h1, by omega, h3⟩
theorem HH.same {st st' : Nat → Nat} {v v' x x' : Nat → Value} {s : Nat} (h1 : st' s = st s) (h2 : v' s = v s) (h3 : x' s = x s) : HH st' v' x' s = HH st v x s := by
  unfold HH
  rw [h1, h2, h3]
theorem HH.zero {st : Nat → Nat} {v x : Nat → Value} {s : Nat} {w : World} {F : Nat → Prop} (h : HH st v x s w F) (hs : st s = 0) : x s = .slice none 0 0 := by
  unfold HH at h
  split at h
  · rcases h with h | h | h
    · exact h.2.2.1
    · have := h.1; omega
    · have := h.1; omega
  · rcases h with h | h | h
    · exact h.2.2.1
    · have := h.1; omega
    · have := h.1; omega
set_option maxRecDepth 100000 in
set_option maxHeartbeats 40000000 in
theorem walk_core {w : World} {v0 v1 : Value} {M : List ID} {L : List St.Item} (h : SlAt itemE w v0 L) (h0 : SlAt idE w v1 M) (hin : ∀ x ∈ L, I64 x.n) :
    Calls Try.prog 6 #[v0, v1] w fun e w' => e = .returned (.bool true) ∧ Kept (fun _ => False) w w' := by
  have hm1 := much_any h none 0 0
  obtain ⟨mb, mc, rfl, _, _⟩ := h0.sl
  obtain ⟨a, c, rfl, hac, hcm⟩ := h.sl
  have HS := Lib.hid h
  have HM := Lib.hid h0
  have HI := Lib.hid hin
  have M1 := Lib.hid hm1
  clear h h0 hin hm1 hac hcm
  go_enter Try.func6, Try.ntmps6
  go_wp2_with fail
  refine M1.out.mono ?_
  rintro e w' ⟨r1, rfl, hr1, hw⟩
  obtain rfl := hw.symm
  clear hw
  cases r1 with
  | true =>
    clear hr1
    go_wp2_with fail
    refine (known_any _).mono ?_
    rintro e w1 ⟨rfl, hk⟩
    go_wp2_with fail
    go_ret
    exact ⟨rfl, hk⟩
  | false =>
    have SL := Lib.hid (hr1 rfl)
    clear hr1 M1
    by_cases hM : 400 < M.length
    · have hMI : (400 : Int) < M.length := by omega
      go_wp2_with fail
      refine (known_any _).mono ?_
      rintro e w1 ⟨rfl, hk⟩
      go_wp2_with fail
      go_ret
      exact ⟨rfl, hk⟩
    have hMI : (M.length : Int) ≤ 400 := by omega
    have hLn : (L.length : Int) ≤ 400 := by have := SL.out.1; omega
    have W0 : Hid (WNew w w.heap.size (stN L 0).1 (stN L 0).2 (w.alloc (.cells #[.slice none 0 0, .int .i64 0] 46))) := Lib.hid ⟨_, wr_zero w, fun b hb => by have hb : b = w.heap.size := hb; omega, (Kept.refl _ _).alloc _⟩
    go_wp2_with fail
    go_loopw [6] (fun iv wr => ∃ n : Nat, iv = .int .i64 n ∧ n ≤ L.length ∧ WNew w w.heap.size (stN L n).1 (stN L n).2 wr) (fun iv _ => L.length - (intOf iv).toNat)
    case atStart => exact ⟨0, rfl, Nat.zero_le _, W0.out⟩
    case round =>
      clear W0
      obtain ⟨n, rfl, hn, hW⟩ := hrel
      have hn0 : (0 : Int) ≤ n := by omega
      obtain ⟨F0, hwr, hF0, hk0⟩ := hW
      have hsl := stN_small HI.out SL.out n
      by_cases h1 : n < L.length
      case pos =>
        obtain ⟨x, hx⟩ := get_of_lt h1
        obtain ⟨g, o, ci, hv, hglt, hcs⟩ := SlAt.item HS.out (by omega)
        cases hv
        have CC := Lib.hid (hcs n x hx)
        have hnl : (n : Int) < L.length := by omega
        have hxs := SL.out.2.2.1 x (List.mem_of_getElem? hx)
        have hxn := HI.out x (List.mem_of_getElem? hx)
        have HX := Lib.hid hx
        obtain ⟨xt, xn, xs⟩ := x
        have d0 := old_cell hk0 CC.out.1
        have d1 := old_cell hk0 CC.out.2.1
        have d2 := old_cell hk0 CC.out.2.2
        have hlay := lay_any hwr ⟨xt, xn, xs⟩ hxn (by have : xs.size ≤ 50000 := hxs; show xs.size ≤ _; omega) (by omega)
        have HF0 := Lib.hid hF0
        have HK0 := Lib.hid hk0
        clear hx hcs hwr hF0 hk0
        go_wp2_with fail
        refine hlay.mono ?_
        rintro e' w1 ⟨rfl, hg⟩
        clear hlay
        have hg' := WrGoes.cast (bs' := (stN L (n + 1)).1) (e' := (stN L (n + 1)).2) hg (by rw [stN_succ HX.out]) (by rw [stN_succ HX.out])
        have HW1 := Lib.hid (WNew.goes HF0.out HK0.out hg')
        clear hg hg'
        go_wp2_with fail
        go_roundw
        case rel => exact ⟨n + 1, by go_num, by omega, HW1.out⟩
        case measure => simp [intOf] <;> omega
      case neg =>
        have hnl : ¬ (n : Int) < L.length := by omega
        have hdata := wdata_any hwr (by omega)
        have HWr := Lib.hid hwr
        have HF0 := Lib.hid hF0
        have HK0 := Lib.hid hk0
        generalize stN L n = S at *
        obtain ⟨D, er⟩ := S
        clear hwr hF0 hk0
        go_wp2_with fail
        refine hdata.mono ?_
        rintro e' w2 ⟨vf, rfl, ho2, hk2⟩
        have hsf := owns_slAt (E := byteE) ho2
        obtain ⟨fa, fc, rfl⟩ := owns_sl ho2
        have hsz : w.heap.size ≤ w2.heap.size := by have := HK0.out.size; have := hk2.size; omega
        have hkb : Kept (fun _ => False) w2 ((((w2.alloc (.cells #[.slice none 0 0, .slice none 0 0, .slice none 0 0] 51)).alloc (.cells #[.slice none 0 0, .slice none 0 0, .slice none 0 0] 51)).alloc (.cells #[.slice none 0 0, .slice none 0 0, .slice none 0 0] 52)).alloc (.cells #[.slice none 0 0, .slice none 0 0, .slice none 0 0] 52)) := ((((Kept.refl _ _).alloc _).alloc _).alloc _).alloc _
        have q1 := (((Blk.new w2 51 #[.slice none 0 0, .slice none 0 0, .slice none 0 0]).alloc (.cells #[.slice none 0 0, .slice none 0 0, .slice none 0 0] 51)).alloc (.cells #[.slice none 0 0, .slice none 0 0, .slice none 0 0] 52)).alloc (.cells #[.slice none 0 0, .slice none 0 0, .slice none 0 0] 52)
        have q2 := ((Blk.new (w2.alloc (.cells #[.slice none 0 0, .slice none 0 0, .slice none 0 0] 51)) 51 #[.slice none 0 0, .slice none 0 0, .slice none 0 0]).alloc (.cells #[.slice none 0 0, .slice none 0 0, .slice none 0 0] 52)).alloc (.cells #[.slice none 0 0, .slice none 0 0, .slice none 0 0] 52)
        have q3 := (Blk.new ((w2.alloc (.cells #[.slice none 0 0, .slice none 0 0, .slice none 0 0] 51)).alloc (.cells #[.slice none 0 0, .slice none 0 0, .slice none 0 0] 51)) 52 #[.slice none 0 0, .slice none 0 0, .slice none 0 0]).alloc (.cells #[.slice none 0 0, .slice none 0 0, .slice none 0 0] 52)
        have q4 := Blk.new (((w2.alloc (.cells #[.slice none 0 0, .slice none 0 0, .slice none 0 0] 51)).alloc (.cells #[.slice none 0 0, .slice none 0 0, .slice none 0 0] 51)).alloc (.cells #[.slice none 0 0, .slice none 0 0, .slice none 0 0] 52)) 52 #[.slice none 0 0, .slice none 0 0, .slice none 0 0]
        simp only [World.size_alloc] at q2 q3 q4
        have hwr2 := HWr.out.keep (hk2.trans hkb (fun _ _ h => h)) (fun _ _ h => h)
        have hflt : ∀ b, F0 b → b < w2.heap.size := fun b hb => (HWr.out.keep hk2 (fun _ _ h => h)).lt b hb
        have hsfb := hsf.kept hkb
        have hflf : ∀ b, (Value.slice fa D.length fc).ownBlock = some b → b < w2.heap.size := fun b hb => (ho2.lt b hb).2
        have PH0 : Hid (Ph (st1 0) _ w2.heap.size _) := Lib.hid ⟨_, _, _, firstFam _ _, ⟨q1, q2, q3, q4⟩, Kept.refl _ _⟩
        have KB := Lib.hid ((HK0.out.trans hk2 (fun _ _ h => h)).trans hkb (fun _ _ h => h))
        have WB := Lib.hid hwr2
        have FB := Lib.hid hsfb
        have WL := Lib.hid hflt
        have FL := Lib.hid hflf
        clear ho2 hk2 hsf hkb q1 q2 q3 q4 hwr2 hflt hsfb hflf hdata HWr HF0 HK0
        go_wp2_with fail
        generalize ((((w2.alloc (.cells #[.slice none 0 0, .slice none 0 0, .slice none 0 0] 51)).alloc (.cells #[.slice none 0 0, .slice none 0 0, .slice none 0 0] 51)).alloc (.cells #[.slice none 0 0, .slice none 0 0, .slice none 0 0] 52)).alloc (.cells #[.slice none 0 0, .slice none 0 0, .slice none 0 0] 52)) = wb at *
        generalize w2.heap.size = R at *
        go_loopw [12] (fun iv wr => ∃ n : Nat, iv = .int .i64 n ∧ n ≤ 3 ∧ Ph (st1 n) wb R wr) (fun iv _ => 3 - (intOf iv).toNat)
        case atStart => exact ⟨0, rfl, by omega, PH0.out⟩
        case round =>
          clear PH0
          obtain ⟨n, rfl, hn, v, x, G, hfam, harr, hkw⟩ := hrel
          obtain ⟨wo, rfl⟩ : ∃ wo : World, wo = wr := ⟨_, rfl⟩
          have hn0 : (0 : Int) ≤ n := by omega
          by_cases h1 : n < 3
          case pos =>
            have hn3 : (n : Int) < 3 := by omega
            have hdata := wdata_any (WB.out.keep hkw (fun b hb h => by have := WL.out b hb; omega)) (by omega)
            have HFam := Lib.hid hfam
            have HArr := Lib.hid harr
            have HKW := Lib.hid hkw
            clear hfam harr hkw
            go_wp2_with fail
            refine hdata.mono ?_
            rintro e' w3 ⟨v3, rfl, ho3, hk3⟩
            obtain ⟨a3, c3, rfl⟩ := owns_sl ho3
            have hk3w := KB.out.over (HKW.out.trans hk3 (fun _ _ h => h.elim)) (fun b hb => by have hb : R ≤ b := hb; omega)
            have harr3 := HArr.out.keep hk3 (fun b h => h.elim)
            have x0 : w3.cell? ⟨R, n, none⟩ = some (v (2 * n)) := harr3.1.cell' (tri v h1)
            have f0 := harr3.1.frozen n
            have harr4 := harr3.setR h1 (.slice a3 D.length c3)
            have hkR : Kept (· = R) w3 (w3.setCell ⟨R, n, none⟩ (.slice a3 D.length c3)) := (Kept.refl (· = R) w3).setCell (fun _ => rfl) _
            have hRw : R + 4 ≤ wo.heap.size := by have := HArr.out.2.2.2.lt; omega
            have ho4 := owns_keep ho3 hkR (fun b hb e => by have := (ho3.lt b hb).1; have e : b = R := e; omega)
            have hk4w := hk3w.over hkR (fun b hb => by have hb : b = R := hb; omega)
            have hpack := pack_any (HM.out.kept hk4w) (by omega)
            have hs4 := hk3.size
            have hs4' := hkR.size
            have A4 := Lib.hid harr4
            have O4 := Lib.hid ho4
            have K34 := Lib.hid ((hk3.mono (S' := (· = R)) (fun _ _ h => h.elim)).trans hkR (fun _ _ h => h))
            have K4w := Lib.hid hk4w
            clear ho3 hk3 hk3w harr3 harr4 hkR ho4 hk4w hdata HArr
            go_wp2_with fail
            generalize w3.setCell ⟨R, n, none⟩ (.slice a3 D.length c3) = w4 at *
            refine hpack.mono ?_
            rintro e' w5 ⟨u5, S, rfl, hS, ho5, hk5⟩
            have hpl : (packL S).length ≤ 400 := by have := packL_len S; have := setOf_len hS; omega
            generalize packL S = P at *
            obtain ⟨a5, c5, rfl⟩ := owns_sl ho5
            have harr5 := A4.out.keep hk5 (fun b h => h.elim)
            have y0 : w5.cell? ⟨R + 1 + 1, n, none⟩ = some _ := harr5.2.2.1.cell' (tri1 _ h1)
            have f1 := harr5.2.2.1.frozen n
            have harr6 := harr5.setP h1 (.slice a5 P.length c5)
            have hkP : Kept (· = R + 1 + 1) w5 (w5.setCell ⟨R + 1 + 1, n, none⟩ (.slice a5 P.length c5)) := (Kept.refl (· = R + 1 + 1) w5).setCell (fun _ => rfl) _
            have hs45 : wo.heap.size ≤ w4.heap.size := by omega
            have ho6 := owns_keep ho5 hkP (fun b hb e => by have := (ho5.lt b hb).1; have e : b = R + 1 + 1 := e; omega)
            have hv6 := owns_keep (owns_keep O4.out hk5 (fun _ _ h => h)) hkP (fun b hb e => by have := (O4.out.lt b hb).1; have e : b = R + 1 + 1 := e; omega)
            have hk46 := (hk5.mono (S' := (· = R + 1 + 1)) (fun _ _ h => h.elim)).trans hkP (fun _ _ h => h)
            have hk6w := K4w.out.over hk46 (fun b hb => by have hb : b = R + 1 + 1 := hb; omega)
            have hdis : ∀ b, (Value.slice a3 D.length c3).ownBlock = some b → ¬ (Value.slice a5 P.length c5).ownBlock = some b := fun b hb hb' => by have := (O4.out.lt b hb).2; have := (ho5.lt b hb').1; omega
            have hu6 : ∀ b, (Value.slice a5 P.length c5).ownBlock = some b → wo.heap.size ≤ b := fun b hb => by have := (ho5.lt b hb).1; omega
            have hkB6 : Kept (fun b => R ≤ b) wb _ := (HKW.out.trans (K34.out.mono (S' := fun b => R ≤ b) (fun b _ h => by have h : b = R := h; show R ≤ b; omega)) (fun _ _ h => h)).trans (hk46.mono (S' := fun b => R ≤ b) (fun b _ h => by have h : b = R + 1 + 1 := h; show R ≤ b; omega)) (fun _ _ h => h)
            have hkA6 : Kept (fun b => b = R ∨ b = R + 1 + 1) wo _ := (K34.out.mono (S' := fun b => b = R ∨ b = R + 1 + 1) (fun _ _ h => .inl h)).trans (hk46.mono (S' := fun b => b = R ∨ b = R + 1 + 1) (fun _ _ h => .inr h)) (fun _ _ h => h)
            have hby := bytes_same (owns_slAt (E := byteE) hv6) (FB.out.keep hkB6 (fun b hb _ h => by have := FL.out b hb; have h : R ≤ b := h; omega)) (by omega)
            have z0 : _ = some (Value.slice a3 D.length c3) := harr6.1.cell' (i := n) (by rw [tri _ h1]; simp [up])
            have A6 := Lib.hid harr6
            have O6 := Lib.hid ho6
            have V6 := Lib.hid hv6
            have KB6 := Lib.hid hkB6
            have KA6 := Lib.hid hkA6
            have DI := Lib.hid hdis
            have U6 := Lib.hid hu6
            have V6l := Lib.hid (show ∀ b, (Value.slice a3 D.length c3).ownBlock = some b → wo.heap.size ≤ b from fun b hb => by have := (O4.out.lt b hb).1; omega)
            clear ho5 hk5 harr5 harr6 hkP ho6 hv6 hk46 hk6w hdis hu6 hkB6 hkA6 hpack A4 O4 K34 K4w x0 f0
            go_wp2_with fail
            generalize w5.setCell ⟨R + 1 + 1, n, none⟩ (.slice a5 P.length c5) = w6 at *
            refine hby.mono ?_
            rintro e' w' ⟨rfl, q6, rfl⟩
            have hkq := (Kept.refl (fun _ => False) w6).drewN q6
            have A7 := Lib.hid (A6.out.keep hkq (fun b h => h.elim))
            have O7 := Lib.hid (owns_keep O6.out hkq (fun _ _ h => h))
            have V7 := Lib.hid (owns_keep V6.out hkq (fun _ _ h => h))
            have KB7 := Lib.hid (KB6.out.drewN q6)
            have KA7 := Lib.hid (KA6.out.drewN q6)
            clear hby hkq A6 O6 V6 KB6 KA6 z0 y0 f1
            go_wp2_with fail
            generalize w6.drewN q6 = w7 at *
            go_loopw [13] (fun iv wr => ∃ k : Nat, iv = .int .i64 k ∧ k ≤ D.length ∧ wr.ownsRow wo.heap.size 5 1 (.slice a3 D.length c3) D.length (byteE.flat (List.replicate k (b1 n) ++ D.drop k)) ∧ Kept (fun b => (Value.slice a3 D.length c3).ownBlock = some b) w7 wr) (fun iv _ => D.length - (intOf iv).toNat)
            case atStart => exact ⟨0, rfl, Nat.zero_le _, V7.out, Kept.refl _ _⟩
            case round =>
              obtain ⟨k, rfl, hk, ho, hkz⟩ := hrel
              have hk0 : (0 : Int) ≤ k := by omega
              have z0 : _ = some (Value.slice a3 D.length c3) := (A7.out.keep hkz (fun b hb => by have := V6l.out b hb; omega)).1.cell' (i := n) (by rw [tri _ h1]; simp [up])
              have HO := Lib.hid ho
              have HKZ := Lib.hid hkz
              clear ho hkz
              by_cases hlt : k < D.length
              case pos =>
                have hltI : (k : Int) < D.length := by omega
                obtain ⟨hl, ⟨hnil, hn0⟩ | ⟨g, cap, hv, hg, hO⟩⟩ := own_of (E := byteE) HO.out
                · have := congrArg List.length hn0; rw [repl_len hk] at this; simp only [List.length_nil] at this; omega
                cases hv
                obtain ⟨y, hy⟩ := get_of_lt (show k < (List.replicate k (b1 n) ++ D.drop k).length by rw [repl_len hk]; exact hlt)
                have c0 : wr.cell? ⟨g, k, none⟩ = some (.int .u8 (y.toNat : Int)) := by have := hO.cell (j := 0) hy rfl; simpa [byteE] using this
                have f0 := hO.frozen k
                have hgR : ¬ g = R := by omega
                have HOA := Lib.hid hO
                have HY := Lib.hid hy
                clear hO hy hl
                go_wp2_with fail
                go_roundw
                case rel =>
                  have h2 := set_byte (k := k) (y := b1 n) HOA.out (by rw [repl_len hk]; exact hlt) (b1_bit n h1)
                  rw [repl_set hlt] at h2
                  have h3 := h2.owns hg
                  rw [repl_len (D := D) (k := k + 1) hlt] at h3
                  exact ⟨k + 1, by go_num, by omega, h3, HKZ.out.setCell (p := ⟨g, k, none⟩) (fun _ => rfl) _⟩
                case measure => simp [intOf] <;> omega
              case neg =>
                have hnl : ¬ (k : Int) < D.length := by omega
                obtain rfl : k = D.length := by omega
                rw [List.drop_length, List.append_nil] at HO

                have A8 := Lib.hid (A7.out.keep HKZ.out (fun b hb => by have := V6l.out b hb; omega))
                have O8 := Lib.hid (owns_keep O7.out HKZ.out (fun b hb h => DI.out b h hb))
                have V8 := HO
                have KZ := HKZ
                clear HO HKZ A7 O7 V7
                go_wp2_with fail
                clear z0
                obtain ⟨w8, hw8⟩ : ∃ w8 : World, w8 = wr := ⟨_, rfl⟩
                subst hw8
                go_loopw [14] (fun iv wr => ∃ k : Nat, iv = .int .i64 k ∧ k ≤ P.length ∧ wr.ownsRow w4.heap.size 35 3 (.slice a5 P.length c5) P.length (runE.flat (List.replicate k (r1 n) ++ P.drop k)) ∧ Kept (fun b => (Value.slice a5 P.length c5).ownBlock = some b) w8 wr) (fun iv _ => P.length - (intOf iv).toNat)
                case atStart => exact ⟨0, rfl, Nat.zero_le _, O8.out, Kept.refl _ _⟩
                case round =>
                  obtain ⟨k, rfl, hk, ho, hkz⟩ := hrel
                  have hk0 : (0 : Int) ≤ k := by omega
                  have z0 : _ = some (Value.slice a5 P.length c5) := (A8.out.keep hkz (fun b hb => by have := U6.out b hb; omega)).2.2.1.cell' (i := n) (by rw [tri1 _ h1]; simp [up])
                  have HO := Lib.hid ho
                  have HKZ := Lib.hid hkz
                  clear ho hkz
                  by_cases hlt : k < P.length
                  case pos =>
                    have hltI : (k : Int) < P.length := by omega
                    obtain ⟨hl, ⟨hnil, hn0⟩ | ⟨g, cap, hv, hg, hO⟩⟩ := own_of (E := runE) HO.out
                    · have := congrArg List.length hn0; rw [repl_len hk] at this; simp only [List.length_nil] at this; omega
                    cases hv
                    obtain ⟨y, hy⟩ := get_of_lt (show k < (List.replicate k (r1 n) ++ P.drop k).length by rw [repl_len hk]; exact hlt)
                    obtain ⟨c0, c1, c2⟩ := St.OwnAt.run hO hy
                    have f0 := hO.frozen (k * 3)
                    have f1 := hO.frozen (k * 3 + 1)
                    have f2 := hO.frozen (k * 3 + 2)
                    have hgR : ¬ g = R + 1 + 1 := by omega
                    have HOA := Lib.hid hO
                    have HY := Lib.hid hy
                    clear hO hy hl
                    go_wp2_with fail
                    go_roundw
                    case rel =>
                      have h2 := set_run (k := k) (z := 10 + (n : Int)) HOA.out (by rw [repl_len hk]; exact hlt)
                      rw [show (⟨⟨0, 0⟩, 10 + (n : Int)⟩ : Run) = r1 n from rfl, repl_set hlt] at h2
                      have h3 := h2.owns hg
                      rw [repl_len (D := P) (k := k + 1) hlt] at h3
                      exact ⟨k + 1, by go_num, by omega, h3, ((HKZ.out.setCell (p := ⟨g, k * 3, none⟩) (fun _ => rfl) _).setCell (p := ⟨g, k * 3 + 1, none⟩) (fun _ => rfl) _).setCell (p := ⟨g, k * 3 + 2, none⟩) (fun _ => rfl) _⟩
                    case measure => simp [intOf] <;> omega
                  case neg =>
                    have hnl : ¬ (k : Int) < P.length := by omega
                    obtain rfl : k = P.length := by omega
                    rw [List.drop_length, List.append_nil] at HO
                    go_wp2_with fail
                    go_roundw
                    case rel =>
                      have harr9 := A8.out.keep HKZ.out (fun b hb => by have := U6.out b hb; omega)
                      have hv9 := owns_keep V8.out HKZ.out (fun b hb h => DI.out b hb h)
                      have hk79 : Kept (fun b => (Value.slice a3 D.length c3).ownBlock = some b ∨ (Value.slice a5 P.length c5).ownBlock = some b) w7 wr := (KZ.out.mono (fun _ _ h => .inl h)).trans (HKZ.out.mono (S' := fun b => (Value.slice a3 D.length c3).ownBlock = some b ∨ (Value.slice a5 P.length c5).ownBlock = some b) (fun _ _ h => .inr h)) (fun _ _ h => h)
                      have hk9 : Kept (fun b => (b = R ∨ b = R + 1 + 1) ∨ ((Value.slice a3 D.length c3).ownBlock = some b ∨ (Value.slice a5 P.length c5).ownBlock = some b)) wo wr := (KA7.out.mono (fun _ _ h => .inl h)).trans (hk79.mono (S' := fun b => (b = R ∨ b = R + 1 + 1) ∨ ((Value.slice a3 D.length c3).ownBlock = some b ∨ (Value.slice a5 P.length c5).ownBlock = some b)) (fun _ _ h => .inr h)) (fun _ _ h => h)
                      have hx0 := HH.zero (HFam.out.holds (2 * n) (by omega)) (by unfold st1; rw [if_neg (by omega)])
                      have hx1 := HH.zero (HFam.out.holds (2 * n + 1) (by omega)) (by unfold st1; rw [if_neg (by omega)])
                      refine ⟨n + 1, by go_num, by omega, up (up v (2 * n) (.slice a3 D.length c3)) (2 * n + 1) (.slice a5 P.length c5), x, _, HFam.out.turn2 (2 * n) (by omega) (F0 := fun b => (Value.slice a3 D.length c3).ownBlock = some b) (F1 := fun b => (Value.slice a5 P.length c5).ownBlock = some b) (fun s hs e0 e1 => ⟨HH.same (by unfold st1; by_cases h : s / 2 < n; rw [if_pos h, if_pos (by omega)]; rw [if_neg h, if_neg (by omega)]) (by simp [up, e0, e1]) rfl, HH.firm _ _ _ _⟩) hk9 (fun b hb hlt hB => ?_) ?_ ?_ (fun b hb => ?_) (fun b hb => ?_) (fun b hb hb' => DI.out b hb hb'), harr9, (KB7.out.trans (hk79.mono (S' := fun b => R ≤ b) (fun b _ h => ?_)) (fun _ _ h => h))⟩
                      · rcases hb with (rfl | rfl) | hb | hb
                        · omega
                        · omega
                        · have := V6l.out b hb; omega
                        · have := U6.out b hb; omega
                      · rw [HH.even]
                        refine .inr (.inl ⟨by unfold st1; rw [if_pos (by omega)], hx0, fun b hb => by simpa [up] using hb, D.length, by omega, ?_⟩)
                        have h9 : wr.ownsRow 0 5 byteE.k (.slice a3 D.length c3) D.length (byteE.flat (List.replicate D.length (b1 n))) := owns_base hv9 (Nat.zero_le _)
                        rw [show up (up v (2 * n) (Value.slice a3 D.length c3)) (2 * n + 1) (Value.slice a5 P.length c5) (2 * n) = Value.slice a3 D.length c3 by simp [up]]
                        exact h9
                      · rw [HH.odd]
                        refine .inr (.inl ⟨by unfold st1; rw [if_pos (by omega)], hx1, fun b hb => by simpa [up] using hb, P.length, by omega, ?_⟩)
                        have h9 : wr.ownsRow 0 35 runE.k (.slice a5 P.length c5) P.length (runE.flat (List.replicate P.length (r1 n))) := owns_base HO.out (Nat.zero_le _)
                        rw [show up (up v (2 * n) (Value.slice a3 D.length c3)) (2 * n + 1) (Value.slice a5 P.length c5) (2 * n + 1) = Value.slice a5 P.length c5 by simp [up]]
                        exact h9
                      · have h1 := V6l.out b hb
                        exact ⟨by omega, (hv9.lt b hb).2, fun h => by omega⟩
                      · have h1 := U6.out b hb
                        exact ⟨by omega, (HO.out.lt b hb).2, fun h => by omega⟩
                      · rcases h with h | h
                        · have := V6l.out b h; show R ≤ b; omega
                        · have := U6.out b h; show R ≤ b; omega
                    case measure => simp [intOf] <;> omega

          case neg =>
            have hnl : ¬ (n : Int) < 3 := by omega
            obtain rfl : n = 3 := by omega
            have PH1 : Hid (Ph (st2 0) wb R wo) := Lib.hid ⟨v, x, G, hfam.congr (fun s hs => by refine HH.same ?_ rfl rfl; have h3 : s / 2 < 3 := (by omega); unfold st1 st2; simp [h3]), harr, hkw⟩
            clear hfam harr hkw
            go_wp2_with fail
            go_loopw [15] (fun iv wr => ∃ n : Nat, iv = .int .i64 n ∧ n ≤ 3 ∧ Ph (st2 n) wb R wr) (fun iv _ => 3 - (intOf iv).toNat)
            case atStart => exact ⟨0, rfl, by omega, PH1.out⟩
            case round =>
              clear PH1
              obtain ⟨n, rfl, hn, v, x, G, hfam, harr, hkw⟩ := hrel
              obtain ⟨wo, rfl⟩ : ∃ wo : World, wo = wr := ⟨_, rfl⟩
              have hn0 : (0 : Int) ≤ n := by omega
              by_cases h1 : n < 3
              case pos =>
                have hn3 : (n : Int) < 3 := by omega
                obtain ⟨d, e, hd, he, o0, o1, g0, g1, hB, hT⟩ := hfam.two harr h1
                obtain ⟨a0, c0, hv⟩ := owns_sl o0
                obtain ⟨a1, c1, hw⟩ := owns_sl o1
                have harr1 := harr.setL h1 (v (2 * n))
                have x0 : _ = some (v (2 * n)) := harr.1.cell' (tri v h1)
                have x1 : _ = some (x (2 * n)) := harr.2.1.cell' (tri x h1)
                have x2 : _ = some (v (2 * n + 1)) := harr1.2.2.1.cell' (tri1 v h1)
                have x3 := harr1.2.2.2.cell' (tri1 _ h1)
                have f1 := harr.2.1.frozen n
                have f3 := harr1.2.2.2.frozen n
                rw [hv] at x0 x2 x3 f3 hB hT
                rw [hw] at x2 hB hT
                have HFam := Lib.hid hfam
                have HKW := Lib.hid hkw
                have HV := Lib.hid hv
                have HW := Lib.hid hw
                have TB := Lib.hid hB
                have T0 := Lib.hid hT
                have G0 := Lib.hid g0
                have G1 := Lib.hid g1
                clear hfam harr harr1 hkw hv hw hB hT g0 g1 o0 o1
                go_wp2_with fail
                clear x0 x1 x2 x3 f1 f3
                obtain ⟨A, hA⟩ : ∃ A, A = List.replicate d (b1 n) := ⟨_, rfl⟩
                obtain ⟨B, hB⟩ : ∃ B, B = List.replicate e (r1 n) := ⟨_, rfl⟩
                have hAl : A.length = d := by rw [hA]; simp
                have hBl : B.length = e := by rw [hB]; simp
                rw [← hA, ← hB] at TB T0
                go_loopw [16] (fun iv wr => ∃ k : Nat, iv = .int .i64 k ∧ k ≤ 40 ∧ ∃ X Y, Two wo R n v x (.slice a0 d c0) (.slice a1 e c1) A B (List.replicate k (b2 n)) (List.replicate k (r2 n)) X Y wr) (fun iv _ => 40 - (intOf iv).toNat)
                case atStart => exact ⟨0, rfl, by omega, _, _, T0.out⟩
                case round =>
                  clear T0
                  obtain ⟨k, rfl, hk, X, Y, hT⟩ := hrel
                  have hk0 : (0 : Int) ≤ k := by omega
                  by_cases hlt : k < 40
                  case pos =>
                    have hltI : (k : Int) < 40 := by omega
                    generalize hLk : List.replicate k (b2 n) = L' at *
                    generalize hMk : List.replicate k (r2 n) = M' at *
                    have hLl : L'.length = k := by rw [← hLk]; simp
                    have hMl : M'.length = k := by rw [← hMk]; simp
                    obtain ⟨m1, hm1⟩ : ∃ m, (A ++ L').length = m := ⟨_, rfl⟩
                    obtain ⟨m2, hm2⟩ : ∃ m, (B ++ M').length = m := ⟨_, rfl⟩
                    obtain ⟨xa, xc, rfl⟩ := owns_sl (by have := hT.xo; rw [hm1] at this; exact this)
                    obtain ⟨ya, yc, rfl⟩ := owns_sl (by have := hT.yo; rw [hm2] at this; exact this)
                    have HM1 := Lib.hid hm1
                    have HM2 := Lib.hid hm2
                    have y0 : _ = some (Value.slice xa m1 xc) := hT.arr.2.1.cell' (i := n) (by rw [tri _ h1, up_at0])
                    have HT := Lib.hid hT
                    have HLM := Lib.hid (And.intro hLk hMk)
                    have hl1 : (A ++ L').length ≤ 1000000 := by simp; omega
                    have hl2 : (B ++ M').length ≤ 1000000 := by simp; omega
                    clear hT hLk hMk hm1 hm2
                    go_wp2_with (first
                      | (at_builtin; (refine wpList_append_keeps byteE rfl (.tmp 117) (.tmp 121) 44 rfl 0 5 (.int .u8 0) 1 Try.underlying44 info_u8 rfl (by decide) (v := .slice xa m1 xc) (D := A ++ L') (x := b2 n) rfl rfl (owns_keep HT.out.xo ((Kept.refl (fun _ => False) _).alloc _) (fun _ _ h => h)) (lit_b h1) hl1 (Nat.zero_le _) ?_); (intro v1 w1 ho1 hg1); (obtain ⟨xa1, xc1, rfl⟩ := owns_sl (by have := ho1; rw [HM1.out] at this; exact this)); have arr1 := Two.arr1 TB.out HT.out ((Kept.refl (fun _ => False) _).alloc _) hg1; have T1 := Lib.hid (Two.byte TB.out HT.out ((Kept.refl (fun _ => False) _).alloc _) ho1 hg1); have y1 : _ = some (Value.slice xa m1 xc) := arr1.2.1.cell' (i := n) (by rw [tri _ h1, up_at0]); have f1 := arr1.2.1.frozen n; have y3 : _ = some (Value.slice ya m2 yc) := T1.out.arr.2.2.2.cell' (i := n) (by rw [tri1 _ h1, up_at1]); clear ho1 hg1 arr1 HT)
                      | (at_builtin; (refine wpList_append_keeps runE rfl (.tmp 127) (.tmp 131) 29 rfl 0 35 (.agg #[.int .i64 0, .int .i64 0, .int .i64 0]) 24 Try.underlying29 info_run rfl (by decide) (v := .slice ya m2 yc) (D := B ++ M') (x := r2 n) rfl rfl (owns_keep T1.out.yo ((Kept.refl (fun _ => False) _).alloc _) (fun _ _ h => h)) (lit_r (by simp)) hl2 (Nat.zero_le _) ?_); (intro v2 w2 ho2 hg2); (obtain ⟨ya1, yc1, rfl⟩ := owns_sl (by have := ho2; rw [HM2.out] at this; exact this)); have arr2 := Two.arr2 TB.out T1.out ((Kept.refl (fun _ => False) _).alloc _) hg2; have T2 := Lib.hid (Two.run TB.out T1.out ((Kept.refl (fun _ => False) _).alloc _) ho2 hg2); have z3 : _ = some (Value.slice ya m2 yc) := arr2.2.2.2.cell' (i := n) (by rw [tri1 _ h1, up_at1]); have f3 := arr2.2.2.2.frozen n; clear ho2 hg2 arr2 T1))
                    go_roundw
                    case rel =>
                      exact ⟨k + 1, by go_num, by omega, .slice xa1 (m1 + 1) xc1, .slice ya1 (m2 + 1) yc1, by rw [List.replicate_succ', List.replicate_succ', HLM.out.1, HLM.out.2]; exact T2.out⟩
                    case measure => simp [intOf] <;> omega
                  case neg =>
                    have hnl : ¬ (k : Int) < 40 := by omega
                    obtain rfl : k = 40 := by omega
                    have HT := Lib.hid hT
                    clear hT
                    go_wp2_with fail
                    go_roundw
                    case rel =>
                      refine ⟨n + 1, by go_num, by omega, v, _, _, Two.fin HFam.out hd he G0.out G1.out (by rw [HV.out, HW.out, ← hA, ← hB]; exact TB.out) (by rw [HV.out, HW.out, ← hA, ← hB]; exact HT.out), HT.out.arr, HKW.out.trans (HT.out.kept.mono (S' := fun b => R ≤ b) (fun b _ hb => ?_)) (fun _ _ h => h)⟩
                      have := TB.out.top
                      show R ≤ b
                      rcases hb with hb | hb | hb | hb | hb
                      · omega
                      · omega
                      · have := TB.out.vlo b hb; omega
                      · have := TB.out.wlo b hb; omega
                      · omega
                    case measure => simp [intOf] <;> omega
              case neg =>
                have hnl : ¬ (n : Int) < 3 := by omega
                obtain rfl : n = 3 := by omega
                have HFam := Lib.hid hfam
                have HArr := Lib.hid harr
                have HKW := Lib.hid hkw
                clear hfam harr hkw
                go_wp2_with fail
                go_loopw [17] (fun iv wr => ∃ n : Nat, iv = .int .i64 n ∧ n ≤ 3 ∧ wr = wo) (fun iv _ => 3 - (intOf iv).toNat)
                case atStart => exact ⟨0, rfl, by omega, rfl⟩
                case round =>
                  obtain ⟨n, rfl, hn, hw⟩ := hrel
                  subst hw
                  obtain ⟨wo, rfl⟩ : ∃ wo : World, wo = wr := ⟨_, rfl⟩
                  have hn0 : (0 : Int) ≤ n := by omega
                  by_cases h1 : n < 3
                  case pos =>
                    have hn3 : (n : Int) < 3 := by omega
                    obtain ⟨d, e, N, M', va, wa, vc, wc, gx, ox, cx, gy, oy, cy, hN, hM', hNl, hMl, x0, x1, x2, x3, p1, p2, p3, p4⟩ := Fam.six HFam.out HArr.out h1
                    have P1 := Lib.hid p1
                    have P2 := Lib.hid p2
                    have P3 := Lib.hid p3
                    have P4 := Lib.hid p4
                    clear p1 p2 p3 p4
                    go_wp2_with fail
                    go_loopw [18] (fun iv wr => ∃ k : Nat, iv = .int .i64 k ∧ k ≤ N ∧ wr = wo) (fun iv _ => N - (intOf iv).toNat)
                    case atStart => exact ⟨0, rfl, Nat.zero_le _, rfl⟩
                    case round =>
                      obtain ⟨k, rfl, hk, hw⟩ := hrel
                      subst hw
                      obtain ⟨wo, rfl⟩ : ∃ wo : World, wo = wr := ⟨_, rfl⟩
                      have hk0 : (0 : Int) ≤ k := by omega
                      by_cases hlt : k < N
                      case pos =>
                        have hltI : (k : Int) < N := by omega
                        by_cases hkd : k < d
                        · have hkI : (k : Int) < d := by omega
                          have hkJ : ¬ (d : Int) ≤ k := by omega
                          obtain ⟨g, o, rfl, c0, c1⟩ := P1.out k hkd
                          go_wp2_with fail
                          go_roundw
                          case rel => exact ⟨k + 1, by go_num, by omega, trivial⟩
                          case measure => simp [intOf] <;> omega
                        · have hkI : ¬ (k : Int) < d := by omega
                          have hkJ : (d : Int) ≤ k := by omega
                          have c1 := P2.out k (by omega) hlt
                          go_wp2_with fail
                          go_roundw
                          case rel => exact ⟨k + 1, by go_num, by omega, trivial⟩
                          case measure => simp [intOf] <;> omega
                      case neg =>
                        have hnl : ¬ (k : Int) < N := by omega
                        go_wp2_with fail
                        go_loopw [20] (fun iv wr => ∃ k : Nat, iv = .int .i64 k ∧ k ≤ M' ∧ wr = wo) (fun iv _ => M' - (intOf iv).toNat)
                        case atStart => exact ⟨0, rfl, Nat.zero_le _, rfl⟩
                        case round =>
                          obtain ⟨k, rfl, hk, hw⟩ := hrel
                          subst hw
                          obtain ⟨wo, rfl⟩ : ∃ wo : World, wo = wr := ⟨_, rfl⟩
                          have hk0 : (0 : Int) ≤ k := by omega
                          by_cases hlt : k < M'
                          case pos =>
                            have hltI : (k : Int) < M' := by omega
                            by_cases hkd : k < e
                            · have hkI : (k : Int) < e := by omega
                              have hkJ : ¬ (e : Int) ≤ k := by omega
                              obtain ⟨g, o, rfl, c0, c1⟩ := P3.out k hkd
                              go_wp2_with fail
                              go_roundw
                              case rel => exact ⟨k + 1, by go_num, by omega, trivial⟩
                              case measure => simp [intOf] <;> omega
                            · have hkI : ¬ (k : Int) < e := by omega
                              have hkJ : (e : Int) ≤ k := by omega
                              have c1 := P4.out k (by omega) hlt
                              go_wp2_with fail
                              go_roundw
                              case rel => exact ⟨k + 1, by go_num, by omega, trivial⟩
                              case measure => simp [intOf] <;> omega
                          case neg =>
                            have hnl : ¬ (k : Int) < M' := by omega
                            go_wp2_with fail
                            go_roundw
                            case rel => exact ⟨n + 1, by go_num, by omega, trivial⟩
                            case measure => simp [intOf] <;> omega
                  case neg =>
                    have hnl : ¬ (n : Int) < 3 := by omega
                    have hdata := wdata_any (WB.out.keep HKW.out (fun b hb h => by have := WL.out b hb; omega)) (by omega)
                    go_wp2_with fail
                    refine hdata.mono ?_
                    rintro e' w3 ⟨v3, rfl, ho3, hk3⟩
                    obtain ⟨a3, c3, rfl⟩ := owns_sl ho3
                    have hkA := HKW.out.trans hk3 (fun _ _ h => h.elim)
                    have hby := bytes_same (owns_slAt (E := byteE) ho3) (FB.out.keep hkA (fun b hb _ h => by have := FL.out b hb; have h : R ≤ b := h; omega)) (by omega)
                    have K3 := Lib.hid (KB.out.over hkA (fun b hb => by have hb : R ≤ b := hb; omega))
                    clear ho3 hk3 hkA hdata
                    go_wp2_with fail
                    refine hby.mono ?_
                    rintro e' w' ⟨rfl, q6, rfl⟩
                    go_wp2_with fail
                    refine (known_any _).mono ?_
                    rintro e w1 ⟨rfl, hk⟩
                    go_wp2_with fail
                    go_ret
                    exact ⟨rfl, (K3.out.drewN q6).trans hk (fun _ _ h => h)⟩
end stampOwn
end Go.Proofs.Ytdbnohlignpeaaa
