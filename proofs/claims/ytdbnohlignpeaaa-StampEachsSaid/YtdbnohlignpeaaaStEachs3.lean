/- StampEachs: the first function, within which the iterator is called again. -/
import Derived.Test.YtdbnohlignpeaaaStEachs2
namespace Go.Proofs.Ytdbnohlignpeaaa.St
open Go.RowKit
namespace stampEachs
theorem it2W {B : Nat} {w : World} {Bl Bw Bs Bo Bk : Nat} {vl vw : Value} {G : List Run} {W : List ID} {stop : Int} (hW : W = (idsOf G).take 3000) (h : Env B w Bl Bw Bs vl vw G W stop) (hG : ∀ r ∈ G, r.Ok) (hb : G.length ≤ 1000000) (ho : Blk w Bo 4 #[.bool true]) (hn : Blk w Bk 3 #[.int .i64 0]) (hB : B ≤ Bo) (hB2 : B ≤ Bk) (hne : Bo ≠ Bk) :
    Calls Try.prog 73 #[.func (.func 44) #[] #[.pointer (some ⟨Bo, 0, none⟩), .pointer (some ⟨Bk, 0, none⟩), .pointer (some ⟨Bw, 0, none⟩), .pointer (some ⟨Bs, 0, none⟩)], .pointer (some ⟨Bl, 0, none⟩)] w fun e w' =>
      e = .returned (.tuple #[]) ∧ Kept (fun b => b = Bo ∨ b = Bk) w w' ∧ Blk w' Bo 4 #[.bool true] ∧ ∃ m : Nat, Blk w' Bk 3 #[.int .i64 m] ∧ (m = W.length ∨ (m : Int) = stop) := by subst hW; exact it2_any h hG hb ho hn hB hB2 hne
set_option maxRecDepth 100000 in
set_option maxHeartbeats 8000000 in
theorem f1_any {B : Nat} {w : World} {Bl Bw Bs Bi Bo Bn : Nat} {vl vw : Value} {G : List Run} {W : List ID} {stop : Int} (hW : W = (idsOf G).take 3000) (h : Env B w Bl Bw Bs vl vw G W stop) (hG : ∀ r ∈ G, r.Ok) (hb : G.length ≤ 1000000)
    (hbi : Blk w Bi 77 #[.func (.func 73) #[] #[.pointer (some ⟨Bl, 0, none⟩)]]) (hil : Bi < B) (ho : Blk w Bo 4 #[.bool true]) (i : Nat) (hn : Blk w Bn 3 #[.int .i64 i]) (hB : B ≤ Bo) (hB2 : B ≤ Bn) (hne : Bo ≠ Bn) (x : ID) (hx : W[i]? = some x) (hi : i < 3000) :
    Calls Try.prog 43 #[idV x, .pointer (some ⟨Bo, 0, none⟩), .pointer (some ⟨Bn, 0, none⟩), .pointer (some ⟨Bw, 0, none⟩), .pointer (some ⟨Bi, 0, none⟩), .pointer (some ⟨Bs, 0, none⟩)] w fun e w' =>
      e = .returned (.bool (decide (i + 1 < 3000))) ∧ Blk w' Bo 4 #[.bool true] ∧ Blk w' Bn 3 #[.int .i64 ((i + 1 : Nat) : Int)] ∧ Kept (fun b => b = Bo ∨ b = Bn) w w' := by
  obtain ⟨xt, xs⟩ := x
  have hlt : i < W.length := (List.getElem?_eq_some_iff.1 hx).1
  have hwr := h.wr
  obtain ⟨g, o, c, rfl, hg, hc⟩ := SlAt.id hwr (by omega)
  obtain ⟨d0, d1⟩ := hc i _ hx
  have hi0 : (0 : Int) ≤ i := by omega
  have hiI : (i : Int) < W.length := by omega
  have l1 := ho.lt
  have l2 := hn.lt
  have l3 := h.bw.lt
  have l5 := hbi.lt
  have gB := h.vw g rfl
  have wl := h.wl
  have sl := h.sl
  have g1 : ¬ g = Bo := by omega
  have n1' : ¬ Bn = Bo := fun e => hne e.symm
  have n2 : ¬ Bo = Bw := by omega
  have n2' : ¬ Bw = Bo := by omega
  have hk0 : Kept (fun _ => False) w (w.alloc (.cells #[.int .i64 xt, .int .i64 xs] 23)) := (Kept.refl _ _).alloc _
  have HX := Blk.new w 23 #[.int .i64 xt, .int .i64 xs]
  have e0 : (w.alloc (.cells #[.int .i64 xt, .int .i64 xs] 23)).cell? ⟨g, o + i * 2, none⟩ = some (.int .i64 xt) := old_cell hk0 d0
  have e1 : (w.alloc (.cells #[.int .i64 xt, .int .i64 xs] 23)).cell? ⟨g, o + i * 2 + 1, none⟩ = some (.int .i64 xs) := old_cell hk0 d1
  have a0 : _ = some (Value.bool true) := (hk0.blk (fun h => h) ho).cell' (i := 0) rfl
  have a1 : _ = some (Value.int .i64 i) := (hk0.blk (fun h => h) hn).cell' (i := 0) rfl
  have a2 : _ = some (Value.slice (some ⟨g, o, none⟩) W.length c) := (hk0.blk (fun h => h) h.bw).cell' (i := 0) rfl
  have a4 : _ = some (Value.int .i64 xt) := HX.cell' (i := 0) rfl
  have a5 : _ = some (Value.int .i64 xs) := HX.cell' (i := 1) rfl
  have f0 := (hk0.blk (fun h => h) ho).frozen 0
  have hk1 : Kept (· = Bo) w (((w.setCell ⟨Bo, 0, none⟩ (.bool true)).alloc (.cells #[.int .i64 xt, .int .i64 xs] 23)).drew) := (((Kept.refl (· = Bo) w).setCell (p := ⟨Bo, 0, none⟩) (fun _ => rfl) _).alloc _).drew
  have ho1 : Blk (((w.setCell ⟨Bo, 0, none⟩ (.bool true)).alloc (.cells #[.int .i64 xt, .int .i64 xs] 23)).drew) Bo 4 #[.bool true] :=
    ((Kept.refl (fun _ => False) (w.setCell ⟨Bo, 0, none⟩ (.bool true))).alloc _).drew.blk (fun h => h) (ho.set_ 0 (.bool true))
  have O1 := Lib.hid ho1
  have N1 := Lib.hid (hk1.blk n1' hn)
  have I1 := Lib.hid (hk1.blk (fun e => by have e : Bi = Bo := e; omega) hbi)
  have E1 := Lib.hid (h.keep hk1 (fun b hb => by have hb : b = Bo := hb; omega))
  have K1 := Lib.hid hk1
  have HW := Lib.hid hW
  have HG := Lib.hid hG
  clear ho hn hbi hwr hx hc d0 d1 hk1 ho1 hk0 HX h hW hG
  unfold idV
  go_enter Try.func43, Try.ntmps43
  go_wp2_with fail
  go_region
  clear a0 a1 a2 a4 a5 e0 e1 f0
  generalize ((w.setCell ⟨Bo, 0, none⟩ (.bool true)).alloc (.cells #[.int .i64 xt, .int .i64 xs] 23)).drew = w1 at *
  have hs01 := K1.out.size
  have b0 : w1.cell? ⟨Bo, 0, none⟩ = some (.bool true) := O1.out.cell' (i := 0) rfl
  have b1 : w1.cell? ⟨Bn, 0, none⟩ = some (.int .i64 i) := N1.out.cell' (i := 0) rfl
  have f1 := N1.out.frozen 0
  have hk2 : Kept (· = Bn) w1 (w1.setCell ⟨Bn, 0, none⟩ (.int .i64 ((i : Int) + 1))) := (Kept.refl (· = Bn) w1).setCell (p := ⟨Bn, 0, none⟩) (fun _ => rfl) _
  have K2 := Lib.hid ((K1.out.mono (S' := fun b => b = Bo ∨ b = Bn) (fun _ _ h => .inl h)).trans (hk2.mono (S' := fun b => b = Bo ∨ b = Bn) (fun _ _ h => .inr h)) (fun _ _ h => h))
  have o2 : Blk (w1.setCell ⟨Bn, 0, none⟩ (.int .i64 ((i : Int) + 1))) Bo 4 #[.bool true] := O1.out.far (by simpa using hne) _
  have n2 : Blk (w1.setCell ⟨Bn, 0, none⟩ (.int .i64 ((i : Int) + 1))) Bn 3 #[.int .i64 ((i + 1 : Nat) : Int)] := N1.out.set_ 0 (.int .i64 ((i : Int) + 1))
  have i2 := hk2.blk (fun e => by have e : Bi = Bn := e; omega) I1.out
  have E2 := Lib.hid (E1.out.keep hk2 (fun b hb => by have hb : b = Bn := hb; omega))
  have O2 := Lib.hid o2
  have N2 := Lib.hid n2
  have I2 := Lib.hid i2
  clear hk2 o2 n2 i2 O1 N1 I1 E1 K1
  by_cases h1 : i = 1
  case neg =>
    have h1I : ¬ (i : Int) + 1 = 2 := by omega
    by_cases h3 : i + 1 < 3000
    · have h3I : (i : Int) + 1 < 3000 := by omega
      go_wp2_with fail
      go_ret
      exact ⟨by simp [h3], O2.out, N2.out, K2.out⟩
    · have h3I : ¬ (i : Int) + 1 < 3000 := by omega
      go_wp2_with fail
      go_ret
      exact ⟨by simp <;> omega, O2.out, N2.out, K2.out⟩
  case pos =>
    subst h1
    have hk3 : Kept (fun _ => False) (w1.setCell ⟨Bn, 0, none⟩ (.int .i64 2)) ((w1.setCell ⟨Bn, 0, none⟩ (.int .i64 2)).alloc (.cells #[.int .i64 0] 3)) := (Kept.refl _ _).alloc _
    have q3 : Blk ((w1.setCell ⟨Bn, 0, none⟩ (.int .i64 2)).alloc (.cells #[.int .i64 0] 3)) w1.heap.size 3 #[.int .i64 0] := by
      have := Blk.new (w1.setCell ⟨Bn, 0, none⟩ (.int .i64 2)) 3 #[.int .i64 0]
      simpa using this
    have o3 := hk3.blk (fun h => h) O2.out
    have n3 := hk3.blk (fun h => h) N2.out
    have i3 := hk3.blk (fun h => h) I2.out
    have x3 : _ = some (Value.func (.func 73) #[] #[.pointer (some ⟨Bl, 0, none⟩)]) := i3.cell' (i := 0) rfl
    have s1 : Bo < w1.heap.size := by have := O2.out.lt; simpa using this
    have s2 : Bn < w1.heap.size := by have := N2.out.lt; simpa using this
    have E3 := Lib.hid (E2.out.keep hk3 (fun _ h => h.elim))
    have K3 := Lib.hid (K2.out.trans hk3 (fun _ _ h => h.elim))
    have O3 := Lib.hid o3
    have N3 := Lib.hid n3
    have Q3 := Lib.hid q3
    clear hk3 q3 o3 n3 i3 O2 N2 I2 E2 K2
    go_wp2_with fail
    clear x3 b0 b1 f1
    generalize (w1.setCell ⟨Bn, 0, none⟩ (.int .i64 2)).alloc (.cells #[.int .i64 0] 3) = w3 at *
    refine (it2W HW.out E3.out HG.out hb O3.out Q3.out hB (by omega) (by omega)).mono ?_
    rintro e w4 ⟨rfl, hk4, ho4, m, hm4, hmc⟩
    have n4 := hk4.blk (fun e => by rcases e with e | e <;> omega) N3.out
    have E4 := E3.out.keep hk4 (fun b hb => by rcases hb with rfl | rfl <;> omega)
    have b0 : w4.cell? ⟨Bo, 0, none⟩ = some (.bool true) := ho4.cell' (i := 0) rfl
    have b1 : w4.cell? ⟨Bn, 0, none⟩ = some (.int .i64 2) := n4.cell' (i := 0) rfl
    have b2 : w4.cell? ⟨w1.heap.size, 0, none⟩ = some (.int .i64 m) := hm4.cell' (i := 0) rfl
    have b3 : w4.cell? ⟨Bw, 0, none⟩ = some (.slice (some ⟨g, o, none⟩) W.length c) := E4.bw.cell' (i := 0) rfl
    have b4 : w4.cell? ⟨Bs, 0, none⟩ = some (.int .i64 stop) := E4.bs.cell' (i := 0) rfl
    have f0 := ho4.frozen 0
    have o5 : Blk (w4.setCell ⟨Bo, 0, none⟩ (.bool true)) Bo 4 #[.bool true] := ho4.set_ 0 (.bool true)
    have n5 : Blk (w4.setCell ⟨Bo, 0, none⟩ (.bool true)) Bn 3 #[.int .i64 ((1 + 1 : Nat) : Int)] := n4.far (by simpa using n1') _
    have k5 : Kept (fun b => b = Bo ∨ b = Bn) w (w4.setCell ⟨Bo, 0, none⟩ (.bool true)) := (K3.out.trans hk4 (fun b hlt hb => by
      rcases hb with hb | hb
      · exact .inl hb
      · omega)).setCell (p := ⟨Bo, 0, none⟩) (fun _ => .inl rfl) _
    have O5 := Lib.hid o5
    have N5 := Lib.hid n5
    have K5 := Lib.hid k5
    clear o5 n5 k5 hk4 ho4 hm4 n4 E4
    by_cases hm : m = W.length
    · subst hm
      clear hmc
      go_wp2_with fail
      go_ret
      exact ⟨by simp, O5.out, N5.out, K5.out⟩
    · obtain rfl : stop = (m : Int) := (hmc.resolve_left hm).symm
      have hmI : ¬ (m : Int) = W.length := by omega
      clear hmc
      go_wp2_with fail
      go_ret
      exact ⟨by simp, O5.out, N5.out, K5.out⟩
end stampEachs
end Go.Proofs.Ytdbnohlignpeaaa.St
