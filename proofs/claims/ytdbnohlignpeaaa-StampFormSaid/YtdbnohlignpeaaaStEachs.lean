/- The functions that StampEachs hands to the iterator. -/
import Derived.Test.YtdbnohlignpeaaaStRefEach
import Derived.StillTailTactics
namespace Go.Proofs.Ytdbnohlignpeaaa.St
open Go.RowKit
namespace stampEachs
theorem f3_any {w : World} {Bn Bs : Nat} (x : ID) (i : Nat) (stop : Int) (hn : Blk w Bn 3 #[.int .i64 i]) (hs : Blk w Bs 3 #[.int .i64 stop]) (hi : i < 3000) (n5 : Bn ≠ Bs) :
    Calls Try.prog 45 #[idV x, .pointer (some ⟨Bn, 0, none⟩), .pointer (some ⟨Bs, 0, none⟩)] w fun e w' => e = .returned (.bool (decide (((i + 1 : Nat) : Int) ≠ stop) && decide (i + 1 < 3000))) ∧ Blk w' Bn 3 #[.int .i64 ((i + 1 : Nat) : Int)] ∧ Kept (· = Bn) w w' := by
  have n5' := n5.symm
  obtain ⟨xt, xs⟩ := x
  have hk1 : Kept (fun _ => False) w (w.alloc (.cells #[.int .i64 xt, .int .i64 xs] 23)) := (Kept.refl _ _).alloc _
  have N1 := Lib.hid (hk1.blk (fun h => h) hn)
  have S1 := Lib.hid (hk1.blk (fun h => h) hs)
  have K1 := Lib.hid hk1
  have b1 : _ = some (Value.int .i64 i) := N1.out.cell' (i := 0) rfl
  have b3 : _ = some (Value.int .i64 stop) := S1.out.cell' (i := 0) rfl
  have f1 := N1.out.frozen 0
  have hi0 : (0 : Int) ≤ i := by omega
  unfold idV
  clear hn hs hk1
  go_enter Try.func45, Try.ntmps45
  go_upto_region 1 with (fail)
  generalize w.alloc (.cells #[.int .i64 xt, .int .i64 xs] 23) = w1 at *
  have k2 : Kept (· = Bn) w (w1.setCell ⟨Bn, 0, none⟩ (.int .i64 ((i : Int) + 1))) := (K1.out.mono (S' := (· = Bn)) (fun _ _ h => h.elim)).setCell (p := ⟨Bn, 0, none⟩) (fun _ => rfl) _
  have q2 : Blk (w1.setCell ⟨Bn, 0, none⟩ (.int .i64 ((i : Int) + 1))) Bn 3 #[.int .i64 ((i + 1 : Nat) : Int)] := N1.out.set_ 0 (.int .i64 ((i : Int) + 1))
  have K2 := Lib.hid k2
  have Q2 := Lib.hid q2
  clear k2 q2
  by_cases hs : stop = (i : Int) + 1
  · subst hs
    go_wp2_with fail
    go_ret
    exact ⟨by simp, Q2.out, K2.out⟩
  · have hs' : ¬ (i : Int) + 1 = stop := fun e => hs e.symm
    by_cases h3 : i + 1 < 3000
    · have h3I : (i : Int) + 1 < 3000 := by omega
      go_wp2_with fail
      go_ret
      exact ⟨by simp [hs', h3], Q2.out, K2.out⟩
    · have h3I : ¬ (i : Int) + 1 < 3000 := by omega
      go_wp2_with fail
      go_ret
      exact ⟨by simp <;> omega, Q2.out, K2.out⟩
set_option maxRecDepth 100000 in
set_option maxHeartbeats 4000000 in
theorem f2_any {w : World} {Bo Bk Bw Bs : Nat} {v : Value} {W : List ID} (x : ID) (i : Nat) (stop : Int) (ho : Blk w Bo 4 #[.bool true]) (hk : Blk w Bk 3 #[.int .i64 i]) (hw : Blk w Bw 28 #[v]) (hs : Blk w Bs 3 #[.int .i64 stop])
    (hW : SlAt idE w v W) (hx : W[i]? = some x) (hi : i < 3000) (n1 : Bo ≠ Bk) (n2 : Bo ≠ Bw) (n3 : Bo ≠ Bs) (n4 : Bk ≠ Bw) (n5 : Bk ≠ Bs) (hv : ∀ b, v.ownBlock = some b → b ≠ Bo ∧ b ≠ Bk) :
    Calls Try.prog 44 #[idV x, .pointer (some ⟨Bo, 0, none⟩), .pointer (some ⟨Bk, 0, none⟩), .pointer (some ⟨Bw, 0, none⟩), .pointer (some ⟨Bs, 0, none⟩)] w fun e w' =>
      e = .returned (.bool (decide (((i + 1 : Nat) : Int) ≠ stop) && decide (i + 1 < 3000))) ∧ Blk w' Bo 4 #[.bool true] ∧ Blk w' Bk 3 #[.int .i64 ((i + 1 : Nat) : Int)] ∧ Kept (fun b => b = Bo ∨ b = Bk) w w' := by
  have n1' := n1.symm
  have n2' := n2.symm
  have n3' := n3.symm
  have n4' := n4.symm
  have n5' := n5.symm
  obtain ⟨xt, xs⟩ := x
  have hlt : i < W.length := (List.getElem?_eq_some_iff.1 hx).1
  obtain ⟨g, o, c, rfl, hg, hc⟩ := SlAt.id hW (by omega)
  obtain ⟨d0, d1⟩ := hc i _ hx
  have hi0 : (0 : Int) ≤ i := by omega
  have hiI : (i : Int) < W.length := by omega
  have l1 := ho.lt
  have l2 := hk.lt
  have l3 := hw.lt
  have l4 := hs.lt
  obtain ⟨g1, g2⟩ := hv g rfl
  have HO := Lib.hid (ho.alloc (.cells #[.int .i64 xt, .int .i64 xs] 23))
  have HK := Lib.hid (hk.alloc (.cells #[.int .i64 xt, .int .i64 xs] 23))
  have HW := Lib.hid (hw.alloc (.cells #[.int .i64 xt, .int .i64 xs] 23))
  have HS := Lib.hid (hs.alloc (.cells #[.int .i64 xt, .int .i64 xs] 23))
  have HX := Lib.hid (Blk.new w 23 #[.int .i64 xt, .int .i64 xs])
  have e0 : (w.alloc (.cells #[.int .i64 xt, .int .i64 xs] 23)).cell? ⟨g, o + i * 2, none⟩ = some (.int .i64 xt) := old_cell ((Kept.refl (fun _ => False) w).alloc _) d0
  have e1 : (w.alloc (.cells #[.int .i64 xt, .int .i64 xs] 23)).cell? ⟨g, o + i * 2 + 1, none⟩ = some (.int .i64 xs) := old_cell ((Kept.refl (fun _ => False) w).alloc _) d1
  have a0 : _ = some (Value.bool true) := HO.out.cell' (i := 0) rfl
  have a1 : _ = some (Value.int .i64 i) := HK.out.cell' (i := 0) rfl
  have a2 : _ = some (Value.slice (some ⟨g, o, none⟩) W.length c) := HW.out.cell' (i := 0) rfl
  have a3 : _ = some (Value.int .i64 stop) := HS.out.cell' (i := 0) rfl
  have a4 : _ = some (Value.int .i64 xt) := HX.out.cell' (i := 0) rfl
  have a5 : _ = some (Value.int .i64 xs) := HX.out.cell' (i := 1) rfl
  have f0 := HO.out.frozen 0
  have f1 := HK.out.frozen 0
  have hk1 : Kept (· = Bo) w (((w.setCell ⟨Bo, 0, none⟩ (.bool true)).alloc (.cells #[.int .i64 xt, .int .i64 xs] 23)).drew) := (((Kept.refl (· = Bo) w).setCell (p := ⟨Bo, 0, none⟩) (fun _ => rfl) _).alloc _).drew
  have ho1 : Blk (((w.setCell ⟨Bo, 0, none⟩ (.bool true)).alloc (.cells #[.int .i64 xt, .int .i64 xs] 23)).drew) Bo 4 #[.bool true] :=
    ((Kept.refl (fun _ => False) (w.setCell ⟨Bo, 0, none⟩ (.bool true))).alloc _).drew.blk (fun h => h) (ho.set_ 0 (.bool true))
  have O1 := Lib.hid ho1
  have KK1 := Lib.hid (hk1.blk n1' hk)
  have KW1 := Lib.hid (hk1.blk n2' hw)
  have KS1 := Lib.hid (hk1.blk n3' hs)
  have K1 := Lib.hid hk1
  clear ho hk hw hs hW hx hc d0 d1 hv hk1 ho1
  unfold idV
  go_enter Try.func44, Try.ntmps44
  go_wp2_with fail
  go_region
  clear a0 a1 a2 a3 a4 a5 e0 e1 f0 f1 HO HK HW HS HX
  generalize ((w.setCell ⟨Bo, 0, none⟩ (.bool true)).alloc (.cells #[.int .i64 xt, .int .i64 xs] 23)).drew = w1 at *
  have b0 : w1.cell? ⟨Bo, 0, none⟩ = some (.bool true) := O1.out.cell' (i := 0) rfl
  have b1 : w1.cell? ⟨Bk, 0, none⟩ = some (.int .i64 i) := KK1.out.cell' (i := 0) rfl
  have b3 : w1.cell? ⟨Bs, 0, none⟩ = some (.int .i64 stop) := KS1.out.cell' (i := 0) rfl
  have f1 := KK1.out.frozen 0
  have k2 : Kept (fun b => b = Bo ∨ b = Bk) w (w1.setCell ⟨Bk, 0, none⟩ (.int .i64 ((i : Int) + 1))) := (K1.out.mono (fun _ _ h => .inl h)).setCell (p := ⟨Bk, 0, none⟩) (fun _ => .inr rfl) _
  have o2 : Blk (w1.setCell ⟨Bk, 0, none⟩ (.int .i64 ((i : Int) + 1))) Bo 4 #[.bool true] := O1.out.far (by simpa using n1) _
  have q2 : Blk (w1.setCell ⟨Bk, 0, none⟩ (.int .i64 ((i : Int) + 1))) Bk 3 #[.int .i64 ((i + 1 : Nat) : Int)] := KK1.out.set_ 0 (.int .i64 ((i : Int) + 1))
  have K2 := Lib.hid k2
  have O2 := Lib.hid o2
  have Q2 := Lib.hid q2
  clear k2 o2 q2
  by_cases hs : stop = (i : Int) + 1
  · subst hs
    go_wp2_with fail
    go_ret
    exact ⟨by simp, O2.out, Q2.out, K2.out⟩
  · have hs' : ¬ (i : Int) + 1 = stop := fun e => hs e.symm
    by_cases h3 : i + 1 < 3000
    · have h3I : (i : Int) + 1 < 3000 := by omega
      go_wp2_with fail
      go_ret
      exact ⟨by simp [hs', h3], O2.out, Q2.out, K2.out⟩
    · have h3I : ¬ (i : Int) + 1 < 3000 := by omega
      go_wp2_with fail
      go_ret
      exact ⟨by simp <;> omega, O2.out, Q2.out, K2.out⟩
end stampEachs
end Go.Proofs.Ytdbnohlignpeaaa.St
