/- causal.greatest, by far. -/
import Derived.Test.YtaaeomapbigfgaaQuFar
namespace Go.Proofs.Ytaaeomapbigfgaa
open Go.RowKit Go.Proofs.Ytaaeomapbigfgaa.St
open Go.Sort (grow)
set_option maxRecDepth 100000 in
set_option maxHeartbeats 8000000 in
theorem greatest_any {w : World} {v : Value} {W : List Ent} (h : SlAt entE w v W) (hW : ∀ e ∈ W, e.At w) (hD : ∀ e ∈ W, e.D.length ≤ 1000000000) (hWl : W.length ≤ 1000000000) :
    Calls Try.prog 30 #[v, .func (.func 31) #[] #[]] w fun e w' => e = .returned (.int .i64 (grI W W.length)) ∧ Grew w w' := by
  have hmix : Try.prog.follows .mixedOrders = true := by kernel_rfl
  obtain ⟨a, c, rfl, _, _⟩ := h.sl
  have HS := Lib.hid h
  have HW := Lib.hid hW
  have HD := Lib.hid hD
  clear h hW hD
  go_enter Try.func30, Try.ntmps30
  go_wp2_with fail
  go_loopw [5, 9] (fun kv iv wr => ∃ n : Nat, iv = .int .i64 n ∧ n ≤ W.length ∧ kv = .int .i64 (grI W n) ∧ Grew w wr) (fun _ iv _ => W.length - (intOf iv).toNat)
  case atStart => exact ⟨0, rfl, Nat.zero_le _, rfl, Grew.refl _⟩
  case round =>
    obtain ⟨n, rfl, hn, rfl, hg⟩ := hrel
    have hn0 : (0 : Int) ≤ n := by omega
    by_cases hlt : n < W.length
    case neg =>
      have hnl : ¬ (n : Int) < W.length := by omega
      obtain rfl : n = W.length := by omega
      go_wp2_with fail
      go_ret
      exact ⟨rfl, hg⟩
    case pos =>
      have hltI : (n : Int) < W.length := by omega
      have hkl := grI_lt W n hn (by omega)
      obtain ⟨e, he⟩ := get_of_lt hlt
      obtain ⟨f, hf⟩ := get_of_lt hkl
      have hsucc := Lib.hid (grI_succ he hf)
      have hkI : ((grI W n : Nat) : Int) < W.length := by omega
      have hk0 : (0 : Int) ≤ (grI W n : Nat) := by omega
      generalize grI W n = k at *
      obtain ⟨g, o, c', hv, _, _, hglt, hc⟩ := SlAt.ent (HS.out.kept hg.kept) (by omega)
      cases hv
      have HC := Lib.hid hc
      have HE := Lib.hid he
      have HF := Lib.hid hf
      clear hc
      have EM := List.mem_of_getElem? he
      have FM := List.mem_of_getElem? hf
      have HFAR := Lib.hid (fun (w' : World) (hk : Grew wr w') => far_any ((HW.out e EM).deps.kept (hg.trans hk).kept) ((HW.out f FM).deps.kept (hg.trans hk).kept) (HD.out e EM) (HD.out f FM))
      have ce0 := cell_grown (w := wr) (by show g < _; omega) (show wr.cell? ⟨g, o + n * 11, none⟩ = some (.int .i64 e.v.dot.site) from HC.out n _ HE.out 0 _ rfl)
      have ce1 := cell_grown (w := wr) (by show g < _; omega) (show wr.cell? ⟨g, o + n * 11 + 1, none⟩ = some (.int .i64 e.v.dot.seq) from HC.out n _ HE.out 1 _ rfl)
      have ce2 := cell_grown (w := wr) (by show g < _; omega) (show wr.cell? ⟨g, o + n * 11 + 2, none⟩ = some (e.v.deps.v) from HC.out n _ HE.out 2 _ rfl)
      have ce3 := cell_grown (w := wr) (by show g < _; omega) (show wr.cell? ⟨g, o + n * 11 + 3, none⟩ = some (.int .i64 e.v.kind) from HC.out n _ HE.out 3 _ rfl)
      have ce4 := cell_grown (w := wr) (by show g < _; omega) (show wr.cell? ⟨g, o + n * 11 + 4, none⟩ = some (.int .i64 e.v.id.t) from HC.out n _ HE.out 4 _ rfl)
      have ce5 := cell_grown (w := wr) (by show g < _; omega) (show wr.cell? ⟨g, o + n * 11 + 5, none⟩ = some (.int .i64 e.v.id.s) from HC.out n _ HE.out 5 _ rfl)
      have ce6 := cell_grown (w := wr) (by show g < _; omega) (show wr.cell? ⟨g, o + n * 11 + 6, none⟩ = some (.int .i64 e.v.ref.t) from HC.out n _ HE.out 6 _ rfl)
      have ce7 := cell_grown (w := wr) (by show g < _; omega) (show wr.cell? ⟨g, o + n * 11 + 7, none⟩ = some (.int .i64 e.v.ref.s) from HC.out n _ HE.out 7 _ rfl)
      have ce8 := cell_grown (w := wr) (by show g < _; omega) (show wr.cell? ⟨g, o + n * 11 + 8, none⟩ = some (.string e.v.text) from HC.out n _ HE.out 8 _ rfl)
      have ce9 := cell_grown (w := wr) (by show g < _; omega) (show wr.cell? ⟨g, o + n * 11 + 9, none⟩ = some (e.v.gone.v) from HC.out n _ HE.out 9 _ rfl)
      have ce10 := cell_grown (w := wr) (by show g < _; omega) (show wr.cell? ⟨g, o + n * 11 + 10, none⟩ = some (.int .i64 e.v.site) from HC.out n _ HE.out 10 _ rfl)
      have cf0 := cell_grown (w := wr) (by show g < _; omega) (show wr.cell? ⟨g, o + k * 11, none⟩ = some (.int .i64 f.v.dot.site) from HC.out k _ HF.out 0 _ rfl)
      have cf1 := cell_grown (w := wr) (by show g < _; omega) (show wr.cell? ⟨g, o + k * 11 + 1, none⟩ = some (.int .i64 f.v.dot.seq) from HC.out k _ HF.out 1 _ rfl)
      have cf2 := cell_grown (w := wr) (by show g < _; omega) (show wr.cell? ⟨g, o + k * 11 + 2, none⟩ = some (f.v.deps.v) from HC.out k _ HF.out 2 _ rfl)
      have cf3 := cell_grown (w := wr) (by show g < _; omega) (show wr.cell? ⟨g, o + k * 11 + 3, none⟩ = some (.int .i64 f.v.kind) from HC.out k _ HF.out 3 _ rfl)
      have cf4 := cell_grown (w := wr) (by show g < _; omega) (show wr.cell? ⟨g, o + k * 11 + 4, none⟩ = some (.int .i64 f.v.id.t) from HC.out k _ HF.out 4 _ rfl)
      have cf5 := cell_grown (w := wr) (by show g < _; omega) (show wr.cell? ⟨g, o + k * 11 + 5, none⟩ = some (.int .i64 f.v.id.s) from HC.out k _ HF.out 5 _ rfl)
      have cf6 := cell_grown (w := wr) (by show g < _; omega) (show wr.cell? ⟨g, o + k * 11 + 6, none⟩ = some (.int .i64 f.v.ref.t) from HC.out k _ HF.out 6 _ rfl)
      have cf7 := cell_grown (w := wr) (by show g < _; omega) (show wr.cell? ⟨g, o + k * 11 + 7, none⟩ = some (.int .i64 f.v.ref.s) from HC.out k _ HF.out 7 _ rfl)
      have cf8 := cell_grown (w := wr) (by show g < _; omega) (show wr.cell? ⟨g, o + k * 11 + 8, none⟩ = some (.string f.v.text) from HC.out k _ HF.out 8 _ rfl)
      have cf9 := cell_grown (w := wr) (by show g < _; omega) (show wr.cell? ⟨g, o + k * 11 + 9, none⟩ = some (f.v.gone.v) from HC.out k _ HF.out 9 _ rfl)
      have cf10 := cell_grown (w := wr) (by show g < _; omega) (show wr.cell? ⟨g, o + k * 11 + 10, none⟩ = some (.int .i64 f.v.site) from HC.out k _ HF.out 10 _ rfl)
      have HG := Lib.hid hg
      clear he hf hg EM FM hkl
      generalize farV e.v.dot f.v.dot e.D f.D = fv at *
      by_cases hpos : 0 < fv
      · go_wp2_with fail
        go_quiet_grown (first
          | (go_at_call 31; exact grown_call HFAR.out _ _))
        go_wp2_with fail
        go_roundw
        case rel => exact ⟨n + 1, by go_num, by omega, by rw [hsucc.out, if_pos hpos], HG.out.trans (Grew.grown _ _)⟩
        case measure => simp [intOf] <;> omega
      · go_wp2_with fail
        go_quiet_grown (first
          | (go_at_call 31; exact grown_call HFAR.out _ _))
        go_wp2_with fail
        go_roundw
        case rel => exact ⟨n + 1, by go_num, by omega, by rw [hsucc.out, if_neg (by omega)], HG.out.trans (Grew.grown _ _)⟩
        case measure => simp [intOf] <;> omega
end Go.Proofs.Ytaaeomapbigfgaa

