/- hearsayref1.Runes; hearsayref11: Text, Span. A document with all its blocks in a set: what each call does to it. What the document fixes: the calls of known, one by one. -/
import Derived.Test.YtlafodnaifghcaaGreatH22
import Derived.Test.YtlafodnaifghcaaGreatH24
import Derived.Test.YtlafodnaifghcaaGreatH14
import Derived.Test.YtlafodnaifghcaaGreatH25
import Derived.Test.YtlafodnaifghcaaGreatH27
import Derived.Test.YtlafodnaifghcaaGreatH28
import Derived.Test.YtlafodnaifghcaaGreatH19
import Derived.Test.YtlafodnaifghcaaGreatH13
import Derived.Test.YtlafodnaifghcaaGreatH21
namespace Go.Proofs.YtlafodnaifghcaaGreat.Tr
open Go.RowKit Go.Sort Go.Proofs.YtlafodnaifghcaaGreat.St Go.Proofs.YtlafodnaifghcaaGreat Go.Proofs.YtlafodnaifghcaaGreat.Gl
attribute [local go_sem] Oper.semAt_some
theorem runes_of {s : ByteArray} {L : List Gl.Pc} (h : L.map Gl.Pc.say = (pieces s 0).map (pcOf s)) : L.map Gl.Pc.r = runesL s 0 := by
  have h1 := congrArg (List.map fun x : Int × Int × Bool => x.2.1) h
  rw [List.map_map, List.map_map] at h1
  exact h1
set_option maxRecDepth 100000 in
set_option maxHeartbeats 4000000 in
theorem rrunes_any {s : ByteArray} (hs : s.size ≤ 1000000) (w : World) : Calls Tryz.prog 70 #[.string s] w fun e w' => ∃ v, e = .returned v ∧ w'.ownsRow w.heap.size 21 1 v (runesL s 0).length (i32E.flat (runesL s 0)) ∧ Kept (fun _ => False) w w' := by
  have HPC := Lib.hid (rpieces_any hs w)
  have hrl := runesL_len s
  have hcl := countR_le s
  have hro : ∀ L : List Gl.Pc, L.map Gl.Pc.say = (pieces s 0).map (pcOf s) → L.map Gl.Pc.r = runesL s 0 := fun L h => runes_of h
  obtain ⟨R, hRR⟩ : ∃ R, runesL s 0 = R := ⟨_, rfl⟩
  rw [hRR] at hrl ⊢
  rw [hRR] at hro
  go_enter Tryz.func70, Tryz.ntmps70
  go_upto_region 3 with (go_at_call 99; refine HPC.out.mono ?_; rintro e w1 ⟨v, rfl, L, ho, hp, hk⟩)
  have hR := hro L hp
  have hLl : L.length = R.length := by rw [← hR, List.length_map]
  have hlen : R.length ≤ 1000000 := by omega
  obtain ⟨a, c, rfl⟩ := owns_sl ho
  rw [hLl] at ho ⊢
  have HO := Lib.hid ho
  have K1 := Lib.hid hk
  have HR := Lib.hid hR
  have HLN := Lib.hid hlen
  have EL := Lib.hid hLl
  have hlenI : (R.length : Int) ≤ 1000000 := by omega
  clear hp ho hk hcl HPC hs hrl hR hLl hlen hRR hro
  go_wp2_with fail
  go_loopw [3, 5] (fun lv iv wr => ∃ k : Nat, iv = .int .i64 k ∧ k ≤ R.length ∧ wr.ownsRow w1.heap.size 21 1 lv (R.take k).length (i32E.flat (R.take k)) ∧ Kept (fun _ => False) w1 wr) (fun _ iv _ => R.length - (intOf iv).toNat)
  case atStart => exact ⟨0, rfl, Nat.zero_le _, World.ownsRow_nil .., Kept.refl _ _⟩
  case round =>
    obtain ⟨k, rfl, hk, ho, hkw⟩ := hrel
    have hk0 : (0 : Int) ≤ k := by omega
    have HO2 := Lib.hid ho
    have KW := Lib.hid hkw
    clear ho hkw
    by_cases hlt : k < R.length
    case neg =>
      have hltI : ¬ (k : Int) < R.length := by omega
      have OW := HO2.out
      rw [List.take_of_length_le (by omega)] at OW
      have O9 := Lib.hid OW
      clear OW
      go_wp2_with fail
      go_ret
      exact ⟨_, rfl, owns_base9 O9.out K1.out.size, K1.out.trans KW.out fun _ _ h => h⟩
    case pos =>
      have hltI : (k : Int) < R.length := by omega
      obtain ⟨_, ⟨_, hno⟩ | ⟨g, cap, hv, _, hO⟩⟩ := own_of (E := Gl.pcE) HO.out
      · have h1 := EL.out
        rw [hno] at h1; simp at h1; omega
      injection hv with e1 _ e2
      subst e1 e2
      obtain ⟨x, hx⟩ := get_of_lt (show k < L.length by rw [EL.out]; exact hlt)
      have c1 : wr.cell? ⟨g, k * 4 + 1, none⟩ = some (.int .i32 x.r) := (hO.keep KW.out (fun h => h)).cell hx (j := 1) rfl
      have hRx : R[k]? = some x.r := by rw [← HR.out, List.getElem?_map, hx]; rfl
      obtain ⟨y, hy⟩ : ∃ y, x.r = y := ⟨_, rfl⟩
      rw [hy] at c1 hRx
      have htk : R.take (k + 1) = R.take k ++ [y] := by rw [List.take_add_one, hRx]; rfl
      have TK := Lib.hid htk
      have hdl : (R.take k).length ≤ 1000000 := by have := List.length_take_le k R; have := HLN.out; omega
      have DL := Lib.hid hdl
      have LD : Hid (SlAt i32E (wr.alloc (.cells #[.int .i32 y] 21)) (.slice (some ⟨wr.heap.size, 0, none⟩) 1 1) [y]) := Lib.hid (SlAt.lit (E := i32E) [y] _ rfl (by simp [maxLen]))
      have k2 : Kept (fun _ => False) wr (wr.alloc (.cells #[.int .i32 y] 21)) := (Kept.refl _ _).alloc _
      have O2 : Hid ((wr.alloc (.cells #[.int .i32 y] 21)).ownsRow w1.heap.size 21 1 u3 (R.take k).length (i32E.flat (R.take k))) := Lib.hid (owns_keep HO2.out k2 (fun _ _ h => h))
      have K2 := Lib.hid (KW.out.trans k2 (fun _ _ h => h))
      clear k2 htk hx hdl hO hy hRx
      go_wp2_with (at_builtin; refine wpList_append_row i32E rfl (.tmp 14) (.tmp 20) 122 rfl w1.heap.size 21 _ 4 Tryz.underlying122 info_i32 rfl rfl rfl O2.out LD.out (by have := DL.out; show _ + 1 ≤ maxLen; unfold maxLen; omega) (by have := DL.out; show (_ + 1) * 4 ≤ 140737488355328; omega) K2.out.size ?_; intro v3 w3 ho3 hk3)
      go_roundw
      case rel => exact ⟨k + 1, by go_num, by omega, by rw [TK.out]; exact ho3, K2.out.over hk3 (fun x hx => owns_new O2.out x hx)⟩
      case measure => simp [intOf]; omega
set_option maxRecDepth 100000 in
set_option maxHeartbeats 4000000 in
theorem rtext_any {w : World} {v : Value} {L : List Nd} (h : SlAt nodeE w v L) (hlen : L.length ≤ 900000) (hr : ∀ n ∈ L, isRuneP n.rune) :
    Calls Tryz.prog 41 #[.agg #[v]] w fun e w' => e = .returned (.string ⟨(textB (shL L)).toArray⟩) ∧ Kept (fun _ => False) w w' := by
  obtain ⟨a, c, rfl, _, _⟩ := h.sl
  have hk0 : Kept (fun _ => False) w (w.alloc (.cells #[.slice a L.length c] 33)) := (Kept.refl _ _).alloc _
  have HL := Lib.hid (h.kept hk0)
  have K0 := Lib.hid hk0
  have B0 := Lib.hid (Blk.new w 33 #[.slice a L.length c])
  have HR := Lib.hid hr
  clear h hk0 hr
  go_enter Tryz.func41, Tryz.ntmps41
  go_upto_region 1 with fail
  obtain ⟨z, hz⟩ : ∃ z, w.heap.size = z := ⟨_, rfl⟩
  obtain ⟨W0, hW0⟩ : ∃ W0, (w.alloc (.cells #[.slice a L.length c] 33)) = W0 := ⟨_, rfl⟩
  rw [hW0] at HL K0 B0 ⊢
  rw [hz] at B0 ⊢
  clear hW0 hz
  go_wp2_with fail
  go_loopw [3, 4] (fun ov kv wr => ∃ n : Nat, kv = .int .i64 n ∧ n ≤ L.length ∧ wr.ownsRow W0.heap.size 21 1 ov ((shL (L.take n)).map Nd.rune).length (i32E.flat ((shL (L.take n)).map Nd.rune)) ∧ Kept (fun _ => False) W0 wr) (fun _ kv _ => L.length - (intOf kv).toNat)
  case atStart => exact ⟨0, rfl, Nat.zero_le _, World.ownsRow_nil .., Kept.refl _ _⟩
  case round =>
    obtain ⟨n, rfl, hn, ho, hk⟩ := hrel
    have HO := Lib.hid ho
    have KW := Lib.hid hk
    have hn0 : (0 : Int) ≤ n := by omega
    have c0 := (hk.blk (fun h => h) B0.out).cell' (i := 0) (v := .slice a L.length c) rfl
    clear ho hk
    by_cases hlt : n < L.length
    case neg =>
      have hnl : ¬ (n : Int) < L.length := by omega
      have OW := HO.out
      rw [List.take_of_length_le (by omega)] at OW
      have TX := Lib.hid (rtext1_any (owns_slAt (E := i32E) OW) (fun r hr => by obtain ⟨m, hm, rfl⟩ := List.mem_map.1 hr; exact HR.out m (List.mem_filter.1 hm).1) (by rw [List.length_map]; have := shL_le L; omega))
      rw [List.flatMap_map] at TX
      clear OW
      go_wp2_with (go_at_call 77; refine TX.out.mono ?_; rintro e w2 ⟨rfl, hk⟩; have K2 := Lib.hid (KW.out.trans hk fun _ _ h => h); clear hk)
      go_ret
      exact ⟨rfl, K0.out.trans K2.out fun _ _ h => h⟩
    case pos =>
      have hnl : (n : Int) < L.length := by omega
      obtain ⟨x, hx⟩ := get_of_lt hlt
      obtain ⟨g, o, c', e1, _, h1⟩ := SlAt.node (HL.out.kept KW.out) (by omega)
      cases e1
      obtain ⟨r0, r1, r2, r3, r4, r5⟩ := h1 n x hx
      have htk : L.take (n + 1) = L.take n ++ [x] := by rw [List.take_add_one, hx]; rfl
      by_cases hst : x.st = 1
      case neg =>
        have q6 : (x.st == 1) = false := by simpa using hst
        have E9 : Hid (shL (L.take (n + 1)) = shL (L.take n)) := Lib.hid (by rw [htk, shL_snoc2, if_neg hst])
        clear htk hx h1 hst
        go_wp2_with fail
        go_roundw
        case rel => exact ⟨n + 1, by go_num, by omega, by rw [E9.out]; exact HO.out, KW.out⟩
        case measure => simp [intOf]; omega
      case pos =>
        have E9 : Hid ((shL (L.take (n + 1))).map Nd.rune = (shL (L.take n)).map Nd.rune ++ [x.rune]) := Lib.hid (by rw [htk, shL_snoc2, if_pos hst]; simp)
        obtain ⟨y, hy⟩ : ∃ y, x.rune = y := ⟨_, rfl⟩
        rw [hst] at r5
        rw [hy] at r4 E9
        have hdl : ((shL (L.take n)).map Nd.rune).length ≤ 900000 := by rw [List.length_map]; have := shL_le (L.take n); have := List.length_take_le n L; omega
        have DL := Lib.hid hdl
        have LD : Hid (SlAt i32E (wr.alloc (.cells #[.int .i32 y] 21)) (.slice (some ⟨wr.heap.size, 0, none⟩) 1 1) [y]) := Lib.hid (SlAt.lit (E := i32E) [y] _ rfl (by simp [maxLen]))
        have k2 : Kept (fun _ => False) wr (wr.alloc (.cells #[.int .i32 y] 21)) := (Kept.refl _ _).alloc _
        have O2 := Lib.hid (owns_keep HO.out k2 (fun _ _ h => h))
        have K2 := Lib.hid (KW.out.trans k2 (fun _ _ h => h))
        clear k2 htk hx h1 hdl hy hst
        go_wp2_with (at_builtin; refine wpList_append_row i32E rfl (.tmp 19) (.tmp 26) 122 rfl W0.heap.size 21 _ 4 Tryz.underlying122 info_i32 rfl rfl rfl O2.out LD.out (by have := DL.out; show _ + 1 ≤ maxLen; unfold maxLen; omega) (by have := DL.out; show (_ + 1) * 4 ≤ 140737488355328; omega) K2.out.size ?_; intro v3 w3 ho3 hk3)
        go_roundw
        case rel => exact ⟨n + 1, by go_num, by omega, by rw [E9.out]; exact ho3, K2.out.over hk3 (fun x hx => owns_new O2.out x hx)⟩
        case measure => simp [intOf]; omega
theorem own_pre {α : Type} {E : Enc α} {w : World} {t : TypeId} {g cap : Nat} {D : List α} (h : OwnAt E w t g cap D) {n : Nat} (hn : n ≤ D.length) : SlAt E w (.slice (some ⟨g, 0, none⟩) n cap) (D.take n) := by
  have := (h.take n).slAt
  rwa [List.length_take, Nat.min_eq_left hn] at this
theorem own_mid {α : Type} {E : Enc α} {w : World} {t : TypeId} {g cap : Nat} {D : List α} (h : OwnAt E w t g cap D) {i n : Nat} (hn : i + n ≤ D.length) : SlAt E w (.slice (some ⟨g, i * E.k, none⟩) n (cap - i)) ((D.drop i).take n) := by
  have hle := h.le
  refine .inr ⟨⟨g, i * E.k, none⟩, cap - i, by rw [List.length_take, List.length_drop, Nat.min_eq_left (by omega)], by rw [List.length_take]; omega, by omega, fun _ => rfl, fun k y hy j u hu => ?_⟩
  rw [List.getElem?_take] at hy
  split at hy
  · rw [List.getElem?_drop] at hy
    have := h.cell hy hu
    rw [Nat.add_mul, Nat.add_assoc] at this
    exact this
  · cases hy
theorem sl_void {α : Type} {E : Enc α} {w : World} (a : Addr) {c : Nat} (hc : c ≤ maxLen) : SlAt E w (.slice (some a) 0 c) [] := .inr ⟨a, c, rfl, Nat.zero_le _, hc, fun h => absurd rfl h, fun i y hy => by simp at hy⟩
def RSpanPost (w : World) (L : List Nd) (ix n : Int) (e : Ending) (w' : World) : Prop :=
  ((¬ spanOk L ix n ∧ e = .returned (.tuple #[.slice none 0 0, .int .i64 3])) ∨ (spanOk L ix n ∧ ∃ u T, e = .returned (.tuple #[u, .int .i64 0]) ∧ SetOf (spanL L ix n (shL L).length) T ∧ w'.ownsRow w.heap.size 69 3 u (packL T).length (runE.flat (packL T)))) ∧ Kept (fun _ => False) w w'
set_option maxRecDepth 100000 in
set_option maxHeartbeats 4000000 in
theorem rspan_any {w : World} {v : Value} {L : List Nd} (h : SlAt nodeE w v L) (hlen : L.length ≤ 900000) (ix n : Int) (hx : I64 ix ∧ I64 n) :
    Calls Tryz.prog 37 #[.agg #[v], .int .i64 ix, .int .i64 n] w (RSpanPost w L ix n) := by
  obtain ⟨a, c, rfl, _, _⟩ := h.sl
  have k0 : Kept (fun _ => False) w (w.alloc (.cells #[.slice a L.length c] 33)) := (Kept.refl _ _).alloc _
  have HS := Lib.hid (rshown_any (h.kept k0) hlen)
  have K0 := Lib.hid k0
  have hsl := shL_le L
  unfold I64 at hx
  obtain ⟨⟨hx0, hx1⟩, hx2, hx3⟩ := hx
  clear h k0
  go_enter Tryz.func37, Tryz.ntmps37
  go_upto_region 2 with (go_at_call 54; refine HS.out.mono ?_; rintro e w1 ⟨⟨u, rfl, ho⟩, hk⟩; obtain ⟨ua, uc, rfl⟩ := owns_sl ho; have HO := Lib.hid ho; have K1 := Lib.hid (K0.out.trans hk fun _ _ h => h); have SZ := Lib.hid (Nat.le_trans K0.out.size hk.size); clear ho hk)
  obtain ⟨m, hm⟩ : ∃ m, (shL L).length = m := ⟨_, rfl⟩
  have HM := Lib.hid hm
  rw [hm] at HO hsl ⊢
  clear hm
  have ew : IntKind.i64.wrap ((m : Int) - n) = m - n ∨ n < 0 := by
    by_cases h9 : n < 0
    · exact .inr h9
    · exact .inl (IntWalk.i64_in _ (by omega))
  by_cases c1 : ix < 0
  · have NO : Hid (¬ spanOk L ix n) := Lib.hid fun h => by have := h.1; omega
    clear ew
    go_wp2_with fail
    go_ret2
    exact ⟨.inl ⟨NO.out, rfl⟩, K1.out⟩
  by_cases c2 : n < 0
  · have NO : Hid (¬ spanOk L ix n) := Lib.hid fun h => by have := h.2.1; omega
    clear ew
    go_wp2_with fail
    go_ret2
    exact ⟨.inl ⟨NO.out, rfl⟩, K1.out⟩
  have ew' : IntKind.i64.wrap ((m : Int) - n) = m - n := ew.resolve_right c2
  clear ew
  by_cases c3 : (m : Int) < n
  · have NO : Hid (¬ spanOk L ix n) := Lib.hid fun h => by have h1 := h.2.2.1; have h2 := h.2.2.2; rw [HM.out] at h1 h2; omega
    go_wp2_with fail
    go_ret2
    exact ⟨.inl ⟨NO.out, rfl⟩, K1.out⟩
  by_cases c4 : (m : Int) - n < ix
  · have NO : Hid (¬ spanOk L ix n) := Lib.hid fun h => by have h2 := h.2.2.2; rw [HM.out] at h2; omega
    go_wp2_with fail
    go_ret2
    exact ⟨.inl ⟨NO.out, rfl⟩, K1.out⟩
  obtain ⟨i, rfl⟩ : ∃ i : Nat, ix = i := ⟨ix.toNat, by omega⟩
  obtain ⟨k, rfl⟩ : ∃ k : Nat, n = k := ⟨n.toNat, by omega⟩
  have YES : Hid (spanOk L i k) := Lib.hid ⟨by omega, by omega, by rw [HM.out]; omega, by rw [HM.out]; omega⟩
  have ESP : Hid (spanL L i k m = ((ids (shL L)).drop i).take k) := Lib.hid (by
    unfold spanL
    rw [List.take_of_length_le (show (shL L).length ≤ m by rw [HM.out]; exact Nat.le_refl _)]
    rfl)
  obtain ⟨j, hj⟩ : ∃ j, i + k = j := ⟨_, rfl⟩
  have ewj : IntKind.i64.wrap ((i : Int) + (k : Int)) = (j : Int) := by rw [IntWalk.i64_in _ (by omega)]; omega
  have hji : j - i = k := by omega
  have hi0 : (0 : Int) ≤ i := by omega
  have hij : (i : Int) ≤ j := by omega
  have hj0 : (0 : Int) ≤ j := by omega
  have hidl : (ids (shL L)).length = m := by rw [← HM.out]; exact List.length_map ..
  have PKB : Hid ((((ids (shL L)).drop i).take k).length ≤ 1000000) := Lib.hid (by rw [List.length_take, List.length_drop]; omega)
  have fin : ∀ x : Value, SlAt idE w1 x (((ids (shL L)).drop i).take k) → Calls Tryz.prog 75 #[x] w1 fun e w' => ∃ v' T, e = .returned v' ∧ SetOf (spanL L i k (shL L).length) T ∧ w'.ownsRow w.heap.size 69 3 v' (packL T).length (runE.flat (packL T)) ∧ Kept (fun _ => False) w w' := fun x hx => by
    refine (rpack_any hx PKB.out).mono ?_
    rintro e w' ⟨v', T, rfl, hT, _, ho, hk⟩
    exact ⟨v', T, rfl, by rw [HM.out, ESP.out]; exact hT, owns_base9 ho SZ.out, K1.out.trans hk fun _ _ h => h⟩
  have SZ0 : Hid (w.heap.size ≤ w1.heap.size) := SZ
  obtain ⟨hl, ⟨hv, hno⟩ | ⟨g, cap, hv, _, hO⟩⟩ := own_of (E := idE) HO.out
  · injection hv with q1 q2 q3
    subst q1 q2 q3
    have hi9 : i = 0 := by omega
    have hk9 : k = 0 := by omega
    subst hi9 hk9
    obtain rfl : j = 0 := by omega
    have FN := Lib.hid (fin (.slice none 0 0) (.inl ⟨rfl, by rw [hno]; rfl⟩))
    clear fin hl hno hidl hji hj
    go_wp2_with (go_at_call 75; refine FN.out.mono ?_; rintro e w2 ⟨v', T, rfl, hT, ho, hk⟩)
    go_ret2
    exact ⟨.inr ⟨YES.out, _, T, rfl, hT, ho⟩, hk⟩
  · injection hv with q1 _ q3
    subst q1 q3
    have hcap := hO.le
    unfold maxLen at hcap
    have hjm : (j : Int) ≤ m := by omega
    have hjc : (j : Int) ≤ uc := by omega
    have hmc : (m : Int) ≤ uc := by omega
    have hic : (i : Int) ≤ uc := by omega
    have hc63 : (uc : Int) ≤ 9223372036854775807 := by omega
    by_cases hcn : uc = i
    · subst hcn
      obtain rfl : k = 0 := by omega
      have FN := Lib.hid (fin (.slice (some ⟨g, 0, none⟩) 0 0) (by rw [List.take_zero]; exact sl_void _ (Nat.zero_le _)))
      clear fin hl hidl hj hO
      go_wp2_with (go_at_call 75; refine FN.out.mono ?_; rintro e w2 ⟨v', T, rfl, hT, ho, hk⟩)
      go_ret2
      exact ⟨.inr ⟨YES.out, _, T, rfl, hT, ho⟩, hk⟩
    · have hcn2 : i < uc := by omega
      have FN := Lib.hid (fin (.slice (some ⟨g, i * 2, none⟩) k (uc - i)) (own_mid hO (by omega)))
      clear fin hl hidl hj hO
      go_wp2_with (go_at_call 75; refine FN.out.mono ?_; rintro e w2 ⟨v', T, rfl, hT, ho, hk⟩)
      go_ret2
      exact ⟨.inr ⟨YES.out, _, T, rfl, hT, ho⟩, hk⟩
end Go.Proofs.YtlafodnaifghcaaGreat.Tr
namespace Go.Proofs.YtlafodnaifghcaaGreat.Tr
open Go.RowKit Go.Proofs.YtlafodnaifghcaaGreat.St Go.Proofs.YtlafodnaifghcaaGreat.Gl Go.Proofs.YtlafodnaifghcaaGreat
theorem fresh_doc : ∀ (rs : List Int) (i ref : ID) (L : List Nd), Doc L → Ref L ref → ref.lt i → (∀ k : Nat, k < rs.length → (⟨i.t + k, i.s⟩ : ID) ∉ ids L) → Doc (puts L (freshL i ref rs))
  | [], _, _, _, h, _, _, _ => h
  | r :: rs, i, ref, L, h, hr, hl, hn => by
    have hx : i ∉ ids L := by
      have h9 := hn 0 (Nat.succ_pos _)
      simpa using h9
    have h1 := (h.put (x := ⟨i, ref, r, 1⟩) hr hl hx).1
    refine fresh_doc rs ⟨i.t + 1, i.s⟩ i (put L (placeP L i ref) ⟨i, ref, r, 1⟩) h1 (.inr (put_ids.2 (.inl rfl))) (.inl (by show i.t < i.t + 1; omega)) fun k hk hm => ?_
    rcases put_ids.1 hm with h2 | h2
    · have := congrArg ID.t h2
      have h3 : i.t + 1 + (k : Int) = i.t := this
      omega
    · refine hn (k + 1) (Nat.succ_lt_succ hk) ?_
      have e : (⟨i.t + ((k + 1 : Nat) : Int), i.s⟩ : ID) = ⟨i.t + 1 + (k : Int), i.s⟩ := by
        rw [ID.ext_iff]
        exact ⟨by show i.t + ((k + 1 : Nat) : Int) = i.t + 1 + (k : Int); omega, rfl⟩
      rw [e]
      exact h2
theorem insL_doc {L : List Nd} (h : Doc L) (i ref : ID) (sz : Nat) (bad : Bool) (rs : List Int) : Doc (insL L i ref sz bad rs) := by
  unfold insL
  by_cases he : insE L i ref sz bad rs = 0
  · rw [if_neg (fun hh => hh he)]
    obtain ⟨h1, h2, h3, h4, h5, h6, h7, h8⟩ := insE_ok he
    cases rs with
    | nil => simpa [freshL] using h
    | cons r rs =>
      rw [← ins_puts h h1 h8]
      exact fresh_doc _ _ _ _ h h7 h6 fun k hk hm => h8 ⟨k, hk, hm⟩
  · rw [if_pos he]
    exact h
theorem insL_is {L : List Nd} (h : ∀ n ∈ L, n.id.Is) (i ref : ID) (sz : Nat) (bad : Bool) (rs : List Int) : ∀ n ∈ insL L i ref sz bad rs, n.id.Is := by
  unfold insL
  by_cases he : insE L i ref sz bad rs = 0
  · rw [if_neg (fun hh => hh he)]
    obtain ⟨h1, _, _, _, h5, _⟩ := insE_ok he
    intro n hn
    rcases List.mem_append.1 hn with hn | hn
    · rcases List.mem_append.1 hn with hn | hn
      · exact h n (List.mem_of_mem_take hn)
      · obtain ⟨k, hk, e⟩ := (freshL_id i ref rs n.id).1 (List.mem_map.2 ⟨n, hn, rfl⟩)
        rw [e]
        obtain ⟨q1, q2, q3, q4⟩ := h1
        exact ⟨by show 1 ≤ i.t + (k : Int); omega, by show i.t + (k : Int) ≤ 2147483647; omega, q3, q4⟩
    · exact h n (List.mem_of_mem_drop hn)
  · rw [if_pos he]
    exact h
theorem insL_len (L : List Nd) (i ref : ID) (sz : Nat) (bad : Bool) (rs : List Int) : (insL L i ref sz bad rs).length ≤ L.length + rs.length := by
  unfold insL
  split
  · omega
  · rw [List.length_append, List.length_append, freshL_len, List.length_take, List.length_drop]
    omega
def grown (M : Nat → Prop) (w w' : World) (b : Nat) : Prop := M b ∨ (w.heap.size ≤ b ∧ b < w'.heap.size)
/-- a document, its blocks in F -/
structure TBox (w : World) (g : Nat) (L : List Nd) (F : Nat → Prop) : Prop where
  at_ : ∃ A S mp, TAt w g L A S mp ∧ ∀ b, foot g L A S mp b → F b
  doc : Doc L
  is : ∀ n ∈ L, n.id.Is
variable {w w' : World} {g : Nat} {L : List Nd} {F : Nat → Prop}
theorem TBox.keep {Y : Nat → Prop} (h : TBox w g L F) (hk : Kept Y w w') (hY : ∀ b, F b → ¬ Y b) : TBox w' g L F := by
  obtain ⟨A, S, mp, h1, h2⟩ := h.at_
  exact ⟨⟨A, S, mp, h1.keep hk fun b hb => hY b (h2 b hb), h2⟩, h.doc, h.is⟩
theorem TBox.still (h : TBox w g L F) (hk : Kept (fun _ => False) w w') : TBox w' g L F := h.keep hk fun _ _ h => h
theorem TBox.mono {F' : Nat → Prop} (h : TBox w g L F) (hF : ∀ b, F b → F' b) : TBox w g L F' := by
  obtain ⟨A, S, mp, h1, h2⟩ := h.at_
  exact ⟨⟨A, S, mp, h1, fun b hb => hF b (h2 b hb)⟩, h.doc, h.is⟩
/-- the blocks that are -/
theorem TBox.low (h : TBox w g L F) : TBox w g L fun b => F b ∧ b < w.heap.size := by
  obtain ⟨A, S, mp, h1, h2⟩ := h.at_
  exact ⟨⟨A, S, mp, h1, fun b hb => ⟨h2 b hb, h1.lt b hb⟩⟩, h.doc, h.is⟩
theorem TBox.top (h : TBox w g L F) : F g := by
  obtain ⟨A, S, mp, h1, h2⟩ := h.at_
  exact h2 g (.inl rfl)
theorem TBox.made (w : World) : TBox (w.alloc (.cells #[.slice none 0 0, .map none] 30)) w.heap.size [] (· = w.heap.size) := by
  refine ⟨⟨_, _, _, new_at w, fun b hb => ?_⟩, Doc.nil, fun n hn => (List.not_mem_nil hn).elim⟩
  rcases hb with h | h | ⟨y, hy, _⟩ | ⟨r, _, h⟩
  · exact h
  · cases h
  · simp [ids] at hy
  · cases h
theorem TBox.insert (h : TBox w g L F) (i ref : ID) (s : ByteArray) (hs : s.size ≤ maxLen) (hlen : L.length + countR s ≤ 900000) :
    Calls Tryz.prog 19 #[.pointer (some ⟨g, 0, none⟩), idV i, idV ref, .string s] w fun e w' => e = .returned (.int .i64 (insE L i ref s.size (badB s) (runesL s 0))) ∧
      TBox w' g (insL L i ref s.size (badB s) (runesL s 0)) (grown F w w') ∧ Kept F w w' := by
  obtain ⟨A, S, mp, h1, h2⟩ := h.at_
  refine (insert_any h1 h.doc i ref s hs hlen).mono ?_
  rintro e w' ⟨he, A', S', mp', h3, h4, h5⟩
  refine ⟨he, ⟨⟨A', S', mp', h3, fun b hb => ?_⟩, insL_doc h.doc .., insL_is h.is _ _ _ _ _⟩, h5.mono fun b _ hb => h2 b hb⟩
  rcases h4 b hb with h6 | h6
  · exact .inl (h2 b h6)
  · exact .inr ⟨h6, h3.lt b hb⟩
theorem eltM_foot {A : ID → Nat} {S : ID → Rw} {mp : Option Nat} {b : Nat} (h : eltM L A b) : foot g L A S mp b := .inr (.inr (.inl h))
theorem map_turn_is {rs : List Run} {fr tz : Int} (h : ∀ n ∈ L, n.id.Is) : ∀ n ∈ L.map (turnF rs fr tz), n.id.Is := fun n hn => by
  obtain ⟨m, hm, rfl⟩ := List.mem_map.1 hn
  unfold turnF
  split
  · exact h m hm
  · exact h m hm
theorem turn_foot {A : ID → Nat} {S : ID → Rw} {mp : Option Nat} {rs : List Run} {fr tz : Int} {b : Nat} (h : foot g (L.map (turnF rs fr tz)) A S mp b) : foot g L A S mp b := by
  have hi : ids (L.map (turnF rs fr tz)) = ids L := by
    unfold ids
    rw [List.map_map]
    exact List.map_congr_left fun n _ => by
      show (turnF rs fr tz n).id = n.id
      unfold turnF
      split <;> rfl
  unfold foot Ref at *
  rw [hi] at h
  exact h
theorem turn_doc {rs : List Run} {fr tz : Int} (h : Doc L) : Doc (L.map (turnF rs fr tz)) := h.map fun n => by
  unfold turnF
  split <;> exact ⟨rfl, rfl⟩
theorem TBox.delete (h : TBox w g L F) (hlen : L.length ≤ 900000) {v : Value} {rs : List Run} (hv : SlAt runE w v rs) (hin : ∀ r ∈ rs, r.In) (hrl : rs.length ≤ 1000000000) (hvb : ∀ b, v.ownBlock = some b → b < w.heap.size → ¬ F b) :
    Calls Tryz.prog 24 #[.pointer (some ⟨g, 0, none⟩), v] w fun e w' => e = .returned (.int .i64 (turnN rs 1 L)) ∧ TBox w' g (L.map (turnF rs 1 2)) F ∧ Kept F w w' := by
  obtain ⟨A, S, mp, h1, h2⟩ := h.at_
  refine (delete_any h1 h.doc hlen (fun n hn => by have := h.is n hn; exact ⟨by have := this.1; omega, this.2.1⟩) hv hin hrl fun b hb hl he => hvb b hb hl (h2 b (eltM_foot he))).mono ?_
  rintro e w' ⟨he, h3, h4⟩
  exact ⟨he, ⟨⟨A, S, mp, h3, fun b hb => h2 b (turn_foot hb)⟩, turn_doc h.doc, map_turn_is h.is⟩, h4.mono fun b _ hb => h2 b (eltM_foot hb)⟩
theorem TBox.settle (h : TBox w g L F) (hlen : L.length ≤ 900000) {v : Value} {rs : List Run} (hv : SlAt runE w v rs) (hin : ∀ r ∈ rs, r.In) (hrl : rs.length ≤ 1000000000) (hvb : ∀ b, v.ownBlock = some b → b < w.heap.size → ¬ F b) :
    Calls Tryz.prog 26 #[.pointer (some ⟨g, 0, none⟩), v] w fun e w' => e = .returned (.int .i64 (turnN rs 2 L)) ∧ TBox w' g (L.map (turnF rs 2 3)) F ∧ Kept F w w' := by
  obtain ⟨A, S, mp, h1, h2⟩ := h.at_
  refine (settle_any h1 h.doc hlen (fun n hn => by have := h.is n hn; exact ⟨by have := this.1; omega, this.2.1⟩) hv hin hrl fun b hb hl he => hvb b hb hl (h2 b (eltM_foot he))).mono ?_
  rintro e w' ⟨he, h3, h4⟩
  exact ⟨he, ⟨⟨A, S, mp, h3, fun b hb => h2 b (turn_foot hb)⟩, turn_doc h.doc, map_turn_is h.is⟩, h4.mono fun b _ hb => h2 b (eltM_foot hb)⟩
theorem TBox.collect (h : TBox w g L F) (hlen : L.length ≤ 900000) :
    Calls Tryz.prog 27 #[.pointer (some ⟨g, 0, none⟩)] w fun e w' => e = .returned (.int .i64 (collN L)) ∧ TBox w' g (collR L) F ∧ Kept F w w' := by
  obtain ⟨A, S, mp, h1, h2⟩ := h.at_
  refine (coll_any h1 h.doc hlen).mono ?_
  rintro e w' ⟨he, ⟨S', h3, h4⟩, h5⟩
  have hd : Doc (collR L) := by have h9 := coll_doc L [] (by simpa using h.doc); simpa using h9
  exact ⟨he, ⟨⟨A, S', mp, h3, fun b hb => h2 b (h4 b hb)⟩, hd, fun n hn => h.is n ((collR_sub L).subset hn)⟩, h5.mono fun b _ hb => h2 b hb⟩
end Go.Proofs.YtlafodnaifghcaaGreat.Tr
namespace Go.Proofs.YtlafodnaifghcaaGreat.Tr
open Go.RowKit Go.Proofs.YtlafodnaifghcaaGreat.St Go.Proofs.YtlafodnaifghcaaGreat.Gl Go.Proofs.YtlafodnaifghcaaGreat
theorem insE_is0 {L : List Nd} {i ref : ID} {sz : Nat} {bad : Bool} {rs : List Int} (h1 : i.Is ∧ (ref = ID.zero ∨ ref.Is)) (h2 : sz ≠ 0 ∧ bad = false) (h3 : i.t + rs.length - 1 ≤ 2147483647) (h4 : ref.lt i) (h5 : ref = ID.zero ∨ ref ∈ ids L) (h6 : ¬ ∃ m ∈ L, m.id.s = i.s ∧ i.t ≤ m.id.t ∧ m.id.t - i.t < rs.length) : insE L i ref sz bad rs = 0 := by
  have h7 : ¬ hasAny L i rs.length := fun h => h6 ((hasAny_iff L i rs.length).1 h)
  unfold insE
  rw [if_neg (fun h => h.elim (fun h => h h1.1) fun h => h1.2.elim h.1 h.2), if_neg (fun h => h.elim h2.1 (fun h => by rw [h2.2] at h; cases h)), if_neg (by omega), if_neg (fun h => h h4), if_neg (fun h => h5.elim h.1 h.2), if_neg h7]
theorem insE_is12 {L : List Nd} {i ref : ID} {sz : Nat} {bad : Bool} {rs : List Int} (h1 : i.Is ∧ (ref = ID.zero ∨ ref.Is)) (h2 : sz ≠ 0 ∧ bad = false) (h3 : i.t + rs.length - 1 ≤ 2147483647) (h4 : ref.lt i) (h5 : ref = ID.zero ∨ ref ∈ ids L) (h6 : ∃ m ∈ L, m.id.s = i.s ∧ i.t ≤ m.id.t ∧ m.id.t - i.t < rs.length) : insE L i ref sz bad rs = 12 := by
  have h7 : hasAny L i rs.length := (hasAny_iff L i rs.length).2 h6
  unfold insE
  rw [if_neg (fun h => h.elim (fun h => h h1.1) fun h => h1.2.elim h.1 h.2), if_neg (fun h => h.elim h2.1 (fun h => by rw [h2.2] at h; cases h)), if_neg (by omega), if_neg (fun h => h h4), if_neg (fun h => h5.elim h.1 h.2), if_pos h7]
/-- a document made behind w0 -/
def KT (w0 : World) (g : Nat) (L : List Nd) (w : World) : Prop := Kept (fun _ => False) w0 w ∧ TBox w g L fun b => w0.heap.size ≤ b
variable {w0 w w' : World} {g : Nat} {L : List Nd}
theorem KT.still (h : KT w0 g L w) (hk : Kept (fun _ => False) w w') : KT w0 g L w' := ⟨h.1.trans hk fun _ _ h => h, h.2.still hk⟩
theorem KT.made (w : World) : KT w w.heap.size [] (w.alloc (.cells #[.slice none 0 0, .map none] 30)) :=
  ⟨(Kept.refl _ _).alloc _, (TBox.made w).mono fun b hb => by rw [hb]; exact Nat.le_refl _⟩
theorem KT.insert (h : KT w0 g L w) (i ref : ID) (s : ByteArray) (hs : s.size ≤ maxLen) (hlen : L.length + countR s ≤ 900000) :
    Calls Tryz.prog 19 #[.pointer (some ⟨g, 0, none⟩), idV i, idV ref, .string s] w fun e w' => e = .returned (.int .i64 (insE L i ref s.size (badB s) (runesL s 0))) ∧ KT w0 g (insL L i ref s.size (badB s) (runesL s 0)) w' := by
  refine (h.2.insert i ref s hs hlen).mono ?_
  rintro e w' ⟨he, h1, h2⟩
  refine ⟨he, h.1.trans h2 fun b hb h9 => ?_, h1.mono fun b hb => ?_⟩
  · omega
  · rcases hb with hb | hb
    · exact hb
    · exact Nat.le_trans h.1.size hb.1
/-- runs handed over in a new row -/
theorem KT.lit (h : KT w0 g L w) (cs : Array Value) (t : TypeId) (b : Nat) (hb : b = w.heap.size) : TBox (w.alloc (.cells cs t)) g L (fun b => w0.heap.size ≤ b ∧ b < w.heap.size) ∧ ∀ n c, ∀ b', (Value.slice (some ⟨b, 0, none⟩) n c).ownBlock = some b' → b' < (w.alloc (.cells cs t)).heap.size → ¬ (w0.heap.size ≤ b' ∧ b' < w.heap.size) := by
  refine ⟨h.2.low.still ((Kept.refl _ _).alloc _), fun n c b' h1 _ h2 => ?_⟩
  have h3 : b' = b := by simpa [Value.ownBlock] using h1.symm
  omega
theorem KT.delete (h : KT w0 g L w) (hlen : L.length ≤ 900000) {cs : Array Value} {rs : List Run} (hcs : cs = (runE.flat rs).toArray) (hin : ∀ r ∈ rs, r.In) (hrl : rs.length ≤ 1000) :
    Calls Tryz.prog 24 #[.pointer (some ⟨g, 0, none⟩), .slice (some ⟨w.heap.size, 0, none⟩) rs.length rs.length] (w.alloc (.cells cs 69)) fun e w' => e = .returned (.int .i64 (turnN rs 1 L)) ∧ KT w0 g (L.map (turnF rs 1 2)) w' := by
  obtain ⟨h1, h2⟩ := h.lit cs 69 w.heap.size rfl
  refine (h1.delete hlen (SlAt.lit rs cs hcs (by unfold maxLen; omega)) hin (by omega) (h2 _ _)).mono ?_
  rintro e w' ⟨he, h3, h4⟩
  exact ⟨he, (h.1.alloc _).trans h4 fun b hb h9 => by omega, h3.mono fun b hb => hb.1⟩
theorem KT.settle (h : KT w0 g L w) (hlen : L.length ≤ 900000) {cs : Array Value} {rs : List Run} (hcs : cs = (runE.flat rs).toArray) (hin : ∀ r ∈ rs, r.In) (hrl : rs.length ≤ 1000) :
    Calls Tryz.prog 26 #[.pointer (some ⟨g, 0, none⟩), .slice (some ⟨w.heap.size, 0, none⟩) rs.length rs.length] (w.alloc (.cells cs 69)) fun e w' => e = .returned (.int .i64 (turnN rs 2 L)) ∧ KT w0 g (L.map (turnF rs 2 3)) w' := by
  obtain ⟨h1, h2⟩ := h.lit cs 69 w.heap.size rfl
  refine (h1.settle hlen (SlAt.lit rs cs hcs (by unfold maxLen; omega)) hin (by omega) (h2 _ _)).mono ?_
  rintro e w' ⟨he, h3, h4⟩
  exact ⟨he, (h.1.alloc _).trans h4 fun b hb h9 => by omega, h3.mono fun b hb => hb.1⟩
theorem KT.collect (h : KT w0 g L w) (hlen : L.length ≤ 900000) :
    Calls Tryz.prog 27 #[.pointer (some ⟨g, 0, none⟩)] w fun e w' => e = .returned (.int .i64 (collN L)) ∧ KT w0 g (collR L) w' := by
  refine (h.2.collect hlen).mono ?_
  rintro e w' ⟨he, h3, h4⟩
  exact ⟨he, h.1.trans h4 fun b hb h9 => by omega, h3⟩
theorem TBox.text {F : Nat → Prop} (h : TBox w g L F) (hlen : L.length ≤ 900000) : Calls Tryz.prog 21 #[.pointer (some ⟨g, 0, none⟩)] w fun e w' => e = .returned (.string ⟨(textB (shL L)).toArray⟩) ∧ Kept (fun _ => False) w w' := by
  obtain ⟨A, S, mp, h1, _⟩ := h.at_
  exact text_any h1 h.doc hlen
theorem TBox.len {F : Nat → Prop} (h : TBox w g L F) (hlen : L.length ≤ 900000) : Calls Tryz.prog 30 #[.pointer (some ⟨g, 0, none⟩)] w fun e w' => e = .returned (.int .i64 (shL L).length) ∧ Kept (fun _ => False) w w' := by
  obtain ⟨A, S, mp, h1, _⟩ := h.at_
  exact len_any h1 h.doc hlen
theorem TBox.kept {F : Nat → Prop} (h : TBox w g L F) : Calls Tryz.prog 29 #[.pointer (some ⟨g, 0, none⟩)] w fun e w' => e = .returned (.int .i64 L.length) ∧ w = w' := by
  obtain ⟨A, S, mp, h1, _⟩ := h.at_
  exact kept_any h1
theorem TBox.look {F : Nat → Prop} (h : TBox w g L F) (hlen : L.length ≤ 900000) (ix : Int) :
    Calls Tryz.prog 22 #[.pointer (some ⟨g, 0, none⟩), .int .i64 ix] w fun e w' => e = .returned (.tuple #[.agg #[.int .i64 (atP L ix).1.t, .int .i64 (atP L ix).1.s], .int .i64 (atP L ix).2]) ∧ Kept (fun _ => False) w w' := by
  obtain ⟨A, S, mp, h1, _⟩ := h.at_
  exact at_any h1 h.doc hlen ix
theorem TBox.find {F : Nat → Prop} (h : TBox w g L F) (hlen : L.length ≤ 900000) (i : ID) :
    Calls Tryz.prog 25 #[.pointer (some ⟨g, 0, none⟩), idV i] w fun e w' => e = .returned (.tuple #[.int .i64 (findP L i).1, .int .i64 (findP L i).2]) ∧ Kept (fun _ => False) w w' := by
  obtain ⟨A, S, mp, h1, _⟩ := h.at_
  exact find_any h1 h.doc hlen i
theorem TBox.span {F : Nat → Prop} {ix n : Int} (h : TBox w g L F) (hlen : L.length ≤ 900000) (hok : spanOk L ix n) :
    Calls Tryz.prog 23 #[.pointer (some ⟨g, 0, none⟩), .int .i64 ix, .int .i64 n] w fun e w' => (∃ v T, e = .returned (.tuple #[v, .int .i64 0]) ∧ SetOf (spanL L ix n (shL L).length) T ∧ w'.ownsRow w.heap.size 69 3 v (packL T).length (runE.flat (packL T))) ∧ Kept (fun _ => False) w w' := by
  obtain ⟨A, S, mp, h1, _⟩ := h.at_
  exact span_ok h1 h.doc hlen hok
/-! the very documents -/
def kn (t s rt rs r st : Int) : Nd := ⟨⟨t, s⟩, ⟨rt, rs⟩, r, st⟩
def k1 : List Nd := [kn 1 1 0 0 104 1, kn 2 1 1 1 233 1, kn 3 1 2 1 121 1]
def k2 : List Nd := [kn 1 1 0 0 104 1, kn 4 2 1 1 120 1, kn 2 1 1 1 233 1, kn 3 1 2 1 121 1]
def k3 : List Nd := [kn 1 1 0 0 104 1, kn 4 3 1 1 122 1, kn 4 2 1 1 120 1, kn 2 1 1 1 233 1, kn 3 1 2 1 121 1]
def k4 : List Nd := [kn 1 1 0 0 104 2, kn 4 3 1 1 122 1, kn 4 2 1 1 120 1, kn 2 1 1 1 233 2, kn 3 1 2 1 121 2]
def k5 : List Nd := [kn 1 1 0 0 104 2, kn 4 3 1 1 122 1, kn 4 2 1 1 120 1, kn 2 1 1 1 233 3, kn 3 1 2 1 121 3]
def k6 : List Nd := [kn 1 1 0 0 104 2, kn 4 3 1 1 122 1, kn 4 2 1 1 120 1]
def sHey : ByteArray := ⟨#[104, 195, 169, 121]⟩
theorem runes_hey : runesL sHey 0 = [104, 233, 121] := by decide +kernel
theorem runes_x : runesL ⟨#[120]⟩ 0 = [120] := by decide +kernel
theorem runes_z : runesL ⟨#[122]⟩ 0 = [122] := by decide +kernel
theorem runes_q : runesL ⟨#[113]⟩ 0 = [113] := by decide +kernel
theorem kins1 : insE [] ⟨1, 1⟩ ⟨0, 0⟩ sHey.size (badB sHey) (runesL sHey 0) = 0 ∧ insL [] ⟨1, 1⟩ ⟨0, 0⟩ sHey.size (badB sHey) (runesL sHey 0) = k1 := by
  have h : insE [] ⟨1, 1⟩ ⟨0, 0⟩ sHey.size (badB sHey) (runesL sHey 0) = 0 := insE_is0 (by decide) (by decide +kernel) (by rw [runes_hey]; decide) (by decide) (.inl rfl) (by rw [runes_hey]; decide +kernel)
  refine ⟨h, ?_⟩
  unfold insL
  rw [if_neg (fun hh => hh h), runes_hey]
  decide +kernel
theorem kins2 : insE k1 ⟨4, 2⟩ ⟨1, 1⟩ (ByteArray.mk #[120]).size (badB ⟨#[120]⟩) (runesL ⟨#[120]⟩ 0) = 0 ∧ insL k1 ⟨4, 2⟩ ⟨1, 1⟩ (ByteArray.mk #[120]).size (badB ⟨#[120]⟩) (runesL ⟨#[120]⟩ 0) = k2 := by
  have h : insE k1 ⟨4, 2⟩ ⟨1, 1⟩ (ByteArray.mk #[120]).size (badB ⟨#[120]⟩) (runesL ⟨#[120]⟩ 0) = 0 := insE_is0 (by decide) (by decide +kernel) (by rw [runes_x]; decide) (by decide) (.inr (by decide)) (by rw [runes_x]; decide +kernel)
  refine ⟨h, ?_⟩
  unfold insL
  rw [if_neg (fun hh => hh h), runes_x]
  decide +kernel
theorem kins3 : insE k2 ⟨4, 3⟩ ⟨1, 1⟩ (ByteArray.mk #[122]).size (badB ⟨#[122]⟩) (runesL ⟨#[122]⟩ 0) = 0 ∧ insL k2 ⟨4, 3⟩ ⟨1, 1⟩ (ByteArray.mk #[122]).size (badB ⟨#[122]⟩) (runesL ⟨#[122]⟩ 0) = k3 := by
  have h : insE k2 ⟨4, 3⟩ ⟨1, 1⟩ (ByteArray.mk #[122]).size (badB ⟨#[122]⟩) (runesL ⟨#[122]⟩ 0) = 0 := insE_is0 (by decide) (by decide +kernel) (by rw [runes_z]; decide) (by decide) (.inr (by decide)) (by rw [runes_z]; decide +kernel)
  refine ⟨h, ?_⟩
  unfold insL
  rw [if_neg (fun hh => hh h), runes_z]
  decide +kernel
theorem kins4 : insE k3 ⟨4, 2⟩ ⟨1, 1⟩ (ByteArray.mk #[113]).size (badB ⟨#[113]⟩) (runesL ⟨#[113]⟩ 0) = 12 ∧ insL k3 ⟨4, 2⟩ ⟨1, 1⟩ (ByteArray.mk #[113]).size (badB ⟨#[113]⟩) (runesL ⟨#[113]⟩ 0) = k3 := by
  have h : insE k3 ⟨4, 2⟩ ⟨1, 1⟩ (ByteArray.mk #[113]).size (badB ⟨#[113]⟩) (runesL ⟨#[113]⟩ 0) = 12 := insE_is12 (by decide) (by decide +kernel) (by rw [runes_q]; decide) (by decide) (.inr (by decide)) (by rw [runes_q]; decide +kernel)
  refine ⟨h, ?_⟩
  unfold insL
  rw [if_pos (by rw [h]; decide)]
theorem kspan : spanOk k3 0 5 ∧ ∀ T, SetOf (spanL k3 0 5 (shL k3).length) T → packL T = [⟨⟨1, 1⟩, 3⟩, ⟨⟨4, 2⟩, 1⟩, ⟨⟨4, 3⟩, 1⟩] := by
  refine ⟨by unfold spanOk; decide +kernel, fun T hT => ?_⟩
  have h1 : SetOf (spanL k3 0 5 (shL k3).length) [⟨1, 1⟩, ⟨2, 1⟩, ⟨3, 1⟩, ⟨4, 2⟩, ⟨4, 3⟩] := by
    rw [show spanL k3 0 5 (shL k3).length = [⟨1, 1⟩, ⟨4, 3⟩, ⟨4, 2⟩, ⟨2, 1⟩, ⟨3, 1⟩] by decide +kernel]
    refine ⟨by unfold Rising; decide, fun x => ?_⟩
    simp only [List.mem_cons, List.not_mem_nil, or_false]
    constructor
    · rintro (rfl | rfl | rfl | rfl | rfl) <;> exact ⟨by simp, by decide⟩
    · rintro ⟨rfl | rfl | rfl | rfl | rfl, _⟩ <;> simp
  rw [hT.unique h1]
  decide +kernel
theorem kdel : turnN [⟨⟨1, 1⟩, 3⟩] 1 k3 = 3 ∧ k3.map (turnF [⟨⟨1, 1⟩, 3⟩] 1 2) = k4 := by decide +kernel
theorem ksettle : turnN [⟨⟨2, 1⟩, 2⟩] 2 k4 = 2 ∧ k4.map (turnF [⟨⟨2, 1⟩, 2⟩] 2 3) = k5 := by decide +kernel
theorem kcoll : collN k5 = 2 ∧ collR k5 = k6 := by decide +kernel
theorem ktext : textB (shL k3) = [104, 122, 120, 195, 169, 121] ∧ textB (shL k6) = [122, 120] ∧ (shL k6).length = 2 ∧ k6.length = 3 := by decide +kernel
theorem kfind : findP k4 ⟨2, 1⟩ = (2, 2) ∧ atP k3 1 = (⟨4, 3⟩, 0) := by decide +kernel
end Go.Proofs.YtlafodnaifghcaaGreat.Tr
