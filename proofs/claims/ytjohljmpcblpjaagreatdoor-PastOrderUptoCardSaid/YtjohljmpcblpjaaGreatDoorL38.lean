/- past.Upto. past.Order. past.Closed. Settles in another order; plainly. What past.Nodes tells, plainly. The same operations in another order, plainly. -/
import Derived.Test.YtjohljmpcblpjaaGreatDoorL36
import Derived.Test.YtjohljmpcblpjaaGreatDoorL37
import Derived.Test.YtjohljmpcblpjaaGreatDoorL14
import Derived.Test.YtjohljmpcblpjaaGreatDoorL28
import Derived.Test.YtjohljmpcblpjaaGreatDoorL21
import Derived.Test.YtjohljmpcblpjaaGreatDoorL33
namespace Go.Proofs.YtjohljmpcblpjaaGreatDoor.Pa
open Go.RowKit Go.Proofs.YtjohljmpcblpjaaGreatDoor.St Go.Proofs.YtjohljmpcblpjaaGreatDoor
def uptoS (B : List Dot) (l : List Ent) : List Ent := if chkV 0 B = 0 then uptoL B l else []
theorem Ent.At.kept {w w' : World} {e : Ent} (h : e.At w) (hk : Kept (fun _ => False) w w') : e.At w' := ⟨h.deps.kept hk, h.gone.kept hk⟩
/-- its lists do not lie in the row itself -/
def ApartE (e : Ent) (u : Value) : Prop := (e.D ≠ [] → ∀ b, e.v.deps.v.ownBlock = some b → u.ownBlock ≠ some b) ∧ (e.G ≠ [] → ∀ b, e.v.gone.v.ownBlock = some b → u.ownBlock ≠ some b)
theorem at_grown {w w' : World} {e : Ent} {u v : Value} (h : e.At w) (ha : ApartE e u) (hg : Grow1 w w' u v) : e.At w' ∧ ApartE e v := by
  have hk := grow1_kept hg
  refine ⟨⟨Tr.sl_keep0 h.deps hk fun b hb _ hn e => ha.1 hn b hb e, Tr.sl_keep0 h.gone hk fun b hb _ hn e => ha.2 hn b hb e⟩, fun hn b hb => ?_, fun hn b hb => ?_⟩
  · rcases hg with ⟨h1, _⟩ | ⟨h1, _⟩
    · rw [h1]; exact ha.1 hn b hb
    · obtain ⟨g, o, c, h2, _, _, h3, _⟩ := h.deps.one (List.length_pos_iff.2 hn)
      rw [h2] at hb
      cases hb
      rw [h1]
      intro h4
      injection h4 with h4
      have h5 : w.heap.size = g := h4
      omega
  · rcases hg with ⟨h1, _⟩ | ⟨h1, _⟩
    · rw [h1]; exact ha.2 hn b hb
    · obtain ⟨g, o, c, h2, _, _, h3, _⟩ := h.gone.one (List.length_pos_iff.2 hn)
      rw [h2] at hb
      cases hb
      rw [h1]
      intro h4
      injection h4 with h4
      have h5 : w.heap.size = g := h4
      omega
set_option maxRecDepth 100000 in
set_option maxHeartbeats 1000000 in
theorem upto_past {w : World} {lv bv : Value} {l : List Ent} {B : List Dot} (hl : SlAt entE w lv l) (hat : ∀ e ∈ l, e.At w) (hlen : l.length ≤ 1000000) (hdl : ∀ e ∈ l, e.D.length ≤ 1000000 ∧ e.G.length ≤ 1000000) (hB : SlAt dotE w bv B) (hBl : B.length ≤ 1000000000) :
    Calls Tryz.prog 15 #[lv, bv] w fun e w' => (∃ u l', e = .returned u ∧ SlAt entE w' u l' ∧ l'.map keyE = (uptoS B l).map keyE ∧ ∀ e ∈ l', e.At w') ∧ Kept (fun _ => False) w w' := by
  obtain ⟨la, lc, rfl, _, _⟩ := hl.sl
  obtain ⟨ba, bc, rfl, _, _⟩ := hB.sl
  have HL := Lib.hid hl
  have HB := Lib.hid hB
  have HAT := Lib.hid hat
  have HDL := Lib.hid hdl
  have CK := Lib.hid (vcheck_any hB hBl)
  clear hl hB hat hdl
  by_cases hc : chkV 0 B = 0
  case neg =>
    have hs : uptoS B l = [] := by unfold uptoS; rw [if_neg hc]
    rw [hs]
    obtain ⟨c, hcc⟩ : ∃ c, chkV 0 B = c := ⟨_, rfl⟩
    rw [hcc] at CK hc
    clear hs hcc HL HB HAT HDL
    go_enter Tryz.func15, Tryz.ntmps15
    go_wp2_with (go_at_call 47; refine CK.out.mono ?_; rintro e w0 ⟨rfl, hk0⟩)
    go_ret
    exact ⟨⟨_, [], rfl, .inl ⟨rfl, rfl⟩, rfl, fun e he => by simp at he⟩, hk0⟩
  case pos =>
    have hs : uptoS B l = uptoL B l := by unfold uptoS; rw [if_pos hc]
    rw [hs]
    rw [hc] at CK
    clear hc hs
    go_enter Tryz.func15, Tryz.ntmps15
    go_wp2_with (go_at_call 47; refine CK.out.mono ?_; rintro e w0 ⟨rfl, hk0⟩)
    have K0 := Lib.hid hk0
    clear hk0
    go_loopw [5, 13] (fun uv iv wr => ∃ (n : Nat) (l' : List Ent), iv = .int .i64 n ∧ n ≤ l.length ∧ Kept (fun _ => False) w wr ∧ wr.ownsRow w.heap.size 62 11 uv l'.length (entE.flat l') ∧ l'.map keyE = (uptoL B (l.take n)).map keyE ∧ ∀ e ∈ l', e.At wr ∧ ApartE e uv) (fun _ iv _ => l.length - (intOf iv).toNat)
    case atStart => exact ⟨0, [], rfl, Nat.zero_le _, K0.out, World.ownsRow_nil .., rfl, fun e he => by simp at he⟩
    case round =>
      obtain ⟨n, l', rfl, hn, hk, ho, hkey, hat⟩ := hrel
      have hn0 : (0 : Int) ≤ n := by omega
      have K1 := Lib.hid hk
      have OU := Lib.hid ho
      have HKEY := Lib.hid hkey
      have HA := Lib.hid hat
      clear hk ho hkey hat
      by_cases hlt : n < l.length
      case neg =>
        have hnl : ¬ (n : Int) < l.length := by omega
        have hk9 := HKEY.out
        rw [List.take_of_length_le (by omega)] at hk9
        have HK9 := Lib.hid hk9
        clear hk9
        go_wp2_with fail
        go_ret
        exact ⟨⟨_, rfl, l', owns_slAt (E := entE) OU.out, HK9.out, fun e he => (HA.out e he).1⟩, K1.out⟩
      case pos =>
        have hnl : (n : Int) < l.length := by omega
        obtain ⟨x, hx⟩ := get_of_lt hlt
        have htk : l.take (n + 1) = l.take n ++ [x] := by rw [List.take_add_one, hx]; rfl
        obtain ⟨lg, lo, lc', e2, hcs⟩ := SlAt.opc (HL.out.kept K1.out) (by omega)
        cases e2
        have hc := hcs n x hx
        have UP := Lib.hid (upto_snoc B (l.take n) x)
        rw [← htk] at UP
        have XA := Lib.hid (HAT.out x (List.mem_of_getElem? hx))
        have XD := Lib.hid (HDL.out x (List.mem_of_getElem? hx))
        obtain ⟨⟨⟨ds, dq⟩, ⟨da, dn, dc⟩, kd, ⟨it, is⟩, ⟨rt, rs⟩, tx, ⟨ga, gn, gc⟩, st⟩, D, G⟩ := x
        obtain ⟨c0, c1, c2, c3, c4, c5, c6, c7, c8, c9, c10⟩ := hc
        have e1 : IntKind.i64.wrap ((n : Int) + 1) = (n : Int) + 1 := IntWalk.i64_in _ (by omega)
        have HS := Lib.hid (fun W (h : Kept (fun _ => False) wr W) => hasV_grew ((HB.out.kept K1.out).kept h) hBl ⟨ds, dq⟩)
        have k1 : Kept (fun _ => False) wr (wr.alloc (.cells #[.int .i64 ds, .int .i64 dq, .slice da dn dc, .int .i64 kd, .int .i64 it, .int .i64 is, .int .i64 rt, .int .i64 rs, .string tx, .slice ga gn gc, .int .i64 st] 62)) := (Kept.refl _ _).alloc _
        have b1 := Blk.new wr 62 #[.int .i64 ds, .int .i64 dq, .slice da dn dc, .int .i64 kd, .int .i64 it, .int .i64 is, .int .i64 rt, .int .i64 rs, .string tx, .slice ga gn gc, .int .i64 st]
        clear hcs hx htk
        go_upto_region 7 with fail
        obtain ⟨z, hz⟩ : ∃ z, wr.heap.size = z := ⟨_, rfl⟩
        obtain ⟨W1, hW1⟩ : ∃ W1, wr.alloc (.cells #[.int .i64 ds, .int .i64 dq, .slice da dn dc, .int .i64 kd, .int .i64 it, .int .i64 is, .int .i64 rt, .int .i64 rs, .string tx, .slice ga gn gc, .int .i64 st] 62) = W1 := ⟨_, rfl⟩
        rw [hW1] at k1 b1 ⊢
        rw [hz] at b1 ⊢
        have z0 : W1.cell? ⟨z, 0, none⟩ = some (.int .i64 ds) := b1.cell' rfl
        have z1 : W1.cell? ⟨z, 1, none⟩ = some (.int .i64 dq) := b1.cell' rfl
        have KZ := Lib.hid k1
        have BZ := Lib.hid b1
        have HZ := Lib.hid hz
        have H1 := HS.out W1 k1
        clear hW1 hz k1 b1 c0 c1 c2 c3 c4 c5 c6 c7 c8 c9 c10
        by_cases hh : hasV B ⟨ds, dq⟩
        case neg =>
          rw [decide_eq_false hh] at H1
          have H2 := Lib.hid H1
          have EQ : Hid (uptoL B (l.take (n + 1)) = uptoL B (l.take n)) := Lib.hid (UP.out.trans (if_neg hh))
          clear hh H1
          go_wp2_with (go_at_call 48; refine H2.out.mono ?_; rintro e w2 ⟨rfl, hk2⟩)
          have K9 := Lib.hid (KZ.out.trans hk2.kept fun _ _ h => h)
          clear hk2
          go_roundw
          case rel => exact ⟨n + 1, l', by go_num, by omega, K1.out.trans K9.out fun _ _ h => h, owns_keep OU.out K9.out fun _ _ h => h, by rw [EQ.out]; exact HKEY.out, fun e he => ⟨Ent.At.kept (HA.out e he).1 K9.out, (HA.out e he).2⟩⟩
          case measure => simp [intOf]; omega
        case pos =>
          rw [decide_eq_true hh] at H1
          have H2 := Lib.hid H1
          have EQ : Hid (uptoL B (l.take (n + 1)) = uptoL B (l.take n) ++ [⟨⟨⟨ds, dq⟩, ⟨da, dn, dc⟩, kd, ⟨it, is⟩, ⟨rt, rs⟩, tx, ⟨ga, gn, gc⟩, st⟩, D, G⟩]) := Lib.hid (UP.out.trans (if_pos hh))
          clear hh H1
          go_upto_region 8 with (go_at_call 48; refine H2.out.mono ?_; rintro e w2 ⟨rfl, hk2⟩)
          have B2 := hk2.kept.blk (fun h => h) BZ.out
          have z2 : w2.cell? ⟨z, 2, none⟩ = some (.slice da dn dc) := B2.cell' rfl
          have KW2 := Lib.hid ((K1.out.trans KZ.out fun _ _ h => h).trans hk2.kept fun _ _ h => h)
          have KR2 := Lib.hid (KZ.out.trans hk2.kept fun _ _ h => h)
          have CD := Lib.hid (clone_dot ((XA.out.deps).kept KW2.out) (by have := XD.out.1; simp only at this ⊢; omega))
          have BB2 := Lib.hid B2
          clear hk2 B2 z0 z1
          go_upto_region 9 with (go_at_call 49; refine Calls.mono CD.out ?_; rintro e w3 ⟨v3, rfl, ho3, hk3⟩; obtain ⟨a3, c3, rfl, _, _⟩ := (owns_slAt (E := dotE) ho3).sl; have q3 := hk3.cell z2; have fz3 := (hk3.blk (fun h => h) BB2.out).frozen 2)
          have b4 := (hk3.blk (fun h => h) BB2.out).set_ 2 (.slice a3 D.length c3)
          have k34 : Kept (fun b => b = z) w3 (w3.setCell ⟨z, 2, none⟩ (.slice a3 D.length c3)) := (Kept.refl (fun b => b = z) w3).setCell (p := ⟨z, 2, none⟩) (fun _ => rfl) _
          have sd4 : SlAt dotE (w3.setCell ⟨z, 2, none⟩ (.slice a3 D.length c3)) (.slice a3 D.length c3) D := owns_slAt (E := dotE) (owns_keep ho3 k34 fun b hb h9 => by have h1 := Tr.owns_lt ho3 b hb; have h2 := BB2.out.lt; omega)
          have KR4 := Lib.hid ((KR2.out.trans hk3 fun _ _ h => h).trans k34 fun i hi h => by have := HZ.out; omega)
          obtain ⟨W4, hW4⟩ : ∃ W4, w3.setCell ⟨z, 2, none⟩ (.slice a3 D.length c3) = W4 := ⟨_, rfl⟩
          rw [hW4] at b4 sd4 KR4 ⊢
          simp only [List.setIfInBounds_toArray, List.set_cons_zero, List.set_cons_succ] at b4
          have z9 : W4.cell? ⟨z, 9, none⟩ = some (.slice ga gn gc) := b4.cell' rfl
          have KW4 := Lib.hid (K1.out.trans KR4.out fun _ _ h => h)
          have CR := Lib.hid (clone_run ((XA.out.gone).kept KW4.out) (by have := XD.out.2; simp only at this ⊢; omega))
          have BB4 := Lib.hid b4
          have SD4 := Lib.hid sd4
          have HO3 : Hid (∀ b, (Value.slice a3 D.length c3).ownBlock = some b → z < b) := Lib.hid fun b hb => by have h1 := Tr.owns_lt ho3 b hb; have h2 := BB2.out.lt; omega
          clear hW4 b4 k34 sd4 ho3 hk3 q3 fz3 z2
          go_upto_region 10 with (go_at_call 50; refine Calls.mono CR.out ?_; rintro e w5 ⟨v5, rfl, ho5, hk5⟩; obtain ⟨a5, c5, rfl, _, _⟩ := (owns_slAt (E := runE) ho5).sl; have q5 := hk5.cell z9; have fz5 := (hk5.blk (fun h => h) BB4.out).frozen 9)
          have b6 := (hk5.blk (fun h => h) BB4.out).set_ 9 (.slice a5 G.length c5)
          have k56 : Kept (fun b => b = z) w5 (w5.setCell ⟨z, 9, none⟩ (.slice a5 G.length c5)) := (Kept.refl (fun b => b = z) w5).setCell (p := ⟨z, 9, none⟩) (fun _ => rfl) _
          have sr6 : SlAt runE (w5.setCell ⟨z, 9, none⟩ (.slice a5 G.length c5)) (.slice a5 G.length c5) G := owns_slAt (E := runE) (owns_keep ho5 k56 fun b hb h9 => by have h1 := Tr.owns_lt ho5 b hb; have h2 := BB4.out.lt; omega)
          have sd6 : SlAt dotE (w5.setCell ⟨z, 9, none⟩ (.slice a5 G.length c5)) (.slice a3 D.length c3) D := (SD4.out.kept hk5).keep k56 fun b hb _ e => by have := HO3.out b hb; omega
          have HO5 : Hid (∀ b, (Value.slice a5 G.length c5).ownBlock = some b → z < b) := Lib.hid fun b hb => by have h1 := Tr.owns_lt ho5 b hb; have h2 := BB4.out.lt; omega
          have KR6 := Lib.hid ((KR4.out.trans hk5 fun _ _ h => h).trans k56 fun i hi h => by have := HZ.out; omega)
          obtain ⟨W6, hW6⟩ : ∃ W6, w5.setCell ⟨z, 9, none⟩ (.slice a5 G.length c5) = W6 := ⟨_, rfl⟩
          rw [hW6] at b6 sd6 sr6 KR6 ⊢
          simp only [List.setIfInBounds_toArray, List.set_cons_zero, List.set_cons_succ] at b6
          have BB6 : Hid (Blk W6 z 62 #[.int .i64 ds, .int .i64 dq, .slice a3 D.length c3, .int .i64 kd, .int .i64 it, .int .i64 is, .int .i64 rt, .int .i64 rs, .string tx, .slice a5 G.length c5, .int .i64 st]) := Lib.hid b6
          have k7 : Kept (fun _ => False) W6 (W6.alloc (.cells #[.int .i64 ds, .int .i64 dq, .slice a3 D.length c3, .int .i64 kd, .int .i64 it, .int .i64 is, .int .i64 rt, .int .i64 rs, .string tx, .slice a5 G.length c5, .int .i64 st] 62)) := (Kept.refl _ _).alloc _
          have LIT : Hid (SlAt entE (W6.alloc (.cells #[.int .i64 ds, .int .i64 dq, .slice a3 D.length c3, .int .i64 kd, .int .i64 it, .int .i64 is, .int .i64 rt, .int .i64 rs, .string tx, .slice a5 G.length c5, .int .i64 st] 62)) (.slice (some ⟨W6.heap.size, 0, none⟩) 1 1) [⟨⟨⟨ds, dq⟩, ⟨a3, D.length, c3⟩, kd, ⟨it, is⟩, ⟨rt, rs⟩, tx, ⟨a5, G.length, c5⟩, st⟩, D, G⟩]) := Lib.hid (SlAt.lit ([⟨⟨⟨ds, dq⟩, ⟨a3, D.length, c3⟩, kd, ⟨it, is⟩, ⟨rt, rs⟩, tx, ⟨a5, G.length, c5⟩, st⟩, D, G⟩] : List Ent) _ rfl (by show 1 ≤ maxLen; decide))
          have KX := Lib.hid ((K1.out.trans KR6.out fun _ _ h => h).trans k7 fun _ _ h => h)
          have KRX := Lib.hid (KR6.out.trans k7 fun _ _ h => h)
          have OX := Lib.hid (owns_keep OU.out KRX.out fun _ _ h => h)
          have ML : Hid (l'.length ≤ 1000000) := Lib.hid (by
            have h0 := congrArg List.length HKEY.out
            rw [List.length_map, List.length_map] at h0
            have h1 : (uptoL B (l.take n)).length ≤ (l.take n).length := List.length_filter_le _ _
            rw [List.length_take] at h1
            omega)
          have AT7 : Hid (Ent.At (W6.alloc (.cells #[.int .i64 ds, .int .i64 dq, .slice a3 D.length c3, .int .i64 kd, .int .i64 it, .int .i64 is, .int .i64 rt, .int .i64 rs, .string tx, .slice a5 G.length c5, .int .i64 st] 62)) ⟨⟨⟨ds, dq⟩, ⟨a3, D.length, c3⟩, kd, ⟨it, is⟩, ⟨rt, rs⟩, tx, ⟨a5, G.length, c5⟩, st⟩, D, G⟩) := Lib.hid ⟨sd6.kept k7, sr6.kept k7⟩
          clear hW6 b6 k56 sd6 sr6 hk5 ho5 q5 fz5 z9 k7
          go_wp2_with (first
            | (refine wpList_load_row rfl 62 _ rfl z rfl 62 _ (0, 0) _ BB6.out Tryz.underlying62 rfl size_op ?_)
            | (at_builtin; refine wpList_append_keeps entE rfl (.tmp 29) (.tmp 31) 22 rfl w.heap.size 62 _ 128 Tryz.underlying22 info_op rfl (by decide) rfl rfl OX.out LIT.out ML.out KX.out.size ?_; intro v8 w8 ho8 hg8))
          have hown : ∀ b, u5.ownBlock = some b → w.heap.size ≤ b := fun b hb => owns_new OX.out b hb
          have ul : ∀ b, u5.ownBlock = some b → b < z := fun b hb => by have h1 := (Tr.owns_lt OU.out b hb).2; have := HZ.out; omega
          have NEW := at_grown AT7.out ⟨fun _ b hb h9 => by have h1 := HO3.out b hb; have h2 := ul b h9; omega, fun _ b hb h9 => by have h1 := HO5.out b hb; have h2 := ul b h9; omega⟩ hg8
          have OLD : ∀ e ∈ l', e.At w8 ∧ ApartE e v8 := fun e he => at_grown (Ent.At.kept (HA.out e he).1 KRX.out) (HA.out e he).2 hg8
          have KW8 := KX.out.over (grow1_kept hg8) hown
          have FIN : Hid (∃ l2 : List Ent, Kept (fun _ => False) w w8 ∧ w8.ownsRow w.heap.size 62 11 v8 l2.length (entE.flat l2) ∧ l2.map keyE = (uptoL B (l.take (n + 1))).map keyE ∧ ∀ e ∈ l2, e.At w8 ∧ ApartE e v8) := Lib.hid ⟨l' ++ [⟨⟨⟨ds, dq⟩, ⟨a3, D.length, c3⟩, kd, ⟨it, is⟩, ⟨rt, rs⟩, tx, ⟨a5, G.length, c5⟩, st⟩, D, G⟩], KW8, by rw [List.length_append]; exact ho8, by rw [EQ.out, List.map_append, List.map_append, HKEY.out]; rfl, fun e he => by
            rcases List.mem_append.1 he with h | h
            · exact OLD e h
            · rw [List.mem_singleton.1 h]; exact NEW⟩
          clear hown ul NEW OLD KW8 ho8 hg8
          go_roundw
          case rel =>
            obtain ⟨l2, f1, f2, f3, f4⟩ := FIN.out
            exact ⟨n + 1, l2, by go_num, by omega, f1, f2, f3, f4⟩
          case measure => simp [intOf]; omega
end Go.Proofs.YtjohljmpcblpjaaGreatDoor.Pa
namespace Go.Proofs.YtjohljmpcblpjaaGreatDoor.Pa
open Go.RowKit Go.Proofs.YtjohljmpcblpjaaGreatDoor.St Go.Proofs.YtjohljmpcblpjaaGreatDoor Go.Proofs.YtjohljmpcblpjaaGreatDoor.Tr
theorem clip_sl {α : Type} {E : Enc α} {t : TypeId} {base : Nat} {w : World} {v : Value} {D : List α} (h : ClipAt E t base w v D) : SlAt E w v D := by
  rcases h with ⟨rfl, rfl⟩ | ⟨b, cap, rfl, _, ho⟩
  · exact .inl ⟨rfl, rfl⟩
  · have hle := ho.le
    exact .inr ⟨⟨b, 0, none⟩, D.length, rfl, Nat.le_refl _, by omega, fun _ => rfl, fun i y hy j u hu => by rw [Nat.zero_add]; exact ho.cell hy hu⟩
/-- the elements of what document answers -/
theorem nodes_post {w : World} {D : List Nd} {g : Option Nat} (hg : g = none ∧ D = [] ∨ ∃ b F, g = some b ∧ TBox w b D F ∧ D.length ≤ 900000) :
    Calls Tryz.prog 57 #[.pointer (g.map fun g => ⟨g, 0, none⟩)] w fun e w' => (∃ v, e = .returned v ∧ SlAt nodeE w' v D ∧ ∀ b, v.ownBlock = some b → w.heap.size ≤ b) ∧ Kept (fun _ => False) w w' := by
  rcases hg with ⟨rfl, rfl⟩ | ⟨b, F, rfl, hT, hL⟩
  · exact (nodes_nil w).mono fun e w' ⟨h1, h2⟩ => ⟨⟨_, h1, .inl ⟨rfl, rfl⟩, fun b hb => by cases hb⟩, h2⟩
  · obtain ⟨A, S, mp, h1, _⟩ := hT.at_
    refine (nodes_any h1 hT.doc hL).mono fun e w' ⟨⟨v, h2, h3⟩, h4⟩ => ⟨⟨v, h2, clip_sl h3, fun b hb => ?_⟩, h4⟩
    · rcases h3 with ⟨rfl, h5⟩ | ⟨b2, cap, rfl, h6, _⟩
      · cases hb
      · cases hb; exact h6
set_option maxRecDepth 100000 in
set_option maxHeartbeats 4000000 in
theorem order_past {w : World} {lv : Value} {l : List Ent} (hl : SlAt entE w lv l) (hin : ∀ e ∈ l, OpIn w e) (hlen : l.length ≤ 1000000) (hdl : ∀ e ∈ l, e.D.length ≤ 1000000 ∧ e.G.length ≤ 1000000) (htx : textN l ≤ 900000) :
    Calls Tryz.prog 19 #[lv] w fun e w' => (∃ v, e = .returned (.tuple #[v, .int .i64 (closedE l)]) ∧ SlAt idE w' v ((docS l).map (·.id))) ∧ Kept (fun _ => False) w w' := by
  have DOC := Lib.hid ((document_any hl hin hlen hdl htx).mono fun e w' h => doc_post h htx)
  obtain ⟨c, hc⟩ : ∃ c, closedE l = c := ⟨_, rfl⟩
  obtain ⟨D, hD⟩ : ∃ D, docS l = D := ⟨_, rfl⟩
  rw [hc, hD] at DOC ⊢
  clear hl hin hdl hc hD
  go_enter Tryz.func19, Tryz.ntmps19
  go_upto_region 3 with (go_at_call 53; refine DOC.out.mono ?_; rintro e w1 ⟨⟨g, rfl, hg⟩, hk1⟩)
  have hDl : D.length ≤ 900000 := by
    rcases hg with ⟨_, rfl⟩ | ⟨_, _, _, _, h, _⟩
    · exact Nat.zero_le _
    · exact h
  have HK1 := Lib.hid hk1
  have NO := Lib.hid (nodes_post (hg.imp id fun ⟨b, F, h1, h2, h3, _⟩ => ⟨b, F, h1, h2, h3⟩))
  obtain ⟨tp, htp⟩ : ∃ tp : Value, Value.pointer (g.map fun g => ⟨g, 0, none⟩) = tp := ⟨_, rfl⟩
  rw [htp] at NO ⊢
  clear hk1 hg htp
  go_wp2_with (go_at_call 57; refine NO.out.mono ?_; rintro e w2 ⟨⟨nv, rfl, hnv, _⟩, hk2⟩; obtain ⟨na, nc, rfl, _, _⟩ := hnv.sl)
  have K2 := Lib.hid (HK1.out.trans hk2 fun _ _ h => h)
  have HN := Lib.hid hnv
  clear hk2 hnv
  go_loopw [6, 17] (fun v iv wr => ∃ n : Nat, iv = .int .i64 n ∧ n ≤ D.length ∧ Kept (fun _ => False) w2 wr ∧ wr.ownsRow w2.heap.size 59 2 v n (idE.flat ((D.take n).map (·.id)))) (fun _ iv _ => D.length - (intOf iv).toNat)
  case atStart => exact ⟨0, rfl, Nat.zero_le _, Kept.refl _ _, World.ownsRow_nil ..⟩
  case round =>
    obtain ⟨n, rfl, hn, hk, ho⟩ := hrel
    have hn0 : (0 : Int) ≤ n := by omega
    have HK := Lib.hid hk
    have hk0 := ho
    rcases Nat.lt_or_ge n D.length with hlt | hge
    case inr =>
      have hlt : ¬ (n : Int) < D.length := by omega
      have e1 : (D.take n) = D := List.take_of_length_le hge
      rw [e1] at ho
      have FIN := Lib.hid (owns_slAt (E := idE) ho)
      clear hk ho hk0 e1
      go_wp2_with fail
      go_ret2
      exact ⟨⟨_, rfl, FIN.out⟩, K2.out.trans HK.out fun _ _ h => h⟩
    case inl =>
      have hltI : (n : Int) < D.length := by omega
      have es : IntKind.i64.wrap ((n : Int) + 1) = (n : Int) + 1 := IntWalk.i64_in _ (by omega)
      obtain ⟨x, hx⟩ := get_of_lt hlt
      obtain ⟨g0, o0, c0, hav, _, hc⟩ := Tr.SlAt.node (HN.out.kept HK.out) (by omega)
      injection hav with h1 _ _
      subst h1
      obtain ⟨cc0, cc1, cc2, cc3, cc4, cc5⟩ := hc n x hx
      obtain ⟨⟨it, is⟩, ⟨rt, rs⟩, rr, st⟩ := x
      have hl2 : ((D.take n).map (·.id)).length = n := by rw [List.length_map, List.length_take]; omega
      have hxs : (D.take (n + 1)).map (·.id) = (D.take n).map (·.id) ++ [⟨it, is⟩] := by
        rw [List.take_add_one, hx]
        simp
      have HXS := Lib.hid hxs
      have k1 : Kept (fun _ => False) wr (wr.alloc (.cells #[.int .i64 it, .int .i64 is, .int .i64 rt, .int .i64 rs, .int .i32 rr, .int .i64 st] 84)) := (Kept.refl _ _).alloc _
      have b1 := Blk.new wr 84 #[.int .i64 it, .int .i64 is, .int .i64 rt, .int .i64 rs, .int .i32 rr, .int .i64 st]
      clear hk hk0 hc hxs
      go_upto_region 6 with fail
      obtain ⟨W3, hW3⟩ : ∃ W3, wr.alloc (.cells #[.int .i64 it, .int .i64 is, .int .i64 rt, .int .i64 rs, .int .i32 rr, .int .i64 st] 84) = W3 := ⟨_, rfl⟩
      obtain ⟨z, hz⟩ : ∃ z, wr.heap.size = z := ⟨_, rfl⟩
      rw [hW3] at k1 b1 ⊢
      rw [hz] at b1 ⊢
      have d0 : W3.cell? ⟨z, 0, none⟩ = some (.int .i64 it) := b1.cell' (i := 0) rfl
      have d1 : W3.cell? ⟨z, 1, none⟩ = some (.int .i64 is) := b1.cell' (i := 1) rfl
      have k4 : Kept (fun _ => False) W3 (W3.alloc (.cells #[.int .i64 it, .int .i64 is] 59)) := (Kept.refl _ _).alloc _
      have LIT := Lib.hid (SlAt.lit (E := idE) (w := W3) (t := 59) [⟨it, is⟩] #[.int .i64 it, .int .i64 is] rfl (by show 1 ≤ maxLen; decide))
      have KX := Lib.hid ((HK.out.trans k1 fun _ _ h => h).trans k4 fun _ _ h => h)
      have OX : Hid ((W3.alloc (.cells #[.int .i64 it, .int .i64 is] 59)).ownsRow w2.heap.size 59 2 u6 ((D.take n).map (·.id)).length (idE.flat ((D.take n).map (·.id)))) := Lib.hid (by rw [hl2]; exact owns_keep (owns_keep ho k1 fun _ _ h => h) k4 fun _ _ h => h)
      have ML : Hid (((D.take n).map (·.id)).length ≤ 1000000) := Lib.hid (by omega)
      have HL2 := Lib.hid hl2
      clear hW3 hz b1 k1 k4 ho hl2 cc0 cc1 cc2 cc3 cc4 cc5
      go_wp2_with (at_builtin; refine wpList_append_keeps idE rfl (.tmp 21) (.tmp 24) 39 rfl w2.heap.size 59 _ 16 Tryz.underlying39 info_id rfl (by decide) rfl rfl OX.out LIT.out ML.out KX.out.size ?_; intro v3 w3 ho3 hg3)
      go_roundw
      case rel => exact ⟨v3, .pointer (some ⟨z, 0, none⟩), .int .i64 ((n : Int) + 1), ⟨n + 1, by go_num, by omega, KX.out.over (grow1_kept hg3) fun b hb => owns_new OX.out b hb, by rw [← List.map_take, HXS.out]; rw [HL2.out] at ho3; exact ho3⟩, rfl, rfl, rfl⟩
      case measure => simp [intOf]; omega
end Go.Proofs.YtjohljmpcblpjaaGreatDoor.Pa
namespace Go.Proofs.YtjohljmpcblpjaaGreatDoor.Pa
open Go.RowKit Go.Proofs.YtjohljmpcblpjaaGreatDoor.St Go.Proofs.YtjohljmpcblpjaaGreatDoor
set_option maxRecDepth 100000 in
theorem closed_any {w : World} {lv : Value} {l : List Ent} (hl : SlAt entE w lv l) (hin : ∀ e ∈ l, OpIn w e) (hlen : l.length ≤ 1000000) (hdl : ∀ e ∈ l, e.D.length ≤ 1000000 ∧ e.G.length ≤ 1000000) :
    Calls Tryz.prog 12 #[lv] w fun e w' => e = .returned (.int .i64 (closedE l)) ∧ Kept (fun _ => False) w w' := by
  have SET := Lib.hid (set_any hl hin hlen hdl)
  obtain ⟨C, hC⟩ : ∃ C, closedE l = C := ⟨_, rfl⟩
  have S2 : Hid (Calls Tryz.prog 42 #[lv] w fun e w' => ∃ mb, e = .returned (.tuple #[.map mb, .int .i64 C]) ∧ Kept (fun _ => False) w w') := Lib.hid (SET.out.mono fun e w' h9 => by
    obtain ⟨⟨_, he⟩ | ⟨h0, b, he, _⟩, hk⟩ := h9
    · exact ⟨none, by rw [he, hC], hk⟩
    · exact ⟨some b, by rw [he, ← hC, h0], hk⟩)
  rw [hC]
  clear hl hin hlen hdl SET hC
  go_enter Tryz.func12, Tryz.ntmps12
  go_wp2_with (go_at_call 42; refine S2.out.mono ?_; rintro e w1 ⟨mb, rfl, hk⟩)
  go_ret
  exact ⟨rfl, hk⟩
end Go.Proofs.YtjohljmpcblpjaaGreatDoor.Pa
namespace Go.Proofs.YtjohljmpcblpjaaGreatDoor.Tr
open Go.Proofs.YtjohljmpcblpjaaGreatDoor.St
theorem turn_comm (G H : List Run) (n : Nd) : turnF G 2 3 (turnF H 2 3 n) = turnF H 2 3 (turnF G 2 3 n) := by
  have h3 : ∀ (A : List Run) (m : Nd), m.st = 3 → turnF A 2 3 m = m := fun A m hm => by
    unfold turnF
    refine if_neg ?_
    unfold turnB
    simp [hm]
  by_cases h1 : turnB G 2 n = true
  · by_cases h2 : turnB H 2 n = true
    · have e1 : turnF G 2 3 n = { n with st := 3 } := if_pos h1
      have e2 : turnF H 2 3 n = { n with st := 3 } := if_pos h2
      rw [e1, e2]
      exact (h3 G _ rfl).trans (h3 H _ rfl).symm
    · have e1 : turnF G 2 3 n = { n with st := 3 } := if_pos h1
      have e2 : turnF H 2 3 n = n := if_neg h2
      rw [e2, e1]
      exact (h3 H _ rfl).symm
  · by_cases h2 : turnB H 2 n = true
    · have e1 : turnF G 2 3 n = n := if_neg h1
      have e2 : turnF H 2 3 n = { n with st := 3 } := if_pos h2
      rw [e1, e2]
      exact h3 G _ rfl
    · have e1 : turnF G 2 3 n = n := if_neg h1
      have e2 : turnF H 2 3 n = n := if_neg h2
      rw [e1, e2, e1]
def settles (Gs : List (List Run)) (L : List Nd) : List Nd := Gs.foldl (fun L G => L.map (turnF G 2 3)) L
theorem settles_perm {A B : List (List Run)} (h : A.Perm B) : ∀ L : List Nd, settles A L = settles B L := by
  induction h with
  | nil => intro _; rfl
  | cons x _ ih => intro L; exact ih _
  | swap x y r =>
    intro L
    show settles r ((L.map (turnF y 2 3)).map (turnF x 2 3)) = settles r ((L.map (turnF x 2 3)).map (turnF y 2 3))
    rw [List.map_map, List.map_map]
    congr 1
    exact List.map_congr_left fun n _ => turn_comm x y n
  | trans _ _ ih1 ih2 => intro L; rw [ih1, ih2]
end Go.Proofs.YtjohljmpcblpjaaGreatDoor.Tr
namespace Go.Proofs.YtjohljmpcblpjaaGreatDoor.Pa
open Go.RowKit Go.Proofs.YtjohljmpcblpjaaGreatDoor.St Go.Proofs.YtjohljmpcblpjaaGreatDoor Go.Proofs.YtjohljmpcblpjaaGreatDoor.Tr
open Classical in
/-- why Nodes tells nothing -/
noncomputable def nodesC (l : List Ent) (B : List Dot) : Int :=
  if closedE l ≠ 0 then closedE l else if chkV 0 B ≠ 0 then chkV 0 B else if ¬ wholeP (l.map dotOf) B ∨ closedE (uptoL B l) ≠ 0 then 20 else 0
noncomputable def setD (L : List Nd) (e : Ent) : List Nd := if e.v.kind = 2 then L.map (turnF e.G 2 3) else L
noncomputable def nodesS (l : List Ent) (B : List Dot) : List Nd := if nodesC l B = 0 then collR ((uptoL B l).foldl setD (docP l)) else []
theorem setD_len (L : List Nd) (e : Ent) : (setD L e).length = L.length := by
  unfold setD
  split
  · rw [List.length_map]
  · rfl
theorem foldS_len : ∀ (R : List Ent) (L : List Nd), (R.foldl setD L).length = L.length
  | [], _ => rfl
  | e :: R, L => by rw [List.foldl_cons, foldS_len R, setD_len]
theorem foldS_same : ∀ {R S : List Ent} (L : List Nd), R.map keyE = S.map keyE → R.foldl setD L = S.foldl setD L
  | [], [], _, _ => rfl
  | [], _ :: _, _, h => by simp at h
  | _ :: _, [], _, h => by simp at h
  | a :: R, b :: S, L, h => by
    simp only [List.map_cons, List.cons.injEq] at h
    have e : setD L a = setD L b := by
      unfold setD
      have h1 := h.1
      unfold keyE at h1
      injection h1 with h2 h3 h4 h5 h6 h7 h8 h9
      rw [h3, h9]
    rw [List.foldl_cons, List.foldl_cons, e]
    exact foldS_same _ h.2
theorem OpIn.kept {w w' : World} {e : Ent} (h : OpIn w e) (hk : Kept (fun _ => False) w w') : OpIn w' e := ⟨Ent.At.kept h.at_ hk, h.runs, h.text, h.dots, h.nums, h.ids⟩
theorem opIn_same {w0 w : World} {e x : Ent} (hk : keyE e = keyE x) (hx : OpIn w0 x) (hat : e.At w) : OpIn w e := by
  unfold keyE at hk
  injection hk with h2 h3 h4 h5 h6 h7 h8 h9
  refine ⟨hat, ?_, ?_, ?_, ?_, ?_⟩
  · rw [h9]; exact hx.runs
  · rw [h6]; exact hx.text
  · rw [h8]; exact hx.dots
  · rw [h2, h3, h7]; exact hx.nums
  · rw [h4, h5]; exact hx.ids
theorem upto_mem {B : List Dot} {l : List Ent} {e : Ent} (h : e ∈ uptoL B l) : e ∈ l := (List.mem_filter.1 h).1
end Go.Proofs.YtjohljmpcblpjaaGreatDoor.Pa
namespace Go.Proofs.YtjohljmpcblpjaaGreatDoor.Pa
open Go.RowKit Go.Proofs.YtjohljmpcblpjaaGreatDoor.St Go.Proofs.YtjohljmpcblpjaaGreatDoor Go.Proofs.YtjohljmpcblpjaaGreatDoor.Tr
variable {l m : List Ent}
theorem closedE_perm (hp : l.Perm m) : closedE l = closedE m := closed_perm hp
theorem rowL_perm (hp : l.Perm m) (hc : closedE l = 0) : rowL l = rowL m := rowA_perm hp (closed_is hc).1.nd
theorem docP_perm (hp : l.Perm m) (hc : closedE l = 0) : docP l = docP m := by unfold docP; rw [rowL_perm hp hc]
theorem docS_perm (hp : l.Perm m) : docS l = docS m := by
  unfold docS
  rw [← closedE_perm hp]
  by_cases hc : closedE l = 0
  · rw [if_pos hc, if_pos hc, docP_perm hp hc]
  · rw [if_neg hc, if_neg hc]
theorem memS_perm (hp : l.Perm m) : memS l = memS m := by
  unfold memS memP
  rw [← closedE_perm hp]
  by_cases hc : closedE l = 0
  · rw [if_pos hc, if_pos hc, rowL_perm hp hc]
  · rw [if_neg hc, if_neg hc]
theorem setD_comm (x y : Ent) (L : List Nd) : setD (setD L y) x = setD (setD L x) y := by
  unfold setD
  by_cases hx : x.v.kind = 2
  · by_cases hy : y.v.kind = 2
    · rw [if_pos hy, if_pos hx, if_pos hx, if_pos hy, List.map_map, List.map_map]
      exact List.map_congr_left fun n _ => turn_comm x.G y.G n
    · rw [if_neg hy, if_pos hx, if_neg hy]
  · rw [if_neg hx, if_neg hx]
theorem foldS_perm (h : l.Perm m) : ∀ L : List Nd, l.foldl setD L = m.foldl setD L := by
  induction h with
  | nil => intro _; rfl
  | cons x _ ih => intro L; exact ih _
  | swap x y r =>
    intro L
    show r.foldl setD (setD (setD L y) x) = r.foldl setD (setD (setD L x) y)
    rw [setD_comm]
  | trans _ _ ih1 ih2 => intro L; rw [ih1, ih2]
theorem uptoL_perm (hp : l.Perm m) (B : List Dot) : (uptoL B l).Perm (uptoL B m) := hp.filter _
theorem uptoS_len (hp : l.Perm m) (B : List Dot) : (uptoS B l).length = (uptoS B m).length := by
  unfold uptoS
  split
  · exact (uptoL_perm hp B).length_eq
  · rfl
theorem nodesC_perm (hp : l.Perm m) (B : List Dot) : nodesC l B = nodesC m B := by
  have h1 : (¬ wholeP (l.map dotOf) B ∨ closedE (uptoL B l) ≠ 0) ↔ (¬ wholeP (m.map dotOf) B ∨ closedE (uptoL B m) ≠ 0) := by rw [closedE_perm (uptoL_perm hp B), whole_perm hp B]
  unfold nodesC
  rw [← closedE_perm hp]
  by_cases hc : closedE l ≠ 0
  · rw [if_pos hc, if_pos hc]
  · rw [if_neg hc, if_neg hc]
    by_cases hb : chkV 0 B ≠ 0
    · rw [if_pos hb, if_pos hb]
    · rw [if_neg hb, if_neg hb]
      by_cases h : ¬ wholeP (l.map dotOf) B ∨ closedE (uptoL B l) ≠ 0
      · rw [if_pos h, if_pos (h1.1 h)]
      · rw [if_neg h, if_neg (fun h9 => h (h1.2 h9))]
theorem nodesC_closed {B : List Dot} (h : nodesC l B = 0) : closedE l = 0 := by
  unfold nodesC at h
  split at h
  · exact h
  next h1 => exact Classical.not_not.1 h1
theorem nodesS_perm (hp : l.Perm m) (B : List Dot) : nodesS l B = nodesS m B := by
  unfold nodesS
  rw [← nodesC_perm hp]
  by_cases hc : nodesC l B = 0
  · rw [if_pos hc, if_pos hc, docP_perm hp (nodesC_closed hc), foldS_perm (uptoL_perm hp B)]
  · rw [if_neg hc, if_neg hc]
theorem textN_perm (hp : l.Perm m) : textN l = textN m := (hp.map _).sum_nat
end Go.Proofs.YtjohljmpcblpjaaGreatDoor.Pa
