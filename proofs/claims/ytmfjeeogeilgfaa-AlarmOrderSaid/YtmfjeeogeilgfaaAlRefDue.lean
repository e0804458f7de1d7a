/- The document's Alarm: Due. -/
import Derived.Test.YtmfjeeogeilgfaaAlRefSet
namespace Go.Proofs.Ytmfjeeogeilgfaa.Al
open Go.RowKit
section
variable {w : World} {B : Nat} {l m : Int} {v : Value} {L : List T}

theorem rdue_bad (B : Nat) (now : Int) (ht : tickB now = false) (w : World) : Calls Try.prog 28 #[.pointer (some ⟨B, 0, none⟩), .int .i64 now] w fun e w' => e = .returned (.slice none 0 0) ∧ w = w' := by
  have H := Lib.hid ht
  clear ht
  go_enter Try.func28, Try.ntmps28
  go_wp2_with (go_at_call 35; refine (rtick_no H.out _).mono ?_; rintro e w' ⟨rfl, rfl⟩)
  go_ret
  exact ⟨rfl, rfl⟩

def cntT (now : Int) (L : List T) : Nat := L.countP fun t => decide (t.due ≤ now)
def RDueRel (w : World) (B : Nat) (l m now : Int) (v : Value) (L : List T) (lv iv : Value) (wr : World) : Prop :=
  ∃ (M : List T) (ks : List Int) (a : Option Addr) (c : Nat) (k : Int), lv = .slice a ks.length c ∧ iv = .int .i64 k ∧ IsFirst M k ∧ wr.ownsRow w.heap.size 3 1 lv ks.length (ks.map (Value.int .i64)) ∧ RefAt wr B l m v M ∧ M.length = L.length ∧
    (∀ ks' Z, DueR m now M ks' Z → DueR m now L (ks ++ ks') Z) ∧ ks.length + cntT now M = cntT now L ∧ (∀ t ∈ M, TOk l m t) ∧ (M.map (·.key)).Nodup ∧ Kept (RF B v) w wr
def RDueEnd (w : World) (B : Nat) (l m now : Int) (v : Value) (L : List T) (e : Ending) (w' : World) : Prop :=
  ∃ (u : Value) (M : List T) (ks : List Int), e = .returned u ∧ (∃ a c, u = .slice a ks.length c) ∧ w'.ownsRow w.heap.size 3 1 u ks.length (ks.map (Value.int .i64)) ∧ RefAt w' B l m v M ∧ DueR m now L ks M ∧ (∀ t ∈ M, TOk l m t) ∧ (M.map (·.key)).Nodup ∧ M.length = L.length ∧ Kept (RF B v) w w'

theorem perm_erase {α : Type} : ∀ {M : List α} {i : Nat} {t : α}, M[i]? = some t → M.Perm (t :: M.eraseIdx i)
  | x :: r, 0, t, h => by simp at h; subst h; exact List.Perm.refl _
  | x :: r, i + 1, t, h => by
    have h' : r[i]? = some t := by simpa using h
    exact ((perm_erase h').cons x).trans (List.Perm.swap _ _ _)
theorem perm_set {α : Type} (u : α) : ∀ {M : List α} {i : Nat}, i < M.length → (M.set i u).Perm (u :: M.eraseIdx i)
  | x :: r, 0, _ => List.Perm.refl _
  | x :: r, i + 1, h => by
    have h' : i < r.length := by simpa using h
    exact ((perm_set u h').cons x).trans (List.Perm.swap _ _ _)
theorem tcs_set (u : T) : ∀ (M : List T) (i : Nat), i < M.length → (((tcs M).set (i * 3) (.int .i64 u.key)).set (i * 3 + 1) (.int .i64 u.gap)).set (i * 3 + 2) (.int .i64 u.due) = tcs (M.set i u)
  | x :: r, 0, _ => by simp [tcs, tc]
  | x :: r, i + 1, h => by
    have ih := tcs_set u r i (by simpa using h)
    have e : (i + 1) * 3 = i * 3 + 1 + 1 + 1 := by omega
    simp only [tcs, List.flatMap_cons, tc, List.set_cons_succ] at ih ⊢
    rw [e]
    simp only [List.cons_append, List.nil_append, List.set_cons_succ]
    rw [ih]
theorem RefAt.setAt {w : World} {B g i vc : Nat} {l m : Int} {M : List T} (h : RefAt w B l m (.slice (some ⟨g, 0, none⟩) M.length vc) M) (hi : i < M.length) (u : T) :
    RefAt (((w.setCell ⟨g, i * 3, none⟩ (.int .i64 u.key)).setCell ⟨g, i * 3 + 1, none⟩ (.int .i64 u.gap)).setCell ⟨g, i * 3 + 2, none⟩ (.int .i64 u.due)) B l m (.slice (some ⟨g, 0, none⟩) M.length vc) (M.set i u) := by
  have hne : B ≠ g := fun e => own_blk_ne h.own h.blk (by decide) (by simp [Value.ownBlock, e])
  refine ⟨((h.blk.far (p := ⟨g, i * 3, none⟩) hne _).far (p := ⟨g, i * 3 + 1, none⟩) hne _).far (p := ⟨g, i * 3 + 2, none⟩) hne _, ⟨some ⟨g, 0, none⟩, vc, by simp⟩, ?_⟩
  have h3 := ((((h.own.stored (i * 3) (.int .i64 u.key)).1).stored (i * 3 + 1) (.int .i64 u.gap)).1.stored (i * 3 + 2) (.int .i64 u.due)).1
  rw [tcs_set u M i hi] at h3
  rw [List.length_set]
  exact h3

theorem rdue_rel {wr w1 w5 w7 : World} {M : List T} {ks : List Int} {a : Option Addr} {c c3 g g3 vc i : Nat} {t : T} {ng now k : Int} {lv : Value}
    (hlt : ∀ b, RF B (.slice (some ⟨g, 0, none⟩) M.length vc) b → b < w.heap.size) (hlen : M.length = L.length) (hD : ∀ ks' Z, DueR m now M ks' Z → DueR m now L (ks ++ ks') Z) (hcnt : ks.length + cntT now M = cntT now L) (hokM : ∀ t ∈ M, TOk l m t) (hkM : (M.map (·.key)).Nodup)
    (hk : Kept (RF B (.slice (some ⟨g, 0, none⟩) M.length vc)) w wr) (hown : wr.ownsRow w.heap.size 3 1 (.slice a ks.length c) ks.length (ks.map (Value.int .i64)))
    (ht : M[i]? = some t) (hmin : ∀ (j : Nat) (u : T), M[j]? = some u → t.le u) (hd : t.due ≤ now) (htb : 0 ≤ now ∧ now ≤ 2147483647) (hng : ng = min (2 * t.gap) m) (hl1 : l ≠ 0) (hlm : LM l m)
    (hown2 : w1.ownsRow w.heap.size 3 1 (.slice (some ⟨g3, 0, none⟩) (ks.length + 1) c3) (ks.length + 1) (ks.map (Value.int .i64) ++ [.int .i64 t.key])) (hg0 : w.heap.size ≤ g3)
    (hk1 : Kept (fun b => (Value.slice a ks.length c).ownBlock = some b) wr w1) (hk5 : Kept (fun b => b = wr.heap.size) w1 w5) {xs : Array Value} (hxb : Blk w1 wr.heap.size 70 xs)
    (hk6 : Kept (fun b => b = g) w5 w7) (hf : IsFirst (M.set i ⟨t.key, ng, now + ng⟩) k) (hM7 : RefAt w7 B l m (.slice (some ⟨g, 0, none⟩) M.length vc) (M.set i ⟨t.key, ng, now + ng⟩))
    {iv : Value} (hlv : lv = .slice (some ⟨g3, 0, none⟩) (ks.length + 1) c3) (hiv : iv = .int .i64 k) : RDueRel w B l m now (.slice (some ⟨g, 0, none⟩) M.length vc) L lv iv w7 := by
  have hil := lt_of_get ht
  have hgF : RF B (.slice (some ⟨g, 0, none⟩) M.length vc) g := .inr rfl
  have hglt := hlt g hgF
  have hs := hk.size
  have hlmi := hlm
  have hp1 := perm_erase ht
  have hp2 := perm_set (⟨t.key, ng, now + ng⟩ : T) hil
  have ho := hokM t (List.mem_of_getElem? ht)
  unfold TOk at ho
  unfold LM at hlmi
  have hg3x : g3 ≠ wr.heap.size := fun e => own_blk_ne hown2 hxb (by decide) (by simp [Value.ownBlock, e])
  subst hlv hiv
  refine ⟨M.set i ⟨t.key, ng, now + ng⟩, ks ++ [t.key], some ⟨g3, 0, none⟩, c3, k, by simp, rfl, hf, ?_, hM7, by simpa using hlen, ?_, ?_, ?_, ?_, ?_⟩
  · have h5 := owns_keep (owns_keep hown2 hk5 (fun b hb e => by
      have : g3 = b := by simpa [Value.ownBlock] using hb
      omega)) hk6 (fun b hb e => by
      have : g3 = b := by simpa [Value.ownBlock] using hb
      omega)
    simpa using h5
  · intro ks' Z hZ
    have h6 : DueR m now M (t.key :: ks') Z := by
      refine .step hp1 (fun u hu => ?_) hd (hZ.perm ?_)
      · obtain ⟨j, hj⟩ := List.getElem?_of_mem (List.mem_of_mem_eraseIdx hu)
        exact hmin j u hj
      · simpa [T.bump, hng] using hp2.symm
    simpa using hD _ _ h6
  · have h7 : cntT now (M.set i ⟨t.key, ng, now + ng⟩) = cntT now (M.eraseIdx i) := by
      unfold cntT
      rw [hp2.countP_eq, List.countP_cons_of_neg (by simp; omega)]
    have h8 : cntT now M = cntT now (M.eraseIdx i) + 1 := by
      unfold cntT
      rw [hp1.countP_eq, List.countP_cons_of_pos (by simpa using hd)]
    rw [h7]
    rw [h8] at hcnt
    simp
    omega
  · intro u hu
    rcases List.mem_cons.1 (hp2.mem_iff.1 hu) with e | e
    · subst e; unfold TOk; simp only; omega
    · exact hokM u (List.mem_of_mem_eraseIdx e)
  · have h9 := (hp1.map (·.key)).nodup_iff.1 hkM
    exact (hp2.map (·.key)).nodup_iff.2 (by simpa using h9)
  · exact ((hk.trans hk1 (fun b hb e => absurd (hown.lt b e).1 (by omega))).trans hk5 (fun b hb e => absurd hs (by omega))).trans hk6 (fun b _ e => e ▸ hgF)

set_option maxHeartbeats 2000000 in
theorem rdue_ok (h : RefAt w B l m v L) (now : Int) (ht : tickB now = true) (hok : ∀ t ∈ L, TOk l m t) (hkn : (L.map (·.key)).Nodup) (hlm : LM l m) (hl0 : l = 0 → L = []) (hbig : L.length ≤ 1000000) :
    Calls Try.prog 28 #[.pointer (some ⟨B, 0, none⟩), .int .i64 now] w fun e w' => RDueEnd w B l m now v L e w' := by
  have htb : 0 ≤ now ∧ now ≤ 2147483647 := by simpa [tickB] using ht
  have H := Lib.hid ht
  have HL := Lib.hid h.lt
  have OK := Lib.hid hok
  have KN := Lib.hid hkn
  have L0 := Lib.hid hl0
  clear ht hok hkn hl0
  obtain ⟨i0, hi, hz0, hz1, hz2⟩ := info_parts info_int
  have I0 := Lib.hid hi
  have I1 := Lib.hid hz0
  have I2 := Lib.hid hz1
  have I3 := Lib.hid hz2
  clear hi hz0 hz1 hz2
  have HF := Lib.hid (first_any h hbig)
  go_enter Try.func28, Try.ntmps28
  go_wp2_with (first
    | (go_at_call 35; refine (rtick_yes H.out _).mono ?_; rintro e w' ⟨rfl, rfl⟩)
    | (go_at_call 34; refine HF.out.mono ?_; rintro e w' ⟨⟨k, hk, rfl⟩, q, rfl⟩; have HK := Lib.hid hk; clear hk))
  go_loopw [5, 6] (fun lv iv wr => RDueRel w B l m now v L lv iv wr) (fun lv _ _ => cntT now L - lenOf lv)
  case atStart => exact ⟨L, [], none, 0, k, rfl, rfl, HK.out, World.ownsRow_nil _ _ _ _, h.drewN q, rfl, fun ks' Z hd => by simpa using hd, by simp, OK.out, KN.out, (Kept.refl _ _).drewN q⟩
  case round =>
    obtain ⟨M, ks, a, c, k2, rfl, rfl, hf, hown, hM, hlen, hD, hcnt, hokM, hkM, hk⟩ := hrel
    have D := Lib.hid hD
    have C := Lib.hid hcnt
    have LN := Lib.hid hlen
    have OM := Lib.hid hokM
    have KM := Lib.hid hkM
    have hMlt : M.length ≤ 1000000 := by omega
    clear hD hcnt hlen hokM hkM HK
    obtain ⟨va, vc, hv⟩ := hM.sl
    rcases hf with ⟨h0, rfl⟩ | ⟨i, t, rfl, ht, hmin⟩
    · have H0 := Lib.hid h0
      clear h0 hv
      go_wp2_with fail
      go_ret
      exact ⟨_, M, ks, rfl, ⟨_, _, rfl⟩, hown, hM, by
        have := D.out [] M (.stop (by rw [H0.out]; simp) (List.Perm.refl _))
        simpa using this, OM.out, KM.out, LN.out, hk⟩
    · have hil := lt_of_get ht
      obtain ⟨g, c', hvv, hc⟩ := hM.cells (by rintro rfl; simp at hil)
      cases hv.symm.trans hvv
      subst hvv
      obtain ⟨t0, t1, t2⟩ := hc i t ht
      have cB2 : wr.cell? ⟨B, 2, none⟩ = some (.slice (some ⟨g, 0, none⟩) M.length vc) := hM.blk.cell' rfl
      have hi0 : (0 : Int) ≤ i := by omega
      have hil' : (i : Int) < M.length := by omega
      have HT := Lib.hid ht
      have HMIN := Lib.hid hmin
      clear ht hmin hc
      by_cases hd : t.due ≤ now
      case neg =>
        have hd' : decide (t.due ≤ now) = false := by simpa using hd
        go_wp2_with fail
        go_ret
        exact ⟨_, M, ks, rfl, ⟨_, _, rfl⟩, hown, hM, by
          have := D.out [] M (.stop (fun u hu => by obtain ⟨j, hj⟩ := List.getElem?_of_mem hu; have := HMIN.out j u hj; unfold T.le at this; omega) (List.Perm.refl _))
          simpa using this, OM.out, KM.out, LN.out, hk⟩
      case pos =>
        have hd' : decide (t.due ≤ now) = true := by simpa using hd
        have hzs : ∀ (w : World), (zeroValue 70).run Try.prog w = .ok (.agg #[.int .i64 0, .int .i64 0, .int .i64 0]) w := fun w => by kernel_rfl
        have hcx : cntT now L ≤ L.length := List.countP_le_length
        have hcl : ks.length + 1 ≤ cntT now L := by have h1 := C.out; have h2 : 0 < cntT now M := List.countP_pos_iff.2 ⟨t, List.mem_of_getElem? HT.out, by simpa using hd⟩; omega
        have hks : ks.length ≤ 1000000 := by omega
        have h63 : ks.length + 1 ≤ maxLen := by simp only [maxLen]; omega
        have hby : (ks.length + 1) * 8 ≤ 140737488355328 := by omega
        have hbase : w.heap.size ≤ wr.heap.size + 2 := by have := hk.size; omega
        have hone0 : ∀ u ∈ [Value.int .i64 t.key], u.oneCell' = true := by simp [Value.oneCell']
        have hone := Lib.hid hone0
        have hok1 := OM.out t (List.mem_of_getElem? HT.out)
        have hl1 : l ≠ 0 := fun e => by have h1 := L0.out e; have h2 := LN.out; rw [h1] at h2; simp at h2; subst h2; simp at hil
        have hnw0 : ∀ (j : Nat) (u : Value), [Value.int .i64 t.key][j]? = some u → ((wr.alloc (.cells #[.int .i64 t.key, .int .i64 t.gap, .int .i64 t.due] 70)).alloc (.cells #[.int .i64 t.key] 3)).cell? ((⟨wr.heap.size + 1, 0, none⟩ : Addr).add j) = some u := by
          intro j u hj
          have h1 := cell_one_new (wr.alloc (.cells #[.int .i64 t.key, .int .i64 t.gap, .int .i64 t.due] 70)) (.int .i64 t.key) 3 j u hj
          simpa using h1
        have hnw := Lib.hid hnw0
        clear hone0 hnw0
        unfold TOk at hok1
        have hlm' := hlm
        unfold LM at hlm'
        obtain ⟨hl0, hlm1, hm0⟩ := hlm'
        obtain ⟨hg1, hg2, hu1, hu2⟩ := hok1
        have hsep : ∀ b, RF B (.slice (some ⟨g, 0, none⟩) M.length vc) b → ¬ (Value.slice a ks.length c).ownBlock = some b := fun b hb e => by have h1 := HL.out b hb; have h2 := (hown.lt b e).1; omega
        have S1 := Lib.hid hsep
        have hBz := hM.blk.lt
        have hxB : ¬ wr.heap.size = B := by omega
        have hBx : ¬ B = wr.heap.size := by omega
        clear hsep
        have hown' := (hown.alloc (.cells #[.int .i64 t.key, .int .i64 t.gap, .int .i64 t.due] 70)).alloc (.cells #[.int .i64 t.key] 3)
        by_cases hgm : m < 2 * t.gap
        · go_wp2_with (at_builtin; (refine wpList_append_own_at _ rfl (.tmp 37) (.tmp 40) 52 rfl w.heap.size 3 i0 (.int .i64 0) 1 8 Try.underlying52 I0.out I1.out I2.out I3.out rfl (by decide) _ _ _ rfl hown' ⟨wr.heap.size + 1, 0, none⟩ 1 1 [.int .i64 t.key] rfl rfl hnw.out hone.out h63 hby (by simpa using hbase) ?_); (intro v' w1 hown2 hgrow hnil hat); (obtain ⟨g3, c3, hv, hg0, hg⟩ := hown2.form (by omega)); (subst hv); have hk1 : Kept (fun b => (Value.slice a ks.length c).ownBlock = some b) wr w1 := (((Kept.refl _ _).alloc _).alloc _).grown hgrow (fun k e _ => e); have hM1 := hM.keep hk1 S1.out; have hxb : Blk w1 wr.heap.size 70 #[.int .i64 t.key, .int .i64 t.gap, .int .i64 t.due] := ((Blk.new wr _ _).alloc _).grown hgrow (own_blk_ne hown' ((Blk.new wr _ _).alloc _) (by decide)); have x0 : w1.cell? ⟨wr.heap.size, 0, none⟩ = some (.int .i64 t.key) := hxb.cell' rfl; have x1 : w1.cell? ⟨wr.heap.size, 1, none⟩ = some (.int .i64 t.gap) := hxb.cell' rfl; have x2 : w1.cell? ⟨wr.heap.size, 2, none⟩ = some (.int .i64 t.due) := hxb.cell' rfl; have e0 := hxb.frozen 0; have e1 := hxb.frozen 1; have e2 := hxb.frozen 2; have b1 : w1.cell? ⟨B, 1, none⟩ = some (.int .i64 m) := hM1.blk.cell' rfl; have b2 : w1.cell? ⟨B, 2, none⟩ = some (.slice (some ⟨g, 0, none⟩) M.length vc) := hM1.blk.cell' rfl)
          go_quiet (fail)
          go_wp2_with fail
          have hb5 : Blk ((((w1.setCell ⟨wr.heap.size, 1, none⟩ (.int .i64 (2 * t.gap))).drewN nq).setCell ⟨wr.heap.size, 1, none⟩ (.int .i64 m)).setCell ⟨wr.heap.size, 2, none⟩ (.int .i64 (now + m))) wr.heap.size 70 #[.int .i64 t.key, .int .i64 m, .int .i64 (now + m)] := by simpa using (((hxb.set_ 1 (.int .i64 (2 * t.gap))).drewN nq).set_ 1 (.int .i64 m)).set_ 2 (.int .i64 (now + m))
          have hk5 : Kept (fun b => b = wr.heap.size) w1 ((((w1.setCell ⟨wr.heap.size, 1, none⟩ (.int .i64 (2 * t.gap))).drewN nq).setCell ⟨wr.heap.size, 1, none⟩ (.int .i64 m)).setCell ⟨wr.heap.size, 2, none⟩ (.int .i64 (now + m))) := (((((Kept.refl (fun b => b = wr.heap.size) _).setCell (fun _ => rfl) _).drewN nq).setCell (fun _ => rfl) _).setCell (fun _ => rfl) _)
          generalize (((w1.setCell ⟨wr.heap.size, 1, none⟩ (.int .i64 (2 * t.gap))).drewN nq).setCell ⟨wr.heap.size, 1, none⟩ (.int .i64 m)).setCell ⟨wr.heap.size, 2, none⟩ (.int .i64 (now + m)) = w5 at *
          have hM5 := hM1.keep hk5 (fun b hb e => by have h1 := HL.out b hb; have h2 := hk.size; omega)
          have y0 : w5.cell? ⟨wr.heap.size, 0, none⟩ = some (.int .i64 t.key) := hb5.cell' rfl
          have y1 : w5.cell? ⟨wr.heap.size, 1, none⟩ = some (.int .i64 m) := hb5.cell' rfl
          have y2 : w5.cell? ⟨wr.heap.size, 2, none⟩ = some (.int .i64 (now + m)) := hb5.cell' rfl
          have cB5 : w5.cell? ⟨B, 2, none⟩ = some (.slice (some ⟨g, 0, none⟩) M.length vc) := hM5.blk.cell' rfl
          have fr5 := hM5.own.frozenAt
          have z0 := fr5 (i * 3)
          have z1 := fr5 (i * 3 + 1)
          have z2 := fr5 (i * 3 + 2)
          obtain ⟨g0, c0, hgg, hc5⟩ := hM5.cells (by rintro rfl; simp at hil)
          cases hgg
          obtain ⟨v0, v1, v2⟩ := hc5 i t HT.out
          clear fr5 hc5 x0 x1 x2 b1 b2 e0 e1 e2
          go_region
          have hM6 := hM5.setAt hil ⟨t.key, m, now + m⟩
          have hk6 : Kept (fun b => b = g) w5 (((w5.setCell ⟨g, i * 3, none⟩ (.int .i64 t.key)).setCell ⟨g, i * 3 + 1, none⟩ (.int .i64 m)).setCell ⟨g, i * 3 + 2, none⟩ (.int .i64 (now + m))) := ((((Kept.refl (fun b => b = g) _).setCell (fun _ => rfl) _).setCell (fun _ => rfl) _).setCell (fun _ => rfl) _)
          have HF6 := Lib.hid (first_any (hM6.drewN 1) (by simpa using hMlt))
          clear y0 y1 y2 z0 z1 z2 v0 v1 v2 cB5 cB2 t0 t1 t2
          go_wp2_with (go_at_call 34; refine HF6.out.mono ?_; rintro e w7 ⟨⟨k7, hk7, rfl⟩, q7, rfl⟩; have HK7 := Lib.hid hk7; clear hk7)
          go_roundw
          case rel => exact rdue_rel HL.out LN.out D.out C.out OM.out KM.out hk hown HT.out HMIN.out hd htb (by omega) hl1 hlm hown2 hg0 hk1 hk5 hxb (hk6.drewN _) HK7.out (hM6.drewN _) rfl rfl
          case measure => simp [lenOf]; omega
        · go_wp2_with (at_builtin; (refine wpList_append_own_at _ rfl (.tmp 37) (.tmp 40) 52 rfl w.heap.size 3 i0 (.int .i64 0) 1 8 Try.underlying52 I0.out I1.out I2.out I3.out rfl (by decide) _ _ _ rfl hown' ⟨wr.heap.size + 1, 0, none⟩ 1 1 [.int .i64 t.key] rfl rfl hnw.out hone.out h63 hby (by simpa using hbase) ?_); (intro v' w1 hown2 hgrow hnil hat); (obtain ⟨g3, c3, hv, hg0, hg⟩ := hown2.form (by omega)); (subst hv); have hk1 : Kept (fun b => (Value.slice a ks.length c).ownBlock = some b) wr w1 := (((Kept.refl _ _).alloc _).alloc _).grown hgrow (fun k e _ => e); have hM1 := hM.keep hk1 S1.out; have hxb : Blk w1 wr.heap.size 70 #[.int .i64 t.key, .int .i64 t.gap, .int .i64 t.due] := ((Blk.new wr _ _).alloc _).grown hgrow (own_blk_ne hown' ((Blk.new wr _ _).alloc _) (by decide)); have x0 : w1.cell? ⟨wr.heap.size, 0, none⟩ = some (.int .i64 t.key) := hxb.cell' rfl; have x1 : w1.cell? ⟨wr.heap.size, 1, none⟩ = some (.int .i64 t.gap) := hxb.cell' rfl; have x2 : w1.cell? ⟨wr.heap.size, 2, none⟩ = some (.int .i64 t.due) := hxb.cell' rfl; have e0 := hxb.frozen 0; have e1 := hxb.frozen 1; have e2 := hxb.frozen 2; have b1 : w1.cell? ⟨B, 1, none⟩ = some (.int .i64 m) := hM1.blk.cell' rfl; have b2 : w1.cell? ⟨B, 2, none⟩ = some (.slice (some ⟨g, 0, none⟩) M.length vc) := hM1.blk.cell' rfl)
          go_quiet (fail)
          go_wp2_with fail
          have hb5 : Blk (((w1.setCell ⟨wr.heap.size, 1, none⟩ (.int .i64 (2 * t.gap))).drewN nq).setCell ⟨wr.heap.size, 2, none⟩ (.int .i64 (now + 2 * t.gap))) wr.heap.size 70 #[.int .i64 t.key, .int .i64 (2 * t.gap), .int .i64 (now + (2 * t.gap))] := by simpa using ((hxb.set_ 1 (.int .i64 (2 * t.gap))).drewN nq).set_ 2 (.int .i64 (now + 2 * t.gap))
          have hk5 : Kept (fun b => b = wr.heap.size) w1 (((w1.setCell ⟨wr.heap.size, 1, none⟩ (.int .i64 (2 * t.gap))).drewN nq).setCell ⟨wr.heap.size, 2, none⟩ (.int .i64 (now + 2 * t.gap))) := ((((Kept.refl (fun b => b = wr.heap.size) _).setCell (fun _ => rfl) _).drewN nq).setCell (fun _ => rfl) _)
          generalize ((w1.setCell ⟨wr.heap.size, 1, none⟩ (.int .i64 (2 * t.gap))).drewN nq).setCell ⟨wr.heap.size, 2, none⟩ (.int .i64 (now + 2 * t.gap)) = w5 at *
          have hM5 := hM1.keep hk5 (fun b hb e => by have h1 := HL.out b hb; have h2 := hk.size; omega)
          have y0 : w5.cell? ⟨wr.heap.size, 0, none⟩ = some (.int .i64 t.key) := hb5.cell' rfl
          have y1 : w5.cell? ⟨wr.heap.size, 1, none⟩ = some (.int .i64 (2 * t.gap)) := hb5.cell' rfl
          have y2 : w5.cell? ⟨wr.heap.size, 2, none⟩ = some (.int .i64 (now + (2 * t.gap))) := hb5.cell' rfl
          have cB5 : w5.cell? ⟨B, 2, none⟩ = some (.slice (some ⟨g, 0, none⟩) M.length vc) := hM5.blk.cell' rfl
          have fr5 := hM5.own.frozenAt
          have z0 := fr5 (i * 3)
          have z1 := fr5 (i * 3 + 1)
          have z2 := fr5 (i * 3 + 2)
          obtain ⟨g0, c0, hgg, hc5⟩ := hM5.cells (by rintro rfl; simp at hil)
          cases hgg
          obtain ⟨v0, v1, v2⟩ := hc5 i t HT.out
          clear fr5 hc5 x0 x1 x2 b1 b2 e0 e1 e2
          go_region
          have hM6 := hM5.setAt hil ⟨t.key, (2 * t.gap), now + (2 * t.gap)⟩
          have hk6 : Kept (fun b => b = g) w5 (((w5.setCell ⟨g, i * 3, none⟩ (.int .i64 t.key)).setCell ⟨g, i * 3 + 1, none⟩ (.int .i64 (2 * t.gap))).setCell ⟨g, i * 3 + 2, none⟩ (.int .i64 (now + (2 * t.gap)))) := ((((Kept.refl (fun b => b = g) _).setCell (fun _ => rfl) _).setCell (fun _ => rfl) _).setCell (fun _ => rfl) _)
          have HF6 := Lib.hid (first_any (hM6.drewN 1) (by simpa using hMlt))
          clear y0 y1 y2 z0 z1 z2 v0 v1 v2 cB5 cB2 t0 t1 t2
          go_wp2_with (go_at_call 34; refine HF6.out.mono ?_; rintro e w7 ⟨⟨k7, hk7, rfl⟩, q7, rfl⟩; have HK7 := Lib.hid hk7; clear hk7)
          go_roundw
          case rel => exact rdue_rel HL.out LN.out D.out C.out OM.out KM.out hk hown HT.out HMIN.out hd htb (by omega) hl1 hlm hown2 hg0 hk1 hk5 hxb (hk6.drewN _) HK7.out (hM6.drewN _) rfl rfl
          case measure => simp [lenOf]; omega
end
end Go.Proofs.Ytmfjeeogeilgfaa.Al
