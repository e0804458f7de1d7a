/- Due of an Alarm. -/
import Derived.Test.YtmfjeeogeilgfaaAlReset
namespace Go.Proofs.Ytmfjeeogeilgfaa.Al
open Go.RowKit

def T.bump (t : T) (m now : Int) : T := ⟨t.key, min (2 * t.gap) m, now + min (2 * t.gap) m⟩
/-- what Due tells, and what is left: on timers in whatever order -/
inductive DueR (m now : Int) : List T → List Int → List T → Prop
  | stop {ts us : List T} : (∀ t ∈ ts, now < t.due) → ts.Perm us → DueR m now ts [] us
  | step {ts r us : List T} {t : T} {ks : List Int} : ts.Perm (t :: r) → (∀ u ∈ r, t.le u) → t.due ≤ now → DueR m now (t.bump m now :: r) ks us → DueR m now ts (t.key :: ks) us
theorem DueR.perm {m now : Int} {ts ts' us : List T} {ks : List Int} (h : DueR m now ts ks us) (hp : ts'.Perm ts) : DueR m now ts' ks us := by
  cases h with
  | stop h1 h2 => exact .stop (fun t ht => h1 t (hp.mem_iff.1 ht)) (hp.trans h2)
  | step h1 h2 h3 h4 => exact .step (hp.trans h1) h2 h3 h4
def cnt (now : Int) (X : Row) : Nat := X.countP fun x => decide (x.2.due ≤ now)
def lenOf : Value → Nat | .slice _ n _ => n | _ => 0

section
variable {w : World} {A : Nat} {l m : Int} {mv : Value} {X : Row} {F : Nat → Prop}
theorem AlarmAt.lt (h : AlarmAt w A l m X F) : ∀ b, F b → b < w.heap.size := by
  obtain ⟨mv, F0, F1, h1, h2, h3⟩ := h.ex
  intro b hb
  rw [h3] at hb
  rcases hb with hb | hb
  · exact h1.lt b hb
  · rcases h2 with ⟨_, _, f⟩ | ⟨mb, kvs, _, hm, _, f⟩
    · rw [f] at hb; exact hb.elim
    · rw [f] at hb; subst hb; exact hm.lt
theorem AlarmAt.keep {S : Nat → Prop} {w' : World} (h : AlarmAt w A l m X F) (hk : Kept S w w') (hs : ∀ b, F b → ¬ S b) : AlarmAt w' A l m X F := by
  obtain ⟨mv, F0, F1, h1, h2, h3⟩ := h.ex
  refine ⟨⟨mv, F0, F1, h1.keep hk (fun b hb => hs b (by rw [h3]; exact .inl hb)), ?_, h3⟩, h.keys, h.ok, h.lm, h.none0⟩
  rcases h2 with ⟨e, f, g⟩ | ⟨mb, kvs, e, hm, hp, f⟩
  · exact .inl ⟨e, f, g⟩
  · exact .inr ⟨mb, kvs, e, hm.keep hk (hs _ (by rw [h3, f]; exact .inr rfl)), hp, f⟩

theorem due_nil (now : Int) (w : World) : Calls Try.prog 19 #[.pointer none, .int .i64 now] w fun e w' => e = .returned (.slice none 0 0) ∧ w = w' := by
  go_enter Try.func19, Try.ntmps19
  go_wp2_with fail
  go_ret
  exact ⟨rfl, rfl⟩
theorem due_bad (A : Nat) (now : Int) (ht : tickB now = false) (w : World) : Calls Try.prog 19 #[.pointer (some ⟨A, 0, none⟩), .int .i64 now] w fun e w' => e = .returned (.slice none 0 0) ∧ w = w' := by
  have H := Lib.hid ht
  clear ht
  go_enter Try.func19, Try.ntmps19
  go_wp2_with (go_at_call 30; refine (isTick_no H.out _).mono ?_; rintro e w' ⟨rfl, rfl⟩)
  go_ret
  exact ⟨rfl, rfl⟩

def DueRel (w : World) (A : Nat) (l m now : Int) (X : Row) (F : Nat → Prop) (lv : Value) (wr : World) : Prop :=
  ∃ (Y : Row) (G : Nat → Prop) (ks : List Int) (a : Option Addr) (c : Nat), lv = .slice a ks.length c ∧ wr.ownsRow w.heap.size 3 1 lv ks.length (ks.map (Value.int .i64)) ∧ AlarmAt wr A l m Y G ∧ (∀ b, G b → F b) ∧ Y.length = X.length ∧
    (∀ ks' Z, DueR m now (Y.map (·.2)) ks' Z → DueR m now (X.map (·.2)) (ks ++ ks') Z) ∧ ks.length + cnt now Y = cnt now X ∧ Kept F w wr
/-- what Due leaves -/
def DueEnd (w : World) (A : Nat) (l m now : Int) (X : Row) (F : Nat → Prop) (e : Ending) (w' : World) : Prop :=
  ∃ (v : Value) (Y : Row) (G : Nat → Prop) (ks : List Int), e = .returned v ∧ (∃ a c, v = .slice a ks.length c) ∧ w'.ownsRow w.heap.size 3 1 v ks.length (ks.map (Value.int .i64)) ∧ AlarmAt w' A l m Y G ∧ (∀ b, G b → F b) ∧
    DueR m now (X.map (·.2)) ks (Y.map (·.2)) ∧ Kept F w w'
theorem due_end {now : Int} {lv : Value} {wr : World} {Y : Row} {G : Nat → Prop} {ks : List Int} (hv : ∃ a c, lv = .slice a ks.length c) (h1 : wr.ownsRow w.heap.size 3 1 lv ks.length (ks.map (Value.int .i64))) (h2 : AlarmAt wr A l m Y G) (h3 : ∀ b, G b → F b)
    (h5 : ∀ ks' Z, DueR m now (Y.map (·.2)) ks' Z → DueR m now (X.map (·.2)) (ks ++ ks') Z) (h6 : Kept F w wr) (hs : ∀ y ∈ Y, now < y.2.due) : DueEnd w A l m now X F (.returned lv) wr :=
  ⟨lv, Y, G, ks, rfl, hv, h1, h2, h3, by
    have := h5 [] (Y.map (·.2)) (.stop (fun t ht => by obtain ⟨y, hy, rfl⟩ := List.mem_map.1 ht; exact hs y hy) (List.Perm.refl _))
    simpa using this, h6⟩

theorem owns_keep {S : Nat → Prop} {w w' : World} {base n size : Nat} {e : TypeId} {v : Value} {xs : List Value} (h : w.ownsRow base e size v n xs) (hk : Kept S w w') (hs : ∀ b, v.ownBlock = some b → ¬ S b) : w'.ownsRow base e size v n xs := by
  refine ⟨h.1, ?_⟩
  rcases h.2 with h' | ⟨g, cap, cur, rfl, hb, hg, r⟩
  · exact .inl h'
  · exact .inr ⟨g, cap, cur, rfl, hb, hk.blk (t := e) (cs := cur) (hs g rfl) hg, r⟩
theorem HeapAt.setHead {sb cap : Nat} {x : Nat × T} {r : Row} (h : HeapAt w A sb cap l m mv (x :: r)) (g d : Int) :
    HeapAt ((w.setCell ⟨x.1, 1, none⟩ (.int .i64 g)).setCell ⟨x.1, 2, none⟩ (.int .i64 d)) A sb cap l m mv ((x.1, ⟨x.2.key, g, d⟩) :: r) := by
  have hx : (x :: r)[0]? = some x := rfl
  refine ⟨(h.top.far (p := ⟨x.1, 1, none⟩) (h.A_ne hx) _).far (p := ⟨x.1, 2, none⟩) (h.A_ne hx) _, ?_, h.len, fun i y hy => ?_, by simpa using h.nod, h.capM⟩
  · obtain ⟨cs, hb, h2, h3⟩ := h.row
    refine ⟨cs, (hb.far (p := ⟨x.1, 1, none⟩) (h.sb_ne hx) _).far (p := ⟨x.1, 2, none⟩) (h.sb_ne hx) _, h2, fun i y hy => ?_⟩
    cases i with
    | zero => simp at hy; subst hy; exact h3 0 x hx
    | succ i => exact h3 (i + 1) y hy
  · cases i with
    | zero =>
      simp at hy; subst hy
      simpa [tcells] using ((h.tim 0 x hx).set_ 1 (.int .i64 g)).set_ 2 (.int .i64 d)
    | succ i =>
      have hy' : (x :: r)[i + 1]? = some y := hy
      have hne := h.ne_blocks hy' hx (by omega)
      exact ((h.tim (i + 1) y hy').far (p := ⟨x.1, 1, none⟩) hne _).far (p := ⟨x.1, 2, none⟩) hne _

/-- what one round of Due does to its relation -/
theorem due_rel {now : Int} {a : Option Addr} {c g c' sb cap : Nat} {ks : List Int} {wr w1 w4 : World} {x : Nat × T} {r Z : Row} {G F0 F1 : Nat → Prop} {ng : Int}
    (hlt : ∀ b, F b → b < w.heap.size) (hY : AlarmAt wr A l m (x :: r) G) (hG : ∀ b, G b → F b) (hlen : (x :: r).length = X.length)
    (hD : ∀ ks' Z, DueR m now ((x :: r).map (·.2)) ks' Z → DueR m now (X.map (·.2)) (ks ++ ks') Z) (hcnt : ks.length + cnt now (x :: r) = cnt now X) (hk : Kept F w wr)
    (hown : wr.ownsRow w.heap.size 3 1 (.slice a ks.length c) ks.length (ks.map (Value.int .i64))) (h2 : MapAt wr mv (x :: r) F1) (h3 : G = fun b => F0 b ∨ F1 b) (hH : HeapAt wr A sb cap l m mv (x :: r)) (hok : HeapOk (x :: r)) (h4 : F0 = fun b => b = A ∨ HF sb (x :: r) b)
    (hd : x.2.due ≤ now) (htb : 0 ≤ now ∧ now ≤ 2147483647) (hng : ng = min (2 * x.2.gap) m)
    (hown2 : w1.ownsRow w.heap.size 3 1 (.slice (some ⟨g, 0, none⟩) (ks.length + 1) c') (ks.length + 1) (ks.map (Value.int .i64) ++ [.int .i64 x.2.key])) (hg0 : w.heap.size ≤ g) (hk1 : Kept (fun b => (Value.slice a ks.length c).ownBlock = some b) wr w1)
    (hZ : HeapAt w4 A sb cap l m mv Z) (hokZ : HeapOk Z) (hpZ : Z.Perm ((x.1, ⟨x.2.key, ng, now + ng⟩) :: r))
    (hk4 : Kept (HF sb ((x.1, ⟨x.2.key, ng, now + ng⟩) :: r)) ((w1.setCell ⟨x.1, 1, none⟩ (.int .i64 ng)).setCell ⟨x.1, 2, none⟩ (.int .i64 (now + ng))).drew w4) :
    DueRel w A l m now X F (.slice (some ⟨g, 0, none⟩) (ks.length + 1) c') w4 := by
  have hx1 : ∀ b, F0 b → F b := fun b hb => hG b (by rw [h3]; exact .inl hb)
  have hx2 : ∀ b, F1 b → F b := fun b hb => hG b (by rw [h3]; exact .inr hb)
  have hHF : ∀ b, HF sb ((x.1, ⟨x.2.key, ng, now + ng⟩) :: r) b → HF sb (x :: r) b := fun b hb => by simpa [HF] using hb
  have hF0 : ∀ b, HF sb (x :: r) b → F0 b := fun b hb => by rw [h4]; exact .inr hb
  have hxF : F0 x.1 := hF0 _ (.inr (by simp))
  have hsep : ∀ b, F b → ¬ (Value.slice a ks.length c).ownBlock = some b := fun b hb e => by have h1 := hlt b hb; have h2 := (hown.lt b e).1; omega
  have hk3 : Kept (fun b => b = x.1) w1 ((w1.setCell ⟨x.1, 1, none⟩ (.int .i64 ng)).setCell ⟨x.1, 2, none⟩ (.int .i64 (now + ng))).drew := (((Kept.refl (fun b => b = x.1) _).setCell (fun _ => rfl) _).setCell (fun _ => rfl) _).drew
  have hkF0 : ∀ b, HF sb Z b → F0 b := fun b hb => hF0 b (hHF b (HF_perm hpZ hb))
  have hRow : RowAt wr A l m mv (x :: r) F0 := .inr ⟨sb, cap, hH, hok, h4⟩
  have hl1 : l ≠ 0 := fun e => by have := hY.none0 e; cases this
  have hlm := hY.lm
  have ho := hY.ok x (List.mem_cons_self ..)
  unfold TOk at ho
  unfold LM at hlm
  have hsize := hk.size
  have hsize1 := hk1.size
  have hsize3 := hk3.size
  refine ⟨Z, fun b => (b = A ∨ HF sb Z b) ∨ F1 b, ks ++ [x.2.key], some ⟨g, 0, none⟩, c', by simp, ?_, ⟨⟨mv, _, F1, .inr ⟨sb, cap, hZ, hokZ, rfl⟩, ?_, rfl⟩, ?_, ?_, hY.lm, fun e => (hl1 e).elim⟩, ?_, ?_, ?_, ?_, ?_⟩
  · have h5 := owns_keep (owns_keep hown2 hk3 (fun b hb e => by
      have : g = b := by simpa [Value.ownBlock] using hb
      have := hlt _ (hx1 _ hxF); omega)) hk4 (fun b hb e => by
      have : g = b := by simpa [Value.ownBlock] using hb
      have := hlt _ (hx1 _ (hF0 _ (hHF _ e))); omega)
    simpa using h5
  · rcases h2 with ⟨_, e, _⟩ | ⟨mb, kvs, e, hm, hp, f⟩
    · cases e
    · have hmF : F mb := hx2 mb (by rw [f])
      have hn0 := hRow.not_map hm
      refine .inr ⟨mb, kvs, e, ((hm.keep hk1 (hsep _ hmF)).keep hk3 (fun e => hn0 (e ▸ hxF))).keep hk4 (fun hb => hn0 (hF0 _ (hHF _ hb))), hp.trans ?_, f⟩
      have := (hpZ.map kv).symm
      simpa [kv] using this
  · have := (hpZ.map (·.2.key)).nodup_iff.2 (by simpa using hY.keys)
    exact this
  · intro y hy
    rcases List.mem_cons.1 (hpZ.mem_iff.1 hy) with e | e
    · subst e; unfold TOk; simp only; omega
    · exact hY.ok y (List.mem_cons_of_mem _ e)
  · intro b hb
    rcases hb with (hb | hb) | hb
    · exact hx1 b (by rw [h4]; exact .inl hb)
    · exact hx1 b (hkF0 b hb)
    · exact hx2 b hb
  · rw [hpZ.length_eq]; simpa using hlen
  · intro ks' U hU
    have h6 : DueR m now ((x :: r).map (·.2)) (x.2.key :: ks') U := by
      refine .step (List.Perm.refl _) (fun u hu => ?_) hd (hU.perm ?_)
      · obtain ⟨y, hy, rfl⟩ := List.mem_map.1 hu
        obtain ⟨i, hi⟩ := List.getElem?_of_mem hy
        have hi' : (x :: r)[i + 1]? = some y := hi
        have := Hp.ok_min T.le_refl T.le_trans hok (i + 1) (lt_of_get hi')
        rw [fX_get hi', fX_get (X := x :: r) (i := 0) rfl] at this
        exact this
      · have := (hpZ.map (·.2)).symm
        simpa [T.bump, hng] using this
    have := hD _ _ h6
    simpa using this
  · have h7 : cnt now Z = cnt now ((x.1, ⟨x.2.key, ng, now + ng⟩) :: r) := hpZ.countP_eq _
    rw [h7]
    have h8 : cnt now (x :: r) = cnt now r + 1 := by simp [cnt, hd]
    have h9 : cnt now ((x.1, (⟨x.2.key, ng, now + ng⟩ : T)) :: r) = cnt now r := by
      have : ¬ now + ng ≤ now := by omega
      simp [cnt, this]
    rw [h9]
    rw [h8] at hcnt
    simp
    omega
  · exact ((hk.trans hk1 (fun b hb e => absurd (hown.lt b e).1 (by omega))).trans hk3 (fun b _ e => hx1 b (e ▸ hxF))).trans hk4 (fun b _ hb => hx1 b (hF0 b (hHF b hb)))

theorem info_int : (Try.prog.info? 3).map (fun i => (i.zero, i.size, i.bytes)) = some (some (.int .i64 0), 1, 8) := by kernel_rfl

set_option maxHeartbeats 1000000 in
theorem due_ok (h : AlarmAt w A l m X F) (now : Int) (ht : tickB now = true) (hbig : X.length ≤ 1000000) :
    Calls Try.prog 19 #[.pointer (some ⟨A, 0, none⟩), .int .i64 now] w fun e w' => DueEnd w A l m now X F e w' := by
  have htb : 0 ≤ now ∧ now ≤ 2147483647 := by simpa [tickB] using ht
  have H := Lib.hid ht
  have hlt := h.lt
  have HL := Lib.hid hlt
  clear ht hlt
  obtain ⟨i0, hi, hz0, hz1, hz2⟩ := info_parts info_int
  have I0 := Lib.hid hi
  have I1 := Lib.hid hz0
  have I2 := Lib.hid hz1
  have I3 := Lib.hid hz2
  clear hi hz0 hz1 hz2
  go_enter Try.func19, Try.ntmps19
  go_wp2_with (go_at_call 30; refine (isTick_yes H.out _).mono ?_; rintro e w' ⟨rfl, rfl⟩)
  go_loopw [5] (fun lv wr => DueRel w A l m now X F lv wr) (fun lv _ => cnt now X - lenOf lv)
  case atStart => exact ⟨X, F, [], none, 0, rfl, World.ownsRow_nil _ _ _ _, h, fun _ hb => hb, rfl, fun ks' Z hd => by simpa using hd, by simp, Kept.refl _ _⟩
  case round =>
    obtain ⟨Y, G, ks, a, c, rfl, hown, hY, hG, hlen, hD, hcnt, hk⟩ := hrel
    have D := Lib.hid hD
    have C := Lib.hid hcnt
    have L := Lib.hid hlen
    have hYlt : Y.length ≤ 1000000 := by omega
    clear hD hcnt hlen
    cases Y with
    | nil =>
      obtain ⟨mv, F0, F1, h1, h2, h3⟩ := hY.ex
      obtain ⟨sa, sc, hs⟩ := h1.slice
      clear h3
      go_wp2_with fail
      go_ret
      exact due_end ⟨_, _, rfl⟩ hown hY hG D.out hk (by simp)
    | cons x r =>
      obtain ⟨mv, F0, F1, h1, h2, h3⟩ := hY.ex
      have E3 := Lib.hid h3
      clear h3
      rcases h1 with ⟨e, _⟩ | ⟨sb, cap, hH, hok, f⟩
      · cases e
      have E4 := Lib.hid f
      clear f
      have c3 : wr.cell? ⟨A, 3, none⟩ = some (.slice (some ⟨sb, 0, none⟩) (r.length + 1) cap) := hH.sl
      have cp := hH.ptr (i := 0) (x := x) rfl
      have ct0 : wr.cell? ⟨x.1, 0, none⟩ = some (.int .i64 x.2.key) := (hH.tim 0 x rfl).cell' rfl
      have ct1 : wr.cell? ⟨x.1, 1, none⟩ = some (.int .i64 x.2.gap) := (hH.tim 0 x rfl).cell' rfl
      have ct2 : wr.cell? ⟨x.1, 2, none⟩ = some (.int .i64 x.2.due) := (hH.tim 0 x rfl).cell' rfl
      have hr0 : (0 : Int) < (r.length : Int) + 1 := by omega
      by_cases hd : x.2.due ≤ now
      case neg =>
        have hd' : decide (x.2.due ≤ now) = false := by simpa using hd
        go_wp2_with fail
        go_ret
        refine due_end ⟨_, _, rfl⟩ hown hY hG D.out hk fun y hy => ?_
        obtain ⟨i, hi⟩ := List.getElem?_of_mem hy
        have := Hp.ok_min T.le_refl T.le_trans hok i (lt_of_get hi)
        rw [fX_get hi, fX_get (X := x :: r) (i := 0) rfl] at this
        unfold T.le at this
        omega
      case pos =>
        have hd' : decide (x.2.due ≤ now) = true := by simpa using hd
        have hcx : cnt now X ≤ X.length := List.countP_le_length
        have hks : ks.length ≤ 1000000 := by have := C.out; omega
        have hcl : ks.length + 1 ≤ cnt now X := by have h1 := C.out; have h2 : cnt now (x :: r) = cnt now r + 1 := by { simp [cnt, hd] }; omega
        have h63 : ks.length + 1 ≤ maxLen := by simp only [maxLen]; omega
        have hby : (ks.length + 1) * 8 ≤ 140737488355328 := by omega
        have hbase : w.heap.size ≤ wr.heap.size + 1 := by have := hk.size; omega
        have hone0 : ∀ u ∈ [Value.int .i64 x.2.key], u.oneCell' = true := by simp [Value.oneCell']
        have hone := Lib.hid hone0
        clear hone0
        have hok1 := hY.ok x (List.mem_cons_self ..)
        have hlm := hY.lm
        have hl1 : l ≠ 0 := fun e => by have := hY.none0 e; cases this
        unfold TOk at hok1
        unfold LM at hlm
        obtain ⟨hl0, hlm1, hm0⟩ := hlm
        obtain ⟨hg1, hg2, hu1, hu2⟩ := hok1
        have hG' : ∀ b, b = A ∨ HF sb (x :: r) b → F b := fun b hb => hG b (by rw [E3.out]; left; rw [E4.out]; exact hb)
        have hsep : ∀ b, F b → ¬ (Value.slice a ks.length c).ownBlock = some b := fun b hb e => by have h1 := HL.out b hb; have h2 := (hown.lt b e).1; omega
        have S1 := Lib.hid hsep
        have S2 := Lib.hid hG'
        clear hsep hG'
        go_wp2_with (at_builtin; (refine wpList_append_own_at _ rfl (.tmp 39) (.tmp 44) 52 rfl w.heap.size 3 i0 (.int .i64 0) 1 8 Try.underlying52 I0.out I1.out I2.out I3.out rfl (by decide) _ _ _ rfl (hown.alloc _) ⟨wr.heap.size, 0, none⟩ 1 1 [.int .i64 x.2.key] rfl rfl (cell_one_new _ _ _) hone.out h63 hby (by simpa using hbase) ?_); (intro v' w1 hown2 hgrow hnil hat); (obtain ⟨g, c', hv, hg0, hg⟩ := hown2.form (by omega)); (subst hv); have hk1 : Kept (fun b => (Value.slice a ks.length c).ownBlock = some b) wr w1 := ((Kept.refl _ _).alloc _).grown hgrow (fun k e _ => e); have hH1 := hH.keep hk1 (S1.out _ (S2.out _ (.inl rfl))) (fun b hb => S1.out _ (S2.out _ (.inr hb))); have t1 : w1.cell? ⟨x.1, 1, none⟩ = some (.int .i64 x.2.gap) := (hH1.tim 0 x rfl).cell' rfl; have t2 : w1.cell? ⟨x.1, 2, none⟩ = some (.int .i64 x.2.due) := (hH1.tim 0 x rfl).cell' rfl; have f1 := (hH1.tim 0 x rfl).frozen 1; have f2 := (hH1.tim 0 x rfl).frozen 2; have a1 : w1.cell? ⟨A, 1, none⟩ = some (.int .i64 m) := hH1.top.cell' rfl)
        go_region
        generalize hngE : (if m < 2 * x.2.gap then m else 2 * x.2.gap) = ng
        have hng0 : ng = min (2 * x.2.gap) m := by rw [← hngE]; split <;> omega
        have hng1 : 0 ≤ ng ∧ ng ≤ 4096 := by omega
        have N := Lib.hid hng0
        clear hng0 hngE
        have hw9 : 0 ≤ now + ng ∧ now + ng ≤ 9223372036854775807 := by omega
        obtain ⟨hng2, hng3⟩ := hng1
        obtain ⟨hw1, hw2⟩ := hw9
        have hH3 := (hH1.setHead ng (now + ng)).drewN 1
        go_wp2_with fail
        refine (hfix (i := 0) hH3 (by simp) ?hdn (by simpa using hYlt)).mono ?_
        case hdn => exact Hp.down_of_ok hok 0 _ (fun k hk => by cases k with | zero => exact absurd rfl hk | succ k => rfl) T.le_trans
        rintro e w4 ⟨rfl, Z, hZ, hokZ, hpZ, hk4⟩
        have P := Lib.hid hpZ
        clear hpZ
        go_wp2_with fail
        go_roundw
        case rel => exact due_rel HL.out hY hG L.out D.out C.out hk hown h2 E3.out hH hok E4.out hd htb N.out hown2 hg0 hk1 hZ hokZ P.out hk4
        case measure => simp [lenOf]; omega
end
end Go.Proofs.Ytmfjeeogeilgfaa.Al
