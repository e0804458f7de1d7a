/- hearsayref6.Pack. New, Kept, Delete, Settle, why. -/
import Derived.Test.YtlafodnaifghcaaGreatH26
import Derived.Test.YtlafodnaifghcaaGreatH12
import Derived.Test.YtlafodnaifghcaaGreatH3
import Derived.WideLaws
namespace Go.Proofs.YtlafodnaifghcaaGreat.St
open Go.RowKit

theorem owns_base {w : World} {base base' n size : Nat} {e : TypeId} {v : Value} {xs : List Value} (h : w.ownsRow base e size v n xs) (hb : base' ≤ base) : w.ownsRow base' e size v n xs := by
  refine ⟨h.1, ?_⟩
  rcases h.2 with h' | ⟨g, cap, cur, rfl, hb', r⟩
  · exact .inl h'
  · exact .inr ⟨g, cap, cur, rfl, Nat.le_trans hb hb', r⟩
theorem OwnAt.ownsR {w : World} {t : TypeId} {g cap n base : Nat} {D : List Run} (h : OwnAt runE w t g cap D) (hb : base ≤ g) (hn : D.length = n) : w.ownsRow base t 3 (.slice (some ⟨g, 0, none⟩) n cap) D.length (runE.flat D) := by
  subst hn; exact h.owns hb
theorem next_cases (r : Run) (x : ID) : (r.next = x ∧ (r.id.s == x.s) = true ∧ (r.id.t + r.c == x.t) = true) ∨ (r.next ≠ x ∧ (r.id.s == x.s) = false) ∨ (r.next ≠ x ∧ (r.id.s == x.s) = true ∧ (r.id.t + r.c == x.t) = false) := by
  by_cases h1 : r.id.s = x.s
  · by_cases h2 : r.id.t + r.c = x.t
    · exact .inl ⟨ID.ext h2 h1, by simpa using h1, by simpa using h2⟩
    · exact .inr (.inr ⟨fun e => h2 (by have := congrArg ID.t e; exact this), by simpa using h1, by simpa using h2⟩)
  · exact .inr (.inl ⟨fun e => h1 (by have := congrArg ID.s e; exact this), by simpa using h1⟩)
/-- where the outer loop stands -/
def RpRel (w1 : World) (S : List ID) (rv iv : Value) (wr : World) : Prop :=
  ∃ n : Nat, iv = .int .i64 n ∧ n ≤ S.length ∧ wr.ownsRow w1.heap.size 69 3 rv (packL (S.take n)).length (runE.flat (packL (S.take n))) ∧ Kept (fun _ => False) w1 wr
/-- where the inner loop stands -/
def RgRel (w1 : World) (out : List Run) (x : ID) (ra : Option Addr) (rc : Nat) (gv kv : Value) (w2 : World) : Prop :=
  ∃ (k : Nat) (D : List Run) (b : Bool), gv = .bool b ∧ kv = .int .i64 k ∧ k ≤ out.length ∧ (b = false → D = out ∧ ∀ (j : Nat) (r : Run), j < k → out[j]? = some r → r.next ≠ x) ∧ (b = true → D = packStep out x) ∧
    w2.ownsRow w1.heap.size 69 3 (.slice ra out.length rc) D.length (runE.flat D) ∧ Kept (fun _ => False) w1 w2
set_option maxRecDepth 100000 in
set_option maxHeartbeats 4000000 in
theorem rpack_any {w : World} {v : Value} {L : List ID} (h : SlAt idE w v L) (hb : L.length ≤ 1000000) : Calls Tryz.prog 75 #[v] w fun e w' => ∃ v' S, e = .returned v' ∧ SetOf L S ∧ S.length ≤ L.length ∧ w'.ownsRow w.heap.size 69 3 v' (packL S).length (runE.flat (packL S)) ∧ Kept (fun _ => False) w w' := by
  go_enter Tryz.func75, Tryz.ntmps75
  go_wp2_with fail
  refine (sorted_any h hb).mono ?_
  rintro e w1 ⟨v1, S, rfl, hset, hSL, ho, hk1⟩
  have hSl : S.length ≤ 1000000 := by omega
  have hS1 := owns_slAt (E := idE) ho
  obtain ⟨a1, c1, rfl, _, _⟩ := hS1.sl
  have HS := Lib.hid hS1
  have SE := Lib.hid hset
  have HK := Lib.hid hk1
  clear h hset hS1 hk1 ho
  go_wp2_with fail
  go_loopw [4, 5] (fun rv iv wr => RpRel w1 S rv iv wr) (fun _ iv _ => S.length - (intOf iv).toNat)
  case atStart => exact ⟨0, rfl, Nat.zero_le _, World.ownsRow_nil _ _ _ _, Kept.refl _ _⟩
  case round =>
    obtain ⟨n, rfl, hn, hown, hkw⟩ := hrel
    by_cases hlt : n < S.length
    case neg =>
      have hge : S.length ≤ n := by omega
      rw [List.take_of_length_le hge] at hown
      have OW := Lib.hid hown
      clear hown
      obtain ⟨ra, rc, rfl⟩ := owns_sl OW.out
      go_wp2_with fail
      go_ret
      exact ⟨_, S, rfl, SE.out, hSL, owns_base OW.out HK.out.size, HK.out.trans hkw (fun _ _ h => h)⟩
    case pos =>
      obtain ⟨ra, rc, rfl⟩ := owns_sl hown
      obtain ⟨x, hx⟩ := get_of_lt hlt
      obtain ⟨g, o, c', hv, hglt, hc⟩ := SlAt.id HS.out (by omega)
      cases hv
      have C0 := Lib.hid (hc n x hx).1
      have C1 := Lib.hid (hc n x hx).2
      have ho1 := packOk_take SE.out.1 n hn
      have hpl := packL_len (S.take n)
      rw [List.length_take] at hpl
      have hids : ∀ r ∈ packL (S.take n), 1 ≤ r.id.t ∧ 1 ≤ r.c ∧ r.id.t + r.c ≤ 2147483648 := fun r hr => ⟨((SE.out.2 r.id).1 (List.mem_of_mem_take (packL_ids _ r hr))).2.1, ho1.pos r hr, by
        have h1 := ((SE.out.2 r.fin).1 (List.mem_of_mem_take (ho1.fin r hr))).2.2.1
        simp only [Run.fin] at h1
        omega⟩
      have hsucc := packL_take_succ hx
      generalize packL (S.take n) = out at *
      have SU := Lib.hid hsucc
      have OK1 := Lib.hid ho1
      have IDS := Lib.hid hids
      have X0 := Lib.hid hx
      have OW := Lib.hid hown
      have KW := Lib.hid hkw
      have hn0 : (0 : Int) ≤ n := by omega
      have hnl : (n : Int) < S.length := by omega
      have hol : out.length ≤ 1000000 := by omega
      clear hc hx ho1 hpl hids hsucc hown hkw
      go_wp2_with fail
      go_loopw [6, 7] (fun gv kv w2 => RgRel w1 out x ra rc gv kv w2) (fun _ kv _ => out.length - (intOf kv).toNat)
      case atStart => exact ⟨0, out, false, rfl, rfl, Nat.zero_le _, fun _ => ⟨rfl, fun j r hj _ => by omega⟩, (fun e => by cases e), OW.out, KW.out⟩
      case round =>
        clear OW KW
        obtain ⟨k, D, b, rfl, rfl, hk, hf, ht, hown, hkw⟩ := hrel
        cases b with
        | true =>
          rw [ht rfl] at hown
          have OW := Lib.hid hown
          clear hf ht hown
          by_cases hkl : k < out.length
          all_goals
            go_wp2_with fail
            go_roundw
            case rel => exact ⟨n + 1, by go_num, by omega, by rw [SU.out]; exact OW.out, hkw⟩
            case measure => simp [intOf] <;> omega
        | false =>
          have NO := Lib.hid (hf rfl).2
          rw [(hf rfl).1] at hown
          clear hf ht
          have c0 := old_cell hkw C0.out
          have c1 := old_cell hkw C1.out
          have hk0 : (0 : Int) ≤ k := by omega
          by_cases hkl : k < out.length
          case pos =>
            obtain ⟨r, hr⟩ := get_of_lt hkl
            obtain ⟨_, ⟨_, hno⟩ | ⟨g2, cap2, hv2, hgb2, hR⟩⟩ := own_of (E := runE) hown
            · rw [hno] at hr; simp at hr
            cases hv2
            obtain ⟨r0, r1, r2⟩ := OwnAt.run hR hr
            obtain ⟨i1, i2, i3⟩ := IDS.out r (List.mem_of_getElem? hr)
            have rf := hR.frozen (k * 3 + 2)
            have hkli : (k : Int) < out.length := by omega
            have HR := Lib.hid hR
            have R0 := Lib.hid hr
            have OW := Lib.hid hown
            clear hR hr hown
            rcases next_cases r x with ⟨hx, e1, e2⟩ | ⟨hx, e1⟩ | ⟨hx, e1, e2⟩
            · have PS := Lib.hid (packStep_some (growAt_of OK1.out.nodup R0.out hx) R0.out)
              clear hx
              go_wp2_with fail
              go_quiet (fail)
              go_wp2_with fail
              go_roundw
              case rel =>
                refine ⟨k + 1, out.set k r.up, true, rfl, by go_num, by omega, (fun e => by cases e), fun _ => PS.out.symm, ?_, Kept.newer (hkw.drewN _) ((Kept.refl (· = g2) _).setCell (fun _ => rfl) _) hgb2⟩
                exact OwnAt.ownsR (OwnAt.set1of3 (m := 2) (y := r.up) (HR.out.keep ((Kept.refl (fun _ => False) _).drewN _) (fun h => h)) R0.out (by decide) (by rfl : runE.enc r.up = (runE.enc r).set 2 (.int .i64 (r.c + 1)))) hgb2 (by simp)
              case measure => simp [intOf] <;> omega
            all_goals
              have HX := Lib.hid hx
              clear hx
              go_wp2_with fail
              go_quiet (fail)
              go_wp2_with fail
              go_roundw
              case rel =>
                refine ⟨k + 1, out, false, rfl, by go_num, by omega, fun _ => ⟨rfl, fun j r' hj hr' => ?_⟩, (fun e => by cases e), owns_keep OW.out ((Kept.refl (fun _ => False) _).drewN _) (fun _ _ h => h), hkw.drewN _⟩
                by_cases hjk : j = k
                · subst hjk; cases Option.some.inj (R0.out.symm.trans hr'); exact HX.out
                · exact NO.out j r' (by omega) hr'
              case measure => simp [intOf] <;> omega
          case neg =>
            obtain rfl : k = out.length := by omega
            have hgn : growAt out x = none := by
              cases hg : growAt out x with
              | none => rfl
              | some i =>
                obtain ⟨r, h1, h2⟩ := growAt_some hg
                exact absurd h2 (NO.out i r ((List.getElem?_eq_some_iff.1 h1).1) h1)
            have PS : Hid (packStep out x = out ++ [⟨x, 1⟩]) := by show packStep out x = _; unfold packStep; rw [hgn]
            clear hgn
            have hgb : ∀ b, (Value.slice ra out.length rc).ownBlock = some b → w1.heap.size ≤ b := fun b e => by
              rcases hown.2 with ⟨e2, _⟩ | ⟨g3, c2, cur, e2, h1, h2, _⟩
              · rw [e2] at e; cases e
              · rw [e2] at e; cases e; exact h1
            have HGB := Lib.hid hgb
            obtain ⟨i0, hi, hz0, hz1, hz2⟩ := info_parts info_run
            have I := Lib.hid hi
            have Z0 := Lib.hid hz0
            have Z1 := Lib.hid hz1
            have Z2 := Lib.hid hz2
            have hone : ∀ u ∈ [Value.int .i64 x.t, .int .i64 x.s, .int .i64 1], u.oneCell' = true := by simp [Value.oneCell']
            have H1 := Lib.hid hone
            have hnw : ∀ j u, [Value.int .i64 x.t, .int .i64 x.s, .int .i64 1][j]? = some u → (wr.alloc (.cells #[.int .i64 x.t, .int .i64 x.s, .int .i64 1] 69)).cell? ((⟨wr.heap.size, 0, none⟩ : Addr).add j) = some u := fun j u hu => by
              rw [Addr.add_lit, Nat.zero_add]
              have hb := Blk.new wr 69 #[.int .i64 x.t, .int .i64 x.s, .int .i64 1]
              refine hb.cell' ?_
              rw [← Array.getElem?_toList]
              exact hu
            have NW := Lib.hid hnw
            have h63 : out.length + 1 ≤ maxLen := by unfold maxLen; omega
            have hby : (out.length + 1) * 24 ≤ 140737488355328 := by omega
            have hbase : w1.heap.size ≤ wr.heap.size := hkw.size
            have OW4 := Lib.hid (hown.alloc (.cells #[.int .i64 x.t, .int .i64 x.s, .int .i64 1] 69))
            have K4 := Lib.hid (hkw.alloc (.cells #[.int .i64 x.t, .int .i64 x.s, .int .i64 1] 69))
            clear hi hz0 hz1 hz2 hone hnw hgb hown
            go_wp2_with (at_builtin; (refine wpList_append_own _ rfl (.tmp 68) (.tmp 74) 38 rfl w1.heap.size 69 i0 (.agg #[.int .i64 0, .int .i64 0, .int .i64 0]) 3 24 Tryz.underlying38 I.out Z0.out Z1.out Z2.out rfl (by decide) _ _ _ rfl OW4.out ⟨wr.heap.size, 0, none⟩ 1 1 [.int .i64 x.t, .int .i64 x.s, .int .i64 1] rfl rfl NW.out H1.out h63 hby (by simp; omega) ?_); (intro v' w5 hown5 hgrow0 _); have hgrow : World.grownBy _ w5 (Value.slice ra out.length rc).ownBlock := hgrow0; clear hgrow0; have hkg : Kept (fun b => (Value.slice ra out.length rc).ownBlock = some b) _ w5 := Kept.grown (Kept.refl _ _) hgrow (fun k e _ => e); have K5 := Lib.hid (K4.out.trans hkg (fun i hi e => by have := HGB.out i e; omega)); have O5 := Lib.hid hown5; clear hkg hgrow hown5 K4 OW4 NW)
            go_roundw
            case rel => exact ⟨n + 1, by go_num, by omega, by rw [SU.out, PS.out, runE.flat_append, runE.flat_one, List.length_append]; exact O5.out, K5.out⟩
            case measure => simp [intOf] <;> omega
end Go.Proofs.YtlafodnaifghcaaGreat.St
namespace Go.Proofs.YtlafodnaifghcaaGreat.Tr
open Go.RowKit Go.Proofs.YtlafodnaifghcaaGreat.St
theorem run_lookupK_nil {P : Program} {T kt et : TypeId} {κ : Type} [DecidableEq κ] {K : KeyE P kt κ} {k : κ} {w : World} (ht : P.underlying T = some (.map kt et)) {z : Value} (hz : (zeroValue et).run P w = .ok z w) :
    (Instr.lookup T (.map none) (K.enc k) false).run P w = .ok z w := by
  have h := run_findKey_any (P := P) (w := w) (K := K) (kvs := []) (k := k) (es := []) rfl
  simp [Instr.lookup, run_underlying ht, Result.andThen, K.check, h, findK, hz]
variable {w w' : World} {g : Nat} {L : List Nd} {A : ID → Nat} {S : ID → Rw} {mp : Option Nat}
set_option maxRecDepth 100000 in
/-- what a look-up of an identifier gives -/
theorem TAt.look (h : TAt w g L A S mp) (r : ID) : (Instr.lookup 28 (.map mp) (.agg #[.int .i64 r.t, .int .i64 r.s]) false).run Tryz.prog w = .ok (.pointer (if r ∈ ids L then some ⟨A r, 0, none⟩ else none)) w := by
  rcases h.by_ with ⟨rfl, rfl⟩ | ⟨b, kvs, rfl, hm, _, _, hk⟩
  · exact run_lookupK_nil (K := keyI) (k := r) Tryz.underlying28 (by kernel_rfl)
  · have h1 := hk r
    by_cases hr : r ∈ ids L
    · rw [if_pos hr] at h1 ⊢
      exact run_lookupK (K := keyI) (k := r) Tryz.underlying28 hm h1
    · rw [if_neg hr] at h1 ⊢
      exact run_lookupK_none (K := keyI) (k := r) Tryz.underlying28 hm h1 (by kernel_rfl)
theorem new_any (w : World) : Calls Tryz.prog 9 #[] w fun e w' => e = .returned (.pointer (some ⟨w.heap.size, 0, none⟩)) ∧ w' = w.alloc (.cells #[.slice none 0 0, .map none] 30) := by
  go_enter Tryz.func9, Tryz.ntmps9
  go_wp2
  go_ret
  exact ⟨rfl, rfl⟩
theorem new_at (w : World) : TAt (w.alloc (.cells #[.slice none 0 0, .map none] 30)) w.heap.size [] (fun _ => 0) (fun _ => ⟨none, 0, 0⟩) none where
  top := Blk.new w _ _
  elt := fun n hn => by simp at hn
  row := fun r _ => .inl ⟨rfl, rfl⟩
  by_ := .inl ⟨rfl, rfl⟩
  one := fun x hx => by simp [ids] at hx
  far := fun x y hx hy b hb => by cases hb
set_option maxRecDepth 100000 in
theorem kept_any (h : TAt w g L A S mp) : Calls Tryz.prog 29 #[.pointer (some ⟨g, 0, none⟩)] w fun e w' => e = .returned (.int .i64 L.length) ∧ w = w' := by
  have x1 : w.cell? ⟨g, 1, none⟩ = some (.map mp) := h.top.cell' rfl
  rcases h.by_ with ⟨rfl, rfl⟩ | ⟨b, kvs, rfl, hm, _, hl, _⟩
  · clear h
    go_enter Tryz.func29, Tryz.ntmps29
    go_wp2
    go_ret
    exact ⟨rfl, rfl⟩
  · obtain ⟨es, clk, hb, he⟩ := hm
    have hs : es.size = L.length := by have := congrArg List.length he; simp at this; omega
    have hu : Tryz.prog.underlying 28 = some (.map (Tryz.prog.mapKeyOf 28) (Tryz.prog.mapElemOf 28)) := by kernel_rfl
    have hrun : (Builtin.len_ #[28] 3 #[.map (some b)]).run Tryz.prog w = .ok (.int .i64 es.size) w := run_len_map w _ _ b es clk hu hb
    clear h he hu
    go_enter Tryz.func29, Tryz.ntmps29
    go_wp2
    go_ret
    exact ⟨rfl, rfl⟩
set_option maxRecDepth 100000 in
theorem delete_any (h : TAt w g L A S mp) (hdoc : Doc L) (hlen : L.length ≤ 900000) (hID : ∀ n ∈ L, 0 ≤ n.id.t ∧ n.id.t ≤ 2147483647)
    {v : Value} {rs : List Run} (hv : SlAt runE w v rs) (hin : ∀ r ∈ rs, r.In) (hrl : rs.length ≤ 1000000000) (hvb : ∀ b, v.ownBlock = some b → b < w.heap.size → ¬ eltM L A b) :
    Calls Tryz.prog 24 #[.pointer (some ⟨g, 0, none⟩), v] w fun e w' => e = .returned (.int .i64 (turnN rs 1 L)) ∧ TAt w' g (L.map (turnF rs 1 2)) A S mp ∧ Kept (eltM L A) w w' := by
  have HT := Lib.hid (turn_any h hdoc hlen hID hv hin hrl hvb 1 2)
  clear h hv hvb
  go_enter Tryz.func24, Tryz.ntmps24
  go_wp2_with (go_at_call 62; refine HT.out.mono ?_; rintro e w' ⟨rfl, h1, h2⟩)
  go_ret
  exact ⟨rfl, h1, h2⟩
set_option maxRecDepth 100000 in
theorem settle_any (h : TAt w g L A S mp) (hdoc : Doc L) (hlen : L.length ≤ 900000) (hID : ∀ n ∈ L, 0 ≤ n.id.t ∧ n.id.t ≤ 2147483647)
    {v : Value} {rs : List Run} (hv : SlAt runE w v rs) (hin : ∀ r ∈ rs, r.In) (hrl : rs.length ≤ 1000000000) (hvb : ∀ b, v.ownBlock = some b → b < w.heap.size → ¬ eltM L A b) :
    Calls Tryz.prog 26 #[.pointer (some ⟨g, 0, none⟩), v] w fun e w' => e = .returned (.int .i64 (turnN rs 2 L)) ∧ TAt w' g (L.map (turnF rs 2 3)) A S mp ∧ Kept (eltM L A) w w' := by
  have HT := Lib.hid (turn_any h hdoc hlen hID hv hin hrl hvb 2 3)
  clear h hv hvb
  go_enter Tryz.func26, Tryz.ntmps26
  go_wp2_with (go_at_call 62; refine HT.out.mono ?_; rintro e w' ⟨rfl, h1, h2⟩)
  go_ret
  exact ⟨rfl, h1, h2⟩
/-- what why answers -/
noncomputable def whyE (L : List Nd) (i ref : ID) : Int := by
  classical exact if ¬ ref.lt i then 9 else if ref ≠ ID.zero ∧ ref ∉ ids L then 11 else 0
set_option maxRecDepth 100000 in
set_option maxHeartbeats 4000000 in
theorem why_any (h : TAt w g L A S mp) (i ref : ID) : Calls Tryz.prog 47 #[.pointer (some ⟨g, 0, none⟩), idV i, idV ref] w fun e w' => e = .returned (.int .i64 (whyE L i ref)) ∧ Grew w w' := by
  obtain ⟨it, is⟩ := i
  obtain ⟨t, s⟩ := ref
  show Calls _ _ #[_, .agg #[.int .i64 it, .int .i64 is], .agg #[.int .i64 t, .int .i64 s]] _ _
  have hg0 : Grew w ((w.alloc (.cells #[.int .i64 it, .int .i64 is] 37)).alloc (.cells #[.int .i64 t, .int .i64 s] 37)) := ((Grew.refl w).alloc _).alloc _
  have b0 := Blk.new (w.alloc (.cells #[.int .i64 it, .int .i64 is] 37)) 37 #[.int .i64 t, .int .i64 s]
  rw [World.size_alloc] at b0
  have hc : ∀ w, Calls Tryz.prog 46 #[.agg #[.int .i64 t, .int .i64 s], .agg #[.int .i64 it, .int .i64 is]] w fun e w' => e = .returned (.int .i64 ((⟨t, s⟩ : ID).cmp ⟨it, is⟩)) ∧ Grew w w' := compare_any ⟨t, s⟩ ⟨it, is⟩
  have HC := Lib.hid hc
  have G0 := Lib.hid hg0
  have B0 := Lib.hid b0
  have HT := Lib.hid h
  have hgl := h.top.lt
  have hbd := cmp_bd ⟨t, s⟩ ⟨it, is⟩
  clear h hg0 b0 hc
  by_cases q : (⟨t, s⟩ : ID).lt ⟨it, is⟩
  · have q1 : ¬ (0 : Int) ≤ (⟨t, s⟩ : ID).cmp ⟨it, is⟩ := fun h => by have := cmp_lt.2 q; omega
    generalize (⟨t, s⟩ : ID).cmp ⟨it, is⟩ = k at *
    go_enter Tryz.func47, Tryz.ntmps47
    go_wp2_with (go_at_call 46; refine (HC.out _).mono ?_; rintro e w1 ⟨rfl, hg1⟩)
    have hT1 := (HT.out.still G0.out.kept).still hg1.kept
    have hb1 := hg1.box B0.out
    have y0 : w1.cell? ⟨w.heap.size + 1, 0, none⟩ = some (.int .i64 t) := hb1.cell' rfl
    have y1 : w1.cell? ⟨w.heap.size + 1, 1, none⟩ = some (.int .i64 s) := hb1.cell' rfl
    have y2 : w1.cell? ⟨g, 1, none⟩ = some (.map mp) := hT1.top.cell' rfl
    have hlk := (hT1.still ((Kept.refl (fun _ => False) w1).drew)).look ⟨t, s⟩
    have GG := Lib.hid (G0.out.trans hg1.drew)
    simp only at hlk
    clear hT1 hb1 hg1
    by_cases hz : (⟨t, s⟩ : ID) = ID.zero
    · have e : whyE L ⟨it, is⟩ ⟨t, s⟩ = 0 := by
        unfold whyE
        rw [if_neg (fun h => h q), if_neg (fun h => h.1 hz)]
      have EE := Lib.hid e
      cases hz
      clear e
      go_region
      all_goals go_wp2
      all_goals go_ret
      all_goals exact ⟨by rw [EE.out]; rfl, GG.out⟩
    · have hne : t = 0 → ¬ s = 0 := fun h1 h2 => hz (by rw [h1, h2]; rfl)
      by_cases hr : (⟨t, s⟩ : ID) ∈ ids L
      · have e : whyE L ⟨it, is⟩ ⟨t, s⟩ = 0 := by
          unfold whyE
          rw [if_neg (fun h => h q), if_neg (fun h => h.2 hr)]
        have EE := Lib.hid e
        rw [if_pos hr] at hlk
        by_cases h0 : t = 0
        · subst h0
          have h1 := hne rfl
          clear hz hne hr e
          go_region
          all_goals go_wp2
          all_goals go_ret
          all_goals exact ⟨by rw [EE.out]; rfl, GG.out⟩
        · clear hz hne hr e
          go_region
          all_goals go_wp2
          all_goals go_ret
          all_goals exact ⟨by rw [EE.out]; rfl, GG.out⟩
      · have e : whyE L ⟨it, is⟩ ⟨t, s⟩ = 11 := by
          unfold whyE
          rw [if_neg (fun h => h q), if_pos ⟨hz, hr⟩]
        have EE := Lib.hid e
        rw [if_neg hr] at hlk
        by_cases h0 : t = 0
        · subst h0
          have h1 := hne rfl
          clear hz hne hr e
          go_region
          all_goals go_wp2
          all_goals go_ret
          all_goals exact ⟨by rw [EE.out]; rfl, GG.out⟩
        · clear hz hne hr e
          go_region
          all_goals go_wp2
          all_goals go_ret
          all_goals exact ⟨by rw [EE.out]; rfl, GG.out⟩
  · have q1 : (0 : Int) ≤ (⟨t, s⟩ : ID).cmp ⟨it, is⟩ := by
      rcases Int.lt_or_le ((⟨t, s⟩ : ID).cmp ⟨it, is⟩) 0 with h | h
      · exact absurd (cmp_lt.1 h) q
      · exact h
    have e : whyE L ⟨it, is⟩ ⟨t, s⟩ = 9 := if_pos q
    rw [e]
    generalize (⟨t, s⟩ : ID).cmp ⟨it, is⟩ = k at *
    go_enter Tryz.func47, Tryz.ntmps47
    go_wp2_with (go_at_call 46; refine (HC.out _).mono ?_; rintro e w1 ⟨rfl, hg1⟩)
    go_ret
    exact ⟨rfl, G0.out.trans hg1⟩
end Go.Proofs.YtlafodnaifghcaaGreat.Tr
