/- vector.Has: the growing form. op.of and op.Check of a join. Runes in bytes, plainly: how many bytes the rune that begins at a place has. It speaks of no program of its own. -/
import Derived.Test.YtjohljmpcblpjaaGreatDoorL12
import Derived.Laws.EntriesVeiled
import Derived.Deep.CutBlock
import Derived.Laws.RangeAny
import Derived.Lib.RuneCount
namespace Go.Proofs.YtjohljmpcblpjaaGreatDoor
open Go.RowKit Go.Proofs.YtjohljmpcblpjaaGreatDoor.St
open Go.Sort (grow)
set_option maxRecDepth 100000 in
set_option maxHeartbeats 4000000 in
theorem hasV_grew {w : World} {v : Value} {L : List Dot} (h : SlAt dotE w v L) (hb : L.length ≤ 1000000000) (d : Dot) : Calls Tryz.prog 48 #[v, .agg #[.int .i64 d.site, .int .i64 d.seq]] w fun e w' => e = .returned (.bool (decide (hasV L d))) ∧ Grew w w' := by
  have hmix : Tryz.prog.follows .mixedOrders = true := by kernel_rfl
  have hB := Blk.new w 29 #[.int .i64 d.site, .int .i64 d.seq]
  have k0 : Grew w (w.alloc (.cells #[.int .i64 d.site, .int .i64 d.seq] 29)) := (Grew.refl _).alloc _
  obtain ⟨W, hW, hz⟩ : ∃ W, w.alloc (.cells #[.int .i64 d.site, .int .i64 d.seq] 29) = W ∧ W.heap.size = w.heap.size + 1 := ⟨_, rfl, by simp⟩
  rw [hW] at hB k0
  have b0 := cell_grown (w := W) (by show w.heap.size < _; omega) (show W.cell? ⟨w.heap.size, 0, none⟩ = some (.int .i64 d.site) from hB.cell' (i := 0) rfl)
  have b1 := cell_grown (w := W) (by show w.heap.size < _; omega) (show W.cell? ⟨w.heap.size, 1, none⟩ = some (.int .i64 d.seq) from hB.cell' (i := 1) rfl)
  have HG := Lib.hid (fun (w' : World) (hk : Grew W w') => get_grew (h.kept (k0.trans hk).kept) hb d.site)
  have K0 := Lib.hid k0
  have HW := Lib.hid hW
  unfold hasV
  clear hB h k0 hz hW
  by_cases h1 : 1 ≤ d.seq
  · have hd1 : decide (1 ≤ d.seq) = true := decide_eq_true h1
    have e2 : decide (1 ≤ d.seq ∧ d.seq ≤ getV L d.site) = decide (d.seq ≤ getV L d.site) := decide_eq_decide.2 ⟨fun h => h.2, fun h => ⟨h1, h⟩⟩
    rw [e2]
    generalize getV L d.site = gv at *
    go_enter Tryz.func48, Tryz.ntmps48
    go_wp2_with fail
    rw [HW.out]
    go_quiet_grown (first
      | (go_at_call 85; exact grown_call HG.out _ _))
    go_wp2_with fail
    go_ret
    exact ⟨rfl, K0.out.trans (Grew.grown _ _)⟩
  · have hd1 : decide (1 ≤ d.seq) = false := decide_eq_false h1
    have e2 : decide (1 ≤ d.seq ∧ d.seq ≤ getV L d.site) = false := decide_eq_false fun h => h1 h.1
    rw [e2]
    go_enter Tryz.func48, Tryz.ntmps48
    go_wp2_with fail
    rw [HW.out]
    go_quiet_grown (first
      | (go_at_call 85; exact grown_call HG.out _ _))
    go_wp2_with fail
    go_ret
    exact ⟨rfl, K0.out.trans (Grew.grown _ _)⟩
end Go.Proofs.YtjohljmpcblpjaaGreatDoor
namespace Go.Proofs.YtjohljmpcblpjaaGreatDoor
open Go.RowKit Go.Proofs.YtjohljmpcblpjaaGreatDoor.St
set_option maxRecDepth 100000 in
set_option maxHeartbeats 4000000 in
theorem of_join {w : World} {x : OpV} (hk : x.kind = 3) : Calls Tryz.prog 119 #[.agg (opA x)] w fun e w' => e = .returned (.iface 233 (.agg #[.int .i64 x.site])) ∧ Grew w w' := by
  have hB := Blk.new w 62 (opA x)
  have k0 : Grew w (w.alloc (.cells (opA x) 62)) := (Grew.refl _).alloc _
  have b3 : (w.alloc (.cells (opA x) 62)).cell? ⟨w.heap.size, 3, none⟩ = some (.int .i64 3) := by rw [← hk]; exact hB.cell' (i := 3) rfl
  have b10 : (w.alloc (.cells (opA x) 62)).cell? ⟨w.heap.size, 10, none⟩ = some (.int .i64 x.site) := hB.cell' (i := 10) rfl
  clear hB
  go_enter Tryz.func119, Tryz.ntmps119
  go_wp2_with fail
  go_ret
  exact ⟨rfl, k0⟩
/-- an operation that is a join and nothing else -/
structure OpV.Join (x : OpV) : Prop where
  kind : x.kind = 3
  id : x.id = ⟨0, 0⟩
  ref : x.ref = ⟨0, 0⟩
  text : x.text = ⟨#[]⟩
  gone : x.gone.n = 0
  site : 1 ≤ x.site ∧ x.site ≤ 16
set_option maxRecDepth 100000 in
set_option maxHeartbeats 4000000 in
theorem rest_any {w : World} (x : OpV) : Calls Tryz.prog 219 #[.agg (opA x)] w fun e w' => e = .returned (.agg #[.int .i64 x.id.t, .int .i64 x.id.s, .int .i64 x.ref.t, .int .i64 x.ref.s, .string x.text, .int .i64 x.site]) ∧ Grew w w' := by
  have hB := (Blk.new w 62 (opA x)).alloc (.cells #[.int .i64 0, .int .i64 0, .int .i64 0, .int .i64 0, .string ⟨#[]⟩, .int .i64 0] 292)
  have hR := Blk.new (w.alloc (.cells (opA x) 62)) 292 #[.int .i64 0, .int .i64 0, .int .i64 0, .int .i64 0, .string ⟨#[]⟩, .int .i64 0]
  have k0 : Grew w ((w.alloc (.cells (opA x) 62)).alloc (.cells #[.int .i64 0, .int .i64 0, .int .i64 0, .int .i64 0, .string ⟨#[]⟩, .int .i64 0] 292)) := ((Grew.refl _).alloc _).alloc _
  rw [World.size_alloc] at hR
  go_enter Tryz.func219, Tryz.ntmps219
  go_upto_region 1 with fail
  generalize ((w.alloc (.cells (opA x) 62)).alloc (.cells #[.int .i64 0, .int .i64 0, .int .i64 0, .int .i64 0, .string ⟨#[]⟩, .int .i64 0] 292)) = W at *
  have b4 : W.cell? ⟨w.heap.size, 4, none⟩ = some (.int .i64 x.id.t) := hB.cell' (i := 4) rfl
  have b5 : W.cell? ⟨w.heap.size, 5, none⟩ = some (.int .i64 x.id.s) := hB.cell' (i := 5) rfl
  have b6 : W.cell? ⟨w.heap.size, 6, none⟩ = some (.int .i64 x.ref.t) := hB.cell' (i := 6) rfl
  have b7 : W.cell? ⟨w.heap.size, 7, none⟩ = some (.int .i64 x.ref.s) := hB.cell' (i := 7) rfl
  have b8 : W.cell? ⟨w.heap.size, 8, none⟩ = some (.string x.text) := hB.cell' (i := 8) rfl
  have b10 : W.cell? ⟨w.heap.size, 10, none⟩ = some (.int .i64 x.site) := hB.cell' (i := 10) rfl
  have HR := Lib.hid hR
  have K0 := Lib.hid k0
  have SZ : (Tryz.prog.info? 292).map (·.size) = some 6 := by kernel_rfl
  have HZ := Lib.hid SZ
  clear hB hR k0 SZ
  go_wp2_with (refine wpList_store_row rfl 292 _ _ rfl (w.heap.size + 1) #[.int .i64 x.id.t, .int .i64 x.id.s, .int .i64 x.ref.t, .int .i64 x.ref.s, .string x.text, .int .i64 x.site] rfl rfl 292 #[.int .i64 0, .int .i64 0, .int .i64 0, .int .i64 0, .string ⟨#[]⟩, .int .i64 0] HR.out HZ.out rfl (by simp [Value.oneCell']) ?_)
  exact bodyPost_ret (Blk.result rfl _ (HR.out.row _) rfl Tryz.underlying292 rfl HZ.out) rfl ⟨rfl, K0.out.setRow (by omega) _⟩
set_option maxRecDepth 100000 in
set_option maxHeartbeats 8000000 in
theorem right_join {w : World} {x : OpV} (hx : x.Join) : Calls Tryz.prog 229 #[.agg #[.int .i64 x.site], .agg (opA x)] w fun e w' => e = .returned (.bool true) ∧ Grew w w' := by
  have hmix : Tryz.prog.follows .mixedOrders = true := by kernel_rfl
  have hS := (Blk.new w 233 #[.int .i64 x.site]).alloc (.cells (opA x) 62)
  have hB := Blk.new (w.alloc (.cells #[.int .i64 x.site] 233)) 62 (opA x)
  have k0 : Grew w ((w.alloc (.cells #[.int .i64 x.site] 233)).alloc (.cells (opA x) 62)) := ((Grew.refl _).alloc _).alloc _
  rw [World.size_alloc] at hB
  have s0 : ((w.alloc (.cells #[.int .i64 x.site] 233)).alloc (.cells (opA x) 62)).heap.size = w.heap.size + 2 := by simp
  have h1 := hx.site.1
  have h2 := hx.site.2
  obtain ⟨W, hW⟩ : ∃ W, ((w.alloc (.cells #[.int .i64 x.site] 233)).alloc (.cells (opA x) 62)) = W := ⟨_, rfl⟩
  rw [hW] at hS hB k0 s0
  have s1 := cell_grown (w := W) (by show w.heap.size < _; omega) (show W.cell? ⟨w.heap.size, 0, none⟩ = some (.int .i64 x.site) from hS.cell' (i := 0) rfl)
  have b0 := cell_grown (w := W) (by show w.heap.size + 1 < _; omega) (show W.cell? ⟨w.heap.size + 1, 0, none⟩ = some (.int .i64 x.dot.site) from hB.cell' (i := 0) rfl)
  have b1 := cell_grown (w := W) (by show w.heap.size + 1 < _; omega) (show W.cell? ⟨w.heap.size + 1, 1, none⟩ = some (.int .i64 x.dot.seq) from hB.cell' (i := 1) rfl)
  have b2 := cell_grown (w := W) (by show w.heap.size + 1 < _; omega) (show W.cell? ⟨w.heap.size + 1, 2, none⟩ = some (.slice x.deps.a x.deps.n x.deps.c) from hB.cell' (i := 2) rfl)
  have b3 := cell_grown (w := W) (by show w.heap.size + 1 < _; omega) (show W.cell? ⟨w.heap.size + 1, 3, none⟩ = some (.int .i64 x.kind) from hB.cell' (i := 3) rfl)
  have b4 := cell_grown (w := W) (by show w.heap.size + 1 < _; omega) (show W.cell? ⟨w.heap.size + 1, 4, none⟩ = some (.int .i64 0) from (hB.cell' (i := 4) rfl : W.cell? ⟨w.heap.size + 1, 4, none⟩ = some (.int .i64 x.id.t)).trans (by rw [hx.id]))
  have b5 := cell_grown (w := W) (by show w.heap.size + 1 < _; omega) (show W.cell? ⟨w.heap.size + 1, 5, none⟩ = some (.int .i64 0) from (hB.cell' (i := 5) rfl : W.cell? ⟨w.heap.size + 1, 5, none⟩ = some (.int .i64 x.id.s)).trans (by rw [hx.id]))
  have b6 := cell_grown (w := W) (by show w.heap.size + 1 < _; omega) (show W.cell? ⟨w.heap.size + 1, 6, none⟩ = some (.int .i64 0) from (hB.cell' (i := 6) rfl : W.cell? ⟨w.heap.size + 1, 6, none⟩ = some (.int .i64 x.ref.t)).trans (by rw [hx.ref]))
  have b7 := cell_grown (w := W) (by show w.heap.size + 1 < _; omega) (show W.cell? ⟨w.heap.size + 1, 7, none⟩ = some (.int .i64 0) from (hB.cell' (i := 7) rfl : W.cell? ⟨w.heap.size + 1, 7, none⟩ = some (.int .i64 x.ref.s)).trans (by rw [hx.ref]))
  have b8 := cell_grown (w := W) (by show w.heap.size + 1 < _; omega) (show W.cell? ⟨w.heap.size + 1, 8, none⟩ = some (.string ⟨#[]⟩) from (hB.cell' (i := 8) rfl : W.cell? ⟨w.heap.size + 1, 8, none⟩ = some (.string x.text)).trans (by rw [hx.text]))
  have b9 := cell_grown (w := W) (by show w.heap.size + 1 < _; omega) (show W.cell? ⟨w.heap.size + 1, 9, none⟩ = some (.slice x.gone.a 0 x.gone.c) from (hB.cell' (i := 9) rfl : W.cell? ⟨w.heap.size + 1, 9, none⟩ = some (.slice x.gone.a x.gone.n x.gone.c)).trans (by rw [hx.gone]))
  have b10 := cell_grown (w := W) (by show w.heap.size + 1 < _; omega) (show W.cell? ⟨w.heap.size + 1, 10, none⟩ = some (.int .i64 x.site) from hB.cell' (i := 10) rfl)
  have HR := Lib.hid (fun (w' : World) (_ : Grew W w') => rest_any (w := w') x)
  have hrest : (#[.int .i64 x.id.t, .int .i64 x.id.s, .int .i64 x.ref.t, .int .i64 x.ref.s, .string x.text, .int .i64 x.site] : Array Value) = #[.int .i64 0, .int .i64 0, .int .i64 0, .int .i64 0, .string ⟨#[]⟩, .int .i64 x.site] := by rw [hx.id, hx.ref, hx.text]
  rw [hrest] at HR
  have HX := Lib.hid hx
  have K0 := Lib.hid k0
  have HW := Lib.hid hW
  have HOP : opA x = #[.int .i64 x.dot.site, .int .i64 x.dot.seq, .slice x.deps.a x.deps.n x.deps.c, .int .i64 x.kind, .int .i64 0, .int .i64 0, .int .i64 0, .int .i64 0, .string ⟨#[]⟩, .slice x.gone.a 0 x.gone.c, .int .i64 x.site] := by
    have : opA x = #[.int .i64 x.dot.site, .int .i64 x.dot.seq, .slice x.deps.a x.deps.n x.deps.c, .int .i64 x.kind, .int .i64 x.id.t, .int .i64 x.id.s, .int .i64 x.ref.t, .int .i64 x.ref.s, .string x.text, .slice x.gone.a x.gone.n x.gone.c, .int .i64 x.site] := rfl
    rw [this, hx.id, hx.ref, hx.text, hx.gone]
  have HOP2 := Lib.hid HOP
  clear hx hS hB k0 s0 hW hrest HOP
  go_enter Tryz.func229, Tryz.ntmps229
  go_wp2_with fail
  rw [HW.out]
  go_quiet_grown (first
    | (go_at_call 219; rw [← HOP2.out]; exact grown_call HR.out _ _))
  go_wp2_with fail
  go_ret
  exact ⟨rfl, K0.out.trans (Grew.grown _ _)⟩
end Go.Proofs.YtjohljmpcblpjaaGreatDoor
namespace Go.Proofs.YtjohljmpcblpjaaGreatDoor.Gl
/-- the byte at a place -/
def byteAt (s : ByteArray) (i : Nat) : Int := (s.get! i).toNat
theorem get_bang {s : ByteArray} {i : Nat} (h : i < s.size) : s.get! i = s[i] := by
  simp [ByteArray.get!, getElem!_pos, h]
  rfl
theorem byteAt_get {s : ByteArray} {i : Nat} (h : i < s.size) : ((s[i]).toNat : Int) = byteAt s i := by
  unfold byteAt
  rw [get_bang h]
theorem byteAt_bd (s : ByteArray) (i : Nat) : 0 ≤ byteAt s i ∧ byteAt s i ≤ 255 := by
  unfold byteAt
  have := (s.get! i).toNat_lt
  omega
def inB (s : ByteArray) (i : Nat) (lo hi : Int) : Prop := i < s.size ∧ lo ≤ byteAt s i ∧ byteAt s i ≤ hi
instance (s : ByteArray) (i : Nat) (lo hi : Int) : Decidable (inB s i lo hi) := by unfold inB; infer_instance
def loB (a : Int) : Int := if a = 224 then 160 else if a = 240 then 144 else 128
def hiB (a : Int) : Int := if a = 237 then 159 else if a = 244 then 143 else 191
/-- how many bytes behind the first -/
def tailN (a : Int) : Nat := if a < 224 then 1 else if a < 240 then 2 else 3
def runeW (s : ByteArray) (i : Nat) : Nat :=
  if byteAt s i < 128 then 1 else
  if byteAt s i < 194 ∨ 244 < byteAt s i then 0 else
  if inB s (i + 1) (loB (byteAt s i)) (hiB (byteAt s i)) ∧ (2 ≤ tailN (byteAt s i) → inB s (i + 2) 128 191) ∧ (3 ≤ tailN (byteAt s i) → inB s (i + 3) 128 191) then tailN (byteAt s i) + 1 else 0
/-- the same, of four bytes and of which there are -/
def runeN (a b c d : Int) (p q r : Prop) [Decidable p] [Decidable q] [Decidable r] : Nat :=
  if a < 128 then 1 else
  if a < 194 ∨ 244 < a then 0 else
  if (p ∧ loB a ≤ b ∧ b ≤ hiB a) ∧ (2 ≤ tailN a → q ∧ 128 ≤ c ∧ c ≤ 191) ∧ (3 ≤ tailN a → r ∧ 128 ≤ d ∧ d ≤ 191) then tailN a + 1 else 0
theorem runeN_eq (s : ByteArray) (i : Nat) : runeW s i = runeN (byteAt s i) (byteAt s (i + 1)) (byteAt s (i + 2)) (byteAt s (i + 3)) (i + 1 < s.size) (i + 2 < s.size) (i + 3 < s.size) := rfl
section
variable {a b c d : Nat} {p q r : Prop} [Decidable p] [Decidable q] [Decidable r]
theorem runeN_1 (h : a < 128) : runeN a b c d p q r = 1 := if_pos (by omega)
theorem runeN_none (h : 128 ≤ a) (h2 : a < 194 ∨ 244 < a) : runeN a b c d p q r = 0 := by
  unfold runeN
  rw [if_neg (by omega), if_pos (by omega)]
theorem runeN_2 (h : 194 ≤ a) (h2 : a < 224) : runeN a b c d p q r = if p ∧ 128 ≤ b ∧ b ≤ 191 then 2 else 0 := by
  unfold runeN
  have e1 : tailN (a : Int) = 1 := if_pos (by omega)
  have e2 : loB (a : Int) = 128 := by unfold loB; rw [if_neg (by omega), if_neg (by omega)]
  have e3 : hiB (a : Int) = 191 := by unfold hiB; rw [if_neg (by omega), if_neg (by omega)]
  rw [if_neg (by omega), if_neg (by omega), e1, e2, e3]
  by_cases hp : p ∧ 128 ≤ b ∧ b ≤ 191
  · rw [if_pos hp, if_pos ⟨⟨hp.1, by omega, by omega⟩, fun h => by omega, fun h => by omega⟩]
  · rw [if_neg hp, if_neg (fun h => hp ⟨h.1.1, by omega, by omega⟩)]
theorem runeN_3 (h : 224 ≤ a) (h2 : a < 240) : runeN a b c d p q r = if (p ∧ (if a = 224 then 160 else 128) ≤ b ∧ b ≤ (if a = 237 then 159 else 191)) ∧ q ∧ 128 ≤ c ∧ c ≤ 191 then 3 else 0 := by
  unfold runeN
  have e1 : tailN (a : Int) = 2 := by unfold tailN; rw [if_neg (by omega), if_pos (by omega)]
  have e2 : loB (a : Int) = ((if a = 224 then 160 else 128 : Nat) : Int) := by unfold loB; split <;> split <;> first | rfl | omega | (split <;> first | rfl | omega)
  have e3 : hiB (a : Int) = ((if a = 237 then 159 else 191 : Nat) : Int) := by unfold hiB; split <;> split <;> first | rfl | omega | (split <;> first | rfl | omega)
  rw [if_neg (by omega), if_neg (by omega), e1, e2, e3]
  generalize (if a = 224 then 160 else 128 : Nat) = lo
  generalize (if a = 237 then 159 else 191 : Nat) = hi
  by_cases hp : (p ∧ lo ≤ b ∧ b ≤ hi) ∧ q ∧ 128 ≤ c ∧ c ≤ 191
  · rw [if_pos hp, if_pos ⟨⟨hp.1.1, by omega, by omega⟩, fun _ => ⟨hp.2.1, by omega, by omega⟩, fun h => by omega⟩]
  · rw [if_neg hp, if_neg (fun h => hp ⟨⟨h.1.1, by omega, by omega⟩, (h.2.1 (by omega)).1, by have := h.2.1 (by omega); omega, by have := h.2.1 (by omega); omega⟩)]
theorem runeN_4 (h : 240 ≤ a) (h2 : a ≤ 244) : runeN a b c d p q r = if (p ∧ (if a = 240 then 144 else 128) ≤ b ∧ b ≤ (if a = 244 then 143 else 191)) ∧ (q ∧ 128 ≤ c ∧ c ≤ 191) ∧ r ∧ 128 ≤ d ∧ d ≤ 191 then 4 else 0 := by
  unfold runeN
  have e1 : tailN (a : Int) = 3 := by unfold tailN; rw [if_neg (by omega), if_neg (by omega)]
  have e2 : loB (a : Int) = ((if a = 240 then 144 else 128 : Nat) : Int) := by unfold loB; split <;> split <;> first | rfl | omega | (split <;> first | rfl | omega)
  have e3 : hiB (a : Int) = ((if a = 244 then 143 else 191 : Nat) : Int) := by unfold hiB; split <;> split <;> first | rfl | omega | (split <;> first | rfl | omega)
  rw [if_neg (by omega), if_neg (by omega), e1, e2, e3]
  generalize (if a = 240 then 144 else 128 : Nat) = lo
  generalize (if a = 244 then 143 else 191 : Nat) = hi
  by_cases hp : (p ∧ lo ≤ b ∧ b ≤ hi) ∧ (q ∧ 128 ≤ c ∧ c ≤ 191) ∧ r ∧ 128 ≤ d ∧ d ≤ 191
  · rw [if_pos hp, if_pos ⟨⟨hp.1.1, by omega, by omega⟩, fun _ => ⟨hp.2.1.1, by omega, by omega⟩, fun _ => ⟨hp.2.2.1, by omega, by omega⟩⟩]
  · rw [if_neg hp, if_neg (fun h => hp ⟨⟨h.1.1, by omega, by omega⟩, ⟨(h.2.1 (by omega)).1, by have := h.2.1 (by omega); omega, by have := h.2.1 (by omega); omega⟩, (h.2.2 (by omega)).1, by have := h.2.2 (by omega); omega, by have := h.2.2 (by omega); omega⟩)]
end
theorem valid_iff (n : Int) : Utf8.valid n = true ↔ (0 ≤ n ∧ n < 55296) ∨ (57344 ≤ n ∧ n ≤ 1114111) := by
  unfold Utf8.valid
  rw [Bool.or_eq_true, Bool.and_eq_true, Bool.and_eq_true, decide_eq_true_iff, decide_eq_true_iff, decide_eq_true_iff, decide_eq_true_iff]
set_option maxRecDepth 10000 in
theorem decode_runeW (s : ByteArray) (i : Nat) : (Utf8.decode s i).2 = (if runeW s i = 0 then 1 else runeW s i) ∧ (runeW s i = 0 → (Utf8.decode s i).1 = 65533) := by
  have h0 := (s.get! i).toNat_lt
  have h1 := (s.get! (i + 1)).toNat_lt
  have h2 := (s.get! (i + 2)).toNat_lt
  have h3 := (s.get! (i + 3)).toNat_lt
  rw [runeN_eq]
  unfold byteAt
  obtain ⟨x, hx⟩ : ∃ x, Utf8.decode s i = x := ⟨_, rfl⟩
  rw [hx]
  simp only [Utf8.decode, Nat.add_zero] at hx
  simp only [Bool.and_eq_true, beq_iff_eq, decide_eq_true_iff, valid_iff] at hx
  generalize (s.get! i).toNat = a at *
  generalize (s.get! (i + 1)).toNat = b at *
  generalize (s.get! (i + 2)).toNat = c at *
  generalize (s.get! (i + 3)).toNat = d at *
  have hE : Utf8.runeError = 65533 := rfl
  rw [hE] at hx
  have bad : ∀ {n : Nat}, n = 0 → x = (65533, 1) → x.2 = (if n = 0 then 1 else n) ∧ (n = 0 → x.1 = 65533) := fun h1 h2 => by subst h1 h2; exact ⟨rfl, fun _ => rfl⟩
  have good : ∀ {n m r : Nat}, n = m → m ≠ 0 → x = (r, m) → x.2 = (if n = 0 then 1 else n) ∧ (n = 0 → x.1 = 65533) := fun h1 h2 h3 => by subst h1 h3; exact ⟨by rw [if_neg h2], fun h => absurd h h2⟩
  by_cases c1 : a < 128
  · rw [if_pos c1] at hx
    exact good (runeN_1 c1) (by decide) hx.symm
  rw [if_neg c1] at hx
  by_cases c2 : a < 224
  · rw [if_neg (show ¬ ((a / 16 = 14 ∧ _) ∧ _) by omega), if_neg (show ¬ (((a / 8 = 30 ∧ _) ∧ _) ∧ _) by omega)] at hx
    by_cases c3 : a / 32 = 6 ∧ i + 1 < s.size ∧ b / 64 = 2
    · rw [if_pos c3] at hx
      by_cases c4 : a < 194
      · rw [if_neg (by omega)] at hx
        exact bad (runeN_none (by omega) (by omega)) hx.symm
      · rw [if_pos (by omega)] at hx
        refine good (m := 2) ?_ (by decide) hx.symm
        rw [runeN_2 (by omega) c2, if_pos ⟨c3.2.1, by omega, by omega⟩]
    · rw [if_neg c3] at hx
      refine bad ?_ hx.symm
      by_cases c4 : a < 194
      · exact runeN_none (by omega) (by omega)
      · rw [runeN_2 (by omega) c2, if_neg (fun h => c3 ⟨by omega, h.1, by omega⟩)]
  by_cases c3 : a < 240
  · rw [if_neg (show ¬ (a / 32 = 6 ∧ _) by omega), if_neg (show ¬ (((a / 8 = 30 ∧ _) ∧ _) ∧ _) by omega)] at hx
    by_cases c4 : (a / 16 = 14 ∧ i + 1 < s.size ∧ b / 64 = 2) ∧ i + 2 < s.size ∧ c / 64 = 2
    · rw [if_pos c4] at hx
      by_cases c5 : (if a = 224 then 160 else 128) ≤ b ∧ b ≤ (if a = 237 then 159 else 191)
      · rw [if_pos (by split at c5 <;> split at c5 <;> omega)] at hx
        refine good (m := 3) ?_ (by decide) hx.symm
        rw [runeN_3 (by omega) c3, if_pos ⟨⟨c4.1.2.1, c5⟩, c4.2.1, by omega, by omega⟩]
      · rw [if_neg (by split at c5 <;> split at c5 <;> omega)] at hx
        refine bad ?_ hx.symm
        rw [runeN_3 (by omega) c3, if_neg (fun h => c5 h.1.2)]
    · rw [if_neg c4] at hx
      refine bad ?_ hx.symm
      rw [runeN_3 (by omega) c3, if_neg (fun h => c4 ⟨⟨by omega, h.1.1, by have := h.1.2; split at this <;> split at this <;> omega⟩, h.2.1, by omega⟩)]
  · rw [if_neg (show ¬ (a / 32 = 6 ∧ _) by omega), if_neg (show ¬ ((a / 16 = 14 ∧ _) ∧ _) by omega)] at hx
    by_cases c4 : ((a / 8 = 30 ∧ i + 1 < s.size ∧ b / 64 = 2) ∧ i + 2 < s.size ∧ c / 64 = 2) ∧ i + 3 < s.size ∧ d / 64 = 2
    · rw [if_pos c4] at hx
      by_cases c6 : a ≤ 244
      · by_cases c5 : (if a = 240 then 144 else 128) ≤ b ∧ b ≤ (if a = 244 then 143 else 191)
        · rw [if_pos (by split at c5 <;> split at c5 <;> omega)] at hx
          refine good (m := 4) ?_ (by decide) hx.symm
          rw [runeN_4 (by omega) c6, if_pos ⟨⟨c4.1.1.2.1, c5⟩, ⟨c4.1.2.1, by omega, by omega⟩, c4.2.1, by omega, by omega⟩]
        · rw [if_neg (by split at c5 <;> split at c5 <;> omega)] at hx
          refine bad ?_ hx.symm
          rw [runeN_4 (by omega) c6, if_neg (fun h => c5 h.1.2)]
      · rw [if_neg (by omega)] at hx
        exact bad (runeN_none (by omega) (by omega)) hx.symm
    · rw [if_neg c4] at hx
      refine bad ?_ hx.symm
      by_cases c6 : a ≤ 244
      · rw [runeN_4 (by omega) c6, if_neg (fun h => c4 ⟨⟨⟨by omega, h.1.1, by have := h.1.2; split at this <;> split at this <;> omega⟩, h.2.1.1, by omega⟩, h.2.2.1, by omega⟩)]
      · exact runeN_none (by omega) (by omega)
theorem byteAt_extract (s : ByteArray) (i j : Nat) (h : i ≤ s.size) : byteAt (s.extract i s.size) j = byteAt s (i + j) := by
  have hs : (s.extract i s.size).size = s.size - i := by simp
  unfold byteAt
  by_cases hj : i + j < s.size
  · rw [get_bang hj, get_bang (by rw [hs]; omega)]
    simp [ByteArray.getElem_extract]
  · have e1 : s.get! (i + j) = default := by
      show s.data[i + j]! = default
      exact getElem!_neg _ _ (by simpa using hj)
    have e2 : (s.extract i s.size).get! j = default := by
      show (s.extract i s.size).data[j]! = default
      refine getElem!_neg _ _ ?_
      have : (s.extract i s.size).data.size = s.size - i := hs
      rw [this]
      omega
    rw [e1, e2]
theorem runeW_extract (s : ByteArray) (i : Nat) (h : i ≤ s.size) : runeW (s.extract i s.size) 0 = runeW s i := by
  have hs : (s.extract i s.size).size = s.size - i := by simp
  have key : ∀ {a b c d : Int} {p q r p' q' r' : Prop} [Decidable p] [Decidable q] [Decidable r] [Decidable p'] [Decidable q'] [Decidable r'], (p ↔ p') → (q ↔ q') → (r ↔ r') → runeN a b c d p q r = runeN a b c d p' q' r' := by
    intro a b c d p q r p' q' r' _ _ _ _ _ _ h1 h2 h3
    unfold runeN
    simp only [h1, h2, h3]
  rw [runeN_eq, runeN_eq, byteAt_extract s i _ h, byteAt_extract s i _ h, byteAt_extract s i _ h, byteAt_extract s i _ h, Nat.zero_add, Nat.zero_add, Nat.zero_add, Nat.add_zero]
  refine key ?_ ?_ ?_ <;> rw [hs] <;> omega
end Go.Proofs.YtjohljmpcblpjaaGreatDoor.Gl
