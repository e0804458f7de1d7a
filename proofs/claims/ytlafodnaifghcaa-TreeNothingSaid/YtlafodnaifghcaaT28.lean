/- A document with all its blocks in a set: what each call does to it. The nil Tree: Kept, Insert. -/
import Derived.Test.YtlafodnaifghcaaT24
import Derived.Test.YtlafodnaifghcaaT27
import Derived.Test.YtlafodnaifghcaaT13
namespace Go.Proofs.Ytlafodnaifghcaa.Tr
open Go.RowKit Go.Proofs.Ytlafodnaifghcaa.St Go.Proofs.Ytlafodnaifghcaa.Gl Go.Proofs.Ytlafodnaifghcaa
theorem fresh_doc : ∀ (rs : List Int) (i ref : ID) (L : List Nd), Doc L → Ref L ref → ref.lt i → (∀ k : Nat, k < rs.length → (⟨i.t + k, i.s⟩ : ID) ∉ ids L) → Doc (puts L (freshL i ref rs))
  | [], _, _, _, h, _, _, _ => h
  | r :: rs, i, ref, L, h, hr, hl, hn => by
    have hx : i ∉ ids L := by
      have h9 := hn 0 (Nat.succ_pos _)
      simpa using h9
    have h1 := (h.put (x := ⟨i, ref, r, 1⟩) hr hl hx).1
    refine fresh_doc rs ⟨i.t + 1, i.s⟩ i (put L (placeP L i ref) ⟨i, ref, r, 1⟩) h1 (.inr (put_ids.2 (.inl rfl))) (.inl (by show i.t < i.t + 1; omega)) fun k hk hm => ?_
    rcases put_ids.1 hm with h2 | h2
    · have := congrArg ID.t h2
      have h3 : i.t + 1 + (k : Int) = i.t := this
      omega
    · refine hn (k + 1) (Nat.succ_lt_succ hk) ?_
      have e : (⟨i.t + ((k + 1 : Nat) : Int), i.s⟩ : ID) = ⟨i.t + 1 + (k : Int), i.s⟩ := by
        rw [ID.ext_iff]
        exact ⟨by show i.t + ((k + 1 : Nat) : Int) = i.t + 1 + (k : Int); omega, rfl⟩
      rw [e]
      exact h2
theorem insL_doc {L : List Nd} (h : Doc L) (i ref : ID) (sz : Nat) (bad : Bool) (rs : List Int) : Doc (insL L i ref sz bad rs) := by
  unfold insL
  by_cases he : insE L i ref sz bad rs = 0
  · rw [if_neg (fun hh => hh he)]
    obtain ⟨h1, h2, h3, h4, h5, h6, h7, h8⟩ := insE_ok he
    cases rs with
    | nil => simpa [freshL] using h
    | cons r rs =>
      rw [← ins_puts h h1 h8]
      exact fresh_doc _ _ _ _ h h7 h6 fun k hk hm => h8 ⟨k, hk, hm⟩
  · rw [if_pos he]
    exact h
theorem insL_is {L : List Nd} (h : ∀ n ∈ L, n.id.Is) (i ref : ID) (sz : Nat) (bad : Bool) (rs : List Int) : ∀ n ∈ insL L i ref sz bad rs, n.id.Is := by
  unfold insL
  by_cases he : insE L i ref sz bad rs = 0
  · rw [if_neg (fun hh => hh he)]
    obtain ⟨h1, _, _, _, h5, _⟩ := insE_ok he
    intro n hn
    rcases List.mem_append.1 hn with hn | hn
    · rcases List.mem_append.1 hn with hn | hn
      · exact h n (List.mem_of_mem_take hn)
      · obtain ⟨k, hk, e⟩ := (freshL_id i ref rs n.id).1 (List.mem_map.2 ⟨n, hn, rfl⟩)
        rw [e]
        obtain ⟨q1, q2, q3, q4⟩ := h1
        exact ⟨by show 1 ≤ i.t + (k : Int); omega, by show i.t + (k : Int) ≤ 2147483647; omega, q3, q4⟩
    · exact h n (List.mem_of_mem_drop hn)
  · rw [if_pos he]
    exact h
theorem insL_len (L : List Nd) (i ref : ID) (sz : Nat) (bad : Bool) (rs : List Int) : (insL L i ref sz bad rs).length ≤ L.length + rs.length := by
  unfold insL
  split
  · omega
  · rw [List.length_append, List.length_append, freshL_len, List.length_take, List.length_drop]
    omega
def grown (M : Nat → Prop) (w w' : World) (b : Nat) : Prop := M b ∨ (w.heap.size ≤ b ∧ b < w'.heap.size)
/-- a document, its blocks in F -/
structure TBox (w : World) (g : Nat) (L : List Nd) (F : Nat → Prop) : Prop where
  at_ : ∃ A S mp, TAt w g L A S mp ∧ ∀ b, foot g L A S mp b → F b
  doc : Doc L
  is : ∀ n ∈ L, n.id.Is
variable {w w' : World} {g : Nat} {L : List Nd} {F : Nat → Prop}
theorem TBox.keep {Y : Nat → Prop} (h : TBox w g L F) (hk : Kept Y w w') (hY : ∀ b, F b → ¬ Y b) : TBox w' g L F := by
  obtain ⟨A, S, mp, h1, h2⟩ := h.at_
  exact ⟨⟨A, S, mp, h1.keep hk fun b hb => hY b (h2 b hb), h2⟩, h.doc, h.is⟩
theorem TBox.still (h : TBox w g L F) (hk : Kept (fun _ => False) w w') : TBox w' g L F := h.keep hk fun _ _ h => h
theorem TBox.mono {F' : Nat → Prop} (h : TBox w g L F) (hF : ∀ b, F b → F' b) : TBox w g L F' := by
  obtain ⟨A, S, mp, h1, h2⟩ := h.at_
  exact ⟨⟨A, S, mp, h1, fun b hb => hF b (h2 b hb)⟩, h.doc, h.is⟩
/-- the blocks that are -/
theorem TBox.low (h : TBox w g L F) : TBox w g L fun b => F b ∧ b < w.heap.size := by
  obtain ⟨A, S, mp, h1, h2⟩ := h.at_
  exact ⟨⟨A, S, mp, h1, fun b hb => ⟨h2 b hb, h1.lt b hb⟩⟩, h.doc, h.is⟩
theorem TBox.top (h : TBox w g L F) : F g := by
  obtain ⟨A, S, mp, h1, h2⟩ := h.at_
  exact h2 g (.inl rfl)
theorem TBox.made (w : World) : TBox (w.alloc (.cells #[.slice none 0 0, .map none] 88)) w.heap.size [] (· = w.heap.size) := by
  refine ⟨⟨_, _, _, new_at w, fun b hb => ?_⟩, Doc.nil, fun n hn => (List.not_mem_nil hn).elim⟩
  rcases hb with h | h | ⟨y, hy, _⟩ | ⟨r, _, h⟩
  · exact h
  · cases h
  · simp [ids] at hy
  · cases h
theorem TBox.insert (h : TBox w g L F) (i ref : ID) (s : ByteArray) (hs : s.size ≤ maxLen) (hlen : L.length + countR s ≤ 900000) :
    Calls Try.prog 13 #[.pointer (some ⟨g, 0, none⟩), idV i, idV ref, .string s] w fun e w' => e = .returned (.int .i64 (insE L i ref s.size (badB s) (runesL s 0))) ∧
      TBox w' g (insL L i ref s.size (badB s) (runesL s 0)) (grown F w w') ∧ Kept F w w' := by
  obtain ⟨A, S, mp, h1, h2⟩ := h.at_
  refine (insert_any h1 h.doc i ref s hs hlen).mono ?_
  rintro e w' ⟨he, A', S', mp', h3, h4, h5⟩
  refine ⟨he, ⟨⟨A', S', mp', h3, fun b hb => ?_⟩, insL_doc h.doc .., insL_is h.is _ _ _ _ _⟩, h5.mono fun b _ hb => h2 b hb⟩
  rcases h4 b hb with h6 | h6
  · exact .inl (h2 b h6)
  · exact .inr ⟨h6, h3.lt b hb⟩
theorem eltM_foot {A : ID → Nat} {S : ID → Rw} {mp : Option Nat} {b : Nat} (h : eltM L A b) : foot g L A S mp b := .inr (.inr (.inl h))
theorem map_turn_is {rs : List Run} {fr tz : Int} (h : ∀ n ∈ L, n.id.Is) : ∀ n ∈ L.map (turnF rs fr tz), n.id.Is := fun n hn => by
  obtain ⟨m, hm, rfl⟩ := List.mem_map.1 hn
  unfold turnF
  split
  · exact h m hm
  · exact h m hm
theorem turn_foot {A : ID → Nat} {S : ID → Rw} {mp : Option Nat} {rs : List Run} {fr tz : Int} {b : Nat} (h : foot g (L.map (turnF rs fr tz)) A S mp b) : foot g L A S mp b := by
  have hi : ids (L.map (turnF rs fr tz)) = ids L := by
    unfold ids
    rw [List.map_map]
    exact List.map_congr_left fun n _ => by
      show (turnF rs fr tz n).id = n.id
      unfold turnF
      split <;> rfl
  unfold foot Ref at *
  rw [hi] at h
  exact h
theorem turn_doc {rs : List Run} {fr tz : Int} (h : Doc L) : Doc (L.map (turnF rs fr tz)) := h.map fun n => by
  unfold turnF
  split <;> exact ⟨rfl, rfl⟩
theorem TBox.delete (h : TBox w g L F) (hlen : L.length ≤ 900000) {v : Value} {rs : List Run} (hv : SlAt runE w v rs) (hin : ∀ r ∈ rs, r.In) (hrl : rs.length ≤ 1000000000) (hvb : ∀ b, v.ownBlock = some b → b < w.heap.size → ¬ F b) :
    Calls Try.prog 14 #[.pointer (some ⟨g, 0, none⟩), v] w fun e w' => e = .returned (.int .i64 (turnN rs 1 L)) ∧ TBox w' g (L.map (turnF rs 1 2)) F ∧ Kept F w w' := by
  obtain ⟨A, S, mp, h1, h2⟩ := h.at_
  refine (delete_any h1 h.doc hlen (fun n hn => by have := h.is n hn; exact ⟨by have := this.1; omega, this.2.1⟩) hv hin hrl fun b hb hl he => hvb b hb hl (h2 b (eltM_foot he))).mono ?_
  rintro e w' ⟨he, h3, h4⟩
  exact ⟨he, ⟨⟨A, S, mp, h3, fun b hb => h2 b (turn_foot hb)⟩, turn_doc h.doc, map_turn_is h.is⟩, h4.mono fun b _ hb => h2 b (eltM_foot hb)⟩
theorem TBox.settle (h : TBox w g L F) (hlen : L.length ≤ 900000) {v : Value} {rs : List Run} (hv : SlAt runE w v rs) (hin : ∀ r ∈ rs, r.In) (hrl : rs.length ≤ 1000000000) (hvb : ∀ b, v.ownBlock = some b → b < w.heap.size → ¬ F b) :
    Calls Try.prog 15 #[.pointer (some ⟨g, 0, none⟩), v] w fun e w' => e = .returned (.int .i64 (turnN rs 2 L)) ∧ TBox w' g (L.map (turnF rs 2 3)) F ∧ Kept F w w' := by
  obtain ⟨A, S, mp, h1, h2⟩ := h.at_
  refine (settle_any h1 h.doc hlen (fun n hn => by have := h.is n hn; exact ⟨by have := this.1; omega, this.2.1⟩) hv hin hrl fun b hb hl he => hvb b hb hl (h2 b (eltM_foot he))).mono ?_
  rintro e w' ⟨he, h3, h4⟩
  exact ⟨he, ⟨⟨A, S, mp, h3, fun b hb => h2 b (turn_foot hb)⟩, turn_doc h.doc, map_turn_is h.is⟩, h4.mono fun b _ hb => h2 b (eltM_foot hb)⟩
theorem TBox.collect (h : TBox w g L F) (hlen : L.length ≤ 900000) :
    Calls Try.prog 16 #[.pointer (some ⟨g, 0, none⟩)] w fun e w' => e = .returned (.int .i64 (collN L)) ∧ TBox w' g (collR L) F ∧ Kept F w w' := by
  obtain ⟨A, S, mp, h1, h2⟩ := h.at_
  refine (coll_any h1 h.doc hlen).mono ?_
  rintro e w' ⟨he, ⟨S', h3, h4⟩, h5⟩
  have hd : Doc (collR L) := by have h9 := coll_doc L [] (by simpa using h.doc); simpa using h9
  exact ⟨he, ⟨⟨A, S', mp, h3, fun b hb => h2 b (h4 b hb)⟩, hd, fun n hn => h.is n ((collR_sub L).subset hn)⟩, h5.mono fun b _ hb => h2 b hb⟩
end Go.Proofs.Ytlafodnaifghcaa.Tr
namespace Go.Proofs.Ytlafodnaifghcaa.Tr
open Go.RowKit Go.Proofs.Ytlafodnaifghcaa.St Go.Shelf
attribute [local go_sem] Oper.semAt_some
theorem kept_nil (w : World) : Calls Try.prog 19 #[.pointer none] w fun e w' => e = .returned (.int .i64 0) ∧ w = w' := by
  go_enter Try.func19, Try.ntmps19
  go_wp2
  go_ret
  exact ⟨rfl, rfl⟩
set_option maxRecDepth 100000 in
theorem insert_nil (i ref : ID) (s : ByteArray) (w : World) : Calls Try.prog 13 #[.pointer none, idV i, idV ref, .string s] w fun e w' => e = .returned (.int .i64 1) ∧ Grew w w' := by
  unfold idV
  go_enter Try.func13, Try.ntmps13
  go_wp2
  go_ret
  exact ⟨rfl, ((Grew.refl w).alloc _).alloc _⟩
/-- nothing is handed over -/
theorem all1_nil {F : Fence} {n : Nat} (h62 : F.fn 62) (hro : F.round = none) {pl : Nat} (enc : Nat → Array Value) :
    IterOk F n Try.prog 62 #[.pointer (some ⟨pl, 0, none⟩)] 0 enc (fun w => w.cell? ⟨pl, 0, none⟩ = some (.pointer none)) := by
  intro yl I Z X0 w hrd hgr hgz hy h0
  have r0 := hrd _ _ _ h0
  have H0 := Lib.hid h0
  clear hrd hgr hgz hy h0
  refine callsIn_of_wp Try.func62 rfl h62 ?_ hro
  simp only [Try.ntmps62, List.size_toArray, List.length_cons, List.length_nil, Nat.reduceAdd, Nat.reduceSub, Array.replicate_succ, Array.replicate_zero, List.push_toArray, List.append_toArray, List.nil_append, List.cons_append]
  gi_wp2
  refine bodyPost_ret (results_none rfl _ _ _) rfl ?_
  exact ⟨⟨_, rfl⟩, .inl ⟨_, H0.out⟩⟩
theorem all_nil (w : World) : Calls Try.prog 33 #[.pointer none] w fun e w' =>
    e = .returned (.func (.func 62) #[] #[.pointer (some ⟨w.heap.size, 0, none⟩)]) ∧ w' = w.alloc (.cells #[.pointer none] 25) := by
  go_enter Try.func33, Try.ntmps33
  go_wp2
  go_ret
  exact ⟨rfl, rfl⟩
/-- a caller's boxes through no rounds -/
def NilJ (w : World) (B : Nat) (bs : List Box) (_ : Nat) (X : Nat → Prop) (W : World) : Prop :=
  Kept (fun _ => False) w W ∧ (∀ x ∈ bs, Blk W x.1 x.2.1 x.2.2 ∧ x.1 < B) ∧ (∀ b, X b → B ≤ b) ∧ B ≤ W.heap.size ∧ w.heap.size ≤ B
theorem NilJ.step {w W W' : World} {B i : Nat} {bs : List Box} {X X' Y : Nat → Prop} (h : NilJ w B bs i X W) (hk : Kept Y W W') (hY : ∀ b, Y b → B ≤ b) (hX : ∀ b, X' b → B ≤ b) : NilJ w B bs i X' W' := by
  obtain ⟨h1, h2, h3, h4, h5⟩ := h
  exact ⟨h1.trans hk fun b hb h => by have := hY b h; omega, fun x hx => ⟨hk.blk (fun h => by have := hY _ h; have := (h2 x hx).2; omega) (h2 x hx).1, (h2 x hx).2⟩, hX, Nat.le_trans h4 hk.size, h5⟩
theorem NilJ.grow {w W W' : World} {B i : Nat} {bs : List Box} {X : Nat → Prop} (h : NilJ w B bs i X W) (hk : Kept X W W') : NilJ w B bs i (fun b => X b ∨ (W.heap.size ≤ b ∧ b < W'.heap.size)) W' :=
  h.step hk h.2.2.1 fun b hb => hb.elim (h.2.2.1 b) fun h9 => Nat.le_trans h.2.2.2.1 h9.1
theorem NilJ.start (w : World) : NilJ w w.heap.size [] 0 (fun _ => False) w := ⟨Kept.refl _ _, fun _ hx => (List.not_mem_nil hx).elim, fun _ h => h.elim, Nat.le_refl _, Nat.le_refl _⟩
theorem NilJ.boxed {w W : World} {bs : List Box} (h : NilJ w W.heap.size bs 0 (fun _ => False) W) (cs : Array Value) (t : TypeId) : NilJ w (W.alloc (.cells cs t)).heap.size (bs ++ [(W.heap.size, t, cs)]) 0 (fun _ => False) (W.alloc (.cells cs t)) := by
  obtain ⟨h1, h2, _, _, h5⟩ := h
  refine ⟨h1.alloc _, fun x hx => ?_, fun _ h => h.elim, Nat.le_refl _, by rw [World.size_alloc]; omega⟩
  rcases List.mem_append.1 hx with hx | hx
  · exact ⟨(h2 x hx).1.alloc _, by rw [World.size_alloc]; have := (h2 x hx).2; omega⟩
  · rw [List.mem_singleton.1 hx]; exact ⟨Blk.new W _ _, by rw [World.size_alloc]; exact Nat.lt_succ_self _⟩
theorem NilJ.cell {w W : World} {B i : Nat} {bs : List Box} {X : Nat → Prop} (h : NilJ w B bs i X W) (j : Nat) {z : Nat} {T : TypeId} {us : Array Value} (hj : bs[j]? = some (z, T, us)) (o : Nat) {u : Value} (hu : us[o]? = some u) : W.cell? ⟨z, o, none⟩ = some u := (h.2.1 _ (List.mem_of_getElem? hj)).1.cell' hu
set_option maxHeartbeats 4000000 in
theorem nodes_nil (w : World) :
    Calls Try.prog 20 #[.pointer none] w fun e w' => e = .returned (.slice none 0 0) ∧ Kept (fun _ => False) w w' := by
  refine (callsIn_wide (n := 6)).1 ?_
  refine callsIn_of_wp_marks Try.func20 rfl trivial ?_ rfl
  simp only [Try.ntmps20, List.size_toArray, List.length_cons, List.length_nil, Nat.reduceAdd, Nat.reduceSub, Array.replicate_succ, Array.replicate_zero, List.push_toArray, List.append_toArray, List.nil_append, List.cons_append]
  gi_wp2_with (refine ⟨trivial, ?_⟩; gi_at_call 33; refine (callsIn_wide.2 (all_nil _)).mono ?_; rintro e w' ⟨rfl, rfl⟩)
  obtain ⟨W0, hW0⟩ : ∃ W0, ((w.alloc (.cells #[.slice none 0 0] 42)).alloc (.cells #[.pointer none] 25)) = W0 := ⟨_, rfl⟩
  have b0 := (Blk.new w 42 #[.slice none 0 0]).alloc (.cells #[.pointer none] 25)
  have b1 := Blk.new (w.alloc (.cells #[.slice none 0 0] 42)) 25 #[.pointer none]
  have k0 : Kept (fun _ => False) w ((w.alloc (.cells #[.slice none 0 0] 42)).alloc (.cells #[.pointer none] 25)) := ((Kept.refl _ _).alloc _).alloc _
  rw [World.size_alloc] at b1
  rw [hW0] at b0 b1 k0
  have hJ0 : NilJ w W0.heap.size [(w.heap.size, 42, #[.slice none 0 0]), (w.heap.size + 1, 25, #[.pointer none])] 0 (fun _ => False) W0 :=
    ⟨k0, fun x hx => by rcases List.mem_cons.1 hx with rfl | hx; exact ⟨b0, b0.lt⟩; rw [List.mem_singleton.1 hx]; exact ⟨b1, b1.lt⟩, fun _ h => h.elim, Nat.le_refl _, k0.size⟩
  rw [hW0]
  clear hW0 b0 b1 k0
  refine wpIn_iter (N := 0) (enc := fun _ => #[]) rfl (by decide) (gf := 62) (lb := #[.pointer (some ⟨w.heap.size + 1, 0, none⟩)]) rfl trivial (enters_of Try.func62 (by kernel_rfl) rfl) (all1_nil trivial rfl _) (fun i h => absurd h (Nat.not_lt_zero _)) W0.heap.size rfl (NilJ w W0.heap.size [(w.heap.size, 42, #[.slice none 0 0]), (w.heap.size + 1, 25, #[.pointer none])]) (fun _ _ _ => False) ?hrd ?hgr ?hgx ?hob ?hox ?h0 ?round ?done ?stop
  case hrd => intro i X W hJ; exact (hJ.2.1 _ (List.mem_cons_of_mem _ List.mem_cons_self)).1.cell' rfl
  case hgr => intro i X W W' hJ hk; exact hJ.grow hk
  case hgx => intro c X W W' h _; exact h
  case hob => intro i X W o' hJ; exact hJ.step (kept_put W _ o') (fun b hb => by rw [hb]; omega) hJ.2.2.1
  case hox => intro c X W o' hJ; exact hJ
  case h0 => intro o1 o2; exact hJ0.step (((Kept.refl (fun _ => False) W0).alloc o1).alloc o2) (fun _ h => h.elim) (fun _ h => h.elim)
  case round => intro i W K hi; exact absurd hi (Nat.not_lt_zero _)
  case done =>
    intro X W hJ hK
    have c0 : W.cell? ⟨w.heap.size, 0, none⟩ = some (.slice none 0 0) := (hJ.2.1 _ List.mem_cons_self).1.cell' rfl
    have HJ := Lib.hid hJ
    have HK := Lib.hid hK
    have hcl := clip_any none 0 0 (Nat.le_refl _) W
    clear hJ hK
    gi_wp2_with (refine ⟨trivial, ?_⟩; gi_at_call 48; refine (callsIn_wide.2 hcl).mono ?_; rintro e w' ⟨rfl, rfl⟩)
    refine ret_range HK.out (results_tmp rfl _ _ _) ⟨rfl, ?_⟩
    exact (HJ.out.step (X' := fun _ => False) (kept_put w' W0.heap.size (.deferred none)) (fun b hb => by rw [hb]; exact Nat.le_refl _) (fun _ h => h.elim)).1
  case stop => rintro c X W h _; exact h.elim
def tnilB (z : Nat) (v : Value) (fr tz : Int) : List Box :=
  [(z, 28, #[v]), (z + 1, 3, #[.int .i64 fr]), (z + 1 + 1, 3, #[.int .i64 tz]), (z + 1 + 1 + 1, 3, #[.int .i64 0]), (z + 1 + 1 + 1 + 1, 25, #[.pointer none])]
set_option maxHeartbeats 4000000 in
theorem turn_nil (va : Option Addr) (vn vc : Nat) (fr tz : Int) (w : World) :
    Calls Try.prog 39 #[.pointer none, .slice va vn vc, .int .i64 fr, .int .i64 tz] w fun e w' => e = .returned (.int .i64 0) ∧ Kept (fun _ => False) w w' := by
  refine (callsIn_wide (n := 6)).1 ?_
  refine callsIn_of_wp_marks Try.func39 rfl trivial ?_ rfl
  simp only [Try.ntmps39, List.size_toArray, List.length_cons, List.length_nil, Nat.reduceAdd, Nat.reduceSub, Array.replicate_succ, Array.replicate_zero, List.push_toArray, List.append_toArray, List.nil_append, List.cons_append]
  gi_wp2_with (refine ⟨trivial, ?_⟩; gi_at_call 33; refine (callsIn_wide.2 (all_nil _)).mono ?_; rintro e w' ⟨rfl, rfl⟩)
  obtain ⟨W0, hW0⟩ : ∃ W0, (((((w.alloc (.cells #[.slice va vn vc] 28)).alloc (.cells #[.int .i64 fr] 3)).alloc (.cells #[.int .i64 tz] 3)).alloc (.cells #[.int .i64 0] 3)).alloc (.cells #[.pointer none] 25)) = W0 := ⟨_, rfl⟩
  have hJ0 : NilJ w W0.heap.size (tnilB w.heap.size (.slice va vn vc) fr tz) 0 (fun _ => False) W0 := by
    rw [← hW0]
    have h9 := (((((NilJ.start w).boxed #[.slice va vn vc] 28).boxed #[.int .i64 fr] 3).boxed #[.int .i64 tz] 3).boxed #[.int .i64 0] 3).boxed #[.pointer none] 25
    simp only [World.size_alloc] at h9 ⊢
    exact h9
  rw [hW0]
  clear hW0
  refine wpIn_iter (N := 0) (enc := fun _ => #[]) rfl (by decide) (gf := 62) (lb := #[.pointer (some ⟨w.heap.size + 1 + 1 + 1 + 1, 0, none⟩)]) rfl trivial (enters_of Try.func62 (by kernel_rfl) rfl) (all1_nil trivial rfl _) (fun i h => absurd h (Nat.not_lt_zero _)) W0.heap.size rfl (NilJ w W0.heap.size (tnilB w.heap.size (.slice va vn vc) fr tz)) (fun _ _ _ => False) ?hrd ?hgr ?hgx ?hob ?hox ?h0 ?round ?done ?stop
  case hrd => intro i X W hJ; exact hJ.cell 4 rfl 0 rfl
  case hgr => intro i X W W' hJ hk; exact hJ.grow hk
  case hgx => intro c X W W' h _; exact h
  case hob => intro i X W o' hJ; exact hJ.step (kept_put W _ o') (fun b hb => by rw [hb]; omega) hJ.2.2.1
  case hox => intro c X W o' hJ; exact hJ
  case h0 => intro o1 o2; exact hJ0.step (((Kept.refl (fun _ => False) W0).alloc o1).alloc o2) (fun _ h => h.elim) (fun _ h => h.elim)
  case round => intro i W K hi; exact absurd hi (Nat.not_lt_zero _)
  case done =>
    intro X W hJ hK
    have c3 : W.cell? ⟨w.heap.size + 1 + 1 + 1, 0, none⟩ = some (.int .i64 0) := hJ.cell 3 rfl 0 rfl
    have HJ := Lib.hid hJ
    have HK := Lib.hid hK
    clear hJ hK
    gi_wp2
    exact ret_range HK.out (results_tmp rfl _ _ _) ⟨rfl, (HJ.out.step (X' := fun _ => False) (kept_put W W0.heap.size (.deferred none)) (fun b hb => by rw [hb]; exact Nat.le_refl _) (fun _ h => h.elim)).1⟩
  case stop => rintro c X W h _; exact h.elim
theorem delete_nil (va : Option Addr) (vn vc : Nat) (w : World) : Calls Try.prog 14 #[.pointer none, .slice va vn vc] w fun e w' => e = .returned (.int .i64 0) ∧ Kept (fun _ => False) w w' := by
  have HT := Lib.hid (turn_nil va vn vc 1 2 w)
  go_enter Try.func14, Try.ntmps14
  go_wp2_with (go_at_call 39; refine HT.out.mono ?_; rintro e w' ⟨rfl, h2⟩)
  go_ret
  exact ⟨rfl, h2⟩
theorem settle_nil (va : Option Addr) (vn vc : Nat) (w : World) : Calls Try.prog 15 #[.pointer none, .slice va vn vc] w fun e w' => e = .returned (.int .i64 0) ∧ Kept (fun _ => False) w w' := by
  have HT := Lib.hid (turn_nil va vn vc 2 3 w)
  go_enter Try.func15, Try.ntmps15
  go_wp2_with (go_at_call 39; refine HT.out.mono ?_; rintro e w' ⟨rfl, h2⟩)
  go_ret
  exact ⟨rfl, h2⟩
end Go.Proofs.Ytlafodnaifghcaa.Tr
