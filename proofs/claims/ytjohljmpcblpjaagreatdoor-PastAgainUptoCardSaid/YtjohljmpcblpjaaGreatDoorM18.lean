/- past.row's inner functions: first. -/
import Derived.Test.YtjohljmpcblpjaaGreatDoorM17
set_option maxRecDepth 100000
set_option maxHeartbeats 4000000
namespace Go.Proofs.YtjohljmpcblpjaaGreatDoor.Pa
open Go.RowKit Go.Proofs.YtjohljmpcblpjaaGreatDoor.St Go.Proofs.YtjohljmpcblpjaaGreatDoor
attribute [local go_sem] Oper.semAt_some
structure FirstS (w:World) (tb mb lb lm gb wb fb:Nat) (l:List Ent) (V:List Dot) (lk:List (Int × Value)):Prop where
 ws:WaitS w tb mb lb lm gb l V lk
 wc:w.cell? ⟨wb,0,none⟩=some (.func (.func 102) #[] #[.pointer (some ⟨tb,0,none⟩),.pointer (some ⟨lb,0,none⟩),.pointer (some ⟨gb,0,none⟩)])
 fc:w.cell? ⟨fb,0,none⟩=some (.func (.func 104) #[] #[.pointer (some ⟨wb,0,none⟩),.pointer (some ⟨fb,0,none⟩)])
theorem FirstS.still {w w':World}{tb mb lb lm gb wb fb:Nat}{l:List Ent}{V:List Dot}{lk:List (Int × Value)}(h:FirstS w tb mb lb lm gb wb fb l V lk) (hk:Kept (fun _=>False) w w'):FirstS w' tb mb lb lm gb wb fb l V lk :=
 ⟨h.ws.still hk,hk.cell h.wc,hk.cell h.fc⟩
theorem sl_rest {w:World}{b o n c:Nat}{x:Int}{L:List Int}(h:SlAt intE w (.slice (some ⟨b,o,none⟩) (n+1) c) (x::L)){o':Nat}(ho:L=[]∨o'=o+1):SlAt intE w (.slice (some ⟨b,o',none⟩) n (c-1)) L:=by
 rcases h with ⟨h,_⟩|⟨y,d,h,h1,h2,h3,h4⟩
 ·cases h
 ·injection h with e1 e2 e3
  injection e1 with e1
  subst e1 e3
  have hn:n=L.length:=by simpa using e2
  refine .inr ⟨⟨b,o',none⟩,c-1,by rw [hn],by rw [List.length_cons] at h1;omega,by omega,fun _=>rfl,fun i z hz j u hu=>?_⟩
  rcases ho with rfl|rfl
  ·simp at hz
  ·have h5:=h4 (i+1) z (by simpa using hz) j u hu
   have hk:intE.k=1:=rfl
   rw [hk] at h5 ⊢
   show w.cell? ⟨b,o+1+(i * 1+j),none⟩=some u
   rw [show o+1+(i * 1+j)=o+((i+1) * 1+j) by omega]
   exact h5
def zeroV:OpV:=⟨⟨0,0⟩,⟨none,0,0⟩,0,⟨0,0⟩,⟨0,0⟩,⟨#[]⟩,⟨none,0,0⟩,0⟩
theorem zeroV_op:opA zeroV=#[.int .i64 0,.int .i64 0,.slice none 0 0,.int .i64 0,.int .i64 0,.int .i64 0,.int .i64 0,.int .i64 0,.string ⟨#[]⟩,.slice none 0 0,.int .i64 0]:=rfl
theorem first_nil {wb fb:Nat}{l:List Ent}{V:List Dot}{w:World}{v:Value}(hs:SlAt intE w v []) :
  Calls Tryz.prog 104 #[v,.pointer (some ⟨wb,0,none⟩),.pointer (some ⟨fb,0,none⟩)] w fun e w'=>WaitPost (firstP dotOf depOf l V []) e∧Kept (fun _=>False) w w':=by
  obtain⟨a,c,rfl,_,_⟩:=hs.sl
  have B0:=Lib.hid (Blk.new w 62 #[.int .i64 0,.int .i64 0,.slice none 0 0,.int .i64 0,.int .i64 0,.int .i64 0,.int .i64 0,.int .i64 0,.string ⟨#[]⟩,.slice none 0 0,.int .i64 0])
  have k0:Kept (fun _=>False) w (w.alloc (.cells #[.int .i64 0,.int .i64 0,.slice none 0 0,.int .i64 0,.int .i64 0,.int .i64 0,.int .i64 0,.int .i64 0,.string ⟨#[]⟩,.slice none 0 0,.int .i64 0] 62)):=(Kept.refl _ _).alloc _
  have K0:=Lib.hid k0
  clear hs k0
  rw [show ([]:List Int).length=0 from rfl]
  go_enter Tryz.func104,Tryz.ntmps104
  go_wp2_with fail
  refine bodyPost_ret (Blk.resultC rfl _ B0.out rfl Tryz.underlying62 rfl size_op) rfl ⟨⟨zeroV,by rw [zeroV_op];rfl,fun y hy=>by simp [firstP] at hy⟩,K0.out⟩
theorem first_cons {tb mb lb lm gb wb fb:Nat}{l:List Ent}{V:List Dot}{lk:List (Int × Value)}(hn:(l.map dotOf).Nodup) (hdl:∀e∈l,e.D.length≤1000000000) (hV:V.length≤1000000000){s:Nat}{r:List Nat}{w:World}{v:Value}(h:FirstS w tb mb lb lm gb wb fb l V lk) (hs:SlAt intE w v ((s::r).map fun s:Nat=>(s:Int))) (hk:getK lk (s:Int)=some (.int .i64 (says V s+1)))
  (IH:∀(w':World) (v':Value),FirstS w' tb mb lb lm gb wb fb l V lk→SlAt intE w' v' (r.map fun s:Nat=>(s:Int))→Calls Tryz.prog 104 #[v',.pointer (some ⟨wb,0,none⟩),.pointer (some ⟨fb,0,none⟩)] w' fun e w''=>WaitPost (firstP dotOf depOf l V r) e∧Kept (fun _=>False) w' w'') :
  Calls Tryz.prog 104 #[v,.pointer (some ⟨wb,0,none⟩),.pointer (some ⟨fb,0,none⟩)] w fun e w'=>WaitPost (firstP dotOf depOf l V (s::r)) e∧Kept (fun _=>False) w w':=by
  have IH:=Lib.hid IH
  obtain⟨g,o,c,rfl,hc3,_,_,hc⟩:=hs.one (by simp)
  have hlr:((s::r).map fun s:Nat=>(s:Int)).length=r.length+1:=by simp
  rw [hlr] at hs hc3 ⊢
  have e0:w.cell? ⟨g,o,none⟩=some (.int .i64 s):=hc 0 s rfl 0 _ rfl
  have HS:=Lib.hid hs
  have H:=Lib.hid h
  have CW0:=Lib.hid (fun W (hk9:Kept (fun _=>False) w W)=>waiting_any (h.ws.still hk9) hn hdl hV s hk)
  have B0:=Lib.hid (Blk.new w 62 #[.int .i64 0,.int .i64 0,.slice none 0 0,.int .i64 0,.int .i64 0,.int .i64 0,.int .i64 0,.int .i64 0,.string ⟨#[]⟩,.slice none 0 0,.int .i64 0])
  have k0:Kept (fun _=>False) w (w.alloc (.cells #[.int .i64 0,.int .i64 0,.slice none 0 0,.int .i64 0,.int .i64 0,.int .i64 0,.int .i64 0,.int .i64 0,.string ⟨#[]⟩,.slice none 0 0,.int .i64 0] 62)):=(Kept.refl _ _).alloc _
  have K0:=Lib.hid k0
  have E0':=Lib.hid e0
  have hn0:¬((r.length:Int)+1=0):=by omega
  have hs0:(0:Int)<(r.length:Int)+1:=by omega
  have hs1:(1:Int)≤(r.length:Int)+1:=by omega
  clear hs h hk hc e0 k0 hlr
  go_enter Tryz.func104,Tryz.ntmps104
  go_upto_region 3 with fail
  obtain⟨w0,hw0⟩:∃w0,w.alloc (.cells #[.int .i64 0,.int .i64 0,.slice none 0 0,.int .i64 0,.int .i64 0,.int .i64 0,.int .i64 0,.int .i64 0,.string ⟨#[]⟩,.slice none 0 0,.int .i64 0] 62)=w0:=⟨_,rfl⟩
  rw [hw0] at B0 K0
  rw [hw0]
  obtain⟨z0,hz0⟩:∃z0,w.heap.size=z0:=⟨_,rfl⟩
  rw [hz0] at B0 ⊢
  have hzw:z0<w0.heap.size:=B0.out.lt
  have FW:Hid (∀W,Kept (fun _=>False) w0 W→W.cell? ⟨wb,0,none⟩=some (.func (.func 102) #[] #[.pointer (some ⟨tb,0,none⟩),.pointer (some ⟨lb,0,none⟩),.pointer (some ⟨gb,0,none⟩)])):=Lib.hid fun W hk=>hk.cell (K0.out.cell H.out.wc)
  have E0:Hid (∀W,Kept (fun _=>False) w0 W→W.cell? ⟨g,o,none⟩=some (.int .i64 s)):=Lib.hid fun W hk=>hk.cell (K0.out.cell E0'.out)
  have EZ:=Lib.hid hz0
  clear hw0 hz0
  cases ho:candP dotOf depOf l V s
  case some y =>
   have CW:Hid (∀W,Kept (fun _=>False) w0 W→Calls Tryz.prog 102 #[.int .i64 (s:Int),.pointer (some ⟨tb,0,none⟩),.pointer (some ⟨lb,0,none⟩),.pointer (some ⟨gb,0,none⟩)] W fun e w'=>(∃x:OpV,e=.returned (.tuple #[.agg (opA x),.bool true])∧Hid (x=y.v))∧Kept (fun _=>False) W w'):=Lib.hid fun W hk=>(CW0.out W (K0.out.trans hk (fun _ _ h=>h))).mono fun e w' ⟨⟨x,h1,h2⟩,h3⟩=>by rw [ho] at h1 h2;exact⟨⟨x,h1,Lib.hid (h2 y rfl)⟩,h3⟩
   have HF:Hid (firstP dotOf depOf l V (s::r)=some y):=Lib.hid (by show (candP dotOf depOf l V s).or _=_;rw [ho];rfl)
   have HO:=Lib.hid ho
   clear ho
   have hS:Kept (fun _=>False) w0 w0.drew:=(Kept.refl _ _).drew
   obtain⟨Wc,hWc⟩:∃Wc,w0.drew=Wc:=⟨_,rfl⟩
   refine wp_region_held_drew (S:=fun W=>Kept (fun _=>False) w0 W) (by kernel_rfl) hS (fun hHeld=>?_)
   rw [hWc] at hHeld ⊢
   clear hWc hS
   refine tV 0 13 ?_ (hy:=by intro w hSw;have h9:=FW.out w hSw;clear hSw;go_simp;first | done | with_reducible rfl)
   try simp only [Act.put,zq1,zq2,zq3]
   refine tV 1 14 ?_
   try simp only [Act.put,zq1,zq2,zq3]
   refine tV 2 15 ?_
   try simp only [Act.put,zq1,zq2,zq3]
   refine tV 3 16 ?_ (hy:=by intro w hSw;have h9:=E0.out w hSw;clear hSw;go_simp;first | done | with_reducible rfl)
   try simp only [Act.put,zq1,zq2,zq3]
   refine wpAnyH_two (i:=4) (j:=8) (by kernel_rfl) ?_ ?_
   focus
    refine StepH.call (d:=(some 17)) (f:=?_) (args:=?_) (w':=?_) rfl rfl (by rfl) ?_ ?_
    rotate_left 3
    focus (go_simp;first | done | with_reducible rfl | ((repeat' apply And.intro) <;> with_reducible rfl))
    refine Calls.mono (CW.out Wc hHeld) ?_
    rintro e1 Wc ⟨⟨x,rfl,hx⟩,KC⟩
    refine⟨_,rfl,?_,fun hHeld=>?_⟩
    focus (exact Kept.trans hHeld KC (fun _ _ h=>h))
    try have bA:=KC.blk (fun h=>h) bA
    try simp only [Act.put,zq1,zq2,zq3]
    refine tV 5 12 ?_
    try simp only [Act.put,zq1,zq2,zq3]
    refine tV 6 18 ?_
    try simp only [Act.put,zq1,zq2,zq3]
    refine tV 7 19 ?_
    try simp only [Act.put,zq1,zq2,zq3]
    refine wpAnyH_one (i:=8) (by kernel_rfl) ?_
    have KC:Kept (fun _=>False) Wc (Wc.alloc (.cells #[.int .i64 0,.int .i64 0,.slice none 0 0,.int .i64 0,.int .i64 0,.int .i64 0,.int .i64 0,.int .i64 0,.string ⟨#[]⟩,.slice none 0 0,.int .i64 0] 62)):=(Kept.refl _ _).alloc _
    have bA:=Blk.new Wc 62 #[.int .i64 0,.int .i64 0,.slice none 0 0,.int .i64 0,.int .i64 0,.int .i64 0,.int .i64 0,.int .i64 0,.string ⟨#[]⟩,.slice none 0 0,.int .i64 0]
    have hZ:=Kept.size hHeld
    refine StepH.alloc (d:=(some 6)) (v:=?_) (w':=?_) rfl rfl (by rfl) ?_ ?_ ?_
    rotate_left 2
    focus (go_simp;first | done | with_reducible rfl | ((repeat' apply And.intro) <;> with_reducible rfl))
    focus (exact Kept.trans hHeld KC (fun _ _ h=>h))
    intro hHeld
    obtain⟨Z,hZe⟩:∃Z,Wc.heap.size=Z:=⟨_,rfl⟩
    rw [hZe] at bA hZ ⊢
    obtain⟨Wc,hWc⟩:∃W',Wc.alloc (.cells #[.int .i64 0,.int .i64 0,.slice none 0 0,.int .i64 0,.int .i64 0,.int .i64 0,.int .i64 0,.int .i64 0,.string ⟨#[]⟩,.slice none 0 0,.int .i64 0] 62)=W':=⟨_,rfl⟩
    rw [hWc] at KC bA hHeld ⊢
    clear hWc hZe
    try simp only [Act.put,zq1,zq2,zq3]
    refine wpAnyH_one (i:=9) (by kernel_rfl) ?_
    refine StepH.store (d:=none) rfl rfl (by rfl) 62 _ _ rfl rfl rfl (bA) (by rw [opA_size];exact size_op) (by rw [opA_size];rfl) (opA_one _) ?_ (fun hHeld=>?_)
    focus (exact Kept.setRow hHeld (fun h9=>by omega) _)
    try simp only [Act.put]
    refine tV 10 7 ?_
    try simp only [Act.put,zq1,zq2,zq3]
    refine wpAnyH_done (by kernel_rfl) ?_ _
   rotate_left 1
   focus
    have KC:Kept (fun _=>False) Wc (Wc.alloc (.cells #[.int .i64 0,.int .i64 0,.slice none 0 0,.int .i64 0,.int .i64 0,.int .i64 0,.int .i64 0,.int .i64 0,.string ⟨#[]⟩,.slice none 0 0,.int .i64 0] 62)):=(Kept.refl _ _).alloc _
    have bA:=Blk.new Wc 62 #[.int .i64 0,.int .i64 0,.slice none 0 0,.int .i64 0,.int .i64 0,.int .i64 0,.int .i64 0,.int .i64 0,.string ⟨#[]⟩,.slice none 0 0,.int .i64 0]
    have hZ:=Kept.size hHeld
    refine StepH.alloc (d:=(some 6)) (v:=?_) (w':=?_) rfl rfl (by rfl) ?_ ?_ ?_
    rotate_left 2
    focus (go_simp;first | done | with_reducible rfl | ((repeat' apply And.intro) <;> with_reducible rfl))
    focus (exact Kept.trans hHeld KC (fun _ _ h=>h))
    intro hHeld
    obtain⟨Z,hZe⟩:∃Z,Wc.heap.size=Z:=⟨_,rfl⟩
    rw [hZe] at bA hZ ⊢
    obtain⟨Wc,hWc⟩:∃W',Wc.alloc (.cells #[.int .i64 0,.int .i64 0,.slice none 0 0,.int .i64 0,.int .i64 0,.int .i64 0,.int .i64 0,.int .i64 0,.string ⟨#[]⟩,.slice none 0 0,.int .i64 0] 62)=W':=⟨_,rfl⟩
    rw [hWc] at KC bA hHeld ⊢
    clear hWc hZe
    try simp only [Act.put,zq1,zq2,zq3]
    refine wpAnyH_one (i:=4) (by kernel_rfl) ?_
    refine StepH.call (d:=(some 17)) (f:=?_) (args:=?_) (w':=?_) rfl rfl (by rfl) ?_ ?_
    rotate_left 3
    focus (go_simp;first | done | with_reducible rfl | ((repeat' apply And.intro) <;> with_reducible rfl))
    refine Calls.mono (CW.out Wc hHeld) ?_
    rintro e1 Wc ⟨⟨x,rfl,hx⟩,KC⟩
    refine⟨_,rfl,?_,fun hHeld=>?_⟩
    focus (exact Kept.trans hHeld KC (fun _ _ h=>h))
    try have bA:=KC.blk (fun h=>h) bA
    try simp only [Act.put,zq1,zq2,zq3]
    refine tV 5 12 ?_
    try simp only [Act.put,zq1,zq2,zq3]
    refine tV 6 18 ?_
    try simp only [Act.put,zq1,zq2,zq3]
    refine tV 7 19 ?_
    try simp only [Act.put,zq1,zq2,zq3]
    refine wpAnyH_one (i:=9) (by kernel_rfl) ?_
    refine StepH.store (d:=none) rfl rfl (by rfl) 62 _ _ rfl rfl rfl (bA) (by rw [opA_size];exact size_op) (by rw [opA_size];rfl) (opA_one _) ?_ (fun hHeld=>?_)
    focus (exact Kept.setRow hHeld (fun h9=>by omega) _)
    try simp only [Act.put]
    refine tV 10 7 ?_
    try simp only [Act.put,zq1,zq2,zq3]
    refine wpAnyH_done (by kernel_rfl) ?_ _
   rotate_left 1
   all_goals
    have B1:=Lib.hid (bA.row (opA x))
    have BZ:=Lib.hid (Kept.blk hHeld (fun h=>h) B0.out)
    have K5:=Lib.hid hHeld
    have HX:=Lib.hid hx
    obtain⟨W5,hW5⟩:∃W5,Wc.setRow Z (opA x)=W5:=⟨_,rfl⟩
    rw [hW5] at B1 BZ K5 ⊢
    clear hW5 hHeld bA KC hZ hx
    go_wp2_with (first
     | (refine wpList_load_row rfl 62 _ rfl Z rfl 62 _ (0,0) _ B1.out Tryz.underlying62 rfl (by rw [opA_size];exact size_op) ?_)
     | (refine wpList_store_row rfl 62 _ _ rfl z0 (opA x) rfl rfl 62 #[.int .i64 0,.int .i64 0,.slice none 0 0,.int .i64 0,.int .i64 0,.int .i64 0,.int .i64 0,.int .i64 0,.string ⟨#[]⟩,.slice none 0 0,.int .i64 0] BZ.out (by rw [opA_size];exact size_op) (by rw [opA_size];rfl) (opA_one _) ?_))
    refine bodyPost_ret (Blk.resultC rfl _ (BZ.out.row (opA x)) rfl Tryz.underlying62 rfl (by rw [opA_size];exact size_op)) rfl ⟨⟨x,by rw [HF.out];rfl,fun y2 hy=>by rw [HF.out] at hy;cases hy;exact HX.out.out⟩,?_⟩
    exact (K0.out.trans K5.out (fun _ _ h=>h)).setRow (fun h9=>by have:=EZ.out;omega) _
  case none =>
   have CW:Hid (∀W,Kept (fun _=>False) w0 W→Calls Tryz.prog 102 #[.int .i64 (s:Int),.pointer (some ⟨tb,0,none⟩),.pointer (some ⟨lb,0,none⟩),.pointer (some ⟨gb,0,none⟩)] W fun e w'=>(∃x:OpV,e=.returned (.tuple #[.agg (opA x),.bool false])∧Hid (x=x))∧Kept (fun _=>False) W w'):=Lib.hid fun W hk=>(CW0.out W (K0.out.trans hk (fun _ _ h=>h))).mono fun e w' ⟨⟨x,h1,h2⟩,h3⟩=>by rw [ho] at h1;exact⟨⟨x,h1,Lib.hid rfl⟩,h3⟩
   have HF:Hid (firstP dotOf depOf l V (s::r)=firstP dotOf depOf l V r):=Lib.hid (by show (candP dotOf depOf l V s).or _=_;rw [ho];rfl)
   have HO:=Lib.hid ho
   clear ho
   have hS:Kept (fun _=>False) w0 w0.drew:=(Kept.refl _ _).drew
   obtain⟨Wc,hWc⟩:∃Wc,w0.drew=Wc:=⟨_,rfl⟩
   refine wp_region_held_drew (S:=fun W=>Kept (fun _=>False) w0 W) (by kernel_rfl) hS (fun hHeld=>?_)
   rw [hWc] at hHeld ⊢
   clear hWc hS
   refine tV 0 13 ?_ (hy:=by intro w hSw;have h9:=FW.out w hSw;clear hSw;go_simp;first | done | with_reducible rfl)
   try simp only [Act.put,zq1,zq2,zq3]
   refine tV 1 14 ?_
   try simp only [Act.put,zq1,zq2,zq3]
   refine tV 2 15 ?_
   try simp only [Act.put,zq1,zq2,zq3]
   refine tV 3 16 ?_ (hy:=by intro w hSw;have h9:=E0.out w hSw;clear hSw;go_simp;first | done | with_reducible rfl)
   try simp only [Act.put,zq1,zq2,zq3]
   refine wpAnyH_two (i:=4) (j:=8) (by kernel_rfl) ?_ ?_
   focus
    refine StepH.call (d:=(some 17)) (f:=?_) (args:=?_) (w':=?_) rfl rfl (by rfl) ?_ ?_
    rotate_left 3
    focus (go_simp;first | done | with_reducible rfl | ((repeat' apply And.intro) <;> with_reducible rfl))
    refine Calls.mono (CW.out Wc hHeld) ?_
    rintro e1 Wc ⟨⟨x,rfl,hx⟩,KC⟩
    refine⟨_,rfl,?_,fun hHeld=>?_⟩
    focus (exact Kept.trans hHeld KC (fun _ _ h=>h))
    try have bA:=KC.blk (fun h=>h) bA
    try simp only [Act.put,zq1,zq2,zq3]
    refine tV 5 12 ?_
    try simp only [Act.put,zq1,zq2,zq3]
    refine tV 6 18 ?_
    try simp only [Act.put,zq1,zq2,zq3]
    refine tV 7 19 ?_
    try simp only [Act.put,zq1,zq2,zq3]
    refine wpAnyH_one (i:=8) (by kernel_rfl) ?_
    have KC:Kept (fun _=>False) Wc (Wc.alloc (.cells #[.int .i64 0,.int .i64 0,.slice none 0 0,.int .i64 0,.int .i64 0,.int .i64 0,.int .i64 0,.int .i64 0,.string ⟨#[]⟩,.slice none 0 0,.int .i64 0] 62)):=(Kept.refl _ _).alloc _
    have bA:=Blk.new Wc 62 #[.int .i64 0,.int .i64 0,.slice none 0 0,.int .i64 0,.int .i64 0,.int .i64 0,.int .i64 0,.int .i64 0,.string ⟨#[]⟩,.slice none 0 0,.int .i64 0]
    have hZ:=Kept.size hHeld
    refine StepH.alloc (d:=(some 6)) (v:=?_) (w':=?_) rfl rfl (by rfl) ?_ ?_ ?_
    rotate_left 2
    focus (go_simp;first | done | with_reducible rfl | ((repeat' apply And.intro) <;> with_reducible rfl))
    focus (exact Kept.trans hHeld KC (fun _ _ h=>h))
    intro hHeld
    obtain⟨Z,hZe⟩:∃Z,Wc.heap.size=Z:=⟨_,rfl⟩
    rw [hZe] at bA hZ ⊢
    obtain⟨Wc,hWc⟩:∃W',Wc.alloc (.cells #[.int .i64 0,.int .i64 0,.slice none 0 0,.int .i64 0,.int .i64 0,.int .i64 0,.int .i64 0,.int .i64 0,.string ⟨#[]⟩,.slice none 0 0,.int .i64 0] 62)=W':=⟨_,rfl⟩
    rw [hWc] at KC bA hHeld ⊢
    clear hWc hZe
    try simp only [Act.put,zq1,zq2,zq3]
    refine wpAnyH_one (i:=9) (by kernel_rfl) ?_
    refine StepH.store (d:=none) rfl rfl (by rfl) 62 _ _ rfl rfl rfl (bA) (by rw [opA_size];exact size_op) (by rw [opA_size];rfl) (opA_one _) ?_ (fun hHeld=>?_)
    focus (exact Kept.setRow hHeld (fun h9=>by omega) _)
    try simp only [Act.put]
    refine tV 10 7 ?_
    try simp only [Act.put,zq1,zq2,zq3]
    refine wpAnyH_done (by kernel_rfl) ?_ _
   rotate_left 1
   focus
    have KC:Kept (fun _=>False) Wc (Wc.alloc (.cells #[.int .i64 0,.int .i64 0,.slice none 0 0,.int .i64 0,.int .i64 0,.int .i64 0,.int .i64 0,.int .i64 0,.string ⟨#[]⟩,.slice none 0 0,.int .i64 0] 62)):=(Kept.refl _ _).alloc _
    have bA:=Blk.new Wc 62 #[.int .i64 0,.int .i64 0,.slice none 0 0,.int .i64 0,.int .i64 0,.int .i64 0,.int .i64 0,.int .i64 0,.string ⟨#[]⟩,.slice none 0 0,.int .i64 0]
    have hZ:=Kept.size hHeld
    refine StepH.alloc (d:=(some 6)) (v:=?_) (w':=?_) rfl rfl (by rfl) ?_ ?_ ?_
    rotate_left 2
    focus (go_simp;first | done | with_reducible rfl | ((repeat' apply And.intro) <;> with_reducible rfl))
    focus (exact Kept.trans hHeld KC (fun _ _ h=>h))
    intro hHeld
    obtain⟨Z,hZe⟩:∃Z,Wc.heap.size=Z:=⟨_,rfl⟩
    rw [hZe] at bA hZ ⊢
    obtain⟨Wc,hWc⟩:∃W',Wc.alloc (.cells #[.int .i64 0,.int .i64 0,.slice none 0 0,.int .i64 0,.int .i64 0,.int .i64 0,.int .i64 0,.int .i64 0,.string ⟨#[]⟩,.slice none 0 0,.int .i64 0] 62)=W':=⟨_,rfl⟩
    rw [hWc] at KC bA hHeld ⊢
    clear hWc hZe
    try simp only [Act.put,zq1,zq2,zq3]
    refine wpAnyH_one (i:=4) (by kernel_rfl) ?_
    refine StepH.call (d:=(some 17)) (f:=?_) (args:=?_) (w':=?_) rfl rfl (by rfl) ?_ ?_
    rotate_left 3
    focus (go_simp;first | done | with_reducible rfl | ((repeat' apply And.intro) <;> with_reducible rfl))
    refine Calls.mono (CW.out Wc hHeld) ?_
    rintro e1 Wc ⟨⟨x,rfl,hx⟩,KC⟩
    refine⟨_,rfl,?_,fun hHeld=>?_⟩
    focus (exact Kept.trans hHeld KC (fun _ _ h=>h))
    try have bA:=KC.blk (fun h=>h) bA
    try simp only [Act.put,zq1,zq2,zq3]
    refine tV 5 12 ?_
    try simp only [Act.put,zq1,zq2,zq3]
    refine tV 6 18 ?_
    try simp only [Act.put,zq1,zq2,zq3]
    refine tV 7 19 ?_
    try simp only [Act.put,zq1,zq2,zq3]
    refine wpAnyH_one (i:=9) (by kernel_rfl) ?_
    refine StepH.store (d:=none) rfl rfl (by rfl) 62 _ _ rfl rfl rfl (bA) (by rw [opA_size];exact size_op) (by rw [opA_size];rfl) (opA_one _) ?_ (fun hHeld=>?_)
    focus (exact Kept.setRow hHeld (fun h9=>by omega) _)
    try simp only [Act.put]
    refine tV 10 7 ?_
    try simp only [Act.put,zq1,zq2,zq3]
    refine wpAnyH_done (by kernel_rfl) ?_ _
   rotate_left 1
   all_goals
    have B1:=Lib.hid (bA.row (opA x))
    have BZ:=Lib.hid (Kept.blk hHeld (fun h=>h) B0.out)
    have K5:=Lib.hid hHeld
    have HX:=Lib.hid hx
    obtain⟨W5,hW5⟩:∃W5,Wc.setRow Z (opA x)=W5:=⟨_,rfl⟩
    rw [hW5] at B1 BZ K5 ⊢
    clear hW5 hHeld bA KC hZ hx
    go_upto_region 6 with fail
    clear B1 HX
    have F5:=Lib.hid ((H.out.still K0.out).still K5.out)
    have hfb:¬fb=z0:=fun h9=>by have:=World.block_lt_of_cell? _ _ H.out.fc;have:=EZ.out;simp only at *;omega
    have FF:Hid (∀W,PaS W5 z0 W→W.cell? ⟨fb,0,none⟩=some (.func (.func 104) #[] #[.pointer (some ⟨wb,0,none⟩),.pointer (some ⟨fb,0,none⟩)])):=Lib.hid fun W hk=>by
     rw [World.cell?_of_block (a:=⟨fb,0,none⟩) (w:=W5) (hk.1.block fb (World.block_lt_of_cell? W5 _ F5.out.fc) hfb)]
     exact F5.out.fc
    have KW:Hid (∀W,PaS W5 z0 W→Kept (fun _=>False) w W):=Lib.hid fun W hk=>(K0.out.trans K5.out (fun _ _ h=>h)).trans hk.1 (fun b hb h9=>by have:=EZ.out;omega)
    have HS6:Hid (PaS W5 z0 W5.drew):=Lib.hid ⟨(Kept.refl _ _).drew,_,rfl,BZ.out.drewN 1⟩
    clear hfb
    rcases Decidable.em (c=1) with rfl|hc9
    case' inl =>
     have hr0:r.length=0:=by omega
     have CI:Hid (∀W,PaS W5 z0 W→Calls Tryz.prog 104 #[.slice (some ⟨g,o,none⟩) 0 0,.pointer (some ⟨wb,0,none⟩),.pointer (some ⟨fb,0,none⟩)] W fun e w'=>WaitPost (firstP dotOf depOf l V r) e∧Kept (fun _=>False) W w'):=Lib.hid fun W hk=>IH.out W _ (H.out.still (KW.out W hk)) (by have h9:=sl_rest (HS.out.kept (KW.out W hk)) (o':=o) (.inl (by rw [List.eq_nil_of_length_eq_zero hr0];rfl));rw [hr0] at h9;exact h9)
    case' inr =>
     have CI:Hid (∀W,PaS W5 z0 W→Calls Tryz.prog 104 #[.slice (some ⟨g,o+1,none⟩) r.length (c-1),.pointer (some ⟨wb,0,none⟩),.pointer (some ⟨fb,0,none⟩)] W fun e w'=>WaitPost (firstP dotOf depOf l V r) e∧Kept (fun _=>False) W w'):=Lib.hid fun W hk=>IH.out W _ (H.out.still (KW.out W hk)) (sl_rest (HS.out.kept (KW.out W hk)) (o':=o+1) (.inr rfl))
    all_goals
     refine wp_region_held_drew (S:=PaS W5 z0) (by kernel_rfl) HS6.out (fun hHeld=>?_)
     refine tV 0 22 ?_ (hy:=by intro w hSw;have h9:=FF.out w hSw;clear hSw;go_simp;first | done | with_reducible rfl)
     try simp only [Act.put,zq1,zq2,zq3]
     refine tV 1 23 ?_
     try simp only [Act.put,zq1,zq2,zq3]
     refine tV 2 24 ?_
     try simp only [Act.put,zq1,zq2,zq3]
     refine wpAnyH_one (i:=3) (by kernel_rfl) ?_
     have HH:=hHeld
     obtain⟨k1,cs,c1,c2⟩:=HH
     refine StepH.call (d:=(some 25)) (f:=?_) (args:=?_) (w':=?_) rfl rfl (by rfl) ?_ ?_
     rotate_left 3
     focus (go_simp;first | done | with_reducible rfl | ((repeat' apply And.intro) <;> with_reducible rfl))
     refine Calls.mono (CI.out _ hHeld) ?_
     rintro e1 Wd ⟨⟨x2,rfl,hx2⟩,KC⟩
     refine⟨_,rfl,?_,fun hHeld=>?_⟩
     focus (exact⟨k1.trans KC (fun _ _ h=>h.elim),cs,c1,KC.blk (fun h=>h) c2⟩)
     try simp only [Act.put,zq1,zq2,zq3]
     refine tV 4 26 ?_
     try simp only [Act.put,zq1,zq2,zq3]
     refine tV 5 27 ?_
     try simp only [Act.put,zq1,zq2,zq3]
     refine wpAnyH_one (i:=6) (by kernel_rfl) ?_
     have HH2:=hHeld
     obtain⟨k2,cs2,d1,d2⟩:=HH2
     refine StepH.store (d:=none) rfl rfl (by rfl) 62 _ _ rfl rfl rfl (d2) (by rw [opA_size];exact size_op) (by rw [opA_size];exact d1) (opA_one _) ?_ (fun hHeld=>?_)
     focus (exact⟨k2.setRow (fun _=>rfl) _,_,opA_size _,d2.row _⟩)
     try simp only [Act.put]
     refine tV 7 5 ?_
     try simp only [Act.put,zq1,zq2,zq3]
     refine wpAnyH_done (by kernel_rfl) ?_ _
     go_wp2_with fail
     refine bodyPost_ret (Blk.resultC rfl _ (d2.row (opA x2)) rfl Tryz.underlying62 rfl (by rw [opA_size];exact size_op)) rfl ⟨⟨x2,by rw [HF.out];rfl,fun y hy=>by rw [HF.out] at hy;exact hx2 y hy⟩,?_⟩
     exact KW.out _ ⟨k2.setRow (fun _=>rfl) _,_,opA_size _,d2.row _⟩
theorem first_any {tb mb lb lm gb wb fb:Nat}{l:List Ent}{V:List Dot}{lk:List (Int × Value)}(hn:(l.map dotOf).Nodup) (hdl:∀e∈l,e.D.length≤1000000000) (hV:V.length≤1000000000) :
  ∀(ss:List Nat) (w:World) (v:Value) (_:FirstS w tb mb lb lm gb wb fb l V lk) (_:SlAt intE w v (ss.map fun s:Nat=>(s:Int))) (_:∀s∈ss,getK lk (s:Int)=some (.int .i64 (says V s+1))),
  Calls Tryz.prog 104 #[v,.pointer (some ⟨wb,0,none⟩),.pointer (some ⟨fb,0,none⟩)] w fun e w'=>WaitPost (firstP dotOf depOf l V ss) e∧Kept (fun _=>False) w w'
 | [],_,_,_,hs,_=>first_nil hs
 | s::r,_,_,h,hs,hk=>first_cons hn hdl hV h hs (hk s List.mem_cons_self) fun w' v' h' hs'=>first_any hn hdl hV r w' v' h' hs' fun t ht=>hk t (List.mem_cons_of_mem _ ht)
end Go.Proofs.YtjohljmpcblpjaaGreatDoor.Pa
