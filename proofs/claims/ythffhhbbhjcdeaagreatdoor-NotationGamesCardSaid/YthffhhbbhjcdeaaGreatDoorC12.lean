/- WALKS: the program's Moves. -/
import Derived.Test.YthffhhbbhjcdeaaGreatDoorC10
import Derived.Test.YthffhhbbhjcdeaaGreatDoorC13
import Derived.Laws.EntriesVeiled
set_option linter.unusedVariables false
set_option linter.unusedSimpArgs false
namespace Go.Proofs.YthffhhbbhjcdeaaGreatDoor
open Go.RowKit
attribute [local go_sem] Oper.semAt_some wide_fn
attribute [local simp] wide_fn
set_option maxRecDepth 100000

theorem leaves_marks2 {F : Fence} {n : Nat} {P : Program} {fn : Func} {tmps : Array Value} {R : Ending → World → Prop} {v : Value} {n₀ : Nat} : ∀ (Ds : List Nat) (w : World), Marks n₀ w Ds →
    (∀ w', Below n₀ w w' → (∀ (k : Nat) (o : Obj), w.heap[k]? = some o → o.isCells = true → w'.heap[k]? = some o) → (results fn tmps).run P w' = .ok v w' ∧ R (.returned v) w') → LeavesInM F n P fn tmps R (Ds.map markD) .returning w
  | [], w, _, h => by
    obtain ⟨h1, h2⟩ := h w (Below.refl _ _) (fun _ _ h _ => h)
    exact ⟨v, h1, h2⟩
  | D :: Ds, w, hM, h => by
    have hD := hM.at_ D (by simp)
    refine ⟨by simp, .inl ⟨D, _, rfl, run_takeDeferred hD, ?_⟩⟩
    have hnd := List.nodup_cons.1 hM.nd
    have hb : Below n₀ w (w.putObj D (.deferred none)) := (Below.refl n₀ w).grown (grownBy_putObj' w D _) (by have := hM.ge D (by simp); have := hM.lt (D := D) (by simp); omega) (fun k e => by cases e; exact hM.ge D (by simp))
    refine leaves_marks2 (n₀ := n₀) Ds _ ⟨hnd.2, fun E hE => hM.ge E (by simp [hE]), fun E hE => ?_⟩ (fun w' hb' hk' => h w' (hb.trans hb') (fun k o hk hc => hk' k o ?_ hc))
    · rw [World.putObj_heap_other (by rintro rfl; exact hnd.1 hE)]
      exact hM.at_ E (by simp [hE])
    · rw [World.putObj_heap_other (by rintro rfl; rw [hD] at hk; cases hk; cases hc)]
      exact hk
theorem MvSl.keep {w w' : World} {v : Value} {l : List Mv} (h : MvSl w v l) (hs : w.heap.size ≤ w'.heap.size) (hk : ∀ (k : Nat) (o : Obj), w.heap[k]? = some o → o.isCells = true → w'.heap[k]? = some o) : MvSl w' v l := by
  rcases h with h | ⟨b, off, cap, hv, hr⟩
  · exact .inl h
  · refine .inr ⟨b, off, cap, hv, Nat.lt_of_lt_of_le hr.lt hs, fun j hj => ?_⟩
    have h1 := hr.cell j hj
    have hj' : j < (mvCells l).length := by rw [mvCells_length]; exact hj
    rw [List.getElem?_eq_getElem hj'] at h1 ⊢
    obtain ⟨o, ho, hc⟩ := cells_of_cell h1
    rw [← h1]
    exact cell_heap ((hk b o ho hc).trans ho.symm)
theorem Marks.frk {n₀ m b off cap : Nat} {w W W' : World} {p : Pos} {v : Value} {l : List Mv} {Ds : List Nat} (h : Marks m W Ds) (hG : GS n₀ w W b off cap p v l) (hF : FrK (n₀ + 1) W W') : Marks m W' Ds :=
  h.keep fun D hD => hF.keep D (h.lt hD) (hG.not_own (h.at_ D hD) rfl)

def freeB (p : Pos) (tg : Nat) : Bool := sideR (p.L tg) != p.turn
def toldP (p : Pos) (fr : Nat) (l : List Nat) : List Mv := ((l.filter (freeB p)).map fun tg => (⟨fr, tg, 0⟩ : Mv)).filter fun m => safeGo p m.fr m.tg
theorem toldP_app (p : Pos) (fr : Nat) (a b : List Nat) : toldP p fr (a ++ b) = toldP p fr a ++ toldP p fr b := by simp [toldP]
theorem toldP_le (p : Pos) (fr : Nat) (l : List Nat) : (toldP p fr l).length ≤ l.length := by
  unfold toldP
  refine Nat.le_trans (List.length_filter_le _ _) ?_
  rw [List.length_map]
  exact List.length_filter_le _ _
theorem genAt_le {p : Pos} (hm : MayP p) (fr : Nat) : (genAt p fr).length ≤ 264 := by
  have hr := reach_le (hm.ok.bd fr).1 (hm.ok.bd fr).2
  unfold genAt
  split
  · split
    · unfold pawnG
      refine Nat.le_trans (flatMap_le (n := 4) _ (fun a _ => crown_le fr a)) ?_
      rw [List.length_append]
      have h1 : (takesL p fr).length ≤ (reachL p.L fr).length := by unfold takesL; exact List.length_filter_le _ _
      have h2 : (aheadL p fr).length ≤ 2 := by
        unfold aheadL
        split
        · simp
        · split <;> simp
      omega
    · unfold pieceG
      rw [List.length_map]
      exact Nat.le_trans (List.length_filter_le _ _) (by omega)
  · simp
theorem genUpto_le {p : Pos} (hm : MayP p) (n : Nat) : (genUpto p n).length ≤ n * 264 := by
  unfold genUpto
  have := flatMap_le (List.range n) (fun a (_ : a ∈ List.range n) => genAt_le hm a)
  simpa using this
def tolU (p : Pos) (n : Nat) : List Mv := (genUpto p n).filter fun m => safeGo p m.fr m.tg
theorem tolU_le {p : Pos} (hm : MayP p) {n : Nat} (hn : n ≤ 64) : (tolU p n).length ≤ 16900 := by
  unfold tolU
  have h1 := genUpto_le hm n
  have h2 := List.length_filter_le (fun m : Mv => safeGo p m.fr m.tg) (genUpto p n)
  omega
theorem tolU_succ (p : Pos) (n : Nat) : tolU p (n + 1) = tolU p n ++ (genAt p n).filter fun m => safeGo p m.fr m.tg := by
  unfold tolU genUpto
  rw [List.range_succ, List.flatMap_append, List.filter_append]
  simp
theorem piece_pseu {p : Pos} (hm : MayP p) {fr tg : Nat} (hf : fr < 64) (hown : sideR (p.L fr) = p.turn) (hs : sizeI (p.L fr) ≠ 1) (h : tg ∈ reachL p.L fr) (hfree : freeB p tg = true) : Pseu p ⟨fr, tg, 0⟩ := by
  refine (mem_genL hm).1 ?_
  unfold genL genUpto
  rw [List.mem_append, List.mem_flatMap]
  refine .inl ⟨fr, by simpa using hf, ?_⟩
  unfold genAt
  rw [if_pos hown, if_neg hs]
  unfold pieceG
  rw [List.mem_map]
  exact ⟨tg, List.mem_filter.2 ⟨h, hfree⟩, rfl⟩

set_option maxHeartbeats 8000000 in
theorem movesP_own {b off cap : Nat} {w : World} {p : Pos} (hm : MayP p) (hbr : Brd w b off p.L) :
    Calls Tryz.prog 45 #[chessV b off cap p] w fun e w' => ∃ v, e = .returned v ∧ MvSl w' v (movesR p) ∧ (∀ j, v.ownBlock = some j → w.heap.size ≤ j) ∧ Below w.heap.size w w' := by
  have Hm := Lib.hid hm
  have Hbr := Lib.hid hbr
  have hlt := hbr.lt
  unfold chessV
  refine (callsIn_wide (n := 3)).1 (callsIn_of_wp_marks Tryz.func45 rfl trivial (wpIn_wide.2 ?_) rfl)
  simp only [Tryz.ntmps45, List.size_toArray, List.length_cons, List.length_nil, Nat.reduceAdd, Nat.reduceSub, Array.replicate_succ, Array.replicate_zero, List.push_toArray, List.append_toArray, List.nil_append, List.cons_append]
  clear hm hbr
  go_upto_region 2 with fail
  generalize hW : World.alloc _ _ = Wa
  have hPa : Blk Wa w.heap.size #[.slice (some ⟨b, off, none⟩) 64 cap, .int .i64 p.turn, .int .i64 p.castle, .int .i64 p.ep, .int .i64 p.half, .int .i64 p.full] := by rw [← hW]; exact (Blk.new w _ _).alloc _
  have hLa : Boxed Wa (w.heap.size + 1) 37 (.slice none 0 0) := by
    rw [← hW]
    have := Boxed.new (w.alloc (.cells #[.slice (some ⟨b, off, none⟩) 64 cap, .int .i64 p.turn, .int .i64 p.castle, .int .i64 p.ep, .int .i64 p.half, .int .i64 p.full] 24)) 37 (.slice none 0 0)
    rwa [World.size_alloc] at this
  have hba : Below w.heap.size w Wa := by rw [← hW]; exact ((Below.refl _ _).alloc (Nat.le_refl _) _).alloc (by simp) _
  have hsa : Wa.heap.size = w.heap.size + 1 + 1 := by rw [← hW]; simp
  clear hW
  have hn1 : (Wa.alloc (.cells #[.nilFunc] 101)).cell? ⟨w.heap.size + 1 + 1, 0, none⟩ = some .nilFunc := by rw [← hsa]; exact (Blk.new Wa #[.nilFunc] 101).cell rfl
  have hn2 : (Wa.alloc (.cells #[.nilFunc] 101)).frozen? ⟨w.heap.size + 1 + 1, 0, none⟩ = false := by rw [← hsa]; exact (Blk.new Wa #[.nilFunc] 101).free 0
  go_upto_region 3 with fail
  generalize hW0 : World.alloc _ _ = W0
  have hG0 : GS w.heap.size w W0 b off cap p (.slice none 0 0) (tolU p 0) := by
    rw [← hW0]
    have hA := Boxed.new Wa 101 (addV w.heap.size)
    rw [hsa] at hA
    refine ⟨hPa.alloc _, hLa.alloc _, hA, ?_, hba.alloc (by omega) _⟩
    simpa [tolU, genUpto, mvCells] using World.ownsRow_nil _ _ _ _
  clear hW0 hPa hLa hba hsa hn1 hn2
  have p0 := hG0.bP.cell (o := 0) rfl
  have HG0 := Lib.hid hG0
  clear hG0
  go_wp2_with fail
  refine wp_loop_ghost_k (fun gk a wr => ∃ (u5 u6 u7 u13 u14 u15 u16 u17 u18 u19 u20 u21 u22 u23 u24 u25 u26 u27 u28 u29 u30 u31 u32 u33 u34 u35 u36 u37 u38 u39 u40 u41 u42 u43 u44 u45 u46 u47 u48 u49 u50 s12 : Value) (ds : List Deferred),
    (∃ (k : Nat) (v : Value) (Ds : List Nat), k ≤ 64 ∧ gk = 64 - k ∧ s12 = .int .i64 k ∧ ds = Ds.map markD ∧ GS w.heap.size w wr b off cap p v (tolU p k) ∧ Marks (w.heap.size + 3) wr Ds) ∧
    a = { tmps := #[.agg #[.slice (some ⟨b, off, none⟩) 64 cap, .int .i64 p.turn, .int .i64 p.castle, .int .i64 p.ep, .int .i64 p.half, .int .i64 p.full], .pointer (some ⟨w.heap.size, 0, none⟩), .slice none 0 0, .pointer (some ⟨w.heap.size + 1, 0, none⟩), .pointer (some ⟨w.heap.size + 1 + 1, 0, none⟩), u5, u6, u7, .func (.func 72) #[] #[.pointer (some ⟨w.heap.size, 0, none⟩), .pointer (some ⟨w.heap.size + 1, 0, none⟩)], .pointer (some ⟨w.heap.size, 0, none⟩), .slice (some ⟨b, off, none⟩) 64 cap, .int .i64 64, s12, u13, u14, u15, u16, u17, u18, u19, u20, u21, u22, u23, u24, u25, u26, u27, u28, u29, u30, u31, u32, u33, u34, u35, u36, u37, u38, u39, u40, u41, u42, u43, u44, u45, u46, u47, u48, u49, u50, undef, undef, undef, undef, undef, undef], defers := ds }) 64 ?atStart ?round
  case atStart =>
    (repeat apply Exists.intro)
    refine ⟨?_, rfl⟩
    exact ⟨0, _, [], by omega, rfl, rfl, rfl, HG0.out, Marks.nil _ _⟩
  case round =>
  clear p0 HG0
  rintro gk _ wr ⟨u5, u6, u7, u13, u14, u15, u16, u17, u18, u19, u20, u21, u22, u23, u24, u25, u26, u27, u28, u29, u30, u31, u32, u33, u34, u35, u36, u37, u38, u39, u40, u41, u42, u43, u44, u45, u46, u47, u48, u49, u50, s12, ds, ⟨k, v, Ds, hk, hg, rfl, rfl, hS, hM⟩, rfl⟩
  intro _ _ _ _
  have Hg := Lib.hid hg
  clear hg
  have hGlt := hS.lt
  have p0 := hS.bP.cell (o := 0) rfl
  have p1 := hS.bP.cell (o := 1) rfl
  have p2 := hS.bP.cell (o := 2) rfl
  have p3 := hS.bP.cell (o := 3) rfl
  have p4 := hS.bP.cell (o := 4) rfl
  have p5 := hS.bP.cell (o := 5) rfl
  have cA := hS.bA.cell
  unfold addV at cA
  by_cases hk64 : k = 64
  · subst hk64
    have hl := tolU_le Hm.out (Nat.le_refl 64)
    have HC := Lib.hid (castles_any Hm.out Hbr.out hlt hS (by omega))
    go_upto_region 15 with (go_at_call 77; refine HC.out.mono ?_; rintro e w1 ⟨rfl, v1, hG1, hF1⟩)
    have hM1 := hM.frk hS hF1
    have hfound : tolU p 64 ++ (castG p 2).filter (fun m => safeGo p m.fr m.tg) = foundL p := by unfold tolU foundL genL; rw [List.filter_append]
    rw [hfound] at hG1
    have hfl : (foundL p).length ≤ 20000 := by
      rw [← hfound, List.length_append]
      have h1 : ((castG p 2).filter fun m => safeGo p m.fr m.tg).length ≤ 2 := by
        refine Nat.le_trans (List.length_filter_le _ _) ?_
        have h1 : ∀ n, (castAt p n).length ≤ 1 := fun n => by unfold castAt; split <;> simp
        show (castAt p (2 * p.turn.toNat) ++ castAt p (2 * p.turn.toNat + 1)).length ≤ 2
        rw [List.length_append]
        have := h1 (2 * p.turn.toNat)
        have := h1 (2 * p.turn.toNat + 1)
        omega
      omega
    have HSo := Lib.hid (sortP_any hG1.own hfl)
    have cL := hG1.bL.cell
    clear p0 p1 p2 p3 p4 p5 cA
    have hown1 := hG1.own
    go_upto_region 16 with (go_at_call 79; refine HSo.out.mono ?_; rintro e w2 ⟨rfl, l', hperm, hpw, hsl, hgr⟩)
    have hne : ∀ j, v1.ownBlock = some j → w.heap.size + 3 ≤ j := fun j hj => (hown1.lt j hj).1
    have hL2 : Boxed w2 (w.heap.size + 1) 37 v1 := hG1.bL.kept hgr (fun e => by have := hne _ e.symm; omega)
    have hM2 : Marks (w.heap.size + 3) w2 Ds := hM1.keep fun D hD => hgr.block D (hM1.lt hD) (fun e => hG1.not_own (hM1.at_ D hD) rfl (.inr ⟨v1, hG1.bL.cell, e.symm⟩))
    have hb2 : Below w.heap.size w w2 := hG1.below.grown hgr (by have := hG1.lt; omega) (fun j hj => by have := hne j hj; omega)
    have hfin : l' = movesR p := sorted_found Hm.out hperm hpw
    subst hfin
    clear cL
    have cL2 := hL2.cell
    go_wp2
    show LeavesInM _ _ _ _ _ _ _ _ _
    refine leaves_marks2 (n₀ := w.heap.size + 3) Ds _ hM2 (v := v1) (fun w' hb' hk' => ⟨(results_tmp (fn := Tryz.f45) (t := 2) rfl _ _ _).trans rfl, v1, rfl, hsl.keep hb'.size hk', (fun j hj => by have := hne j hj; omega), hb2.trans (hb'.mono (by omega))⟩)
  have hklt : k < 64 := by omega
  clear hk64 hk
  have hl := tolU_le Hm.out (Nat.le_of_lt hklt)
  have HL := Lib.hid hl
  have hsuc := Lib.hid (tolU_succ p k)
  clear hl
  have hbrk := Hbr.out.below hS.below hlt
  have ck := hbrk.cell k hklt
  have hki : (k : Int) < 64 := by omega
  have hx0 := (hbrk.bd k).1
  have hx1 := (hbrk.bd k).2
  go_upto_region 10 with fail
  generalize hWb : World.alloc _ _ = Wb
  have hbb : Below wr.heap.size wr Wb := by rw [← hWb]; exact (Below.refl _ _).alloc (Nat.le_refl _) _
  have hFb : Blk Wb wr.heap.size #[.int .i64 k] := by rw [← hWb]; exact Blk.new _ _ _
  have hFs : Sf (w.heap.size + 1) Wb wr.heap.size := by rw [← hWb]; exact Sf.new rfl (by omega) hS.ol _ _
  clear hWb
  have hS1 := hS.later hbb
  have hM1 := hM.below hbb
  clear hS hM p0 p1 p2 p3 p4 p5 cA ck hbrk
  have hS1lt := hS1.lt
  have p1 := hS1.bP.cell (o := 1) rfl
  have hwl := hFb.lt
  have f0 := hFb.cell (o := 0) rfl
  have hpre : ∀ nq, GS w.heap.size w (Wb.drewN nq) b off cap p v (tolU p k) ∧ Marks (w.heap.size + 3) (Wb.drewN nq) Ds := fun nq => ⟨hS1.later (below_drewN (Below.refl _ _) nq), hM1.below (below_drewN (Below.refl _ _) nq)⟩
  have HP := Lib.hid hpre
  clear hpre
  cases h1 : (sideR (p.L k) != p.turn)
  case true =>
    have hz : genAt p k = [] := by unfold genAt; rw [if_neg (by simpa using h1)]
    have Hz := Lib.hid hz
    clear hz
    go_quiet ((go_at_call 60; exact quiet_retW (sideP_any _ _)))
    go_wp2
    go_roundg (64 - (k + 1))
    case measure => have := Hg.out; omega
    case rel => exact ⟨k + 1, v, Ds, by omega, rfl, by go_num, rfl, by rw [hsuc.out, Hz.out]; simpa using (HP.out nq).1, (HP.out nq).2⟩
  case false =>
  have hown : sideR (p.L k) = p.turn := by simpa using h1
  have Hown := Lib.hid hown
  clear hown
  go_quiet ((go_at_call 60; exact quiet_retW (sideP_any _ _)))
  obtain ⟨hS2, hM2⟩ := HP.out nq
  have hF2 : Blk (Wb.drewN nq) wr.heap.size #[.int .i64 k] := hFb.drewN nq
  have hFs2 : Sf (w.heap.size + 1) (Wb.drewN nq) wr.heap.size := hFs.below (below_drewN (Below.refl _ _) nq) (by omega)
  clear HP p1 f0 hS1 hM1 hFb hFs hS1lt
  generalize Wb.drewN nq = Wc at *
  clear hbb
  have hS2lt := hS2.lt
  have p0 := hS2.bP.cell (o := 0) rfl
  have p1 := hS2.bP.cell (o := 1) rfl
  have p2 := hS2.bP.cell (o := 2) rfl
  have p3 := hS2.bP.cell (o := 3) rfl
  have p4 := hS2.bP.cell (o := 4) rfl
  have p5 := hS2.bP.cell (o := 5) rfl
  have f0 := hF2.cell (o := 0) rfl
  cases h2 : (sizeI (p.L k) == 1)
  case true =>
    have hs1 : sizeI (p.L k) = 1 := by simpa using h2
    have HC := Lib.hid (pawn_any Hm.out Hbr.out hlt hS2 (Nat.le_trans HL.out (by omega)) hklt Hown.out hs1 f0 hFs2)
    have hgen : (genAt p k).filter (fun m => safeGo p m.fr m.tg) = toldL p k (takesL p k ++ aheadL p k) := by unfold genAt; rw [if_pos Hown.out, if_pos hs1]; rfl
    have Hgen := Lib.hid hgen
    clear hgen hs1
    go_wp2_with (first
      | (go_at_call 59; refine (kindP_any _ _ (by omega) (by omega)).mono ?_; rintro e w' ⟨rfl, rfl⟩)
      | (go_at_call 73; refine HC.out.mono ?_; rintro e w1 ⟨rfl, v1, hG1, hF1⟩))
    go_roundg (64 - (k + 1))
    case measure => have := Hg.out; omega
    case rel => exact ⟨k + 1, v1, Ds, by omega, rfl, by go_num, rfl, by rw [hsuc.out, Hgen.out]; exact hG1, hM2.frk hS2 hF1⟩
  case false =>
  have hs1 : sizeI (p.L k) ≠ 1 := by simpa using h2
  have Hs1 := Lib.hid hs1
  clear hs1
  have hgen : (genAt p k).filter (fun m => safeGo p m.fr m.tg) = toldP p k (reachL p.L k) := by unfold genAt; rw [if_pos Hown.out, if_neg Hs1.out]; rfl
  have Hgen := Lib.hid hgen
  clear hgen
  go_wp2_with (first
    | (go_at_call 59; refine (kindP_any _ _ (by omega) (by omega)).mono ?_; rintro e w' ⟨rfl, rfl⟩)
    | (go_at_call 76; refine (reachP_any _ _ _ _ _).mono ?_; rintro e w' ⟨rfl, rfl⟩))
  generalize hW1 : World.alloc _ _ = W1
  have hb1 : Below Wc.heap.size Wc W1 := by rw [← hW1]; exact ((Below.refl _ _).alloc (Nat.le_refl _) _).alloc (by simp) _
  have hsz : W1.heap.size = Wc.heap.size + 2 := by rw [← hW1]; simp
  have hR1 : Blk W1 Wc.heap.size #[.slice (some ⟨b, off, none⟩) 64 cap] := by rw [← hW1]; exact (Blk.new _ _ _).alloc _
  have hQ1 : Blk W1 (Wc.heap.size + 1) #[.int .i64 k] := by rw [← hW1]; exact Blk.new' (by simp) _ _
  clear hW1
  have hbl : w.heap.size + 1 < Wc.heap.size := by omega
  have hol := hS2.ol
  have hno : ∀ j, OwnK (w.heap.size + 1) W1 j → j < Wc.heap.size := fun j hj => hol j ((ownK_heap (hb1.block _ hbl)).1 hj)
  have hbrW1 : Brd W1 b off p.L := (Hbr.out.below hS2.below hlt).below hb1 (by omega)
  have hSfb : Sf (w.heap.size + 1) W1 b := ⟨cells_of_cell (hbrW1.cell 0 (by omega)), fun h => by
    have h2 := (ownK_heap (hb1.block _ hbl)).1 h
    rcases hS2.ownK h2 with h3 | h3 <;> omega⟩
  have hC : RC W1 b off cap Wc.heap.size (Wc.heap.size + 1) (w.heap.size + 1) p.L k :=
    ⟨hbrW1, hR1.cell (o := 0) rfl, hQ1.cell (o := 0) rfl, hSfb, ⟨cells_of_cell (hR1.cell (o := 0) rfl), fun h => by have := hno _ h; omega⟩, ⟨cells_of_cell (hQ1.cell (o := 0) rfl), fun h => by have := hno _ h; omega⟩, by omega, fun j hj => by have := hno j hj; omega⟩
  have hF3 : Blk W1 wr.heap.size #[.int .i64 k] := hF2.below hb1 hF2.lt
  have hFs3 : Sf (w.heap.size + 1) W1 wr.heap.size := hFs2.below hb1 hbl
  have hS3 := hS2.later hb1
  have hM3 := hM2.below hb1
  have HS3 := Lib.hid hS3
  clear hbrW1 hR1 hQ1 p0 p1 p2 p3 p4 p5 f0 hSfb hno hol
  have hS3lt := hS3.lt
  refine wpIn_wide.1 (wpIn_rangeFunc_ownG (n := 3) rfl (by omega) (gf := 102) (lb := #[.pointer (some ⟨Wc.heap.size, 0, none⟩), .pointer (some ⟨Wc.heap.size + 1, 0, none⟩)]) rfl trivial (enters_of Tryz.func102 (by kernel_rfl) rfl)
    (reachR_stops b off cap _ _ (w.heap.size + 1) p.L k 2 W1 hklt hC) (fun h k => h.trans k) (kpR_b (by omega)) (Below.refl _ _) (fun _ => rfl)
    (fun pre W' => FrK (w.heap.size + 1) W1 W' ∧ ∃ v', GS w.heap.size w W' b off cap p v' (tolU p k ++ toldP p k (sqr pre)))
    (fun _ _ _ => False)
    (fun s A C row hs hg hr => ⟨hs.1.grown hg (by omega) (Nat.le_refl _) hr, hs.2.elim fun v' hv' => ⟨v', hv'.grown hg (by omega) hr⟩⟩)
    (fun _ _ _ _ _ hs _ _ => hs.elim)
    ⟨FrK.refl _ _, v, by simpa [sqr, toldP] using HS3.out⟩
    (fun (x : Sr p.L k) => { tmps := #[.agg #[.slice (some ⟨b, off, none⟩) 64 cap, .int .i64 p.turn, .int .i64 p.castle, .int .i64 p.ep, .int .i64 p.half, .int .i64 p.full], .pointer (some ⟨w.heap.size, 0, none⟩), .slice none 0 0, .pointer (some ⟨w.heap.size + 1, 0, none⟩), .pointer (some ⟨w.heap.size + 1 + 1, 0, none⟩), .pointer (some ⟨wr.heap.size, 0, none⟩), .int .i64 (p.L k), .int .i64 (x.val.val : Int), .func (.func 72) #[] #[.pointer (some ⟨w.heap.size, 0, none⟩), .pointer (some ⟨w.heap.size + 1, 0, none⟩)], .pointer (some ⟨w.heap.size, 0, none⟩), .slice (some ⟨b, off, none⟩) 64 cap, .int .i64 64, .int .i64 k, .bool true, .int .i64 k, .pointer (some ⟨b, off + k, none⟩), .int .i64 (p.L k), .pointer (some ⟨w.heap.size, 0, none⟩), .slice (some ⟨b, off, none⟩) 64 cap, .int .i64 k, .func (.func 102) #[] #[.pointer (some ⟨Wc.heap.size, 0, none⟩), .pointer (some ⟨Wc.heap.size + 1, 0, none⟩)], .int .i64 (x.val.val : Int), u22, u23, u24, u25, u26, u27, u28, u29, u30, u31, u32, u33, u34, u35, .bool false, .int .i64 (p.L k), .int .i64 (sideR (p.L k)), .pointer (some ⟨w.heap.size, 1, none⟩), .int .i64 p.turn, .bool false, .bool false, .int .i64 (p.L k), .int .i64 (sizeI (p.L k)), .bool false, u46, u47, u48, u49, u50, undef, undef, undef, undef, undef, undef], defers := [] }) ?assign ?body ?done ?stop)
  case assign =>
    intro l x W K hK
    dsimp only [sqAr]
    gi_wp2
    exact hK
  case stop =>
    rintro D c pre W' hD hSp h
    exact h.elim
  case body =>
    rintro l' pre ⟨⟨q, hxlt⟩, hqm⟩ W' ⟨hF, v', hG⟩ hlen
    dsimp only at hqm
    dsimp only
    have hd : 1 ≤ 3 - 1 - 1 := by omega
    have hmx : Tryz.prog.follows .mixedOrders = true := by kernel_rfl
    have hF' := hF3.of_heap (hFs3.kp hF.kp).2
    have hbr' : Brd W' b off p.L := Hbr.out.below hG.below hlt
    have cx := hbr'.cell q hxlt
    have p0 := hG.bP.cell (o := 0) rfl
    have p1 := hG.bP.cell (o := 1) rfl
    have f0 := hF'.cell (o := 0) rfl
    have cA := hG.bA.cell
    unfold addV at cA
    have hxi : (q : Int) < 64 := by omega
    have hGlt' := hG.lt
    have hGd : ∀ nq, GS w.heap.size w (W'.drewN nq) b off cap p v' (tolU p k ++ toldP p k (sqr pre)) := fun nq => hG.later (below_drewN (Below.refl _ _) nq)
    have hFd : ∀ nq, FrK (w.heap.size + 1) W' (W'.drewN nq) := fun nq => FrK.of_below (below_drewN (Below.refl _ _) nq) (by omega)
    have hlen2 : (tolU p k ++ toldP p k (sqr pre)).length ≤ 20000 := by
      rw [List.length_append]
      have h1 := toldP_le p k (sqr pre)
      have h2 : (sqr pre).length = pre.length := by simp [sqr]
      have h3 := reach_le (hbr'.bd k).1 (hbr'.bd k).2
      have := HL.out
      omega
    have HT := fun h nq => add_any Hm.out Hbr.out hlt (hGd nq) hlen2 (piece_pseu Hm.out hklt Hown.out Hs1.out hqm h)
    have hyes : freeB p q = true → tolU p k ++ toldP p k (sqr (pre ++ [⟨⟨q, hxlt⟩, hqm⟩])) = (tolU p k ++ toldP p k (sqr pre)) ++ ([(⟨k, q, 0⟩ : Mv)].filter fun m => safeGo p m.fr m.tg) := by
      intro h
      rw [sqr_snoc, toldP_app]
      simp [h, toldP]
    have hnope : freeB p q = false → tolU p k ++ toldP p k (sqr (pre ++ [⟨⟨q, hxlt⟩, hqm⟩])) = tolU p k ++ toldP p k (sqr pre) := by
      intro h
      rw [sqr_snoc, toldP_app]
      simp [h, toldP]
    have HT := Lib.hid HT
    have Hyes := Lib.hid hyes
    have Hno := Lib.hid hnope
    clear hlen2 hlen hyes hnope
    cases e1 : (sideR (p.L q) != p.turn)
    case true =>
      have htk : freeB p q = true := e1
      have HC := Lib.hid (HT.out htk)
      gi_wp2
      refine wpIn_region_quiet_round rfl (by kernel_rfl) (by kernel_rfl) (by kernel_rfl) ?_
      repeat (gi_big_quiet_step ((gi_at_call 60; exact quietIn_retW (sideP_any _ _))))
      refine wpQuietIn_nil ?_
      intro _ hw'
      obtain ⟨nq, hw''⟩ := hw'
      subst hw''
      unfold mvV at HC
      gi_wp2_with (gi_at_call 72; refine (CallsIn.inRound l' (callsIn_wide.2 (HC.out nq))).mono ?_; rintro e w1 ⟨rfl, v1, hG1, hF1⟩)
      exact ⟨((hFd nq).trans hF1).keepsFrom hG.cells, ((hFd nq).trans hF1).kp, hF.trans ((hFd nq).trans hF1), v1, by rw [Hyes.out htk]; exact hG1⟩
    case false =>
      have htk : freeB p q = false := e1
      gi_wp2
      refine wpIn_region_quiet_round rfl (by kernel_rfl) (by kernel_rfl) (by kernel_rfl) ?_
      repeat (gi_big_quiet_step ((gi_at_call 60; exact quietIn_retW (sideP_any _ _))))
      refine wpQuietIn_nil ?_
      intro _ hw'
      obtain ⟨nq, hw''⟩ := hw'
      subst hw''
      gi_wp2
      exact ⟨(hFd nq).keepsFrom hG.cells, (hFd nq).kp, hF.trans (hFd nq), v', by rw [Hno.out htk]; exact hGd nq⟩
  case done =>
    rintro D xs W' hD hS' ⟨hF, v', hG⟩ hKD
    rw [hS'] at hG
    have hM4 : Marks (w.heap.size + 3) W' (D :: Ds) := (hM3.frk hS3 hF).cons (fun h => by have := hM3.lt h; omega) (by omega) hKD
    go_wp2
    go_roundg (64 - (k + 1))
    case measure => have := Hg.out; omega
    case rel => exact ⟨k + 1, v', D :: Ds, by omega, rfl, by go_num, rfl, by rw [hsuc.out, Hgen.out]; exact hG, hM4⟩

theorem movesP_any {b off cap : Nat} {w : World} {p : Pos} (hm : MayP p) (hbr : Brd w b off p.L) :
    Calls Tryz.prog 45 #[chessV b off cap p] w fun e w' => ∃ v, e = .returned v ∧ MvSl w' v (movesR p) ∧ Below w.heap.size w w' :=
  (movesP_own hm hbr).mono fun _ _ ⟨v, h1, h2, _, h3⟩ => ⟨v, h1, h2, h3⟩

end Go.Proofs.YthffhhbbhjcdeaaGreatDoor
