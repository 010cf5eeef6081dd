/- WALKS: the program's Attackers, KingAt, Checked. -/
import Derived.Test.YthffhhbbhjcdeaaGreatDoorC2
import Derived.RangeFuncBox
set_option linter.unusedVariables false
set_option linter.unusedSimpArgs false
namespace Go.Proofs.YthffhhbbhjcdeaaGreatDoor
open Go.RowKit
attribute [local go_sem] Oper.semAt_some
set_option maxRecDepth 100000

def markD (D : Nat) : Deferred := { target := .collected D, args := #[] }
/-- The marks of loops over iterators that have been gone through. -/
structure Marks (n₀ : Nat) (W : World) (Ds : List Nat) : Prop where
  nd : Ds.Nodup
  ge : ∀ D, D ∈ Ds → n₀ ≤ D
  at_ : ∀ D, D ∈ Ds → W.heap[D]? = some (.deferred (some []))
theorem Marks.nil (n₀ : Nat) (W : World) : Marks n₀ W [] := ⟨List.nodup_nil, fun _ h => by simp at h, fun _ h => by simp at h⟩
theorem Marks.lt {n₀ : Nat} {W : World} {Ds : List Nat} (h : Marks n₀ W Ds) {D : Nat} (hD : D ∈ Ds) : D < W.heap.size := (Array.getElem?_eq_some_iff.1 (h.at_ D hD)).1
theorem Marks.keep {n₀ : Nat} {W W' : World} {Ds : List Nat} (h : Marks n₀ W Ds) (hk : ∀ D, D ∈ Ds → W'.heap[D]? = W.heap[D]?) : Marks n₀ W' Ds := ⟨h.nd, h.ge, fun D hD => (hk D hD).trans (h.at_ D hD)⟩
theorem Marks.below {n₀ : Nat} {W W' : World} {Ds : List Nat} (h : Marks n₀ W Ds) (hb : Below W.heap.size W W') : Marks n₀ W' Ds := h.keep fun D hD => hb.block D (h.lt hD)
theorem Marks.cons {n₀ : Nat} {W : World} {Ds : List Nat} {D : Nat} (h : Marks n₀ W Ds) (hn : D ∉ Ds) (hge : n₀ ≤ D) (hD : W.heap[D]? = some (.deferred (some []))) : Marks n₀ W (D :: Ds) :=
  ⟨List.nodup_cons.2 ⟨hn, h.nd⟩, fun E hE => by rcases List.mem_cons.1 hE with rfl | hE; exact hge; exact h.ge E hE, fun E hE => by rcases List.mem_cons.1 hE with rfl | hE; exact hD; exact h.at_ E hE⟩

theorem leaves_marks {F : Fence} {n : Nat} {P : Program} {fn : Func} {tmps : Array Value} {R : Ending → World → Prop} {v : Value} {n₀ : Nat} : ∀ (Ds : List Nat) (w : World), Marks n₀ w Ds →
    (∀ w', Below n₀ w w' → (results fn tmps).run P w' = .ok v w' ∧ R (.returned v) w') → LeavesInM F n P fn tmps R (Ds.map markD) .returning w
  | [], w, _, h => by
    obtain ⟨h1, h2⟩ := h w (Below.refl _ _)
    exact ⟨v, h1, h2⟩
  | D :: Ds, w, hM, h => by
    have hD := hM.at_ D (by simp)
    refine ⟨by simp, .inl ⟨D, _, rfl, run_takeDeferred hD, ?_⟩⟩
    have hnd := List.nodup_cons.1 hM.nd
    have hlt := hM.lt (D := D) (by simp)
    have hb : Below n₀ w (w.putObj D (.deferred none)) := (Below.refl n₀ w).grown (grownBy_putObj' w D _) (by have := hM.ge D (by simp); omega) (fun k e => by cases e; exact hM.ge D (by simp))
    refine leaves_marks (n₀ := n₀) Ds _ ⟨hnd.2, fun E hE => hM.ge E (by simp [hE]), fun E hE => ?_⟩ (fun w' hb' => h w' (hb.trans hb'))
    rw [World.putObj_heap_other (by rintro rfl; exact hnd.1 hE)]
    exact hM.at_ E (by simp [hE])

/-- The call returns a slice of so many. -/
def RetLen (n : Nat) (w : World) (e : Ending) (w' : World) : Prop := ∃ a cp, e = .returned (.slice a n cp) ∧ Below w.heap.size w w'
theorem cells_of_cell {W : World} {b o : Nat} {v : Value} (h : W.cell? ⟨b, o, none⟩ = some v) : ∃ ob, W.heap[b]? = some ob ∧ ob.isCells = true := by
  unfold World.cell? at h
  dsimp only at h
  split at h
  · rename_i hc
    exact ⟨_, hc, rfl⟩
  · cases h
/-- Attackers at work: its two boxes, what has been found, the marks. -/
structure ATS (n₀ : Nat) (w W : World) (tg : Nat) (v : Value) (l : List Int) (Ds : List Nat) : Prop where
  bA : Boxed W n₀ 3 (.int .i64 tg)
  bL : Boxed W (n₀ + 1) 22 v
  own : W.ownsRow (n₀ + 2) 3 1 v l.length (l.map (Value.int .i64))
  below : Below n₀ w W
  marks : Marks (n₀ + 2) W Ds
theorem ATS.later {n₀ tg : Nat} {w W W' : World} {v : Value} {l : List Int} {Ds : List Nat} (h : ATS n₀ w W tg v l Ds) (hb : Below W.heap.size W W') : ATS n₀ w W' tg v l Ds := by
  have h1 := h.bL.lt
  exact ⟨h.bA.kept (grownN_below hb) (by simp), h.bL.kept (grownN_below hb) (by simp), h.own.kept (grownN_below hb) (by cases hv : v.ownBlock <;> simp), h.below.trans (hb.mono (by omega)), h.marks.below hb⟩
theorem ATS.ol {n₀ tg : Nat} {w W : World} {v : Value} {l : List Int} {Ds : List Nat} (h : ATS n₀ w W tg v l Ds) : ∀ j, OwnK (n₀ + 1) W j → n₀ + 1 ≤ j ∧ j < W.heap.size := by
  intro j hj
  rcases hj with rfl | ⟨v', hv', hj⟩
  · exact ⟨Nat.le_refl _, h.bL.lt⟩
  · have := h.bL.cell
    rw [this] at hv'
    cases hv'
    have := h.own.lt j hj
    omega
/-- .. and behind the turn of a block that is no cells and no mark. -/
theorem ATS.grown {n₀ tg B : Nat} {w W W' : World} {v : Value} {l : List Int} {Ds : List Nat} {row : Option Nat} (h : ATS n₀ w W tg v l Ds) (hg : W.grownBy W' row) (hB : n₀ + 2 ≤ B) (hD : ∀ D, D ∈ Ds → D < B)
    (hr : ∀ r, row = some r → B ≤ r ∧ ∃ o : Obj, W.heap[r]? = some o ∧ o.isCells = false) : ATS n₀ w W' tg v l Ds := by
  have h1 := h.bL.lt
  refine ⟨h.bA.kept hg (fun e => by have := (hr _ e.symm).1; omega), h.bL.kept hg (fun e => by have := (hr _ e.symm).1; omega), h.own.kept hg ?_, h.below.grown hg (by omega) (fun k e => by have := (hr k e).1; omega), h.marks.keep fun D hd => hg.block D (h.marks.lt hd) (fun e => by have := (hr _ e.symm).1; have := hD D hd; omega)⟩
  rcases h.own.2 with ⟨rfl, _⟩ | ⟨g, cap, cur, rfl, _, hgb, _⟩
  · exact .inl rfl
  · refine .inr fun e' => ?_
    obtain ⟨_, o, ho, hc⟩ := hr g (by simpa [Value.ownBlock] using e'.symm)
    rw [hgb] at ho; cases ho; cases hc

/-- One more is appended. -/
theorem ATS.app {n₀ tg : Nat} {w W w1 : World} {v v' : Value} {l : List Int} {Ds : List Nat} (h : ATS n₀ w W tg v l Ds) (hn : n₀ ≤ w.heap.size) (tmp : Obj) (x : Int)
    (hown' : w1.ownsRow (n₀ + 2) 3 1 v' (l.length + 1) (l.map (Value.int .i64) ++ [.int .i64 x])) (hgrow : (W.alloc tmp).grownBy w1 v.ownBlock) :
    Boxed w1 (n₀ + 1) 22 v ∧ ATS n₀ w (w1.setCell ⟨n₀ + 1, 0, none⟩ v') tg v' (l ++ [x]) Ds ∧ KeepsOthers W (w1.setCell ⟨n₀ + 1, 0, none⟩ v') := by
  have h1 := h.bL.lt
  have hne : ∀ j, v.ownBlock = some j → n₀ + 2 ≤ j := fun j hj => (h.own.lt j hj).1
  have hv1 : Boxed w1 (n₀ + 1) 22 v := (h.bL.alloc tmp).kept hgrow (fun e => by have := hne _ e.symm; omega)
  have hcells : ∀ j, v.ownBlock = some j → ∃ o, W.heap[j]? = some o ∧ o.isCells = true := by
    intro j hj
    rcases h.own.2 with ⟨rfl, _⟩ | ⟨g, cap, cur, rfl, _, hgb, _⟩
    · simp [Value.ownBlock] at hj
    · obtain rfl : g = j := by simpa [Value.ownBlock] using hj
      exact ⟨_, hgb, rfl⟩
  have hb1 : Below n₀ W w1 := ((Below.refl n₀ W).alloc (by have := h.below.size; omega) tmp).grown hgrow (by simp; omega) (fun j hj => by have := hne j hj; omega)
  refine ⟨hv1, ⟨?_, hv1.set v', ?_, ?_, ?_⟩, ?_⟩
  · have h2 : Boxed w1 n₀ 3 (.int .i64 tg) := (h.bA.alloc tmp).kept hgrow (fun e => by have := hne _ e.symm; omega)
    exact h2.kept (grownBy_setCell' w1 (n₀ + 1) v') (by simp)
  · rw [List.length_append, List.length_singleton, List.map_append]
    exact hown'.kept (grownBy_setCell' w1 (n₀ + 1) v') (.inr (hv1.not_row (by decide) hown').symm)
  · exact (h.below.trans hb1).setCell (p := ⟨n₀ + 1, 0, none⟩) (by simp) v'
  · refine h.marks.keep fun D hD => ?_
    have hge := h.marks.ge D hD
    have hlt := h.marks.lt hD
    have hat := h.marks.at_ D hD
    refine (Below.heap_setCell _ _ _ D (by simp; omega)).trans ((hgrow.block D (by simp; omega) (fun e => ?_)).trans (Below.heap_alloc W tmp D hlt))
    obtain ⟨o, ho, hc⟩ := hcells D e.symm
    rw [hat] at ho; cases ho; cases hc
  · refine ((KeepsOthers.alloc W tmp).trans (KeepsOthers.of_grownBy hgrow fun j o ej hj => ?_)).trans (KeepsOthers.setCell _ _ _)
    obtain ⟨o', ho, hc⟩ := hcells j ej
    have hlt := (Array.getElem?_eq_some_iff.1 ho).1
    rw [Below.heap_alloc W tmp j hlt, ho] at hj
    cases hj; exact hc

set_option maxHeartbeats 4000000 in
theorem attackersP_any (b off cap : Nat) (L : Nat → Int) (tg : Nat) (by' : Int) (w : World) (ht : tg < 64) (hbr : Brd w b off L) :
    Calls Tryz.prog 93 #[.slice (some ⟨b, off, none⟩) 64 cap, .int .i64 tg, .int .i64 by'] w (RetLen (attackersL L tg by' 64).length w) := by
  obtain ⟨i0, hi0, hz0, hz1, hz2⟩ := info_parts Tryz.info3
  refine (callsIn_wide (n := 3)).1 (callsIn_of_wp_marks Tryz.func93 rfl trivial (wpIn_wide.2 ?_) rfl)
  simp only [Tryz.ntmps93, List.size_toArray, List.length_cons, List.length_nil, Nat.reduceAdd, Nat.reduceSub, Array.replicate_succ, Array.replicate_zero, List.push_toArray, List.append_toArray, List.nil_append, List.cons_append]
  go_wp2_with fail
  generalize hW0 : World.alloc _ _ = W0
  have hS : ATS w.heap.size w W0 tg (.slice none 0 0) (attackersL L tg by' 0) [] := by
    rw [← hW0]
    have hB := Boxed.new (w.alloc (.cells #[.int .i64 tg] 3)) 22 (.slice none 0 0)
    rw [World.size_alloc] at hB
    exact ⟨(Boxed.new w 3 _).alloc _, hB, World.ownsRow_nil _ _ _ _, ((Below.refl _ _).alloc (Nat.le_refl _) _).alloc (by simp) _, Marks.nil _ _⟩
  clear hW0
  refine wp_loop_ghost_k (fun gk a wr => ∃ (u8 u9 u10 u14 u15 u16 u17 u18 u19 u20 u21 u22 u23 u24 u25 u26 u27 u28 u29 u30 u31 u32 u33 s13 : Value) (ds : List Deferred),
    (∃ (k : Nat) (v : Value) (Ds : List Nat), k ≤ 64 ∧ gk = 64 - k ∧ s13 = .int .i64 k ∧ ds = Ds.map markD ∧ ATS w.heap.size w wr tg v (attackersL L tg by' k) Ds) ∧
    a = { tmps := #[.slice (some ⟨b, off, none⟩) 64 cap, .int .i64 tg, .int .i64 by', undef, .pointer (some ⟨w.heap.size, 0, none⟩), undef, .slice none 0 0, .pointer (some ⟨w.heap.size + 1, 0, none⟩), u8, u9, u10, .slice (some ⟨b, off, none⟩) 64 cap, .int .i64 64, s13, u14, u15, u16, u17, u18, u19, u20, u21, u22, u23, u24, u25, u26, u27, u28, u29, u30, u31, u32, u33, undef], defers := ds }) 64 ?atStart ?round
  case atStart =>
    (repeat apply Exists.intro)
    refine ⟨?_, rfl⟩
    exact ⟨0, _, [], by omega, rfl, rfl, rfl, hS⟩
  case round =>
  clear hS
  rintro gk _ wr ⟨u8, u9, u10, u14, u15, u16, u17, u18, u19, u20, u21, u22, u23, u24, u25, u26, u27, u28, u29, u30, u31, u32, u33, s13, ds, ⟨k, v, Ds, hk, hg, rfl, rfl, hS⟩, rfl⟩
  intro _ _ _ _
  have Hg := Lib.hid hg
  clear hg
  by_cases hk64 : k = 64
  · subst hk64
    have cL := hS.bL.cell
    obtain ⟨a0, cp0, hv⟩ : ∃ a0 cp0, v = .slice a0 (attackersL L tg by' 64).length cp0 := by
      rcases hS.own.2 with ⟨rfl, h0⟩ | ⟨g, cp, cur, rfl, _⟩
      · exact ⟨none, 0, by rw [h0]⟩
      · exact ⟨_, cp, rfl⟩
    rw [hv] at cL
    go_wp2
    show LeavesInM _ _ _ _ _ _ _ _ _
    refine leaves_marks (n₀ := w.heap.size + 2) Ds _ hS.marks (v := .slice a0 (attackersL L tg by' 64).length cp0) (fun w' hb' => ⟨(results_tmp (fn := Tryz.f93) (t := 6) rfl _ _ _).trans rfl, a0, cp0, rfl, hS.below.trans (hb'.mono (by omega))⟩)
  have hlt : k < 64 := by omega
  clear hk64 hk
  have hbrk := hbr.below hS.below hbr.lt
  have ck := hbrk.cell k hlt
  have hki : (k : Int) < 64 := by omega
  have hdk : decide ((k : Int) < 64) = true := by simp; omega
  cases h1 : (sideR (L k) != by')
  case true =>
    go_wp2_with (go_at_call 60; refine (sideP_any _ _).mono ?_; rintro e w' ⟨rfl, rfl⟩)
    go_roundg (64 - (k + 1))
    case measure => have := Hg.out; omega
    case rel => exact ⟨k + 1, v, Ds, by omega, rfl, by go_num, rfl, by rw [attackersL_no _ _ _ _ (by simp at h1; simp [h1])]; exact hS.later ((Below.refl _ _).alloc (Nat.le_refl _) _)⟩
  case false =>
  have hc1 : (wr.alloc (.cells #[.int .i64 k] 3)).cell? ⟨wr.heap.size, 0, none⟩ = some (.int .i64 k) := (Blk.new _ _ _).cell rfl
  go_wp2_with (first
    | (go_at_call 60; refine (sideP_any _ _).mono ?_; rintro e w' ⟨rfl, rfl⟩)
    | (go_at_call 76; refine (reachP_any _ _ _ _ _).mono ?_; rintro e w' ⟨rfl, rfl⟩))
  generalize hW1 : World.alloc _ _ = W1
  have hb1 : Below wr.heap.size wr W1 := by rw [← hW1]; exact (((Below.refl _ _).alloc (Nat.le_refl _) _).alloc (by simp) _).alloc (by simp; omega) _
  have hsz : W1.heap.size = wr.heap.size + 3 := by rw [← hW1]; simp
  have hF : Boxed W1 wr.heap.size 3 (.int .i64 k) := by rw [← hW1]; exact ((Boxed.new wr 3 _).alloc _).alloc _
  have hP : Boxed W1 (wr.heap.size + 1) 22 (.slice (some ⟨b, off, none⟩) 64 cap) := by
    rw [← hW1]; have := Boxed.new (wr.alloc (.cells #[.int .i64 k] 3)) 22 (.slice (some ⟨b, off, none⟩) 64 cap); rw [World.size_alloc] at this; exact this.alloc _
  have hQ : Boxed W1 (wr.heap.size + 1 + 1) 3 (.int .i64 k) := by
    rw [← hW1]; have := Boxed.new ((wr.alloc (.cells #[.int .i64 k] 3)).alloc (.cells #[.slice (some ⟨b, off, none⟩) 64 cap] 22)) 3 (.int .i64 k); rwa [World.size_alloc, World.size_alloc] at this
  clear hW1 hc1
  have hol := hS.ol
  have hwr := hS.bL.lt
  have hblt := hbr.lt
  have hS1 := hS.later hb1
  have hbr1 := hbrk.below hb1 hbrk.lt
  have hno : ∀ j, OwnK (w.heap.size + 1) W1 j → w.heap.size + 1 ≤ j ∧ j < wr.heap.size := fun j hj => hol j ((ownK_heap (hb1.block _ hwr)).1 hj)
  have hC : RC W1 b off cap (wr.heap.size + 1) (wr.heap.size + 1 + 1) (w.heap.size + 1) L k :=
    ⟨hbr1, hP.cell, hQ.cell, ⟨cells_of_cell (hbr1.cell 0 (by omega)), fun h => by have := hno _ h; omega⟩, ⟨cells_of_cell hP.cell, fun h => by have := hno _ h; omega⟩, ⟨cells_of_cell hQ.cell, fun h => by have := hno _ h; omega⟩, by omega, fun j hj => by have := hno _ hj; omega⟩
  have Hx1 := Lib.hid h1
  refine wpIn_wide.1 (wpIn_rangeFunc_ownG (n := 3) rfl (by omega) (gf := 102) (lb := #[.pointer (some ⟨wr.heap.size + 1, 0, none⟩), .pointer (some ⟨wr.heap.size + 1 + 1, 0, none⟩)]) rfl trivial (enters_of Tryz.func102 (by kernel_rfl) rfl)
    (reach_stops b off cap _ _ (w.heap.size + 1) L k 2 W1 hlt hC) (fun h k => h.trans k) (kpR_b (by omega)) (Below.refl _ _) (fun _ => rfl)
    (fun pre W => tg ∉ sqs pre ∧ Below W1.heap.size W1 W)
    (fun c pre W => c = .exit 2 ∧ tg ∈ sqs pre ∧ ∃ v', ATS w.heap.size w W tg v' (attackersL L tg by' k ++ [(k : Int)]) Ds)
    (OwnFrom.and (Own.from (fun _ _ _ _ h _ _ => h) _) (ownFrom_below (Nat.le_refl _) (by omega)))
    (fun c s A B row hs hg hr => ⟨hs.1, hs.2.1, hs.2.2.elim fun v' hv' => ⟨v', hv'.grown hg (by omega) (fun D hD => by have := hS1.marks.lt hD; omega) hr⟩⟩)
    ⟨by simp [sqs], Below.refl _ _⟩
    (fun x => { tmps := #[.slice (some ⟨b, off, none⟩) 64 cap, .int .i64 tg, .int .i64 by', undef, .pointer (some ⟨w.heap.size, 0, none⟩), undef, .slice none 0 0, .pointer (some ⟨w.heap.size + 1, 0, none⟩), .pointer (some ⟨wr.heap.size, 0, none⟩), .int .i64 (L k), .int .i64 (x.val : Int), .slice (some ⟨b, off, none⟩) 64 cap, .int .i64 64, .int .i64 k, .bool true, .int .i64 k, .pointer (some ⟨b, off + k, none⟩), .int .i64 (L k), .int .i64 (L k), .int .i64 (sideR (L k)), .int .i64 by', .bool false, .slice (some ⟨b, off, none⟩) 64 cap, .int .i64 k, .func (.func 102) #[] #[.pointer (some ⟨wr.heap.size + 1, 0, none⟩), .pointer (some ⟨wr.heap.size + 1 + 1, 0, none⟩)], .int .i64 (x.val : Int), u26, u27, u28, u29, u30, u31, u32, u33, undef], defers := [] }) ?assign ?body ?done ?stop)
  case assign =>
    intro l x W K hK
    dsimp only [sqA]
    gi_wp2
    exact hK
  case body =>
    rintro l pre x W ⟨hni, hbW⟩ _
    have hSW := hS1.later hbW
    have cA := hSW.bA.cell
    have cL := hSW.bL.cell
    have cF := (hF.kept (grownN_below hbW) (by simp)).cell
    have hW1W := hbW.size
    have hro := hSW.own
    have hSWl := hSW.bL.lt
    have hSWb := hSW.bL
    by_cases hxt : (x.val : Int) = tg
    · have hq : ((x.val : Int) == tg) = true := by simpa using hxt
      have hle := attackersL_le L tg by' k
      have Hmem : tg ∈ sqs (pre ++ [x]) := by simp [sqs]; exact .inr (by omega)
      clear hxt
      gi_wp2_with (gi_at_builtin; refine wpListIn_append_own _ rfl _ _ 22 rfl (w.heap.size + 2) 3 i0 (.int .i64 0) 1 8 Tryz.underlying22 hi0 hz0 hz1 hz2 rfl (by decide) _ _ _ rfl (hro.alloc _) ⟨W.heap.size, 0, none⟩ 1 1 [.int .i64 k] rfl rfl ?c1 ?c2 ?c3 ?c4 ?c5 ?_)
      case c1 => exact one_new _ _ _
      case c2 => intro u hu; simp at hu; subst hu; rfl
      case c3 => unfold maxLen; omega
      case c4 => omega
      case c5 => simp; omega
      intro v' w1 hown' hgrow _
      have hown2 : w1.ownsRow (w.heap.size + 2) 3 1 v' ((attackersL L tg by' k).length + 1) ((attackersL L tg by' k).map (Value.int .i64) ++ [.int .i64 (k : Int)]) := hown'
      obtain ⟨hv1, hA2, hK2⟩ := hSW.app (Nat.le_refl _) _ (k : Int) hown2 hgrow
      obtain ⟨g', cap', rfl⟩ := ownsRow_succ hown2
      have hc1 := hv1.cell
      have hf1 := hv1.frozen
      clear hown' hgrow hro
      gi_wp2
      exact ⟨hK2.from _, rfl, Hmem, _, hA2⟩
    · have hq : ((x.val : Int) == tg) = false := by simpa using hxt
      have hni2 : tg ∉ sqs (pre ++ [x]) := by
        simp only [sqs, List.map_append, List.mem_append, List.map_cons, List.map_nil, List.mem_singleton]
        rintro (h | h)
        · exact hni h
        · exact hxt (by omega)
      have Hni := Lib.hid hni2
      clear hxt hni hni2
      gi_wp2
      exact ⟨KeepsFrom.refl _ _, KpR.refl _ _, Hni.out, hbW⟩
  case done =>
    rintro D xs W hD hS' ⟨hni, hbW⟩ hKD
    have hno2 : attacksB L k tg = false := by
      cases ha : attacksB L k tg
      · rfl
      · exact absurd (by rw [hS']; exact (mem_reach hlt ht (hbr.bd k).1 (hbr.bd k).2).2 ha) hni
    have Hno := Lib.hid hno2
    have hSW := hS1.later hbW
    clear hni hS' hno2
    go_wp2
    go_roundg (64 - (k + 1))
    case measure => have := Hg.out; omega
    case rel =>
      refine ⟨k + 1, v, D :: Ds, by omega, rfl, by go_num, rfl, ?_⟩
      rw [attackersL_no _ _ _ _ (by rw [Hno.out]; simp)]
      exact ⟨hSW.bA, hSW.bL, hSW.own, hSW.below, hSW.marks.cons (fun h => by have := hS1.marks.lt h; omega) (by omega) hKD⟩
  case stop =>
    rintro D c pre W hD hSp ⟨rfl, hmem, v', hSW⟩ hKD
    have hyes : attacksB L k tg = true := (mem_reach hlt ht (hbr.bd k).1 (hbr.bd k).2).1 (hSp.subset hmem)
    have Hyes := Lib.hid hyes
    clear hmem hSp hyes
    gi_wp2
    go_wp2
    go_roundg (64 - (k + 1))
    case measure => have := Hg.out; omega
    case rel =>
      refine ⟨k + 1, v', D :: Ds, by omega, rfl, by go_num, rfl, ?_⟩
      rw [attackersL_yes _ _ _ _ (by rw [Hyes.out]; have := Hx1.out; simp at this; simp [this])]
      exact ⟨hSW.bA, hSW.bL, hSW.own, hSW.below, hSW.marks.cons (fun h => by have := hS1.marks.lt h; omega) (by omega) hKD⟩

end Go.Proofs.YthffhhbbhjcdeaaGreatDoor
