/- WALKS: the program's Compare; the sort's comparison. -/
import Derived.Test.YthffhhbbhjcdeaaGreatDoorP8
import Derived.Test.YthffhhbbhjcdeaaGreatDoorA7
import Derived.Shelf.SlSortCmp.WholeK
set_option linter.unusedVariables false
set_option linter.unusedSimpArgs false
namespace Go.Proofs.YthffhhbbhjcdeaaGreatDoor
open Go.RowKit Go.Sort
set_option maxRecDepth 100000

def encM (m : Mv) : List Value := [.int .i64 m.fr, .int .i64 m.tg, .int .i64 m.into]
def orI (a b c : Int) : Int := if a ≠ 0 then a else if b ≠ 0 then b else c
def cmpM (x y : Mv) : Int := orI (Lib.compareInt x.fr y.fr) (Lib.compareInt x.tg y.tg) (Lib.compareInt x.into y.into)
instance : Inhabited Mv := ⟨⟨0, 0, 0⟩⟩

instance (a b : Mv) : Decidable (ltM a b) := by unfold ltM; infer_instance

theorem cmpM_lt (x y : Mv) : cmpM x y < 0 ↔ ltM x y := by
  unfold cmpM orI Lib.compareInt ltM
  obtain ⟨a, b, c⟩ := x
  obtain ⟨d, e, f⟩ := y
  dsimp only
  by_cases h1 : (a : Int) < d <;> by_cases h2 : (a : Int) > d <;> by_cases h3 : (b : Int) < e <;> by_cases h4 : (b : Int) > e <;> by_cases h5 : c < f <;> by_cases h6 : c > f <;> simp [h1, h2, h3, h4, h5, h6] <;> omega
theorem ltOf_M (x y : Mv) : ltOf cmpM x y = decide (ltM x y) := by
  unfold ltOf
  rw [decide_eq_decide]
  exact cmpM_lt x y
theorem swoM : SWO (ltOf cmpM) where
  irrefl x := by rw [ltOf_M]; simpa using ltM_irr x
  trans x y z h1 h2 := by rw [ltOf_M] at *; simp at *; exact ltM_trans h1 h2
  ntrans x y z h1 h2 := by
    rw [ltOf_M] at *
    simp at *
    intro h
    rcases ltM_tri x y h1 with h3 | h3
    · exact h2 (ltM_trans h3 h)
    · subst h3; exact h2 h

theorem isNaN_any (a : Int) (w : World) : Calls Tryz.prog 135 #[.int .i64 a] w (RetW (.bool false) w) := by
  go_enter Tryz.func135, Tryz.ntmps135
  go_wp2
  go_ret
  exact ⟨rfl, rfl⟩
set_option maxHeartbeats 1000000 in
theorem compare_any (a b : Int) (w : World) : Calls Tryz.prog 108 #[.int .i64 a, .int .i64 b] w (RetW (.int .i64 (Lib.compareInt a b)) w) := by
  have hc : Lib.compareInt a b = if a < b then -1 else if a > b then 1 else 0 := rfl
  by_cases h1 : a < b
  · rw [hc, if_pos h1]
    clear hc
    go_enter Tryz.func108, Tryz.ntmps108
    go_wp2_with (go_at_call 135; refine (isNaN_any _ _).mono ?_; rintro e w' ⟨rfl, rfl⟩)
    go_ret
    exact ⟨rfl, rfl⟩
  · by_cases h2 : b < a
    · rw [hc, if_neg h1, if_pos h2]
      clear hc
      go_enter Tryz.func108, Tryz.ntmps108
      go_wp2_with (go_at_call 135; refine (isNaN_any _ _).mono ?_; rintro e w' ⟨rfl, rfl⟩)
      go_ret
      exact ⟨rfl, rfl⟩
    · rw [hc, if_neg h1, if_neg h2]
      clear hc
      go_enter Tryz.func108, Tryz.ntmps108
      go_wp2_with (go_at_call 135; refine (isNaN_any _ _).mono ?_; rintro e w' ⟨rfl, rfl⟩)
      go_ret
      exact ⟨rfl, rfl⟩

set_option maxHeartbeats 2000000 in
theorem or_any (g : Nat) (a b c : Int) (w : World) (h0 : w.cell? ⟨g, 0, none⟩ = some (.int .i64 a)) (h1 : w.cell? ⟨g, 1, none⟩ = some (.int .i64 b)) (h2 : w.cell? ⟨g, 2, none⟩ = some (.int .i64 c)) :
    Calls Tryz.prog 107 #[.slice (some ⟨g, 0, none⟩) 3 3] w (RetW (.int .i64 (orI a b c)) w) := by
  have ho : orI a b c = if a ≠ 0 then a else if b ≠ 0 then b else c := rfl
  have Ho := Lib.hid ho
  clear ho
  cases ea : (a != 0)
  case true =>
    have ha : a ≠ 0 := by simpa using ea
    have Ha := Lib.hid ha
    clear ha
    go_enter Tryz.func107, Tryz.ntmps107
    go_wp2
    refine wp_loop_rounds 1 ?_
    rw [rounds_succ]
    go_wp2
    go_ret
    exact ⟨by rw [Ho.out, if_pos Ha.out]; rfl, rfl⟩
  case false =>
  have ha : ¬ a ≠ 0 := by simpa using ea
  have Ha := Lib.hid ha
  clear ha
  cases eb : (b != 0)
  case true =>
    have hb : b ≠ 0 := by simpa using eb
    have Hb := Lib.hid hb
    clear hb
    go_enter Tryz.func107, Tryz.ntmps107
    go_wp2
    refine wp_loop_rounds 2 ?_
    rw [rounds_succ]
    go_wp2
    rw [rounds_succ]
    go_wp2
    go_ret
    exact ⟨by rw [Ho.out, if_neg Ha.out, if_pos Hb.out]; rfl, rfl⟩
  case false =>
  have hb : ¬ b ≠ 0 := by simpa using eb
  have Hb := Lib.hid hb
  clear hb
  cases ec : (c != 0)
  case true =>
    go_enter Tryz.func107, Tryz.ntmps107
    go_wp2
    refine wp_loop_rounds 3 ?_
    rw [rounds_succ]
    go_wp2
    rw [rounds_succ]
    go_wp2
    rw [rounds_succ]
    go_wp2
    go_ret
    exact ⟨by rw [Ho.out, if_neg Ha.out, if_neg Hb.out]; rfl, rfl⟩
  case false =>
    have hc : c = 0 := by simpa using ec
    have Hc := Lib.hid hc
    clear hc
    go_enter Tryz.func107, Tryz.ntmps107
    go_wp2
    refine wp_loop_rounds 4 ?_
    rw [rounds_succ]
    go_wp2
    rw [rounds_succ]
    go_wp2
    rw [rounds_succ]
    go_wp2
    rw [rounds_succ]
    go_wp2
    go_ret
    exact ⟨by rw [Ho.out, if_neg Ha.out, if_neg Hb.out, Hc.out]; rfl, rfl⟩

set_option maxHeartbeats 2000000 in
theorem compareM_any (x y : Mv) (W : World) : Calls Tryz.prog 80 #[.agg (encM x).toArray, .agg (encM y).toArray] W fun e w' => e = .returned (.int .i64 (cmpM x y)) ∧ ∃ q os', w' = grow (W.drewN q) os' := by
  have h0 := fun w => compare_any x.fr y.fr w
  have h1 := fun w => compare_any x.tg y.tg w
  have h2 := fun w => compare_any x.into y.into w
  unfold cmpM
  generalize Lib.compareInt x.fr y.fr = c0 at *
  generalize Lib.compareInt x.tg y.tg = c1 at *
  generalize Lib.compareInt x.into y.into = c2 at *
  unfold encM
  have H0 := Lib.hid h0
  have H1 := Lib.hid h1
  have H2 := Lib.hid h2
  clear h0 h1 h2
  go_enter Tryz.func80, Tryz.ntmps80
  go_upto_region 1 with fail
  generalize hW0 : World.alloc _ _ = W0
  have hX : Blk W0 W.heap.size #[.int .i64 x.fr, .int .i64 x.tg, .int .i64 x.into] := by rw [← hW0]; exact (Blk.new W _ _).alloc _
  have hY : Blk W0 (W.heap.size + 1) #[.int .i64 y.fr, .int .i64 y.tg, .int .i64 y.into] := by rw [← hW0]; exact Blk.new' (by simp) _ _
  have HW := Lib.hid hW0
  clear hW0
  have x0 := hX.cell (o := 0) rfl
  have x1 := hX.cell (o := 1) rfl
  have x2 := hX.cell (o := 2) rfl
  have y0 := hY.cell (o := 0) rfl
  have y1 := hY.cell (o := 1) rfl
  have y2 := hY.cell (o := 2) rfl
  clear hX hY
  refine wp_still_tail_drew 15 (by kernel_rfl) (by kernel_rfl) ?_
  rintro _ rfl
  simp only [List.take_succ_cons, List.take_zero, List.drop_succ_cons, List.drop_zero]
  iterate 4 still_step
  still_call ((H0.out _).mono fun _ _ ⟨a, b⟩ => ⟨a, b.symm⟩)
  iterate 4 still_step
  still_call ((H1.out _).mono fun _ _ ⟨a, b⟩ => ⟨a, b.symm⟩)
  iterate 4 still_step
  still_call ((H2.out _).mono fun _ _ ⟨a, b⟩ => ⟨a, b.symm⟩)
  refine wpStill_nil ?_
  clear x0 x1 x2 y0 y1 y2
  have hZ := Blk.new W0 #[.int .i64 c0, .int .i64 c1, .int .i64 c2] 3
  have z0 : (W0.alloc (.cells #[.int .i64 c0, .int .i64 c1, .int .i64 c2] 3)).drew.cell? ⟨W0.heap.size, 0, none⟩ = some (.int .i64 c0) := hZ.cell (o := 0) rfl
  have z1 : (W0.alloc (.cells #[.int .i64 c0, .int .i64 c1, .int .i64 c2] 3)).drew.cell? ⟨W0.heap.size, 1, none⟩ = some (.int .i64 c1) := hZ.cell (o := 1) rfl
  have z2 : (W0.alloc (.cells #[.int .i64 c0, .int .i64 c1, .int .i64 c2] 3)).drew.cell? ⟨W0.heap.size, 2, none⟩ = some (.int .i64 c2) := hZ.cell (o := 2) rfl
  clear hZ
  go_wp2_with (go_at_call 107; refine (or_any _ c0 c1 c2 _ z0 z1 z2).mono ?_; rintro e w' ⟨rfl, rfl⟩)
  go_ret
  refine ⟨rfl, 1, (#[.cells #[.int .i64 x.fr, .int .i64 x.tg, .int .i64 x.into] 26] ++ #[.cells #[.int .i64 y.fr, .int .i64 y.tg, .int .i64 y.into] 26]) ++ #[.cells #[.int .i64 c0, .int .i64 c1, .int .i64 c2] 3], ?_⟩
  rw [← HW.out, ← grow_grow, ← grow_grow, ← alloc_eq_grow, ← alloc_eq_grow, ← alloc_eq_grow]
  rfl

end Go.Proofs.YthffhhbbhjcdeaaGreatDoor
