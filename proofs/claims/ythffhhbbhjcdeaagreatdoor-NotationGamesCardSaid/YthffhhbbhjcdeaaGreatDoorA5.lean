/- WALKS: the reference's Ints, ChessOf. -/
import Derived.Test.YthffhhbbhjcdeaaGreatDoorM
set_option linter.unusedVariables false
set_option linter.unusedSimpArgs false
namespace Go.Proofs.YthffhhbbhjcdeaaGreatDoor
open Go.RowKit
set_option maxRecDepth 100000

def intsV (Z : Nat → Int) (n : Nat) : List Value := (List.range n).map fun i => .int .i64 (Z i)

set_option maxHeartbeats 1000000 in
theorem ints_any (b off n cap : Nat) (Z : Nat → Int) (w : World) (hn : n ≤ 1048576) (hc : ∀ i, i < n → w.cell? ⟨b, off + i, none⟩ = some (.int .i64 (Z i))) :
    Calls Tryz.prog 23 #[.slice (some ⟨b, off, none⟩) n cap] w fun e w' => ∃ v, e = .returned v ∧ w'.ownsRow w.heap.size 3 1 v n (intsV Z n) ∧ Below w.heap.size w w' := by
  obtain ⟨i0, hi, hz0, hz1, hz2⟩ := info_parts Tryz.info3
  have HC := Lib.hid hc
  clear hc
  go_enter Tryz.func23, Tryz.ntmps23
  go_wp2_with (at_builtin; refine wpList_append_own _ rfl _ _ 22 rfl w.heap.size 3 i0 (.int .i64 0) 1 8 Tryz.underlying22 hi hz0 hz1 hz2 rfl (by decide) _ _ _ rfl (World.ownsRow_nil _ _ _ _) ⟨b, off, none⟩ n cap (intsV Z n) rfl ?c0 ?c1 ?c2 ?c3 ?c4 ?c5 ?_)
  case c0 => simp [intsV]
  case c1 =>
    intro j u hj
    have hjn : j < n := by have := (List.getElem?_eq_some_iff.1 hj).1; simpa [intsV] using this
    simp [intsV, hjn] at hj
    subst hj
    have := HC.out j hjn
    by_cases h0 : j = 0
    · subst h0; simpa [Addr.add] using this
    · simpa [Addr.add, h0] using this
  case c2 => intro u hu; simp [intsV] at hu; obtain ⟨a, _, rfl⟩ := hu; rfl
  case c3 => unfold maxLen; omega
  case c4 => omega
  case c5 => exact Nat.le_refl _
  intro v' w1 hown' hgrow _
  have hb1 : Below w.heap.size w w1 := (Below.refl _ w).grown hgrow (Nat.le_refl _) (fun k hk => by cases hk)
  clear hgrow
  go_wp2
  go_ret
  exact ⟨_, rfl, by simpa using hown', hb1⟩

set_option maxHeartbeats 1000000 in
theorem ints_nil (w : World) :
    Calls Tryz.prog 23 #[.slice none 0 0] w (RetW (.slice none 0 0) w) := by
  go_enter Tryz.func23, Tryz.ntmps23
  go_wp2
  go_ret
  exact ⟨rfl, rfl⟩

theorem ownsRow_slice {w : World} {base e size n : Nat} {v : Value} {xs : List Value} (h : w.ownsRow base e size v n xs) : ∃ a cp, v = .slice a n cp := by
  obtain ⟨_, ⟨rfl, h0⟩ | ⟨g, cp, cur, rfl, _⟩⟩ := h
  · exact ⟨none, 0, by rw [h0]⟩
  · exact ⟨_, _, rfl⟩

theorem run_chess {w : World} {k : Nat} {c0 c1 c2 c3 c4 c5 : Value} (h : Blk w k #[c0, c1, c2, c3, c4, c5]) :
    (loadVar 24 ⟨k, 0, none⟩).run Tryz.prog w = .ok (.agg #[c0, c1, c2, c3, c4, c5]) w := by
  have h0 := h.cell (o := 0) (v := c0) rfl
  have h1 := h.cell (o := 1) (v := c1) rfl
  have h2 := h.cell (o := 2) (v := c2) rfl
  have h3 := h.cell (o := 3) (v := c3) rfl
  have h4 := h.cell (o := 4) (v := c4) rfl
  have h5 := h.cell (o := 5) (v := c5) rfl
  go_simp

theorem ret_chess {fn : Func} {p k : Nat} {tmps : Array Value} {w : World} {c0 c1 c2 c3 c4 c5 : Value} (hr : fn.results = #[.cell p 24]) (hp : tmps.getD p undef = .pointer (some ⟨k, 0, none⟩)) (h : Blk w k #[c0, c1, c2, c3, c4, c5]) :
    (results fn tmps).run Tryz.prog w = .ok (.agg #[c0, c1, c2, c3, c4, c5]) w := by
  have hrun := run_chess h
  have hp' : tmps[p]?.getD undef = .pointer (some ⟨k, 0, none⟩) := by simpa using hp
  simp only [results, hr]
  simp [Sem.run_bind, Result.andThen, hp', hrun, asAddr]

set_option maxHeartbeats 1000000 in
theorem chessOf_any (b off n cap : Nat) (Z : Nat → Int) (c1 c2 c3 c4 c5 : Int) (w : World) (hlt : b < w.heap.size) (hn : n ≤ 1048576) (hc : ∀ i, i < n → w.cell? ⟨b, off + i, none⟩ = some (.int .i64 (Z i))) :
    Calls Tryz.prog 6 #[.agg #[.slice (some ⟨b, off, none⟩) n cap, .int .i64 c1, .int .i64 c2, .int .i64 c3, .int .i64 c4, .int .i64 c5]] w fun e w' =>
      ∃ v, e = .returned (.agg #[v, .int .i64 c1, .int .i64 c2, .int .i64 c3, .int .i64 c4, .int .i64 c5]) ∧ w'.ownsRow (w.heap.size + 2) 3 1 v n (intsV Z n) ∧ Below w.heap.size w w' := by
  have HC := Lib.hid hc
  clear hc
  go_enter Tryz.func6, Tryz.ntmps6
  go_upto_region 1 with fail
  generalize hW0 : World.alloc _ _ = W0
  have hP : Blk W0 w.heap.size #[.slice (some ⟨b, off, none⟩) n cap, .int .i64 c1, .int .i64 c2, .int .i64 c3, .int .i64 c4, .int .i64 c5] := by rw [← hW0]; exact (Blk.new w _ _).alloc _
  have hR : Blk W0 (w.heap.size + 1) #[.slice none 0 0, .int .i64 0, .int .i64 0, .int .i64 0, .int .i64 0, .int .i64 0] := by rw [← hW0]; exact Blk.new' (by simp) _ _
  have hb : Below w.heap.size w W0 := by rw [← hW0]; exact ((Below.refl _ _).alloc (Nat.le_refl _) _).alloc (by simp) _
  have hsz : W0.heap.size = w.heap.size + 2 := by rw [← hW0]; simp
  clear hW0
  have HP := Lib.hid hP
  have HR := Lib.hid hR
  have HZ := Lib.hid hsz
  have p0 := hP.cell (o := 0) rfl
  clear hP hR hsz
  go_cut [] (fun wx => ∃ v, Blk wx w.heap.size #[v, .int .i64 c1, .int .i64 c2, .int .i64 c3, .int .i64 c4, .int .i64 c5] ∧ Blk wx (w.heap.size + 1) #[.slice none 0 0, .int .i64 0, .int .i64 0, .int .i64 0, .int .i64 0, .int .i64 0] ∧ wx.ownsRow (w.heap.size + 2) 3 1 v n (intsV Z n) ∧ Below w.heap.size w wx)
  case first =>
    go_wp2_with fail
    refine (ints_any b off n cap Z _ hn (fun i hi => ?_)).mono ?_
    · exact (hb.cell (p := ⟨b, off + i, none⟩) hlt).trans (HC.out i hi)
    rintro e w1 ⟨v, rfl, hown, hb1⟩
    obtain ⟨a, cp, rfl⟩ := ownsRow_slice hown
    rw [HZ.out] at hown hb1
    have hP1 := HP.out.below hb1 (by omega)
    have hR1 := HR.out.below hb1 (by omega)
    have q0 := hP1.cell (o := 0) rfl
    have f0 := hP1.free 0
    go_wp2
    go_meet
    refine ⟨_, hP1.set 0 _, hR1.other (by omega) _ _, ownsRow_setCell_below hown (by simp) _, (hb.trans (hb1.mono (by omega))).setCell (by simp) _⟩
  case rest =>
  obtain ⟨v, hP1, hR1, hown, hb1⟩ := hcut
  obtain ⟨a, cp, rfl⟩ := ownsRow_slice hown
  go_upto_region 2 with fail
  go_cut [] (fun wx => Blk wx (w.heap.size + 1) #[.slice a n cp, .int .i64 c1, .int .i64 c2, .int .i64 c3, .int .i64 c4, .int .i64 c5] ∧ wx.ownsRow (w.heap.size + 2) 3 1 (.slice a n cp) n (intsV Z n) ∧ Below w.heap.size w wx)
  case first =>
    have p0 := hP1.cell (o := 0) rfl
    have p1 := hP1.cell (o := 1) rfl
    have p2 := hP1.cell (o := 2) rfl
    have p3 := hP1.cell (o := 3) rfl
    have p4 := hP1.cell (o := 4) rfl
    have p5 := hP1.cell (o := 5) rfl
    have r0 := hR1.cell (o := 0) rfl
    have r1 := hR1.cell (o := 1) rfl
    have r2 := hR1.cell (o := 2) rfl
    have r3 := hR1.cell (o := 3) rfl
    have r4 := hR1.cell (o := 4) rfl
    have r5 := hR1.cell (o := 5) rfl
    have f0 := hR1.free 0
    have f1 := hR1.free 1
    have f2 := hR1.free 2
    have f3 := hR1.free 3
    have f4 := hR1.free 4
    have f5 := hR1.free 5
    go_wp2
    go_meet
    refine ⟨(((((hR1.set 0 _).set 1 _).set 2 _).set 3 _).set 4 _).set 5 _, ?_, ?_⟩
    · iterate 6 refine ownsRow_setCell_below ?_ (by simp) _
      exact hown
    · iterate 6 refine Below.setCell ?_ (by simp) _
      exact hb1
  case rest =>
  obtain ⟨hR2, hown2, hb2⟩ := hcut
  go_wp2
  exact bodyPost_ret (ret_chess rfl rfl hR2) rfl ⟨_, rfl, hown2, hb2⟩

end Go.Proofs.YthffhhbbhjcdeaaGreatDoor
