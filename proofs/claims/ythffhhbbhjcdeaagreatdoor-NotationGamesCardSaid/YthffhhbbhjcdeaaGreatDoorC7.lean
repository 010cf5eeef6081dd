/- WALKS: the program's After. -/
import Derived.Test.YthffhhbbhjcdeaaGreatDoorC6
import Derived.Test.YthffhhbbhjcdeaaGreatDoorA7
import Derived.Test.YthffhhbbhjcdeaaGreatDoorP7
import Derived.Deep.RegionHeld3
import Derived.Lib.SliceRun
set_option linter.unusedVariables false
set_option linter.unusedSimpArgs false
namespace Go.Proofs.YthffhhbbhjcdeaaGreatDoor
open Go.RowKit
set_option maxRecDepth 100000

set_option maxHeartbeats 1000000 in
theorem cloneP_any (b off cap : Nat) (L : Nat → Int) (w : World) (hbr : Brd w b off L) : Calls Tryz.prog 66 #[.slice (some ⟨b, off, none⟩) 64 cap] w fun e w' =>
    ∃ g cq, e = .returned (.slice (some ⟨g, 0, none⟩) 64 cq) ∧ OwnB w' g L ∧ w.heap.size ≤ g ∧ Below w.heap.size w w' := by
  obtain ⟨i0, hi, hz0, hz1, hz2⟩ := info_parts Tryz.info3
  have q22 : ∀ (w : World) (a : Option Addr) (n c n' c' : Nat), (Go.binOp .eql 22 (.slice a n c) (.slice none n' c')).run Tryz.prog w = .ok (.bool a.isNone) w := fun w a n c n' c' => Lib.run_eql_slice_nil w _ _ a n c n' c' Tryz.underlying22
  have HB := Lib.hid hbr
  clear hbr
  go_enter Tryz.func66, Tryz.ntmps66
  go_wp2_with (at_builtin; refine wpList_append_own _ rfl _ _ 22 rfl w.heap.size 3 i0 (.int .i64 0) 1 8 Tryz.underlying22 hi hz0 hz1 hz2 rfl (by decide) _ _ _ rfl (World.ownsRow_made w #[] 0 (Nat.le_refl _) (Nat.zero_le _) rfl) ⟨b, off, none⟩ 64 cap (intsV L 64) rfl ?qc1 ?qc2 ?qc3 ?qc4 ?qc5 ?qc6 ?_)
  case qc1 => simp [intsV]
  case qc2 =>
    intro j u hj
    have hjn : j < 64 := by have := (List.getElem?_eq_some_iff.1 hj).1; simpa [intsV] using this
    simp [intsV, hjn] at hj
    subst hj
    have := (HB.out.alloc (.cells #[] 3)).cell j hjn
    by_cases h0 : j = 0
    · subst h0; simpa [Addr.add] using this
    · simpa [Addr.add, h0] using this
  case qc3 => intro u hu; simp [intsV] at hu; obtain ⟨a, _, rfl⟩ := hu; rfl
  case qc4 => unfold maxLen; omega
  case qc5 => omega
  case qc6 => simp
  intro v' w1 hown hgrow hnil
  have hb1 : Below w.heap.size w w1 := ((Below.refl _ w).alloc (Nat.le_refl _) _).grown hgrow (by simp) (by intro k hk; simp [Value.ownBlock] at hk; omega)
  obtain ⟨g, cq, rfl, hg, hB⟩ := ownB_of_row (L := L) (by simpa using hown) (fun i hi => intsV_get hi)
  clear hgrow hnil hown
  go_wp2
  go_ret
  exact ⟨g, cq, rfl, hB, hg, hb1⟩

theorem bits_not (k : Nat) (c : Int) (h0 : 0 ≤ c) (h1 : c < 16) (hk : k < 16) : bits BinOp.andNot IntKind.i64 c (k : Int) = ((c.toNat &&& (15 - k) : Nat) : Int) := by
  obtain ⟨n, rfl⟩ := Int.eq_ofNat_of_zero_le h0
  have key : ∀ n : Nat, n < 16 → ∀ k : Nat, k < 16 → bits BinOp.andNot IntKind.i64 (n : Int) (k : Int) = ((n &&& (15 - k) : Nat) : Int) := by decide +kernel
  exact key n (by omega) k hk
theorem clr_bits (n : Nat) (c : Int) (h0 : 0 ≤ c) (h1 : c < 16) (hn : n < 4) : bits BinOp.andNot IntKind.i64 c ((2 ^ n : Nat) : Int) = clrI n c := by
  obtain ⟨k, rfl⟩ := Int.eq_ofNat_of_zero_le h0
  have key : ∀ k : Nat, k < 16 → ∀ n < 4, bits BinOp.andNot IntKind.i64 (k : Int) ((2 ^ n : Nat) : Int) = clrI n (k : Int) := by decide +kernel
  exact key k (by omega) n hn
theorem clr_two (t : Nat) (c : Int) (h0 : 0 ≤ c) (h1 : c < 16) (ht : t < 2) : bits BinOp.andNot IntKind.i64 c ((3 * 4 ^ t : Nat) : Int) = clrI (2 * t + 1) (clrI (2 * t) c) := by
  obtain ⟨k, rfl⟩ := Int.eq_ofNat_of_zero_le h0
  have key : ∀ k : Nat, k < 16 → ∀ t < 2, bits BinOp.andNot IntKind.i64 (k : Int) ((3 * 4 ^ t : Nat) : Int) = clrI (2 * t + 1) (clrI (2 * t) (k : Int)) := by decide +kernel
  exact key k (by omega) t ht
theorem clr_bd (n : Nat) (c : Int) (h0 : 0 ≤ c) (h1 : c < 16) (hn : n < 4) : 0 ≤ clrI n c ∧ clrI n c < 16 := by
  obtain ⟨k, rfl⟩ := Int.eq_ofNat_of_zero_le h0
  have key : ∀ k : Nat, k < 16 → ∀ n < 4, 0 ≤ clrI n (k : Int) ∧ clrI n (k : Int) < 16 := by decide +kernel
  exact key k (by omega) n hn
theorem aftC_bd {p : Pos} (m : Mv) (ht : p.turn = 0 ∨ p.turn = 1) (h0 : 0 ≤ p.castle) (h1 : p.castle < 16) : ∀ n, n ≤ 4 → 0 ≤ aftC p m n ∧ aftC p m n < 16
  | 0, _ => by
    unfold aftC aftC0
    split
    · obtain ⟨a, b⟩ := clr_bd (2 * p.turn.toNat) p.castle h0 h1 (by omega)
      exact clr_bd _ _ a b (by omega)
    · exact ⟨h0, h1⟩
  | n + 1, h => by
    obtain ⟨a, b⟩ := aftC_bd m ht h0 h1 n (by omega)
    unfold aftC
    split
    · exact clr_bd _ _ a b (by omega)
    · exact ⟨a, b⟩

/-- After at work, ahead of its own position. -/
structure AF0 (w wx : World) (b off cap : Nat) (p : Pos) (m : Mv) : Prop where
  kP : Blk wx w.heap.size #[.slice (some ⟨b, off, none⟩) 64 cap, .int .i64 p.turn, .int .i64 p.castle, .int .i64 p.ep, .int .i64 p.half, .int .i64 p.full]
  kM : Blk wx (w.heap.size + 1) #[.int .i64 m.fr, .int .i64 m.tg, .int .i64 m.into]
  kR : Blk wx (w.heap.size + 2) #[.slice none 0 0, .int .i64 0, .int .i64 0, .int .i64 0, .int .i64 0, .int .i64 0]
  below : Below w.heap.size w wx
  sz : w.heap.size + 3 ≤ wx.heap.size

theorem AF0.cells {w wx w' : World} {b off cap : Nat} {p : Pos} {m : Mv} (h : AF0 w wx b off cap p m) (hb : Below wx.heap.size wx w') :
    w'.cell? ⟨w.heap.size, 0, none⟩ = some (.slice (some ⟨b, off, none⟩) 64 cap) ∧ w'.cell? ⟨w.heap.size, 1, none⟩ = some (.int .i64 p.turn) ∧ w'.cell? ⟨w.heap.size, 2, none⟩ = some (.int .i64 p.castle) ∧ w'.cell? ⟨w.heap.size, 4, none⟩ = some (.int .i64 p.half) ∧ w'.cell? ⟨w.heap.size, 5, none⟩ = some (.int .i64 p.full) := by
  have hP := h.kP.below hb h.kP.lt
  exact ⟨hP.cell rfl, hP.cell rfl, hP.cell rfl, hP.cell rfl, hP.cell rfl⟩

theorem MDS.cells3 {w wx : World} {b off cap : Nat} {p : Pos} {m : Mv} {Q g cq : Nat} {L : Nat → Int} {tu ca ep ha fu : Int} (h : MDS w wx b off cap p m Q g cq L tu ca ep ha fu) :
    wx.cell? ⟨Q, 0, none⟩ = some (.slice (some ⟨g, 0, none⟩) 64 cq) ∧ wx.cell? ⟨w.heap.size + 1, 0, none⟩ = some (.int .i64 m.fr) ∧ wx.cell? ⟨w.heap.size + 1, 1, none⟩ = some (.int .i64 m.tg) := ⟨h.kQ.cell rfl, h.kM.cell rfl, h.kM.cell rfl⟩

/-- Half moves behind a move, as far as the piece goes. -/
def halfP (p : Pos) (x : Int) : Int := if sizeI x = 1 then 0 else min (p.half + 1) 999

set_option maxHeartbeats 8000000 in
theorem afterP_any (b off cap : Nat) (p : Pos) (m : Mv) (w : World) (hbr : Brd w b off p.L) (hs : p.turn = 0 ∨ p.turn = 1) (hc0 : 0 ≤ p.castle) (hc1 : p.castle < 16)
    (hh0 : 0 ≤ p.half) (hh1 : p.half ≤ 999) (hu0 : 1 ≤ p.full) (hu1 : p.full ≤ 999) (hep : p.ep < 0 ∨ 8 ≤ p.ep ∧ p.ep < 56) (hf : m.fr < 64) (ht : m.tg < 64) (hi0 : 0 ≤ m.into) (hi5 : m.into ≤ 5)
    (hck : sizeI (p.L m.fr) = 6 → ((m.tg : Int) - m.fr = 2 → m.fr + 3 < 64) ∧ ((m.tg : Int) - m.fr = -2 → 4 ≤ m.fr)) :
    Calls Tryz.prog 36 #[chessV b off cap p, mvV m] w fun e w' => ∃ g cq, e = .returned (chessV g 0 cq (aftP p m)) ∧ OwnB w' g (aftL p m) ∧ w.heap.size ≤ g ∧ Below w.heap.size w w' := by
  have hlt := hbr.lt
  have Hck := Lib.hid hck
  clear hck
  unfold chessV mvV
  go_enter Tryz.func36, Tryz.ntmps36
  go_upto_region 1 with fail
  generalize hW0 : World.alloc _ _ = W0
  have hS : AF0 w W0 b off cap p m := by
    rw [← hW0]
    exact ⟨((Blk.new w _ _).alloc _).alloc _, (Blk.new' (by simp) _ _).alloc _, Blk.new' (by simp) _ _, (((Below.refl _ _).alloc (Nat.le_refl _) _).alloc (by simp) _).alloc (by simp; omega) _, by simp⟩
  clear hW0
  go_cut [5] from 14 to 16 (fun s5 wx => s5 = .int .i64 (1 - 2 * p.turn) ∧ AF0 w wx b off cap p m)
  case first =>
    have p1 := hS.kP.cell (o := 1) rfl
    go_wp2_with (go_at_call 63; refine (forwardP_any _ _ (by omega) (by omega)).mono ?_; rintro e w' ⟨rfl, rfl⟩)
    go_meet
    exact ⟨rfl, hS⟩
  case rest =>
  clear hS
  obtain ⟨rfl, hS⟩ := hcut
  go_upto_region 2 with fail
  go_cut [6, 7] from 17 to 28 (fun s6 s7 wx => s6 = .int .i64 (p.L m.fr) ∧ s7 = .int .i64 (p.L m.tg) ∧ AF0 w wx b off cap p m)
  case first =>
    have p0 := hS.kP.cell (o := 0) rfl
    have m0 := hS.kM.cell (o := 0) rfl
    have m1 := hS.kM.cell (o := 1) rfl
    have hx := (hbr.below hS.below hlt).cell m.fr hf
    have hy := (hbr.below hS.below hlt).cell m.tg ht
    go_wp2_with fail
    go_quiet (fail)
    go_wp2
    go_meet
    exact ⟨rfl, rfl, hS.kP.drewN _, hS.kM.drewN _, hS.kR.drewN _, below_drewN hS.below _, hS.sz⟩
  case rest =>
  clear hS
  obtain ⟨rfl, rfl, hS⟩ := hcut
  go_upto_region 3 with fail
  go_cut [8] from 29 to 47 (fun s8 wx => ∃ Q g cq, s8 = .pointer (some ⟨Q, 0, none⟩) ∧ MDS w wx b off cap p m Q g cq p.L (1 - p.turn) p.castle (-1) (min (p.half + 1) 999) (min (p.full + p.turn) 999))
  case first =>
    have p0 := hS.kP.cell (o := 0) rfl
    have p1 := hS.kP.cell (o := 1) rfl
    have p2 := hS.kP.cell (o := 2) rfl
    have p4 := hS.kP.cell (o := 4) rfl
    have p5 := hS.kP.cell (o := 5) rfl
    have hPl := hS.kP.lt
    have x1 : IntKind.i64.wrap (1 - p.turn) = 1 - p.turn := IntWalk.i64_in _ (by omega)
    obtain ⟨M1, hm1, hM1⟩ : ∃ M1, (if 999 < IntKind.i64.wrap (p.half + 1) then 999 else IntKind.i64.wrap (p.half + 1)) = M1 ∧ M1 = min (p.half + 1) 999 := ⟨_, rfl, by rw [IntWalk.i64_in _ (by omega)]; split <;> omega⟩
    obtain ⟨M2, hm2, hM2⟩ : ∃ M2, (if 999 < IntKind.i64.wrap (p.full + p.turn) then 999 else IntKind.i64.wrap (p.full + p.turn)) = M2 ∧ M2 = min (p.full + p.turn) 999 := ⟨_, rfl, by rw [IntWalk.i64_in _ (by omega)]; split <;> omega⟩
    have HM := Lib.hid (And.intro hM1 hM2)
    clear hM1 hM2
    have hBr0 := hbr.below hS.below hlt
    have hBr : Brd wc.drew b off p.L := ⟨hBr0.lt, hBr0.cell, hBr0.bd⟩
    have hBr2 : ∀ o, Brd (wc.alloc o).drew b off p.L := fun o => ⟨(hBr0.alloc o).lt, (hBr0.alloc o).cell, hBr0.bd⟩
    clear hBr0
    have hPl2 : ∀ o, w.heap.size < (wc.alloc o).drew.heap.size := fun o => by show w.heap.size < (wc.alloc o).heap.size; simp; omega
    have q0 : ∀ o, (wc.alloc o).drew.cell? ⟨w.heap.size, 0, none⟩ = some (.slice (some ⟨b, off, none⟩) 64 cap) := fun o => (hS.kP.alloc o).cell (o := 0) rfl
    have q1 : ∀ o, (wc.alloc o).drew.cell? ⟨w.heap.size, 1, none⟩ = some (.int .i64 p.turn) := fun o => (hS.kP.alloc o).cell (o := 1) rfl
    have q2 : ∀ o, (wc.alloc o).drew.cell? ⟨w.heap.size, 2, none⟩ = some (.int .i64 p.castle) := fun o => (hS.kP.alloc o).cell (o := 2) rfl
    have q4 : ∀ o, (wc.alloc o).drew.cell? ⟨w.heap.size, 4, none⟩ = some (.int .i64 p.half) := fun o => (hS.kP.alloc o).cell (o := 4) rfl
    have q5 : ∀ o, (wc.alloc o).drew.cell? ⟨w.heap.size, 5, none⟩ = some (.int .i64 p.full) := fun o => (hS.kP.alloc o).cell (o := 5) rfl
    refine wp_region_held_drew (S := (fun w' => w'.cell? ⟨w.heap.size, 0, none⟩ = some (.slice (some ⟨b, off, none⟩) 64 cap) ∧ w'.cell? ⟨w.heap.size, 1, none⟩ = some (.int .i64 p.turn) ∧ w'.cell? ⟨w.heap.size, 2, none⟩ = some (.int .i64 p.castle) ∧ w'.cell? ⟨w.heap.size, 4, none⟩ = some (.int .i64 p.half) ∧ w'.cell? ⟨w.heap.size, 5, none⟩ = some (.int .i64 p.full))) (by kernel_rfl) ⟨p0, p1, p2, p4, p5⟩ (fun hHeld => ?_)
    refine wpAnyH_take (i := 0) (v := ?_) rfl (by kernel_rfl) (by kernel_rfl) (by kernel_rfl) (fun _ _ _ h => h) (Or.inl ⟨by rfl, ?_⟩) (by assumption) ?_
    rotate_left
    · intro w2 hSw; (try dsimp only at hSw); go_simp; try with_reducible rfl
    simp only [Act.put, List.setIfInBounds_toArray, List.set_cons_zero, List.set_cons_succ]
    refine wpAnyH_take (i := 1) (v := ?_) rfl (by kernel_rfl) (by kernel_rfl) (by kernel_rfl) (fun _ _ _ h => h) (Or.inl ⟨by rfl, ?_⟩) (by assumption) ?_
    rotate_left
    · intro w2 hSw; (try dsimp only at hSw); go_simp; try with_reducible rfl
    simp only [Act.put, List.setIfInBounds_toArray, List.set_cons_zero, List.set_cons_succ]
    refine wpAnyH_take (i := 3) (v := ?_) rfl (by kernel_rfl) (by kernel_rfl) (by kernel_rfl) (fun _ _ _ h => h) (Or.inl ⟨by rfl, ?_⟩) (by assumption) ?_
    rotate_left
    · intro w2 hSw; (try dsimp only at hSw); go_simp; try with_reducible rfl
    simp only [Act.put, List.setIfInBounds_toArray, List.set_cons_zero, List.set_cons_succ]
    refine wpAnyH_take (i := 4) (v := ?_) rfl (by kernel_rfl) (by kernel_rfl) (by kernel_rfl) (fun _ _ _ h => h) (Or.inl ⟨by rfl, ?_⟩) (by assumption) ?_
    rotate_left
    · intro w2 hSw; (try dsimp only at hSw); go_simp; try with_reducible rfl
    simp only [Act.put, List.setIfInBounds_toArray, List.set_cons_zero, List.set_cons_succ]
    refine wpAnyH_take (i := 5) (v := ?_) rfl (by kernel_rfl) (by kernel_rfl) (by kernel_rfl) (fun _ _ _ h => h) (Or.inl ⟨by rfl, ?_⟩) (by assumption) ?_
    rotate_left
    · intro w2 hSw; (try dsimp only at hSw); go_simp; try with_reducible rfl
    simp only [Act.put, List.setIfInBounds_toArray, List.set_cons_zero, List.set_cons_succ]
    refine wpAnyH_take (i := 6) (v := ?_) rfl (by kernel_rfl) (by kernel_rfl) (by kernel_rfl) (fun _ _ _ h => h) (Or.inl ⟨by rfl, ?_⟩) (by assumption) ?_
    rotate_left
    · intro w2 hSw; (try dsimp only at hSw); go_simp; try with_reducible rfl
    simp only [Act.put, List.setIfInBounds_toArray, List.set_cons_zero, List.set_cons_succ]
    refine wpAnyH_take (i := 7) (v := ?_) rfl (by kernel_rfl) (by kernel_rfl) (by kernel_rfl) (fun _ _ _ h => h) (Or.inl ⟨by rfl, ?_⟩) (by assumption) ?_
    rotate_left
    · intro w2 hSw; (try dsimp only at hSw); go_simp; try with_reducible rfl
    simp only [Act.put, List.setIfInBounds_toArray, List.set_cons_zero, List.set_cons_succ]
    refine wpAnyH_take (i := 8) (v := ?_) rfl (by kernel_rfl) (by kernel_rfl) (by kernel_rfl) (fun _ _ _ h => h) (Or.inl ⟨by rfl, ?_⟩) (by assumption) ?_
    rotate_left
    · intro w2 hSw; (try dsimp only at hSw); go_simp; try with_reducible rfl
    simp only [Act.put, List.setIfInBounds_toArray, List.set_cons_zero, List.set_cons_succ]
    refine wpAnyH_take (i := 9) (v := ?_) rfl (by kernel_rfl) (by kernel_rfl) (by kernel_rfl) (fun _ _ _ h => h) (Or.inl ⟨by rfl, ?_⟩) (by assumption) ?_
    rotate_left
    · intro w2 hSw; (try dsimp only at hSw); go_simp; try with_reducible rfl
    simp only [Act.put, List.setIfInBounds_toArray, List.set_cons_zero, List.set_cons_succ]
    refine wpAnyH_take (i := 10) (v := ?_) rfl (by kernel_rfl) (by kernel_rfl) (by kernel_rfl) (fun _ _ _ h => h) (Or.inl ⟨by rfl, ?_⟩) (by assumption) ?_
    rotate_left
    · intro w2 hSw; (try dsimp only at hSw); go_simp; try with_reducible rfl
    simp only [Act.put, List.setIfInBounds_toArray, List.set_cons_zero, List.set_cons_succ]
    refine wpAnyH_take (i := 11) (v := ?_) rfl (by kernel_rfl) (by kernel_rfl) (by kernel_rfl) (fun _ _ _ h => h) (Or.inl ⟨by rfl, ?_⟩) (by assumption) ?_
    rotate_left
    · intro w2 hSw; (try dsimp only at hSw); go_simp; try with_reducible rfl
    simp only [Act.put, List.setIfInBounds_toArray, List.set_cons_zero, List.set_cons_succ]
    refine wpAnyH_take (i := 12) (v := ?_) rfl (by kernel_rfl) (by kernel_rfl) (by kernel_rfl) (fun _ _ _ h => h) (Or.inl ⟨by rfl, ?_⟩) (by assumption) ?_
    rotate_left
    · intro w2 hSw; (try dsimp only at hSw); go_simp; try with_reducible rfl
    simp only [Act.put, List.setIfInBounds_toArray, List.set_cons_zero, List.set_cons_succ]
    refine wpAnyH_take (i := 13) (v := ?_) rfl (by kernel_rfl) (by kernel_rfl) (by kernel_rfl) (fun _ _ _ h => h) (Or.inl ⟨by rfl, ?_⟩) (by assumption) ?_
    rotate_left
    · intro w2 hSw; (try dsimp only at hSw); go_simp; try with_reducible rfl
    simp only [Act.put, List.setIfInBounds_toArray, List.set_cons_zero, List.set_cons_succ]
    refine wpAnyH_take (i := 14) (v := ?_) rfl (by kernel_rfl) (by kernel_rfl) (by kernel_rfl) (fun _ _ _ h => h) (Or.inl ⟨by rfl, ?_⟩) (by assumption) ?_
    rotate_left
    · intro w2 hSw; (try dsimp only at hSw); go_simp; try with_reducible rfl
    simp only [Act.put, List.setIfInBounds_toArray, List.set_cons_zero, List.set_cons_succ]
    refine wpAnyH_take (i := 15) (v := ?_) rfl (by kernel_rfl) (by kernel_rfl) (by kernel_rfl) (fun _ _ _ h => h) (Or.inl ⟨by rfl, ?_⟩) (by assumption) ?_
    rotate_left
    · intro w2 hSw; (try dsimp only at hSw); go_simp; try with_reducible rfl
    simp only [Act.put, List.setIfInBounds_toArray, List.set_cons_zero, List.set_cons_succ]
    refine wpAnyH_take (i := 16) (v := ?_) rfl (by kernel_rfl) (by kernel_rfl) (by kernel_rfl) (fun _ _ _ h => h) (Or.inl ⟨by rfl, ?_⟩) (by assumption) ?_
    rotate_left
    · intro w2 hSw; (try dsimp only at hSw); go_simp; try with_reducible rfl
    simp only [Act.put, List.setIfInBounds_toArray, List.set_cons_zero, List.set_cons_succ]
    refine wpAnyH_take (i := 17) (v := ?_) rfl (by kernel_rfl) (by kernel_rfl) (by kernel_rfl) (fun _ _ _ h => h) (Or.inl ⟨by rfl, ?_⟩) (by assumption) ?_
    rotate_left
    · intro w2 hSw; (try dsimp only at hSw); go_simp; try with_reducible rfl
    simp only [Act.put, List.setIfInBounds_toArray, List.set_cons_zero, List.set_cons_succ]
    refine wpAnyH_ready (rs := [2, 19]) (by kernel_rfl) (by simp) ?_
    refine AllReadyH.cons rfl (fun K hK => ?_) (AllReadyH.cons rfl (fun K hK => ?_) AllReadyH.nil)
    · go_simp
      refine (cloneP_any b off cap p.L _ hBr).mono ?_
      rintro e w1 ⟨g, cq, rfl, hB, hg, hb1⟩
      have h1 : Below wc.heap.size wc w1 := ((Below.refl _ wc).drew).trans hb1
      refine hK.out _ _ (hS.cells h1) (fun hHeld => ?_)
      clear hK K
      try simp only [Act.put, List.setIfInBounds_toArray, List.set_cons_zero, List.set_cons_succ]
      refine wpAnyH_take (i := 18) (v := ?_) rfl (by kernel_rfl) (by kernel_rfl) (by kernel_rfl) (fun _ _ _ h => h) (Or.inl ⟨by rfl, ?_⟩) (by assumption) ?_
      rotate_left
      · intro w2 hSw; (try dsimp only at hSw); go_simp; try with_reducible rfl
      simp only [Act.put, List.setIfInBounds_toArray, List.set_cons_zero, List.set_cons_succ]
      refine wpAnyH_ready (rs := [19]) (by kernel_rfl) (by simp) ?_
      refine AllReadyH.cons rfl (fun K hK => ?_) AllReadyH.nil
      go_simp
      have h2 := fun o => h1.alloc h1.size o
      refine hK.out _ _ (hS.cells (h2 _)) (fun hHeld => ?_)
      clear hK K
      try simp only [Act.put, List.setIfInBounds_toArray, List.set_cons_zero, List.set_cons_succ]
      refine wpAnyH_ready (rs := [20]) (by kernel_rfl) (by simp) ?_
      refine AllReadyH.cons rfl (fun K hK => ?_) AllReadyH.nil
      go_simp
      refine hK.out _ _ (hS.cells (h2 _)) (fun hHeld => ?_)
      clear hK K
      refine wpAnyH_done (by kernel_rfl) ?_ _
      go_wp2
      go_meet
      have hsz := hS.sz
      have hg' : wc.heap.size ≤ g := hg
      have hgl := hB.lt
      have h1s := h1.size
      refine ⟨w1.heap.size, g, cq, rfl, (hS.kP.below h1 hS.kP.lt).alloc _, (hS.kM.below h1 hS.kM.lt).alloc _, (hS.kR.below h1 hS.kR.lt).alloc _, ?_, hB.alloc _, (hS.below.trans (h1.mono (by omega))).alloc (by omega) _, by omega, by omega, by omega⟩
      rw [← HM.out.1, ← HM.out.2]
      exact Blk.new' rfl _ _
    · go_simp
      have h0 : ∀ o, Below wc.heap.size wc (wc.alloc o).drew := fun o => ((Below.refl wc.heap.size wc).alloc (Nat.le_refl _) o).drew
      refine hK.out _ _ (hS.cells (h0 _)) (fun hHeld => ?_)
      clear hK K
      try simp only [Act.put, List.setIfInBounds_toArray, List.set_cons_zero, List.set_cons_succ]
      refine wpAnyH_ready (rs := [2]) (by kernel_rfl) (by simp) ?_
      refine AllReadyH.cons rfl (fun K hK => ?_) AllReadyH.nil
      go_simp
      refine (cloneP_any b off cap p.L _ (hBr2 _)).mono ?_
      rintro e w1 ⟨g, cq, rfl, hB, hg, hb1⟩
      have hgl := hB.lt
      have hlt2 : wc.heap.size < (wc.alloc (.cells #[.slice none 0 0, .int .i64 0, .int .i64 0, .int .i64 0, .int .i64 0, .int .i64 0] 24)).drew.heap.size := by show wc.heap.size < (wc.alloc _).heap.size; simp
      have h1 : Below wc.heap.size wc w1 := (h0 _).trans (hb1.mono (by omega))
      have hZ : Blk w1 wc.heap.size #[.slice none 0 0, .int .i64 0, .int .i64 0, .int .i64 0, .int .i64 0, .int .i64 0] := Blk.below (w := (wc.alloc (.cells #[.slice none 0 0, .int .i64 0, .int .i64 0, .int .i64 0, .int .i64 0, .int .i64 0] 24)).drew) (Blk.new wc _ 24) hb1 hlt2
      refine hK.out _ _ (hS.cells h1) (fun hHeld => ?_)
      clear hK K
      try simp only [Act.put, List.setIfInBounds_toArray, List.set_cons_zero, List.set_cons_succ]
      refine wpAnyH_take (i := 18) (v := ?_) rfl (by kernel_rfl) (by kernel_rfl) (by kernel_rfl) (fun _ _ _ h => h) (Or.inl ⟨by rfl, ?_⟩) (by assumption) ?_
      rotate_left
      · intro w2 hSw; (try dsimp only at hSw); go_simp; try with_reducible rfl
      simp only [Act.put, List.setIfInBounds_toArray, List.set_cons_zero, List.set_cons_succ]
      have z0 := hZ.cell (o := 0) rfl
      have y0 := hZ.free 0
      have z1 := hZ.cell (o := 1) rfl
      have y1 := hZ.free 1
      have z2 := hZ.cell (o := 2) rfl
      have y2 := hZ.free 2
      have z3 := hZ.cell (o := 3) rfl
      have y3 := hZ.free 3
      have z4 := hZ.cell (o := 4) rfl
      have y4 := hZ.free 4
      have z5 := hZ.cell (o := 5) rfl
      have y5 := hZ.free 5
      refine wpAnyH_ready (rs := [20]) (by kernel_rfl) (by simp) ?_
      refine AllReadyH.cons rfl (fun K hK => ?_) AllReadyH.nil
      go_simp
      refine hK.out _ _ (hS.cells ?_) (fun hHeld => ?_)
      · iterate 6 refine Below.setCell ?_ (by dsimp only; omega) _
        exact h1
      clear hK K
      refine wpAnyH_done (by kernel_rfl) ?_ _
      go_wp2
      go_meet
      have hsz := hS.sz
      have hg' : wc.heap.size + 1 ≤ g := Nat.le_trans (by omega) hg
      have hPl := hS.kP.lt
      have hMl := hS.kM.lt
      have hRl := hS.kR.lt
      refine ⟨wc.heap.size, g, cq, rfl, ?_, ?_, ?_, ?_, ?_, ?_, by omega, by omega, by omega⟩
      · iterate 6 refine Blk.other ?_ (by omega) _ _
        exact hS.kP.below h1 hPl
      · iterate 6 refine Blk.other ?_ (by omega) _ _
        exact hS.kM.below h1 hMl
      · iterate 6 refine Blk.other ?_ (by omega) _ _
        exact hS.kR.below h1 hRl
      · rw [← HM.out.1, ← HM.out.2]
        exact (((((hZ.set 0 _).set 1 _).set 2 _).set 3 _).set 4 _).set 5 _
      · iterate 6 refine OwnB.other ?_ (by omega) _ _
        exact hB
      · iterate 6 refine Below.setCell ?_ (by dsimp only; omega) _
        exact hS.below.trans (h1.mono (by omega))
  case rest =>
  clear hS
  obtain ⟨Q, g, cq, rfl, hS⟩ := hcut
  generalize hH : min (p.half + 1) 999 = H at *
  have HH := Lib.hid hH
  clear hH
  generalize hF : min (p.full + p.turn) 999 = F at *
  have HF := Lib.hid hF
  clear hF
  go_upto_region 4 with fail
  go_cut [] from 48 to 58 (fun wx => MDS w wx b off cap p m Q g cq (doneL1 p m) (1 - p.turn) p.castle (-1) H F)
  case first =>
    have q0 := hS.kQ.cell (o := 0) rfl
    have m0 := hS.kM.cell (o := 0) rfl
    have m1 := hS.kM.cell (o := 1) rfl
    have hcf := hS.kB.cell hf
    have hff := hS.kB.free m.fr
    have hct : (wc.drew.setCell ⟨g, m.fr, none⟩ (.int .i64 0)).cell? ⟨g, m.tg, none⟩ = some (.int .i64 (upd p.L m.fr 0 m.tg)) := (hS.drew.board hf 0).kB.cell ht
    have hft : (wc.drew.setCell ⟨g, m.fr, none⟩ (.int .i64 0)).frozen? ⟨g, m.tg, none⟩ = false := (hS.drew.board hf 0).kB.free m.tg
    have hct2 : (wc.setCell ⟨g, m.fr, none⟩ (.int .i64 0)).drew.cell? ⟨g, m.tg, none⟩ = some (.int .i64 (upd p.L m.fr 0 m.tg)) := (hS.drew.board hf 0).kB.cell ht
    have hft2 : (wc.setCell ⟨g, m.fr, none⟩ (.int .i64 0)).drew.frozen? ⟨g, m.tg, none⟩ = false := (hS.drew.board hf 0).kB.free m.tg
    have hfi : (m.fr : Int) < 64 := by omega
    have hti : (m.tg : Int) < 64 := by omega
    refine wp_region_held_drew (S := fun w' => w'.cell? ⟨Q, 0, none⟩ = some (.slice (some ⟨g, 0, none⟩) 64 cq) ∧ w'.cell? ⟨w.heap.size + 1, 0, none⟩ = some (.int .i64 m.fr) ∧ w'.cell? ⟨w.heap.size + 1, 1, none⟩ = some (.int .i64 m.tg)) (by kernel_rfl) hS.drew.cells3 (fun hHeld => ?_)
    refine wpAnyH_take (i := 0) (v := ?_) rfl (by kernel_rfl) (by kernel_rfl) (by kernel_rfl) (fun _ _ _ h => h) (Or.inl ⟨by rfl, ?_⟩) (by assumption) ?_
    rotate_left
    · intro w2 hSw; (try dsimp only at hSw); go_simp; try with_reducible rfl
    simp only [Act.put, List.setIfInBounds_toArray, List.set_cons_zero, List.set_cons_succ]
    refine wpAnyH_take (i := 1) (v := ?_) rfl (by kernel_rfl) (by kernel_rfl) (by kernel_rfl) (fun _ _ _ h => h) (Or.inl ⟨by rfl, ?_⟩) (by assumption) ?_
    rotate_left
    · intro w2 hSw; (try dsimp only at hSw); go_simp; try with_reducible rfl
    simp only [Act.put, List.setIfInBounds_toArray, List.set_cons_zero, List.set_cons_succ]
    refine wpAnyH_take (i := 2) (v := ?_) rfl (by kernel_rfl) (by kernel_rfl) (by kernel_rfl) (fun _ _ _ h => h) (Or.inl ⟨by rfl, ?_⟩) (by assumption) ?_
    rotate_left
    · intro w2 hSw; (try dsimp only at hSw); go_simp; try with_reducible rfl
    simp only [Act.put, List.setIfInBounds_toArray, List.set_cons_zero, List.set_cons_succ]
    refine wpAnyH_take (i := 3) (v := ?_) rfl (by kernel_rfl) (by kernel_rfl) (by kernel_rfl) (fun _ _ _ h => h) (Or.inl ⟨by rfl, ?_⟩) (by assumption) ?_
    rotate_left
    · intro w2 hSw; (try dsimp only at hSw); go_simp; try with_reducible rfl
    simp only [Act.put, List.setIfInBounds_toArray, List.set_cons_zero, List.set_cons_succ]
    refine wpAnyH_take (i := 4) (v := ?_) rfl (by kernel_rfl) (by kernel_rfl) (by kernel_rfl) (fun _ _ _ h => h) (Or.inl ⟨by rfl, ?_⟩) (by assumption) ?_
    rotate_left
    · intro w2 hSw; (try dsimp only at hSw); go_simp; try with_reducible rfl
    simp only [Act.put, List.setIfInBounds_toArray, List.set_cons_zero, List.set_cons_succ]
    refine wpAnyH_take (i := 5) (v := ?_) rfl (by kernel_rfl) (by kernel_rfl) (by kernel_rfl) (fun _ _ _ h => h) (Or.inl ⟨by rfl, ?_⟩) (by assumption) ?_
    rotate_left
    · intro w2 hSw; (try dsimp only at hSw); go_simp; try with_reducible rfl
    simp only [Act.put, List.setIfInBounds_toArray, List.set_cons_zero, List.set_cons_succ]
    refine wpAnyH_take (i := 6) (v := ?_) rfl (by kernel_rfl) (by kernel_rfl) (by kernel_rfl) (fun _ _ _ h => h) (Or.inl ⟨by rfl, ?_⟩) (by assumption) ?_
    rotate_left
    · intro w2 hSw; (try dsimp only at hSw); go_simp; try with_reducible rfl
    simp only [Act.put, List.setIfInBounds_toArray, List.set_cons_zero, List.set_cons_succ]
    refine wpAnyH_take (i := 7) (v := ?_) rfl (by kernel_rfl) (by kernel_rfl) (by kernel_rfl) (fun _ _ _ h => h) (Or.inl ⟨by rfl, ?_⟩) (by assumption) ?_
    rotate_left
    · intro w2 hSw; (try dsimp only at hSw); go_simp; try with_reducible rfl
    simp only [Act.put, List.setIfInBounds_toArray, List.set_cons_zero, List.set_cons_succ]
    refine wpAnyH_take (i := 8) (v := ?_) rfl (by kernel_rfl) (by kernel_rfl) (by kernel_rfl) (fun _ _ _ h => h) (Or.inl ⟨by rfl, ?_⟩) (by assumption) ?_
    rotate_left
    · intro w2 hSw; (try dsimp only at hSw); go_simp; try with_reducible rfl
    simp only [Act.put, List.setIfInBounds_toArray, List.set_cons_zero, List.set_cons_succ]
    refine wpAnyH_take (i := 9) (v := ?_) rfl (by kernel_rfl) (by kernel_rfl) (by kernel_rfl) (fun _ _ _ h => h) (Or.inl ⟨by rfl, ?_⟩) (by assumption) ?_
    rotate_left
    · intro w2 hSw; (try dsimp only at hSw); go_simp; try with_reducible rfl
    simp only [Act.put, List.setIfInBounds_toArray, List.set_cons_zero, List.set_cons_succ]
    refine wpAnyH_ready (rs := [10]) (by kernel_rfl) (by simp) ?_
    refine AllReadyH.cons rfl (fun K hK => ?_) AllReadyH.nil
    go_simp
    refine hK.out _ _ ((hS.drew.board hf 0).cells3) (fun hHeld => ?_)
    clear hK K
    try simp only [Act.put, List.setIfInBounds_toArray, List.set_cons_zero, List.set_cons_succ]
    refine wpAnyH_take (i := 11) (v := ?_) rfl (by kernel_rfl) (by kernel_rfl) (by kernel_rfl) (fun _ _ _ h => h) (Or.inl ⟨by rfl, ?_⟩) (by assumption) ?_
    rotate_left
    · intro w2 hSw; (try dsimp only at hSw); go_simp; try with_reducible rfl
    simp only [Act.put, List.setIfInBounds_toArray, List.set_cons_zero, List.set_cons_succ]
    refine wpAnyH_ready (rs := [12]) (by kernel_rfl) (by simp) ?_
    refine AllReadyH.cons rfl (fun K hK => ?_) AllReadyH.nil
    go_simp
    refine hK.out _ _ (((hS.drew.board hf 0).board ht _).cells3) (fun hHeld => ?_)
    clear hK K
    try simp only [Act.put, List.setIfInBounds_toArray, List.set_cons_zero, List.set_cons_succ]
    refine wpAnyH_done (by kernel_rfl) ?_ _
    go_wp2
    go_meet
    exact (hS.drew.board hf 0).board ht _
  case rest =>
  clear hS
  have hS := hcut
  clear hcut
  generalize hx : p.L m.fr = x at *
  have hx0 : -6 ≤ x := by have := (hbr.bd m.fr).1; omega
  have hx1 : x ≤ 6 := by have := (hbr.bd m.fr).2; omega
  have Hx := Lib.hid hx
  clear hx
  generalize hy : p.L m.tg = y at *
  have Hy := Lib.hid hy
  clear hy
  have hcc : 1 - 2 * p.turn = 1 ∨ 1 - 2 * p.turn = -1 := by omega
  generalize hc : 1 - 2 * p.turn = c at *
  have Hc := Lib.hid hc
  have Hcc := Lib.hid hcc
  have hcb0 : -1 ≤ c := by omega
  have hcb1 : c ≤ 1 := by omega
  have hmb : -5 ≤ m.into * c ∧ m.into * c ≤ 5 := by rw [Int.mul_comm]; exact mul_bd hcc hi0 hi5
  have hmb0 := hmb.1
  have hmb1 := hmb.2
  clear hc hcc hmb
  go_upto_region 5 with fail
  go_cut [60] from 59 to 60 (fun s60 wx => s60 = .int .i64 (sizeI x) ∧ MDS w wx b off cap p m Q g cq (doneL1 p m) (1 - p.turn) p.castle (-1) H F)
  case first =>
    go_wp2_with (go_at_call 59; refine (kindP_any _ _ (by omega) (by omega)).mono ?_; rintro e w' ⟨rfl, rfl⟩)
    go_meet
    exact ⟨rfl, hS⟩
  case rest =>
  clear hS
  obtain ⟨rfl, hS⟩ := hcut
  go_upto_block 0 with fail
  go_cut [9, 10] from 61 to 151 (fun s9 s10 wx => MDS w wx b off cap p m Q g cq (aftL p m) (1 - p.turn) (aftC0 p m) (aftEp p m) (if sizeI x = 1 then 0 else H) F)
  case first =>
    cases k1 : (sizeI x == 1)
    case true =>
      have hs1 : sizeI x = 1 := by simpa using k1
      have hC0 : aftC0 p m = p.castle := by unfold aftC0; rw [Hx.out, if_neg (by omega)]
      have HI := Lib.hid (show (if sizeI x = 1 then 0 else H) = 0 from if_pos hs1)
      have HC0 := Lib.hid hC0
      have hAL : aftL p m = if (m.tg : Int) = p.ep then upd (doneL1 p m) ((m.tg : Int) - 8 * c).toNat 0 else if (m.tg : Int) - m.fr = 16 * c then doneL1 p m else if 0 < m.into then upd (doneL1 p m) m.tg (m.into * c) else doneL1 p m := by
        unfold aftL; rw [Hx.out, if_pos hs1, Hc.out]
      have hAE : aftEp p m = if (m.tg : Int) ≠ p.ep ∧ (m.tg : Int) - m.fr = 16 * c then m.fr + 8 * c else -1 := by
        unfold aftEp; rw [Hx.out, Hc.out]; simp [hs1]
      have HAL := Lib.hid hAL
      have HAE := Lib.hid hAE
      clear hAL hAE hC0 hs1
      go_upto_region 7 with fail
      go_cut [] from 63 to 63 (fun wx => MDS w wx b off cap p m Q g cq (doneL1 p m) (1 - p.turn) p.castle (-1) 0 F)
      case first =>
        have q4 := hS.kQ.cell (o := 4) rfl
        have f4 := hS.kQ.free 4
        go_wp2
        go_meet
        exact hS.half 0
      case rest =>
      clear hS
      have hS := hcut
      clear hcut
      have m0 := hS.kM.cell (o := 0) rfl
      have m1 := hS.kM.cell (o := 1) rfl
      have m2 := hS.kM.cell (o := 2) rfl
      have p3 := hS.kP.cell (o := 3) rfl
      have q0 := hS.kQ.cell (o := 0) rfl
      have q3 := hS.kQ.cell (o := 3) rfl
      have f3 := hS.kQ.free 3
      cases e0 : ((m.tg : Int) == p.ep)
      case true =>
        have he : (m.tg : Int) = p.ep := by simpa using e0
        have h8 : ((m.tg : Int) - 8 * c).toNat < 64 := by have := Hcc.out; omega
        have h80 : 0 ≤ (m.tg : Int) - 8 * c := by have := Hcc.out; omega
        have h81 : (m.tg : Int) - 8 * c < 64 := by have := Hcc.out; omega
        have He := Lib.hid he
        clear he
        have hcell := hS.kB.cell h8
        have hfree := hS.kB.free ((m.tg : Int) - 8 * c).toNat
        go_wp2
        go_meet
        rw [HI.out, HC0.out, HAL.out, HAE.out, if_pos He.out, if_neg (fun h => h.1 He.out)]
        exact hS.board h8 0
      case false =>
      have he : ¬ (m.tg : Int) = p.ep := by simpa using e0
      have He := Lib.hid he
      clear he
      cases e1 : ((m.tg : Int) - m.fr == 16 * c)
      case true =>
        have hd : (m.tg : Int) - m.fr = 16 * c := by simpa using e1
        have Hd := Lib.hid hd
        clear hd
        go_wp2
        go_meet
        rw [HI.out, HC0.out, HAL.out, HAE.out, if_neg He.out, if_pos Hd.out, if_pos ⟨He.out, Hd.out⟩]
        exact hS.passant _
      case false =>
      have hd : ¬ (m.tg : Int) - m.fr = 16 * c := by simpa using e1
      have Hd := Lib.hid hd
      clear hd
      have HAE2 := Lib.hid (show aftEp p m = -1 by rw [HAE.out, if_neg (fun h => Hd.out h.2)])
      have hct := hS.kB.cell ht
      have hft := hS.kB.free m.tg
      cases e2 : decide (0 < m.into)
      case true =>
        have hi : 0 < m.into := by simpa using e2
        have Hi := Lib.hid hi
        go_wp2
        go_meet
        rw [HI.out, HC0.out, HAE2.out, HAL.out, if_neg He.out, if_neg Hd.out, if_pos Hi.out]
        exact hS.board ht _
      case false =>
        have hi : ¬ 0 < m.into := by simpa using e2
        have Hi := Lib.hid hi
        go_wp2
        go_meet
        rw [HI.out, HC0.out, HAE2.out, HAL.out, if_neg He.out, if_neg Hd.out, if_neg (by have := Hi.out; omega)]
        exact hS
    case false =>
    have hs1 : ¬ sizeI x = 1 := by simpa using k1
    have hAE : aftEp p m = -1 := by unfold aftEp; rw [Hx.out, if_neg (fun h => hs1 h.1)]
    have HI := Lib.hid (show (if sizeI x = 1 then 0 else H) = H from if_neg hs1)
    have HAE := Lib.hid hAE
    clear hAE
    have Hs1 := Lib.hid hs1
    clear hs1
    cases k6 : (sizeI x == 6)
    case false =>
      have hs6 : ¬ sizeI x = 6 := by simpa using k6
      have hC0 : aftC0 p m = p.castle := by unfold aftC0; rw [Hx.out, if_neg hs6]
      have hAL : aftL p m = doneL1 p m := by unfold aftL; rw [Hx.out, if_neg Hs1.out, if_neg hs6]
      have HC0 := Lib.hid hC0
      have HAL := Lib.hid hAL
      clear hC0 hAL hs6
      go_wp2
      go_meet
      rw [HI.out, HAE.out, HC0.out, HAL.out]
      exact hS
    case true =>
    have hs6 : sizeI x = 6 := by simpa using k6
    obtain ⟨hr3, hr4⟩ := Hck.out hs6
    have hAL : aftL p m = if (m.tg : Int) - m.fr = 2 then upd (upd (doneL1 p m) (m.fr + 1) (doneL1 p m (m.fr + 3))) (m.fr + 3) 0 else if (m.tg : Int) - m.fr = -2 then upd (upd (doneL1 p m) (m.fr - 1) (doneL1 p m (m.fr - 4))) (m.fr - 4) 0 else doneL1 p m := by
      unfold aftL; rw [Hx.out, if_neg Hs1.out, if_pos hs6]
    have hC0 : aftC0 p m = clrI (2 * p.turn.toNat + 1) (clrI (2 * p.turn.toNat) p.castle) := by unfold aftC0; rw [Hx.out, if_pos hs6]
    have HAL := Lib.hid hAL
    have HC0 := Lib.hid hC0
    have HR3 := Lib.hid hr3
    have HR4 := Lib.hid hr4
    clear hAL hC0 hr3 hr4 hs6
    have hfi : (m.fr : Int) < 64 := by omega
    have hti : (m.tg : Int) < 64 := by omega
    go_upto_region 15 with fail
    go_cut [9] from 108 to 112 (fun s9 wx => s9 = .int .i64 ((m.tg : Int) - m.fr) ∧ MDS w wx b off cap p m Q g cq (doneL1 p m) (1 - p.turn) p.castle (-1) H F)
    case first =>
      have m0 := hS.kM.cell (o := 0) rfl
      have m1 := hS.kM.cell (o := 1) rfl
      go_wp2
      go_meet
      exact ⟨rfl, hS⟩
    case rest =>
    clear hS
    obtain ⟨rfl, hS⟩ := hcut
    have hdb0 : -64 ≤ (m.tg : Int) - m.fr := by omega
    have hdb1 : (m.tg : Int) - m.fr ≤ 64 := by omega
    generalize hd0 : (m.tg : Int) - m.fr = d at *
    have Hd0 := Lib.hid hd0
    clear hd0
    go_upto_region 16 with fail
    go_cut [118] from 113 to 118 (fun s118 wx => s118 = .bool ((d == 2) || (d == -2)) ∧ MDS w wx b off cap p m Q g cq (doneL1 p m) (1 - p.turn) p.castle (-1) H F)
    case first =>
      cases q1 : (d == 2)
      case true =>
        go_wp2
        go_meet
        exact ⟨by simp [q1], hS⟩
      case false =>
        go_wp2
        go_meet
        exact ⟨by simp [q1], hS⟩
    case rest =>
    clear hS
    obtain ⟨rfl, hS⟩ := hcut
    generalize hpw : ((d == 2) || (d == -2)) = pw at *
    have Hpw := Lib.hid hpw
    clear hpw
    go_upto_if 118 with fail
    go_cut [10] from 118 to 143 (fun s10 wx => MDS w wx b off cap p m Q g cq (aftL p m) (1 - p.turn) p.castle (-1) H F)
    case first =>
      have m0 := hS.kM.cell (o := 0) rfl
      have q0 := hS.kQ.cell (o := 0) rfl
      by_cases hd : d = 2
      · subst hd
        obtain rfl : pw = true := by rw [← Hpw.out]; rfl
        have h3 : m.fr + 3 < 64 := HR3.out rfl
        have h1 : m.fr + 1 < 64 := by omega
        have hc3 : wc.drew.cell? ⟨g, m.fr + 3, none⟩ = some (.int .i64 (doneL1 p m (m.fr + 3))) := hS.kB.cell h3
        have hc1 : wc.drew.cell? ⟨g, m.fr + 1, none⟩ = some (.int .i64 (doneL1 p m (m.fr + 1))) := hS.kB.cell h1
        have hf1 : wc.drew.frozen? ⟨g, m.fr + 1, none⟩ = false := hS.kB.free (m.fr + 1)
        have b1 : (m.fr : Int) + 1 < 64 := by omega
        have b3 : (m.fr : Int) + 3 < 64 := by omega
        have c1 : (0 : Int) ≤ (m.fr : Int) + 1 := by omega
        have c3 : (0 : Int) ≤ (m.fr : Int) + 3 := by omega
        have n1 : ((m.fr : Int) + 1).toNat = m.fr + 1 := by omega
        have n3 : ((m.fr : Int) + 3).toNat = m.fr + 3 := by omega
        have v1 : IntKind.i64.wrap 1 = 1 := by decide
        have v2 : IntKind.i64.wrap ((m.fr : Int) + 1) = (m.fr : Int) + 1 := IntWalk.i64_in _ (by omega)
        have hcu : (wc.drew.setCell ⟨g, m.fr + 1, none⟩ (.int .i64 (doneL1 p m (m.fr + 3)))).cell? ⟨g, m.fr + 3, none⟩ = some (.int .i64 (upd (doneL1 p m) (m.fr + 1) (doneL1 p m (m.fr + 3)) (m.fr + 3))) := (hS.drew.board h1 _).kB.cell h3
        have hfu : (wc.drew.setCell ⟨g, m.fr + 1, none⟩ (.int .i64 (doneL1 p m (m.fr + 3)))).frozen? ⟨g, m.fr + 3, none⟩ = false := (hS.drew.board h1 _).kB.free (m.fr + 3)
        have hcu2 : (wc.setCell ⟨g, m.fr + 1, none⟩ (.int .i64 (doneL1 p m (m.fr + 3)))).drew.cell? ⟨g, m.fr + 3, none⟩ = some (.int .i64 (upd (doneL1 p m) (m.fr + 1) (doneL1 p m (m.fr + 3)) (m.fr + 3))) := (hS.drew.board h1 _).kB.cell h3
        have hfu2 : (wc.setCell ⟨g, m.fr + 1, none⟩ (.int .i64 (doneL1 p m (m.fr + 3)))).drew.frozen? ⟨g, m.fr + 3, none⟩ = false := (hS.drew.board h1 _).kB.free (m.fr + 3)
        go_upto_region 20 with fail
        refine wp_region_held_drew (S := fun w' => w'.cell? ⟨Q, 0, none⟩ = some (.slice (some ⟨g, 0, none⟩) 64 cq) ∧ w'.cell? ⟨w.heap.size + 1, 0, none⟩ = some (.int .i64 m.fr) ∧ w'.cell? ⟨w.heap.size + 1, 1, none⟩ = some (.int .i64 m.tg)) (by kernel_rfl) hS.drew.cells3 (fun hHeld => ?_)
        refine wpAnyH_take (i := 0) (v := ?_) rfl (by kernel_rfl) (by kernel_rfl) (by kernel_rfl) (fun _ _ _ h => h) (Or.inl ⟨by rfl, ?_⟩) (by assumption) ?_
        rotate_left
        · intro w2 hSw; (try dsimp only at hSw); go_simp; try with_reducible rfl
        simp only [Act.put, List.setIfInBounds_toArray, List.set_cons_zero, List.set_cons_succ]
        refine wpAnyH_take (i := 1) (v := ?_) rfl (by kernel_rfl) (by kernel_rfl) (by kernel_rfl) (fun _ _ _ h => h) (Or.inl ⟨by rfl, ?_⟩) (by assumption) ?_
        rotate_left
        · intro w2 hSw; (try dsimp only at hSw); go_simp; try with_reducible rfl
        simp only [Act.put, List.setIfInBounds_toArray, List.set_cons_zero, List.set_cons_succ]
        refine wpAnyH_take (i := 2) (v := ?_) rfl (by kernel_rfl) (by kernel_rfl) (by kernel_rfl) (fun _ _ _ h => h) (Or.inl ⟨by rfl, ?_⟩) (by assumption) ?_
        rotate_left
        · intro w2 hSw; (try dsimp only at hSw); go_simp; try with_reducible rfl
        simp only [Act.put, List.setIfInBounds_toArray, List.set_cons_zero, List.set_cons_succ]
        refine wpAnyH_take (i := 3) (v := ?_) rfl (by kernel_rfl) (by kernel_rfl) (by kernel_rfl) (fun _ _ _ h => h) (Or.inl ⟨by rfl, ?_⟩) (by assumption) ?_
        rotate_left
        · intro w2 hSw; (try dsimp only at hSw); go_simp; try with_reducible rfl
        simp only [Act.put, List.setIfInBounds_toArray, List.set_cons_zero, List.set_cons_succ]
        refine wpAnyH_take (i := 4) (v := ?_) rfl (by kernel_rfl) (by kernel_rfl) (by kernel_rfl) (fun _ _ _ h => h) (Or.inl ⟨by rfl, ?_⟩) (by assumption) ?_
        rotate_left
        · intro w2 hSw; (try dsimp only at hSw); go_simp; try with_reducible rfl
        simp only [Act.put, List.setIfInBounds_toArray, List.set_cons_zero, List.set_cons_succ]
        refine wpAnyH_take (i := 5) (v := ?_) rfl (by kernel_rfl) (by kernel_rfl) (by kernel_rfl) (fun _ _ _ h => h) (Or.inl ⟨by rfl, ?_⟩) (by assumption) ?_
        rotate_left
        · intro w2 hSw; (try dsimp only at hSw); go_simp; try with_reducible rfl
        simp only [Act.put, List.setIfInBounds_toArray, List.set_cons_zero, List.set_cons_succ]
        refine wpAnyH_take (i := 6) (v := ?_) rfl (by kernel_rfl) (by kernel_rfl) (by kernel_rfl) (fun _ _ _ h => h) (Or.inl ⟨by rfl, ?_⟩) (by assumption) ?_
        rotate_left
        · intro w2 hSw; (try dsimp only at hSw); go_simp; try with_reducible rfl
        simp only [Act.put, List.setIfInBounds_toArray, List.set_cons_zero, List.set_cons_succ]
        refine wpAnyH_take (i := 7) (v := ?_) rfl (by kernel_rfl) (by kernel_rfl) (by kernel_rfl) (fun _ _ _ h => h) (Or.inl ⟨by rfl, ?_⟩) (by assumption) ?_
        rotate_left
        · intro w2 hSw; (try dsimp only at hSw); go_simp; try with_reducible rfl
        simp only [Act.put, List.setIfInBounds_toArray, List.set_cons_zero, List.set_cons_succ]
        refine wpAnyH_take (i := 8) (v := ?_) rfl (by kernel_rfl) (by kernel_rfl) (by kernel_rfl) (fun _ _ _ h => h) (Or.inl ⟨by rfl, ?_⟩) (by assumption) ?_
        rotate_left
        · intro w2 hSw; (try dsimp only at hSw); go_simp; try with_reducible rfl
        simp only [Act.put, List.setIfInBounds_toArray, List.set_cons_zero, List.set_cons_succ]
        refine wpAnyH_take (i := 9) (v := ?_) rfl (by kernel_rfl) (by kernel_rfl) (by kernel_rfl) (fun _ _ _ h => h) (Or.inl ⟨by rfl, ?_⟩) (by assumption) ?_
        rotate_left
        · intro w2 hSw; (try dsimp only at hSw); go_simp; try with_reducible rfl
        simp only [Act.put, List.setIfInBounds_toArray, List.set_cons_zero, List.set_cons_succ]
        refine wpAnyH_take (i := 10) (v := ?_) rfl (by kernel_rfl) (by kernel_rfl) (by kernel_rfl) (fun _ _ _ h => h) (Or.inl ⟨by rfl, ?_⟩) (by assumption) ?_
        rotate_left
        · intro w2 hSw; (try dsimp only at hSw); go_simp; try with_reducible rfl
        simp only [Act.put, List.setIfInBounds_toArray, List.set_cons_zero, List.set_cons_succ]
        refine wpAnyH_take (i := 11) (v := ?_) rfl (by kernel_rfl) (by kernel_rfl) (by kernel_rfl) (fun _ _ _ h => h) (Or.inl ⟨by rfl, ?_⟩) (by assumption) ?_
        rotate_left
        · intro w2 hSw; (try dsimp only at hSw); go_simp; try with_reducible rfl
        simp only [Act.put, List.setIfInBounds_toArray, List.set_cons_zero, List.set_cons_succ]
        refine wpAnyH_take (i := 12) (v := ?_) rfl (by kernel_rfl) (by kernel_rfl) (by kernel_rfl) (fun _ _ _ h => h) (Or.inl ⟨by rfl, ?_⟩) (by assumption) ?_
        rotate_left
        · intro w2 hSw; (try dsimp only at hSw); go_simp; try with_reducible rfl
        simp only [Act.put, List.setIfInBounds_toArray, List.set_cons_zero, List.set_cons_succ]
        refine wpAnyH_take (i := 13) (v := ?_) rfl (by kernel_rfl) (by kernel_rfl) (by kernel_rfl) (fun _ _ _ h => h) (Or.inl ⟨by rfl, ?_⟩) (by assumption) ?_
        rotate_left
        · intro w2 hSw; (try dsimp only at hSw); go_simp; try with_reducible rfl
        simp only [Act.put, List.setIfInBounds_toArray, List.set_cons_zero, List.set_cons_succ]
        refine wpAnyH_ready (rs := [14]) (by kernel_rfl) (by simp) ?_
        refine AllReadyH.cons rfl (fun K hK => ?_) AllReadyH.nil
        go_simp
        refine hK.out _ _ (hS.drew.cells3) (fun hHeld => ?_)
        clear hK K
        try simp only [Act.put, List.setIfInBounds_toArray, List.set_cons_zero, List.set_cons_succ]
        refine wpAnyH_take (i := 15) (v := ?_) rfl (by kernel_rfl) (by kernel_rfl) (by kernel_rfl) (fun _ _ _ h => h) (Or.inl ⟨by rfl, ?_⟩) (by assumption) ?_
        rotate_left
        · intro w2 hSw; (try dsimp only at hSw); go_simp; try with_reducible rfl
        simp only [Act.put, List.setIfInBounds_toArray, List.set_cons_zero, List.set_cons_succ]
        refine wpAnyH_ready (rs := [16]) (by kernel_rfl) (by simp) ?_
        refine AllReadyH.cons rfl (fun K hK => ?_) AllReadyH.nil
        go_simp
        refine hK.out _ _ ((hS.drew.board h1 _).cells3) (fun hHeld => ?_)
        clear hK K
        try simp only [Act.put, List.setIfInBounds_toArray, List.set_cons_zero, List.set_cons_succ]
        refine wpAnyH_take (i := 17) (v := ?_) rfl (by kernel_rfl) (by kernel_rfl) (by kernel_rfl) (fun _ _ _ h => h) (Or.inl ⟨by rfl, ?_⟩) (by assumption) ?_
        rotate_left
        · intro w2 hSw; (try dsimp only at hSw); go_simp; try with_reducible rfl
        simp only [Act.put, List.setIfInBounds_toArray, List.set_cons_zero, List.set_cons_succ]
        refine wpAnyH_ready (rs := [18]) (by kernel_rfl) (by simp) ?_
        refine AllReadyH.cons rfl (fun K hK => ?_) AllReadyH.nil
        go_simp
        refine hK.out _ _ (((hS.drew.board h1 _).board h3 _).cells3) (fun hHeld => ?_)
        clear hK K
        try simp only [Act.put, List.setIfInBounds_toArray, List.set_cons_zero, List.set_cons_succ]
        refine wpAnyH_done (by kernel_rfl) ?_ _
        go_wp2
        go_meet
        rw [HAL.out, if_pos True.intro]
        exact (hS.drew.board h1 _).board h3 0
      · by_cases hd' : d = -2
        · subst hd'
          obtain rfl : pw = true := by rw [← Hpw.out]; rfl
          have h4 : 4 ≤ m.fr := HR4.out rfl
          have h4' : m.fr - 4 < 64 := by omega
          have h1 : m.fr - 1 < 64 := by omega
          have hc3 : wc.drew.cell? ⟨g, m.fr - 4, none⟩ = some (.int .i64 (doneL1 p m (m.fr - 4))) := hS.kB.cell h4'
          have hc1 : wc.drew.cell? ⟨g, m.fr - 1, none⟩ = some (.int .i64 (doneL1 p m (m.fr - 1))) := hS.kB.cell h1
          have hf1 : wc.drew.frozen? ⟨g, m.fr - 1, none⟩ = false := hS.kB.free (m.fr - 1)
          have n1 : ((m.fr : Int) + -1).toNat = m.fr - 1 := by omega
          have n3 : ((m.fr : Int) - 4).toNat = m.fr - 4 := by omega
          have n4 : ((m.fr : Int) + -4).toNat = m.fr - 4 := by omega
          have b1 : (m.fr : Int) + -1 < 64 := by omega
          have b3 : (m.fr : Int) - 4 < 64 := by omega
          have c1 : (0 : Int) ≤ (m.fr : Int) + -1 := by omega
          have c3 : (0 : Int) ≤ (m.fr : Int) - 4 := by omega
          have b4 : (m.fr : Int) + -4 < 64 := by omega
          have c4 : (0 : Int) ≤ (m.fr : Int) + -4 := by omega
          have c5 : (4 : Int) ≤ (m.fr : Int) := by omega
          have c6 : (1 : Int) ≤ (m.fr : Int) := by omega
          have v1 : IntKind.i64.wrap (-1) = -1 := by decide
          have v2 : IntKind.i64.wrap ((m.fr : Int) + -1) = (m.fr : Int) + -1 := IntWalk.i64_in _ (by omega)
          have hcu : (wc.drew.setCell ⟨g, m.fr - 1, none⟩ (.int .i64 (doneL1 p m (m.fr - 4)))).cell? ⟨g, m.fr - 4, none⟩ = some (.int .i64 (upd (doneL1 p m) (m.fr - 1) (doneL1 p m (m.fr - 4)) (m.fr - 4))) := (hS.drew.board h1 _).kB.cell h4'
          have hfu : (wc.drew.setCell ⟨g, m.fr - 1, none⟩ (.int .i64 (doneL1 p m (m.fr - 4)))).frozen? ⟨g, m.fr - 4, none⟩ = false := (hS.drew.board h1 _).kB.free (m.fr - 4)
          have hcu2 : (wc.setCell ⟨g, m.fr - 1, none⟩ (.int .i64 (doneL1 p m (m.fr - 4)))).drew.cell? ⟨g, m.fr - 4, none⟩ = some (.int .i64 (upd (doneL1 p m) (m.fr - 1) (doneL1 p m (m.fr - 4)) (m.fr - 4))) := (hS.drew.board h1 _).kB.cell h4'
          have hfu2 : (wc.setCell ⟨g, m.fr - 1, none⟩ (.int .i64 (doneL1 p m (m.fr - 4)))).drew.frozen? ⟨g, m.fr - 4, none⟩ = false := (hS.drew.board h1 _).kB.free (m.fr - 4)
          go_upto_region 20 with fail
          refine wp_region_held_drew (S := fun w' => w'.cell? ⟨Q, 0, none⟩ = some (.slice (some ⟨g, 0, none⟩) 64 cq) ∧ w'.cell? ⟨w.heap.size + 1, 0, none⟩ = some (.int .i64 m.fr) ∧ w'.cell? ⟨w.heap.size + 1, 1, none⟩ = some (.int .i64 m.tg)) (by kernel_rfl) hS.drew.cells3 (fun hHeld => ?_)
          refine wpAnyH_take (i := 0) (v := ?_) rfl (by kernel_rfl) (by kernel_rfl) (by kernel_rfl) (fun _ _ _ h => h) (Or.inl ⟨by rfl, ?_⟩) (by assumption) ?_
          rotate_left
          · intro w2 hSw; (try dsimp only at hSw); go_simp; try with_reducible rfl
          simp only [Act.put, List.setIfInBounds_toArray, List.set_cons_zero, List.set_cons_succ]
          refine wpAnyH_take (i := 1) (v := ?_) rfl (by kernel_rfl) (by kernel_rfl) (by kernel_rfl) (fun _ _ _ h => h) (Or.inl ⟨by rfl, ?_⟩) (by assumption) ?_
          rotate_left
          · intro w2 hSw; (try dsimp only at hSw); go_simp; try with_reducible rfl
          simp only [Act.put, List.setIfInBounds_toArray, List.set_cons_zero, List.set_cons_succ]
          refine wpAnyH_take (i := 2) (v := ?_) rfl (by kernel_rfl) (by kernel_rfl) (by kernel_rfl) (fun _ _ _ h => h) (Or.inl ⟨by rfl, ?_⟩) (by assumption) ?_
          rotate_left
          · intro w2 hSw; (try dsimp only at hSw); go_simp; try with_reducible rfl
          simp only [Act.put, List.setIfInBounds_toArray, List.set_cons_zero, List.set_cons_succ]
          refine wpAnyH_take (i := 3) (v := ?_) rfl (by kernel_rfl) (by kernel_rfl) (by kernel_rfl) (fun _ _ _ h => h) (Or.inl ⟨by rfl, ?_⟩) (by assumption) ?_
          rotate_left
          · intro w2 hSw; (try dsimp only at hSw); go_simp; try with_reducible rfl
          simp only [Act.put, List.setIfInBounds_toArray, List.set_cons_zero, List.set_cons_succ]
          refine wpAnyH_take (i := 4) (v := ?_) rfl (by kernel_rfl) (by kernel_rfl) (by kernel_rfl) (fun _ _ _ h => h) (Or.inl ⟨by rfl, ?_⟩) (by assumption) ?_
          rotate_left
          · intro w2 hSw; (try dsimp only at hSw); go_simp; try with_reducible rfl
          simp only [Act.put, List.setIfInBounds_toArray, List.set_cons_zero, List.set_cons_succ]
          refine wpAnyH_take (i := 5) (v := ?_) rfl (by kernel_rfl) (by kernel_rfl) (by kernel_rfl) (fun _ _ _ h => h) (Or.inl ⟨by rfl, ?_⟩) (by assumption) ?_
          rotate_left
          · intro w2 hSw; (try dsimp only at hSw); go_simp; try with_reducible rfl
          simp only [Act.put, List.setIfInBounds_toArray, List.set_cons_zero, List.set_cons_succ]
          refine wpAnyH_take (i := 6) (v := ?_) rfl (by kernel_rfl) (by kernel_rfl) (by kernel_rfl) (fun _ _ _ h => h) (Or.inl ⟨by rfl, ?_⟩) (by assumption) ?_
          rotate_left
          · intro w2 hSw; (try dsimp only at hSw); go_simp; try with_reducible rfl
          simp only [Act.put, List.setIfInBounds_toArray, List.set_cons_zero, List.set_cons_succ]
          refine wpAnyH_take (i := 7) (v := ?_) rfl (by kernel_rfl) (by kernel_rfl) (by kernel_rfl) (fun _ _ _ h => h) (Or.inl ⟨by rfl, ?_⟩) (by assumption) ?_
          rotate_left
          · intro w2 hSw; (try dsimp only at hSw); go_simp; try with_reducible rfl
          simp only [Act.put, List.setIfInBounds_toArray, List.set_cons_zero, List.set_cons_succ]
          refine wpAnyH_take (i := 8) (v := ?_) rfl (by kernel_rfl) (by kernel_rfl) (by kernel_rfl) (fun _ _ _ h => h) (Or.inl ⟨by rfl, ?_⟩) (by assumption) ?_
          rotate_left
          · intro w2 hSw; (try dsimp only at hSw); go_simp; try with_reducible rfl
          simp only [Act.put, List.setIfInBounds_toArray, List.set_cons_zero, List.set_cons_succ]
          refine wpAnyH_take (i := 9) (v := ?_) rfl (by kernel_rfl) (by kernel_rfl) (by kernel_rfl) (fun _ _ _ h => h) (Or.inl ⟨by rfl, ?_⟩) (by assumption) ?_
          rotate_left
          · intro w2 hSw; (try dsimp only at hSw); go_simp; try with_reducible rfl
          simp only [Act.put, List.setIfInBounds_toArray, List.set_cons_zero, List.set_cons_succ]
          refine wpAnyH_take (i := 10) (v := ?_) rfl (by kernel_rfl) (by kernel_rfl) (by kernel_rfl) (fun _ _ _ h => h) (Or.inl ⟨by rfl, ?_⟩) (by assumption) ?_
          rotate_left
          · intro w2 hSw; (try dsimp only at hSw); go_simp; try with_reducible rfl
          simp only [Act.put, List.setIfInBounds_toArray, List.set_cons_zero, List.set_cons_succ]
          refine wpAnyH_take (i := 11) (v := ?_) rfl (by kernel_rfl) (by kernel_rfl) (by kernel_rfl) (fun _ _ _ h => h) (Or.inl ⟨by rfl, ?_⟩) (by assumption) ?_
          rotate_left
          · intro w2 hSw; (try dsimp only at hSw); go_simp; try with_reducible rfl
          simp only [Act.put, List.setIfInBounds_toArray, List.set_cons_zero, List.set_cons_succ]
          refine wpAnyH_take (i := 12) (v := ?_) rfl (by kernel_rfl) (by kernel_rfl) (by kernel_rfl) (fun _ _ _ h => h) (Or.inl ⟨by rfl, ?_⟩) (by assumption) ?_
          rotate_left
          · intro w2 hSw; (try dsimp only at hSw); go_simp; try with_reducible rfl
          simp only [Act.put, List.setIfInBounds_toArray, List.set_cons_zero, List.set_cons_succ]
          refine wpAnyH_take (i := 13) (v := ?_) rfl (by kernel_rfl) (by kernel_rfl) (by kernel_rfl) (fun _ _ _ h => h) (Or.inl ⟨by rfl, ?_⟩) (by assumption) ?_
          rotate_left
          · intro w2 hSw; (try dsimp only at hSw); go_simp; try with_reducible rfl
          simp only [Act.put, List.setIfInBounds_toArray, List.set_cons_zero, List.set_cons_succ]
          refine wpAnyH_ready (rs := [14]) (by kernel_rfl) (by simp) ?_
          refine AllReadyH.cons rfl (fun K hK => ?_) AllReadyH.nil
          go_simp
          refine hK.out _ _ (hS.drew.cells3) (fun hHeld => ?_)
          clear hK K
          try simp only [Act.put, List.setIfInBounds_toArray, List.set_cons_zero, List.set_cons_succ]
          refine wpAnyH_take (i := 15) (v := ?_) rfl (by kernel_rfl) (by kernel_rfl) (by kernel_rfl) (fun _ _ _ h => h) (Or.inl ⟨by rfl, ?_⟩) (by assumption) ?_
          rotate_left
          · intro w2 hSw; (try dsimp only at hSw); go_simp; try with_reducible rfl
          simp only [Act.put, List.setIfInBounds_toArray, List.set_cons_zero, List.set_cons_succ]
          refine wpAnyH_ready (rs := [16]) (by kernel_rfl) (by simp) ?_
          refine AllReadyH.cons rfl (fun K hK => ?_) AllReadyH.nil
          go_simp
          refine hK.out _ _ ((hS.drew.board h1 _).cells3) (fun hHeld => ?_)
          clear hK K
          try simp only [Act.put, List.setIfInBounds_toArray, List.set_cons_zero, List.set_cons_succ]
          refine wpAnyH_take (i := 17) (v := ?_) rfl (by kernel_rfl) (by kernel_rfl) (by kernel_rfl) (fun _ _ _ h => h) (Or.inl ⟨by rfl, ?_⟩) (by assumption) ?_
          rotate_left
          · intro w2 hSw; (try dsimp only at hSw); go_simp; try with_reducible rfl
          simp only [Act.put, List.setIfInBounds_toArray, List.set_cons_zero, List.set_cons_succ]
          refine wpAnyH_ready (rs := [18]) (by kernel_rfl) (by simp) ?_
          refine AllReadyH.cons rfl (fun K hK => ?_) AllReadyH.nil
          go_simp
          refine hK.out _ _ (((hS.drew.board h1 _).board h4' _).cells3) (fun hHeld => ?_)
          clear hK K
          try simp only [Act.put, List.setIfInBounds_toArray, List.set_cons_zero, List.set_cons_succ]
          refine wpAnyH_done (by kernel_rfl) ?_ _
          go_wp2
          go_meet
          rw [HAL.out, if_neg (by decide), if_pos True.intro]
          exact (hS.drew.board h1 _).board h4' 0
        · have hA : aftL p m = doneL1 p m := by rw [HAL.out, if_neg hd, if_neg hd']
          have HA := Lib.hid hA
          clear hA
          have q1 : (d == 2) = false := by simpa using hd
          have q2 : (d == -2) = false := by simpa using hd'
          obtain rfl : pw = false := by rw [← Hpw.out, q1, q2]; rfl
          clear hd hd'
          go_wp2
          go_meet
          rw [HA.out]
          exact hS
    case rest =>
    clear hS
    have hS := hcut
    clear hcut
    have p1 := hS.kP.cell (o := 1) rfl
    have q2 := hS.kQ.cell (o := 2) rfl
    have f2 := hS.kQ.free 2
    rcases hs with hs0 | hs0
    · have hcl : bits BinOp.andNot IntKind.i64 p.castle 3 = clrI 1 (clrI 0 p.castle) := clr_two 0 p.castle hc0 (by omega) (by omega)
      have hC := HC0.out
      rw [hs0] at hC p1
      have HC1 := Lib.hid (show aftC0 p m = bits BinOp.andNot IntKind.i64 p.castle 3 from hC.trans hcl.symm)
      clear hC hcl hs0
      have hsh : ∀ w, Sem.run Tryz.prog (Go.Op.shift BinOp.shl IntKind.i64 3 IntKind.i64 (IntKind.i64.wrap 0)) w = .ok (.int .i64 3) w := fun _ => by kernel_rfl
      go_upto_region 21 with fail
      refine wp_still_tail_drew 8 (by kernel_rfl) (by kernel_rfl) ?_
      rintro _ rfl
      simp only [List.take_succ_cons, List.take_zero, List.drop_succ_cons, List.drop_zero]
      repeat still_step
      refine wpStill_nil ?_
      go_wp2
      go_meet
      rw [HI.out, HAE.out, HC1.out]
      exact hS.drew.castle _
    · have hcl : bits BinOp.andNot IntKind.i64 p.castle 12 = clrI 3 (clrI 2 p.castle) := clr_two 1 p.castle hc0 (by omega) (by omega)
      have hC := HC0.out
      rw [hs0] at hC p1
      have HC1 := Lib.hid (show aftC0 p m = bits BinOp.andNot IntKind.i64 p.castle 12 from hC.trans hcl.symm)
      clear hC hcl hs0
      have hsh : ∀ w, Sem.run Tryz.prog (Go.Op.shift BinOp.shl IntKind.i64 3 IntKind.i64 (IntKind.i64.wrap 2)) w = .ok (.int .i64 12) w := fun _ => by kernel_rfl
      go_upto_region 21 with fail
      refine wp_still_tail_drew 8 (by kernel_rfl) (by kernel_rfl) ?_
      rintro _ rfl
      simp only [List.take_succ_cons, List.take_zero, List.drop_succ_cons, List.drop_zero]
      repeat still_step
      refine wpStill_nil ?_
      go_wp2
      go_meet
      rw [HI.out, HAE.out, HC1.out]
      exact hS.drew.castle _
  case rest =>
  clear hS
  have hS := hcut
  clear hcut
  go_upto_if 153 with fail
  go_cut [] from 152 to 154 (fun wx => MDS w wx b off cap p m Q g cq (aftL p m) (1 - p.turn) (aftC0 p m) (aftEp p m) (aftHalf p m) F)
  case first =>
    have q4 := hS.kQ.cell (o := 4) rfl
    have f4 := hS.kQ.free 4
    have hAH : aftHalf p m = if y ≠ 0 ∨ sizeI x = 1 then 0 else H := by unfold aftHalf; rw [Hx.out, Hy.out, HH.out]
    have HAH := Lib.hid hAH
    clear hAH
    generalize hhv : (if sizeI x = 1 then 0 else H) = hv at *
    have Hhv := Lib.hid hhv
    clear hhv
    cases e0 : (y != 0)
    case true =>
      have hy0 : y ≠ 0 := by simpa using e0
      have Hy0 := Lib.hid hy0
      clear hy0
      go_wp2
      go_meet
      rw [HAH.out, if_pos (.inl Hy0.out)]
      exact hS.half 0
    case false =>
      have hy0 : y = 0 := by simpa using e0
      have Hy0 := Lib.hid hy0
      clear hy0
      go_wp2
      go_meet
      rw [HAH.out]
      have h1 : (if y ≠ 0 ∨ sizeI x = 1 then 0 else H) = hv := by
        rw [← Hhv.out, Hy0.out]; simp
      rw [h1]
      exact hS
  case rest =>
  clear hS
  have hS := hcut
  clear hcut
  go_upto_block 2 with fail
  go_cut [11, 12, 13] from 155 to 179 (fun s11 s12 s13 wx => MDS w wx b off cap p m Q g cq (aftL p m) (1 - p.turn) (aftC p m 4) (aftEp p m) (aftHalf p m) F)
  case first =>
    go_wp2_with fail
    go_loopg [11, 12, 13, 155] 4 (fun gh s11 s12 s13 s155 wx => ∃ n : Nat, n ≤ 4 ∧ gh = 4 - n ∧ s155 = .int .i64 n ∧ MDS w wx b off cap p m Q g cq (aftL p m) (1 - p.turn) (aftC p m n) (aftEp p m) (aftHalf p m) F)
    case atStart => exact ⟨0, by omega, rfl, rfl, hS⟩
    case round =>
    clear hS
    obtain ⟨n, hn, hg, rfl, hS⟩ := hrel
    have Hg := Lib.hid hg
    clear hg
    obtain ⟨ca0, ca1⟩ := aftC_bd m hs hc0 hc1 n hn
    have hcs : n = 0 ∨ n = 1 ∨ n = 2 ∨ n = 3 ∨ n = 4 := by omega
    have m0 := hS.kM.cell (o := 0) rfl
    have m1 := hS.kM.cell (o := 1) rfl
    rcases hcs with rfl | rfl | rfl | rfl | rfl
    · have hnx : aftC p m 1 = if m.fr = 7 ∨ m.tg = 7 then clrI 0 (aftC p m 0) else aftC p m 0 := rfl
      have hcl : bits BinOp.andNot IntKind.i64 (aftC p m 0) 1 = clrI 0 (aftC p m 0) := clr_bits 0 _ ca0 ca1 (by omega)
      have Hnx := Lib.hid hnx
      clear hnx
      generalize aftC p m 0 = ca at *
      have Hcl := Lib.hid hcl
      clear hcl
      have q2 := hS.kQ.cell (o := 2) rfl
      have f2 := hS.kQ.free 2
      cases e1 : ((m.fr : Int) == 7)
      case true =>
        have h1 : m.fr = 7 := by simp at e1; omega
        have H1 := Lib.hid h1
        clear h1
        go_upto_region 29 with (go_at_call 62; refine (rightP_0 _).mono ?_; rintro e w' ⟨rfl, rfl⟩)
        refine wp_still_tail_drew 5 (by kernel_rfl) (by kernel_rfl) ?_
        rintro _ rfl
        simp only [List.take_succ_cons, List.take_zero, List.drop_succ_cons, List.drop_zero]
        repeat still_step
        refine wpStill_nil ?_
        go_wp2
        go_roundg (3)
        case measure => have := Hg.out; omega
        case rel => exact ⟨1, by omega, rfl, by go_num, by rw [Hnx.out, if_pos (.inl H1.out), ← Hcl.out]; exact hS.drew.castle _⟩
      case false =>
      cases e2 : ((m.tg : Int) == 7)
      case true =>
        have h1 : m.tg = 7 := by simp at e2; omega
        have H1 := Lib.hid h1
        clear h1
        go_upto_region 29 with (go_at_call 62; refine (rightP_0 _).mono ?_; rintro e w' ⟨rfl, rfl⟩)
        refine wp_still_tail_drew 5 (by kernel_rfl) (by kernel_rfl) ?_
        rintro _ rfl
        simp only [List.take_succ_cons, List.take_zero, List.drop_succ_cons, List.drop_zero]
        repeat still_step
        refine wpStill_nil ?_
        go_wp2
        go_roundg (3)
        case measure => have := Hg.out; omega
        case rel => exact ⟨1, by omega, rfl, by go_num, by rw [Hnx.out, if_pos (.inr H1.out), ← Hcl.out]; exact hS.drew.castle _⟩
      case false =>
        have h1 : ¬ (m.fr = 7 ∨ m.tg = 7) := by simp at e1 e2; omega
        have H1 := Lib.hid h1
        clear h1
        go_wp2_with (go_at_call 62; refine (rightP_0 _).mono ?_; rintro e w' ⟨rfl, rfl⟩)
        go_roundg (3)
        case measure => have := Hg.out; omega
        case rel => exact ⟨1, by omega, rfl, by go_num, by rw [Hnx.out, if_neg H1.out]; exact hS⟩
    · have hnx : aftC p m 2 = if m.fr = 0 ∨ m.tg = 0 then clrI 1 (aftC p m 1) else aftC p m 1 := rfl
      have hcl : bits BinOp.andNot IntKind.i64 (aftC p m 1) 2 = clrI 1 (aftC p m 1) := clr_bits 1 _ ca0 ca1 (by omega)
      have Hnx := Lib.hid hnx
      clear hnx
      generalize aftC p m 1 = ca at *
      have Hcl := Lib.hid hcl
      clear hcl
      have q2 := hS.kQ.cell (o := 2) rfl
      have f2 := hS.kQ.free 2
      cases e1 : ((m.fr : Int) == 0)
      case true =>
        have h1 : m.fr = 0 := by simp at e1; omega
        have H1 := Lib.hid h1
        clear h1
        go_upto_region 29 with (go_at_call 62; refine (rightP_1 _).mono ?_; rintro e w' ⟨rfl, rfl⟩)
        refine wp_still_tail_drew 5 (by kernel_rfl) (by kernel_rfl) ?_
        rintro _ rfl
        simp only [List.take_succ_cons, List.take_zero, List.drop_succ_cons, List.drop_zero]
        repeat still_step
        refine wpStill_nil ?_
        go_wp2
        go_roundg (2)
        case measure => have := Hg.out; omega
        case rel => exact ⟨2, by omega, rfl, by go_num, by rw [Hnx.out, if_pos (.inl H1.out), ← Hcl.out]; exact hS.drew.castle _⟩
      case false =>
      cases e2 : ((m.tg : Int) == 0)
      case true =>
        have h1 : m.tg = 0 := by simp at e2; omega
        have H1 := Lib.hid h1
        clear h1
        go_upto_region 29 with (go_at_call 62; refine (rightP_1 _).mono ?_; rintro e w' ⟨rfl, rfl⟩)
        refine wp_still_tail_drew 5 (by kernel_rfl) (by kernel_rfl) ?_
        rintro _ rfl
        simp only [List.take_succ_cons, List.take_zero, List.drop_succ_cons, List.drop_zero]
        repeat still_step
        refine wpStill_nil ?_
        go_wp2
        go_roundg (2)
        case measure => have := Hg.out; omega
        case rel => exact ⟨2, by omega, rfl, by go_num, by rw [Hnx.out, if_pos (.inr H1.out), ← Hcl.out]; exact hS.drew.castle _⟩
      case false =>
        have h1 : ¬ (m.fr = 0 ∨ m.tg = 0) := by simp at e1 e2; omega
        have H1 := Lib.hid h1
        clear h1
        go_wp2_with (go_at_call 62; refine (rightP_1 _).mono ?_; rintro e w' ⟨rfl, rfl⟩)
        go_roundg (2)
        case measure => have := Hg.out; omega
        case rel => exact ⟨2, by omega, rfl, by go_num, by rw [Hnx.out, if_neg H1.out]; exact hS⟩
    · have hnx : aftC p m 3 = if m.fr = 63 ∨ m.tg = 63 then clrI 2 (aftC p m 2) else aftC p m 2 := rfl
      have hcl : bits BinOp.andNot IntKind.i64 (aftC p m 2) 4 = clrI 2 (aftC p m 2) := clr_bits 2 _ ca0 ca1 (by omega)
      have Hnx := Lib.hid hnx
      clear hnx
      generalize aftC p m 2 = ca at *
      have Hcl := Lib.hid hcl
      clear hcl
      have q2 := hS.kQ.cell (o := 2) rfl
      have f2 := hS.kQ.free 2
      cases e1 : ((m.fr : Int) == 63)
      case true =>
        have h1 : m.fr = 63 := by simp at e1; omega
        have H1 := Lib.hid h1
        clear h1
        go_upto_region 29 with (go_at_call 62; refine (rightP_2 _).mono ?_; rintro e w' ⟨rfl, rfl⟩)
        refine wp_still_tail_drew 5 (by kernel_rfl) (by kernel_rfl) ?_
        rintro _ rfl
        simp only [List.take_succ_cons, List.take_zero, List.drop_succ_cons, List.drop_zero]
        repeat still_step
        refine wpStill_nil ?_
        go_wp2
        go_roundg (1)
        case measure => have := Hg.out; omega
        case rel => exact ⟨3, by omega, rfl, by go_num, by rw [Hnx.out, if_pos (.inl H1.out), ← Hcl.out]; exact hS.drew.castle _⟩
      case false =>
      cases e2 : ((m.tg : Int) == 63)
      case true =>
        have h1 : m.tg = 63 := by simp at e2; omega
        have H1 := Lib.hid h1
        clear h1
        go_upto_region 29 with (go_at_call 62; refine (rightP_2 _).mono ?_; rintro e w' ⟨rfl, rfl⟩)
        refine wp_still_tail_drew 5 (by kernel_rfl) (by kernel_rfl) ?_
        rintro _ rfl
        simp only [List.take_succ_cons, List.take_zero, List.drop_succ_cons, List.drop_zero]
        repeat still_step
        refine wpStill_nil ?_
        go_wp2
        go_roundg (1)
        case measure => have := Hg.out; omega
        case rel => exact ⟨3, by omega, rfl, by go_num, by rw [Hnx.out, if_pos (.inr H1.out), ← Hcl.out]; exact hS.drew.castle _⟩
      case false =>
        have h1 : ¬ (m.fr = 63 ∨ m.tg = 63) := by simp at e1 e2; omega
        have H1 := Lib.hid h1
        clear h1
        go_wp2_with (go_at_call 62; refine (rightP_2 _).mono ?_; rintro e w' ⟨rfl, rfl⟩)
        go_roundg (1)
        case measure => have := Hg.out; omega
        case rel => exact ⟨3, by omega, rfl, by go_num, by rw [Hnx.out, if_neg H1.out]; exact hS⟩
    · have hnx : aftC p m 4 = if m.fr = 56 ∨ m.tg = 56 then clrI 3 (aftC p m 3) else aftC p m 3 := rfl
      have hcl : bits BinOp.andNot IntKind.i64 (aftC p m 3) 8 = clrI 3 (aftC p m 3) := clr_bits 3 _ ca0 ca1 (by omega)
      have Hnx := Lib.hid hnx
      clear hnx
      generalize aftC p m 3 = ca at *
      have Hcl := Lib.hid hcl
      clear hcl
      have q2 := hS.kQ.cell (o := 2) rfl
      have f2 := hS.kQ.free 2
      cases e1 : ((m.fr : Int) == 56)
      case true =>
        have h1 : m.fr = 56 := by simp at e1; omega
        have H1 := Lib.hid h1
        clear h1
        go_upto_region 29 with (go_at_call 62; refine (rightP_3 _).mono ?_; rintro e w' ⟨rfl, rfl⟩)
        refine wp_still_tail_drew 5 (by kernel_rfl) (by kernel_rfl) ?_
        rintro _ rfl
        simp only [List.take_succ_cons, List.take_zero, List.drop_succ_cons, List.drop_zero]
        repeat still_step
        refine wpStill_nil ?_
        go_wp2
        go_roundg (0)
        case measure => have := Hg.out; omega
        case rel => exact ⟨4, by omega, rfl, by go_num, by rw [Hnx.out, if_pos (.inl H1.out), ← Hcl.out]; exact hS.drew.castle _⟩
      case false =>
      cases e2 : ((m.tg : Int) == 56)
      case true =>
        have h1 : m.tg = 56 := by simp at e2; omega
        have H1 := Lib.hid h1
        clear h1
        go_upto_region 29 with (go_at_call 62; refine (rightP_3 _).mono ?_; rintro e w' ⟨rfl, rfl⟩)
        refine wp_still_tail_drew 5 (by kernel_rfl) (by kernel_rfl) ?_
        rintro _ rfl
        simp only [List.take_succ_cons, List.take_zero, List.drop_succ_cons, List.drop_zero]
        repeat still_step
        refine wpStill_nil ?_
        go_wp2
        go_roundg (0)
        case measure => have := Hg.out; omega
        case rel => exact ⟨4, by omega, rfl, by go_num, by rw [Hnx.out, if_pos (.inr H1.out), ← Hcl.out]; exact hS.drew.castle _⟩
      case false =>
        have h1 : ¬ (m.fr = 56 ∨ m.tg = 56) := by simp at e1 e2; omega
        have H1 := Lib.hid h1
        clear h1
        go_wp2_with (go_at_call 62; refine (rightP_3 _).mono ?_; rintro e w' ⟨rfl, rfl⟩)
        go_roundg (0)
        case measure => have := Hg.out; omega
        case rel => exact ⟨4, by omega, rfl, by go_num, by rw [Hnx.out, if_neg H1.out]; exact hS⟩
    · go_wp2
      go_meet
      exact hS
  case rest =>
  clear hS
  have hS := hcut
  clear hcut
  go_upto_region 31 with fail
  go_cut [] from 180 to 180 (fun wx => Blk wx (w.heap.size + 2) #[.slice (some ⟨g, 0, none⟩) 64 cq, .int .i64 (1 - p.turn), .int .i64 (aftC p m 4), .int .i64 (aftEp p m), .int .i64 (aftHalf p m), .int .i64 F] ∧ OwnB wx g (aftL p m) ∧ Below w.heap.size w wx)
  case first =>
    have q0 := hS.kQ.cell (o := 0) rfl
    have q1 := hS.kQ.cell (o := 1) rfl
    have q2 := hS.kQ.cell (o := 2) rfl
    have q3 := hS.kQ.cell (o := 3) rfl
    have q4 := hS.kQ.cell (o := 4) rfl
    have q5 := hS.kQ.cell (o := 5) rfl
    have r0 := hS.kR.cell (o := 0) rfl
    have fr0 := hS.kR.free 0
    have r1 := hS.kR.cell (o := 1) rfl
    have fr1 := hS.kR.free 1
    have r2 := hS.kR.cell (o := 2) rfl
    have fr2 := hS.kR.free 2
    have r3 := hS.kR.cell (o := 3) rfl
    have fr3 := hS.kR.free 3
    have r4 := hS.kR.cell (o := 4) rfl
    have fr4 := hS.kR.free 4
    have r5 := hS.kR.cell (o := 5) rfl
    have fr5 := hS.kR.free 5
    go_wp2
    go_meet
    have hg3 := hS.g3
    refine ⟨(((((hS.kR.set 0 _).set 1 _).set 2 _).set 3 _).set 4 _).set 5 _, ?_, ?_⟩
    · iterate 6 refine OwnB.other ?_ (by omega) _ _
      exact hS.kB
    · iterate 6 refine Below.setCell ?_ (by dsimp only; omega) _
      exact hS.below
  case rest =>
  have hg3 := hS.g3
  obtain ⟨hR2, hB2, hb2⟩ := hcut
  go_wp2
  exact bodyPost_ret (ret_chess rfl rfl hR2) rfl ⟨g, cq, by rw [← HF.out]; rfl, hB2, by omega, hb2⟩

end Go.Proofs.YthffhhbbhjcdeaaGreatDoor
