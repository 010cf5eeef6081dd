/- WALKS: the reference's MoveAt, PlaceName, WordEnd. WALKS: the reference's PlaceName, WordEnd; MoveAt of a nil slice. -/
import Derived.Test.YthffhhbbhjcdeaaGreatDoorA9
import Derived.Laws.StructEq
set_option linter.unusedVariables false
set_option linter.unusedSimpArgs false
namespace Go.Proofs.YthffhhbbhjcdeaaGreatDoor
open Go.RowKit
set_option maxRecDepth 100000

/-- A row of moves in memory. -/
structure MvRow (w : World) (b off : Nat) (l : List Mv) : Prop where
  lt : b < w.heap.size
  cell : ∀ j, j < l.length * 3 → w.cell? ⟨b, off + j, none⟩ = (mvCells l)[j]?

theorem MvRow.below {w w' : World} {b off B : Nat} {l : List Mv} (h : MvRow w b off l) (hb : Below B w w') (hB : b < B) : MvRow w' b off l :=
  ⟨Nat.lt_of_lt_of_le h.lt hb.size, fun j hj => (hb.cell (p := ⟨b, off + j, none⟩) hB).trans (h.cell j hj)⟩
def mvAt (l : List Mv) (i : Nat) : Mv := l[i]?.getD ⟨0, 0, 0⟩
theorem mvCells_get (l : List Mv) (i : Nat) (hi : i < l.length) : (mvCells l)[3 * i]? = some (.int .i64 (mvAt l i).fr) ∧ (mvCells l)[3 * i + 1]? = some (.int .i64 (mvAt l i).tg) ∧ (mvCells l)[3 * i + 2]? = some (.int .i64 (mvAt l i).into) := by
  induction l generalizing i with
  | nil => simp at hi
  | cons m l ih =>
    cases i with
    | zero => simp [mvCells, mvAt]
    | succ i =>
      have := ih i (by simpa using hi)
      have e : mvAt (m :: l) (i + 1) = mvAt l i := by simp [mvAt]
      rw [e]
      simpa [mvCells, Nat.mul_add] using this
theorem MvRow.get {w : World} {b off : Nat} {l : List Mv} (h : MvRow w b off l) (i : Nat) (hi : i < l.length) :
    w.cell? ⟨b, off + i * 3, none⟩ = some (.int .i64 (mvAt l i).fr) ∧ w.cell? ⟨b, off + i * 3 + 1, none⟩ = some (.int .i64 (mvAt l i).tg) ∧ w.cell? ⟨b, off + i * 3 + 2, none⟩ = some (.int .i64 (mvAt l i).into) := by
  obtain ⟨h0, h1, h2⟩ := mvCells_get l i hi
  rw [Nat.mul_comm] at h0 h1 h2
  exact ⟨(h.cell _ (by omega)).trans h0, (h.cell _ (by omega)).trans h1, (h.cell _ (by omega)).trans h2⟩

theorem run_eqMove (a b c x y z : Int) (w : World) : (Go.binOp .eql 26 (.agg #[.int .i64 a, .int .i64 b, .int .i64 c]) (.agg #[.int .i64 x, .int .i64 y, .int .i64 z])).run Tryz.prog w = .ok (.bool ((a == x) && (b == y) && (c == z))) w := by
  have u3 := Tryz.underlying3
  have a3 := Tryz.isAgg3
  have z3 := Tryz.sizeOf3
  have hS : Tryz.prog.underlying 26 = some (.struct (Tryz.prog.fieldsOf 26)) := by kernel_rfl
  have hp : Tryz.prog.stoodInHeld 26 = false := by kernel_rfl
  rw [run_eql_struct, show (10000 : Nat) = 9999 + 1 from rfl, run_equalIn_agg w 9999 26 _ _ hS hp]
  simp only [Program.fieldsOf, Tryz.underlying26]
  go_simp
  by_cases h1 : a = x <;> by_cases h2 : b = y <;> by_cases h3 : c = z <;> simp [h1, h2, h3]

def mvIs (m : Mv) (x y z : Int) : Bool := ((m.fr : Int) == x) && ((m.tg : Int) == y) && (m.into == z)
/-- The place of a move in a list; -1: it is not there. -/
def mvIdx (l : List Mv) (x y z : Int) : Int := match l.findIdx? (fun m => mvIs m x y z) with | some i => (i : Int) | none => -1
theorem mvIdx_at {l : List Mv} {x y z : Int} {k : Nat} (hk : k < l.length) (h : mvIs (mvAt l k) x y z = true) (hz : ∀ i, i < k → mvIs (mvAt l i) x y z = false) : mvIdx l x y z = k := by
  have e : l.findIdx? (fun m => mvIs m x y z) = some k := by
    rw [List.findIdx?_eq_some_iff_getElem]
    refine ⟨hk, ?_, fun j hj => ?_⟩
    · simpa [mvAt, hk] using h
    · have := hz j hj
      have hjl : j < l.length := by omega
      simpa [mvAt, hjl] using this
  rw [mvIdx, e]
theorem mvIdx_none {l : List Mv} {x y z : Int} (hz : ∀ i, i < l.length → mvIs (mvAt l i) x y z = false) : mvIdx l x y z = -1 := by
  have e : l.findIdx? (fun m => mvIs m x y z) = none := by
    rw [List.findIdx?_eq_none_iff]
    intro m hm
    obtain ⟨i, hi, rfl⟩ := List.getElem_of_mem hm
    have := hz i hi
    simpa [mvAt, hi] using this
  rw [mvIdx, e]

set_option maxHeartbeats 1000000 in
theorem moveAt_any (b off cap : Nat) (l : List Mv) (x y z : Int) (w : World) (hr : MvRow w b off l) (hl : l.length ≤ 100000) :
    Calls Tryz.prog 10 #[.slice (some ⟨b, off, none⟩) l.length cap, .agg #[.int .i64 x, .int .i64 y, .int .i64 z]] w (RetB (.int .i64 (mvIdx l x y z)) w) := by
  have hlt := hr.lt
  have hq := run_eqMove
  go_enter Tryz.func10, Tryz.ntmps10
  go_wp2_with fail
  go_loopg [5] l.length (fun g s5 wx => ∃ k : Nat, k ≤ l.length ∧ g = l.length - k ∧ s5 = .int .i64 k ∧ Blk wx w.heap.size #[.int .i64 x, .int .i64 y, .int .i64 z] ∧ Below w.heap.size w wx ∧ ∀ i, i < k → mvIs (mvAt l i) x y z = false)
  case atStart => exact ⟨0, by omega, rfl, rfl, Blk.new _ _ _, (Below.refl _ _).alloc (Nat.le_refl _) _, fun i hi => absurd hi (by omega)⟩
  case round =>
    obtain ⟨k, hk, hg, rfl, hM, hbel, hz⟩ := hrel
    have Hg := Lib.hid hg
    have Hz := Lib.hid hz
    clear hg hz
    by_cases hkl : k = l.length
    · have Hkl := Lib.hid hkl
      have hge : ¬ k < l.length := by omega
      clear hkl
      go_wp2
      go_ret
      exact ⟨by rw [mvIdx_none (fun i hi => Hz.out i (by have := Hkl.out; omega))]; rfl, hbel⟩
    have hklt : k < l.length := by omega
    clear hkl hk
    obtain ⟨g0, g1, g2⟩ := (hr.below hbel hlt).get k hklt
    have m0 := hM.cell (o := 0) rfl
    have m1 := hM.cell (o := 1) rfl
    have m2 := hM.cell (o := 2) rfl
    have hki : (k : Int) < l.length := by omega
    cases hv : mvIs (mvAt l k) x y z
    all_goals
      have HV := Lib.hid hv
      unfold mvIs at hv
      go_wp2_with fail
      go_quiet (fail)
      go_wp2
    · go_roundg (l.length - (k + 1))
      case measure => have := Hg.out; omega
      case rel =>
        refine ⟨k + 1, by omega, rfl, by go_num, hM.drewN _, below_drewN hbel _, fun i hi => ?_⟩
        by_cases hik : i = k
        · rw [hik]; exact HV.out
        · exact Hz.out i (by omega)
    · go_ret
      exact ⟨by rw [mvIdx_at hklt HV.out Hz.out]; rfl, below_drewN hbel _⟩

end Go.Proofs.YthffhhbbhjcdeaaGreatDoor
namespace Go.Proofs.YthffhhbbhjcdeaaGreatDoor
open Go.RowKit
set_option maxRecDepth 100000

/-- A slice of moves as a value. -/
def MvSl (w : World) (v : Value) (l : List Mv) : Prop := (v = .slice none 0 0 ∧ l = []) ∨ ∃ b off cap, v = .slice (some ⟨b, off, none⟩) l.length cap ∧ MvRow w b off l
theorem MvSl.of_row {w : World} {base : Nat} {v : Value} {l : List Mv} (h : w.ownsRow base 26 3 v l.length (mvCells l)) : MvSl w v l := by
  obtain ⟨h1, h2⟩ := h
  rcases h2 with ⟨rfl, h0⟩ | ⟨g, cap, cur, rfl, hg, hh, hn, hcap, hsz, ht⟩
  · exact .inl ⟨rfl, List.eq_nil_of_length_eq_zero h0⟩
  · refine .inr ⟨g, 0, cap, rfl, (Array.getElem?_eq_some_iff.1 hh).1, fun j hj => ?_⟩
    rw [← ht, List.getElem?_take_of_lt hj]
    simp [World.cell?, hh]
theorem MvSl.below {w w' : World} {v : Value} {l : List Mv} (h : MvSl w v l) (hb : Below w.heap.size w w') : MvSl w' v l := by
  rcases h with h | ⟨b, off, cap, hv, hr⟩
  · exact .inl h
  · exact .inr ⟨b, off, cap, hv, hr.below hb hr.lt⟩

set_option maxHeartbeats 1000000 in
theorem moveAt_nil (x y z : Int) (w : World) : Calls Tryz.prog 10 #[.slice none 0 0, .agg #[.int .i64 x, .int .i64 y, .int .i64 z]] w (RetB (.int .i64 (-1)) w) := by
  go_enter Tryz.func10, Tryz.ntmps10
  go_wp2_with fail
  refine wp_loop_rounds 1 ?_
  rw [rounds_succ]
  go_wp2
  go_ret
  exact ⟨rfl, (Below.refl _ _).alloc (Nat.le_refl _) _⟩

theorem moveAt_sl (v : Value) (l : List Mv) (x y z : Int) (w : World) (hr : MvSl w v l) (hl : l.length ≤ 100000) : Calls Tryz.prog 10 #[v, .agg #[.int .i64 x, .int .i64 y, .int .i64 z]] w (RetB (.int .i64 (mvIdx l x y z)) w) := by
  rcases hr with ⟨rfl, rfl⟩ | ⟨b, off, cap, rfl, hr⟩
  · exact moveAt_nil x y z w
  · exact moveAt_any b off cap l x y z w hr hl

def nameL (n : Nat) : List UInt8 := [UInt8.ofNat (97 + n % 8), UInt8.ofNat (49 + n / 8)]
def strV (l : List UInt8) : Value := .string ⟨l.toArray⟩

theorem run_two (x y : Int) (w : World) : (convert 82 9 (.slice (some ⟨w.heap.size, 0, none⟩) 2 2)).run Tryz.prog (w.alloc (.cells #[.int .u8 x, .int .u8 y] 5)) =
    .ok (.string ⟨[UInt8.ofNat x.toNat, UInt8.ofNat y.toNat].toArray⟩) (w.alloc (.cells #[.int .u8 x, .int .u8 y] 5)) := by
  rw [run_convert_bytes_string _ 82 9 5 _ _ _ Tryz.underlying82 Tryz.underlying5 Tryz.underlying9, run_bytesToString _ _ _ _ [x, y]]
  · rfl
  · go_simp

theorem nameL_of (n : Nat) : [UInt8.ofNat (97 + (n : Int) % 8).toNat, UInt8.ofNat (49 + (n : Int) / 8).toNat] = nameL n := by
  rw [show (97 + (n : Int) % 8).toNat = 97 + n % 8 by omega, show (49 + (n : Int) / 8).toNat = 49 + n / 8 by omega]; rfl

set_option maxHeartbeats 1000000 in
theorem placeName_any (n : Nat) (hn : n < 64) (w : World) : Calls Tryz.prog 33 #[.int .i64 n] w (RetB (strV (nameL n)) w) := by
  have hr := run_two
  go_enter Tryz.func33, Tryz.ntmps33
  go_wp2
  go_ret
  exact ⟨by rw [← nameL_of]; rfl, (Below.refl _ _).alloc (Nat.le_refl _) _⟩

/-- A position that lies in memory: the board in a block. -/
def endL (p : Pos) (m : Mv) : List UInt8 := if inCheckB (doneL p m) (1 - p.turn) then (if (movesR (doneR p m)).length = 0 then [35] else [43]) else []

set_option maxHeartbeats 2000000 in
theorem wordEnd_any (b off cap : Nat) (p : Pos) (m : Mv) (w : World) (hbr : Brd w b off p.L) (hp : PosOk p) (hf : m.fr < 64) (ht : m.tg < 64) (hi0 : 0 ≤ m.into) (hi5 : m.into ≤ 5)
    (hp2 : PosOk (doneR p m)) (hk2 : HasKing (doneL p m) (1 - p.turn)) (hking : ∀ fr tg, fr < 64 → tg < 64 → okGo (doneR p m) fr tg = true → HasKing (doneL (doneR p m) ⟨fr, tg, 0⟩) (doneR p m).turn) :
    Calls Tryz.prog 13 #[chessV b off cap p, mvV m] w (RetB (strV (endL p m)) w) := by
  have hlt := hbr.lt
  unfold chessV mvV
  go_enter Tryz.func13, Tryz.ntmps13
  go_upto_region 1 with fail
  generalize hW0 : World.alloc _ _ = W0
  have hP : Blk W0 w.heap.size #[.slice (some ⟨b, off, none⟩) 64 cap, .int .i64 p.turn, .int .i64 p.castle, .int .i64 p.ep, .int .i64 p.half, .int .i64 p.full] := by rw [← hW0]; exact (Blk.new w _ _).alloc _
  have hM : Blk W0 (w.heap.size + 1) #[.int .i64 m.fr, .int .i64 m.tg, .int .i64 m.into] := by rw [← hW0]; exact Blk.new' (by simp) _ _
  have hb : Below w.heap.size w W0 := by rw [← hW0]; exact ((Below.refl _ _).alloc (Nat.le_refl _) _).alloc (by simp) _
  clear hW0
  go_cut [5] from 6 to 6 (fun s5 wx => ∃ Q g cq, s5 = .pointer (some ⟨Q, 0, none⟩) ∧ Blk wx Q #[.slice (some ⟨g, 0, none⟩) 64 cq, .int .i64 (1 - p.turn), .int .i64 (castleA p m 4), .int .i64 (epR p m), .int .i64 (halfR p m), .int .i64 (fullR p m)] ∧ Brd wx g 0 (doneL p m) ∧ Below w.heap.size w wx)
  case first =>
    have p0 := hP.cell (o := 0) rfl
    have p1 := hP.cell (o := 1) rfl
    have p2 := hP.cell (o := 2) rfl
    have p3 := hP.cell (o := 3) rfl
    have p4 := hP.cell (o := 4) rfl
    have p5 := hP.cell (o := 5) rfl
    have m0 := hM.cell (o := 0) rfl
    have m1 := hM.cell (o := 1) rfl
    have m2 := hM.cell (o := 2) rfl
    go_wp2_with fail
    refine (moveDone_any b off cap p m _ (hbr.below hb hlt) hp.turn hp.c0 hp.c1 hp.h0 hp.h1 hp.f0 hp.f1 hp.ep hf ht hi0 hi5).mono ?_
    rintro e w1 ⟨g, cq, rfl, hB, hg, hb1⟩
    unfold chessV
    clear p0 p1 p2 p3 p4 p5 m0 m1 m2
    go_wp2
    go_meet
    exact ⟨w1.heap.size, g, cq, rfl, Blk.new _ _ _, (hB.brd hp2.bd).alloc _, (hb.trans (hb1.mono hb.size)).alloc (Nat.le_trans hb.size hb1.size) _⟩
  case rest =>
  obtain ⟨Q, g, cq, rfl, hQ, hB, hb1⟩ := hcut
  have q0 := hQ.cell (o := 0) rfl
  have q1 := hQ.cell (o := 1) rfl
  have hct : (1 - p.turn) = 0 ∨ (1 - p.turn) = 1 := by have := hp.turn; omega
  have Hct := Lib.hid hct
  have Hpt := Lib.hid hp.turn
  clear hct
  cases hch : inCheckB (doneL p m) (1 - p.turn)
  case false =>
    go_wp2_with (go_at_call 27; refine (inCheck_any g 0 cq (doneL p m) (1 - p.turn) _ Hct.out hB hk2).mono ?_; rintro e w2 ⟨rfl, hb2⟩)
    go_ret
    exact ⟨by rw [endL, hch]; rfl, hb1.trans (hb2.mono hb1.size)⟩
  case true =>
    generalize hn : (movesR (doneR p m)).length = n
    have Hn := Lib.hid hn
    clear hn
    cases hz : ((n : Int) == 0)
    all_goals
      go_wp2_with (first
        | (go_at_call 27; refine (inCheck_any g 0 cq (doneL p m) (1 - p.turn) _ Hct.out hB hk2).mono ?_; rintro e w2 ⟨rfl, hb2⟩; have hQ2 := hQ.below hb2 hQ.lt; have r0 := hQ2.cell (o := 0) rfl; have r1 := hQ2.cell (o := 1) rfl; have r2 := hQ2.cell (o := 2) rfl; have r3 := hQ2.cell (o := 3) rfl; have r4 := hQ2.cell (o := 4) rfl; have r5 := hQ2.cell (o := 5) rfl)
        | (go_at_call 11; refine (movesAll_any g 0 cq (doneR p m) _ (hB.below hb2 hB.lt) hp2 hking).mono ?_; rintro e w3 ⟨v, rfl, hown, hb3⟩; obtain ⟨a, cp, rfl⟩ := ownsRow_slice hown; rw [Hn.out]))
      go_ret
    · exact ⟨by simp at hz; rw [endL, hch, if_pos rfl, if_neg (by rw [Hn.out]; omega)]; rfl, (hb1.trans (hb2.mono hb1.size)).trans (hb3.mono (Nat.le_trans hb1.size hb2.size))⟩
    · exact ⟨by simp at hz; rw [endL, hch, if_pos rfl, if_pos (by rw [Hn.out]; omega)]; rfl, (hb1.trans (hb2.mono hb1.size)).trans (hb3.mono (Nat.le_trans hb1.size hb2.size))⟩

end Go.Proofs.YthffhhbbhjcdeaaGreatDoor
