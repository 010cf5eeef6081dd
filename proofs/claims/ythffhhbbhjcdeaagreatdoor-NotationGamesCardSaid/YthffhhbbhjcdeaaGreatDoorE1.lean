/- WALKS: IndexRune at the program's six-byte strings. -/
import Derived.Test.YthffhhbbhjcdeaaGreatDoorA13
import Derived.Test.YthffhhbbhjcdeaaGreatDoorShelf
import Derived.Deep.RegionHeld3
import Derived.Deep.CutBlock
import Derived.Shelf.RegionOpen
import Derived.LoopN
import Derived.Laws.Runes
import Derived.WalkMore
import Derived.ScopeJumps
set_option linter.unusedVariables false
set_option linter.unusedSimpArgs false
namespace Go.Proofs.YthffhhbbhjcdeaaGreatDoor
open Go.RowKit
set_option maxRecDepth 100000

def exitFwd (P : Program) (l : Nat) (rest : Code) (Q : Exit → Act → World → Prop) : Exit → Act → World → Prop
  | .goto l', a, w => l' = l ∧ rest.wp P (Exit.noGoto Q) a w
  | e, a, w => Q e a w
section
variable {P : Program} {l : Nat} {rest : Code} {Q : Exit → Act → World → Prop} {a : Act} {w : World}
@[go_sem] theorem fwd_normal : exitFwd P l rest Q .normal a w = Q .normal a w := rfl
@[go_sem] theorem fwd_exit (id : Nat) : exitFwd P l rest Q (.exit id) a w = Q (.exit id) a w := rfl
@[go_sem] theorem fwd_ret : exitFwd P l rest Q .ret a w = Q .ret a w := rfl
@[go_sem] theorem fwd_panic (ch : List PanicEntry) : exitFwd P l rest Q (.panic ch) a w = Q (.panic ch) a w := rfl
theorem fwd_goto (h : rest.wp P (Exit.noGoto Q) a w) : exitFwd P l rest Q (.goto l) a w := ⟨rfl, h⟩
theorem wp_scope_fwd {c : Code} (l : Nat) (hf : findLabel c l = some rest) (h : c.wp P (exitFwd P l rest Q) a w) : (Code.scope c).wp P Q a w := by
  refine wp_scope_jumps l (fun a w => rest.wp P (Exit.noGoto Q) a w) (fun _ _ => 0) hf (Code.wp_mono ?_ h) ?_
  · intro e a w he
    cases e <;> exact he
  · intro a w hr
    refine Code.wp_mono ?_ hr
    intro e a w he
    cases e <;> first | exact he | exact he.elim
end

section
variable {a b r0 r1 r2 r3 : UInt8}
@[go_sem] theorem sx0 (h) : (ByteArray.mk #[226, 153, a, 226, 153, b])[0]'h = 226 := rfl
@[go_sem] theorem sx1 (h) : (ByteArray.mk #[226, 153, a, 226, 153, b])[1]'h = 153 := rfl
@[go_sem] theorem sx2 (h) : (ByteArray.mk #[226, 153, a, 226, 153, b])[2]'h = a := rfl
@[go_sem] theorem sx3 (h) : (ByteArray.mk #[226, 153, a, 226, 153, b])[3]'h = 226 := rfl
@[go_sem] theorem sx4 (h) : (ByteArray.mk #[226, 153, a, 226, 153, b])[4]'h = 153 := rfl
@[go_sem] theorem sx5 (h) : (ByteArray.mk #[226, 153, a, 226, 153, b])[5]'h = b := rfl
@[go_sem] theorem st0 (h) : (ByteArray.mk #[r0, r1])[0]'h = r0 := rfl
@[go_sem] theorem st1 (h) : (ByteArray.mk #[r0, r1])[1]'h = r1 := rfl
@[go_sem] theorem sr0 (h) : (ByteArray.mk #[r0, r1, r2])[0]'h = r0 := rfl
@[go_sem] theorem sr1 (h) : (ByteArray.mk #[r0, r1, r2])[1]'h = r1 := rfl
@[go_sem] theorem sr2 (h) : (ByteArray.mk #[r0, r1, r2])[2]'h = r2 := rfl
@[go_sem] theorem su0 (h) : (ByteArray.mk #[r0, r1, r2, r3])[0]'h = r0 := rfl
@[go_sem] theorem su1 (h) : (ByteArray.mk #[r0, r1, r2, r3])[1]'h = r1 := rfl
@[go_sem] theorem su2 (h) : (ByteArray.mk #[r0, r1, r2, r3])[2]'h = r2 := rfl
@[go_sem] theorem su3 (h) : (ByteArray.mk #[r0, r1, r2, r3])[3]'h = r3 := rfl
end

theorem ne_int {x y : UInt8} (h : x ≠ y) : (x.toNat : Int) ≠ y.toNat := fun e => h (UInt8.toNat_inj.1 (by omega))

set_option maxHeartbeats 4000000 in
theorem ir3a (x : Int) (w : World) (a b : UInt8) (hv : Lib.validRune x = true) (h0 : 128 ≤ x) (hx : x ≠ 65533) (hE : Utf8.encode x = ⟨#[226, 153, a]⟩)  :
    Calls Tryz.prog 91 #[.string ⟨#[226, 153, a, 226, 153, b]⟩, .int .i32 x] w (RetB (.int .i64 (0)) w) := by
  have hc : ∀ w1, (convert 21 9 (.int .i32 x)).run Tryz.prog w1 = .ok (.string ⟨#[226, 153, a]⟩) w1 := fun w1 => by rw [run_convert_int_string w1 21 9 .i32 x (by kernel_rfl) (by kernel_rfl), hE]
  clear hE
  go_enter Tryz.func91, Tryz.ntmps91
  go_wp2_with (go_at_call 114; refine (Tryz.utf8_ValidRune _ _).mono ?_; rintro e w1 ⟨rfl, rfl⟩; rw [hv])
  go_step3
  go_wp2
  refine wp_loop_rounds 6 ?_
  rw [rounds_succ]
  go_wp2
  refine wp_scope_fwd 0 rfl ?_
  go_wp2
  go_quiet (fail)
  go_wp2
  refine wp_loop_rounds 6 ?_
  rw [rounds_succ]
  go_wp2
  go_quiet (fail)
  go_wp2
  rw [rounds_succ]
  go_wp2
  go_quiet (fail)
  go_wp2
  rw [rounds_succ]
  go_wp2
  show bodyPost Tryz.prog Tryz.f91 _ Exit.ret _ _
  go_ret
  first | exact ⟨rfl, below_drewN (Below.refl _ _) _⟩ | exact ⟨rfl, Below.refl _ _⟩

set_option maxHeartbeats 4000000 in
theorem ir3a0 (x : Int) (w : World) (a b r0 : UInt8) (hv : Lib.validRune x = true) (h0 : 128 ≤ x) (hx : x ≠ 65533) (hE : Utf8.encode x = ⟨#[r0, 153, a]⟩) (h0 : (153 : UInt8) ≠ a) (h1 : (226 : UInt8) ≠ a) (h2 : (b : UInt8) ≠ a) (h3 : (226 : UInt8) ≠ r0) :
    Calls Tryz.prog 91 #[.string ⟨#[226, 153, a, 226, 153, b]⟩, .int .i32 x] w (RetB (.int .i64 (-1)) w) := by
  have q4 : Lib.indexByte ((ByteArray.mk #[226, 153, a, 226, 153, b]).extract 4 6).data.toList ((a.toNat : Int)).toNat.toUInt8 = -1 := by
    show Lib.indexByte [153, b] _ = _
    simp [Lib.indexByte, h0, h1, h2, h3]
  have i0 : (153 : Int) ≠ (a.toNat : Int) := ne_int h0
  have i1 : (226 : Int) ≠ (a.toNat : Int) := ne_int h1
  have i2 : (b.toNat : Int) ≠ (a.toNat : Int) := ne_int h2
  have i3 : (226 : Int) ≠ (r0.toNat : Int) := ne_int h3
  have hc : ∀ w1, (convert 21 9 (.int .i32 x)).run Tryz.prog w1 = .ok (.string ⟨#[r0, 153, a]⟩) w1 := fun w1 => by rw [run_convert_int_string w1 21 9 .i32 x (by kernel_rfl) (by kernel_rfl), hE]
  clear hE
  go_enter Tryz.func91, Tryz.ntmps91
  go_wp2_with (go_at_call 114; refine (Tryz.utf8_ValidRune _ _).mono ?_; rintro e w1 ⟨rfl, rfl⟩; rw [hv])
  go_step3
  go_wp2
  refine wp_loop_rounds 6 ?_
  rw [rounds_succ]
  go_wp2
  refine wp_scope_fwd 0 rfl ?_
  go_wp2
  go_quiet (fail)
  go_wp2
  refine wp_loop_rounds 6 ?_
  rw [rounds_succ]
  go_wp2
  go_quiet (fail)
  go_wp2
  rw [rounds_succ]
  go_wp2
  go_quiet (fail)
  go_wp2
  go_step3
  refine fwd_goto ?_
  go_wp2
  change Code.rounds Tryz.prog _ _ _ _ _
  rw [rounds_succ]
  go_wp2
  refine wp_scope_fwd 0 rfl ?_
  go_wp2
  go_quiet (fail)
  go_wp2
  go_quiet ((go_at_call 113; refine (Tryz.strings_IndexByte _ _ _).mono ?_; rintro e w' ⟨rfl, rfl⟩; exact ⟨congrArg (fun z => Ending.returned (Value.int IntKind.i64 z)) q4, _, rfl⟩))
  go_wp2
  show bodyPost Tryz.prog Tryz.f91 _ Exit.ret _ _
  go_ret
  first | exact ⟨rfl, below_drewN (Below.refl _ _) _⟩ | exact ⟨rfl, Below.refl _ _⟩

set_option maxHeartbeats 4000000 in
theorem ir3a1 (x : Int) (w : World) (a b r0 r1 : UInt8) (hv : Lib.validRune x = true) (h0 : 128 ≤ x) (hx : x ≠ 65533) (hE : Utf8.encode x = ⟨#[r0, r1, a]⟩) (h0 : (153 : UInt8) ≠ a) (h1 : (226 : UInt8) ≠ a) (h2 : (b : UInt8) ≠ a) (h3 : (153 : UInt8) ≠ r1) :
    Calls Tryz.prog 91 #[.string ⟨#[226, 153, a, 226, 153, b]⟩, .int .i32 x] w (RetB (.int .i64 (-1)) w) := by
  have q4 : Lib.indexByte ((ByteArray.mk #[226, 153, a, 226, 153, b]).extract 4 6).data.toList ((a.toNat : Int)).toNat.toUInt8 = -1 := by
    show Lib.indexByte [153, b] _ = _
    simp [Lib.indexByte, h0, h1, h2, h3]
  have i0 : (153 : Int) ≠ (a.toNat : Int) := ne_int h0
  have i1 : (226 : Int) ≠ (a.toNat : Int) := ne_int h1
  have i2 : (b.toNat : Int) ≠ (a.toNat : Int) := ne_int h2
  have i3 : (153 : Int) ≠ (r1.toNat : Int) := ne_int h3
  have hc : ∀ w1, (convert 21 9 (.int .i32 x)).run Tryz.prog w1 = .ok (.string ⟨#[r0, r1, a]⟩) w1 := fun w1 => by rw [run_convert_int_string w1 21 9 .i32 x (by kernel_rfl) (by kernel_rfl), hE]
  clear hE
  go_enter Tryz.func91, Tryz.ntmps91
  go_wp2_with (go_at_call 114; refine (Tryz.utf8_ValidRune _ _).mono ?_; rintro e w1 ⟨rfl, rfl⟩; rw [hv])
  go_step3
  go_wp2
  refine wp_loop_rounds 6 ?_
  rw [rounds_succ]
  go_wp2
  refine wp_scope_fwd 0 rfl ?_
  go_wp2
  go_quiet (fail)
  go_wp2
  refine wp_loop_rounds 6 ?_
  rw [rounds_succ]
  go_wp2
  go_quiet (fail)
  go_wp2
  go_step3
  refine fwd_goto ?_
  go_wp2
  change Code.rounds Tryz.prog _ _ _ _ _
  rw [rounds_succ]
  go_wp2
  refine wp_scope_fwd 0 rfl ?_
  go_wp2
  go_quiet (fail)
  go_wp2
  go_quiet ((go_at_call 113; refine (Tryz.strings_IndexByte _ _ _).mono ?_; rintro e w' ⟨rfl, rfl⟩; exact ⟨congrArg (fun z => Ending.returned (Value.int IntKind.i64 z)) q4, _, rfl⟩))
  go_wp2
  show bodyPost Tryz.prog Tryz.f91 _ Exit.ret _ _
  go_ret
  first | exact ⟨rfl, below_drewN (Below.refl _ _) _⟩ | exact ⟨rfl, Below.refl _ _⟩

set_option maxHeartbeats 4000000 in
theorem ir3b (x : Int) (w : World) (a b : UInt8) (hv : Lib.validRune x = true) (h0 : 128 ≤ x) (hx : x ≠ 65533) (hE : Utf8.encode x = ⟨#[226, 153, b]⟩) (h0 : (153 : UInt8) ≠ b) (h1 : (226 : UInt8) ≠ b) (h2 : (a : UInt8) ≠ b) :
    Calls Tryz.prog 91 #[.string ⟨#[226, 153, a, 226, 153, b]⟩, .int .i32 x] w (RetB (.int .i64 (3)) w) := by
  have q3 : Lib.indexByte ((ByteArray.mk #[226, 153, a, 226, 153, b]).extract 3 6).data.toList ((b.toNat : Int)).toNat.toUInt8 = 2 := by
    show Lib.indexByte [226, 153, b] _ = _
    simp [Lib.indexByte, h0, h1, h2]
  have i0 : (153 : Int) ≠ (b.toNat : Int) := ne_int h0
  have i1 : (226 : Int) ≠ (b.toNat : Int) := ne_int h1
  have i2 : (a.toNat : Int) ≠ (b.toNat : Int) := ne_int h2
  have hc : ∀ w1, (convert 21 9 (.int .i32 x)).run Tryz.prog w1 = .ok (.string ⟨#[226, 153, b]⟩) w1 := fun w1 => by rw [run_convert_int_string w1 21 9 .i32 x (by kernel_rfl) (by kernel_rfl), hE]
  clear hE
  go_enter Tryz.func91, Tryz.ntmps91
  go_wp2_with (go_at_call 114; refine (Tryz.utf8_ValidRune _ _).mono ?_; rintro e w1 ⟨rfl, rfl⟩; rw [hv])
  go_step3
  go_wp2
  refine wp_loop_rounds 6 ?_
  rw [rounds_succ]
  go_wp2
  refine wp_scope_fwd 0 rfl ?_
  go_wp2
  go_quiet (fail)
  go_wp2
  go_quiet ((go_at_call 113; refine (Tryz.strings_IndexByte _ _ _).mono ?_; rintro e w' ⟨rfl, rfl⟩; exact ⟨congrArg (fun z => Ending.returned (Value.int IntKind.i64 z)) q3, _, rfl⟩))
  go_wp2
  refine wp_loop_rounds 6 ?_
  rw [rounds_succ]
  go_wp2
  go_quiet (fail)
  go_wp2
  rw [rounds_succ]
  go_wp2
  go_quiet (fail)
  go_wp2
  rw [rounds_succ]
  go_wp2
  show bodyPost Tryz.prog Tryz.f91 _ Exit.ret _ _
  go_ret
  first | exact ⟨rfl, below_drewN (Below.refl _ _) _⟩ | exact ⟨rfl, Below.refl _ _⟩

set_option maxHeartbeats 4000000 in
theorem ir3b0 (x : Int) (w : World) (a b r0 : UInt8) (hv : Lib.validRune x = true) (h0 : 128 ≤ x) (hx : x ≠ 65533) (hE : Utf8.encode x = ⟨#[r0, 153, b]⟩) (h0 : (153 : UInt8) ≠ b) (h1 : (226 : UInt8) ≠ b) (h2 : (a : UInt8) ≠ b) (h3 : (226 : UInt8) ≠ r0) :
    Calls Tryz.prog 91 #[.string ⟨#[226, 153, a, 226, 153, b]⟩, .int .i32 x] w (RetB (.int .i64 (-1)) w) := by
  have q3 : Lib.indexByte ((ByteArray.mk #[226, 153, a, 226, 153, b]).extract 3 6).data.toList ((b.toNat : Int)).toNat.toUInt8 = 2 := by
    show Lib.indexByte [226, 153, b] _ = _
    simp [Lib.indexByte, h0, h1, h2, h3]
  have i0 : (153 : Int) ≠ (b.toNat : Int) := ne_int h0
  have i1 : (226 : Int) ≠ (b.toNat : Int) := ne_int h1
  have i2 : (a.toNat : Int) ≠ (b.toNat : Int) := ne_int h2
  have i3 : (226 : Int) ≠ (r0.toNat : Int) := ne_int h3
  have hc : ∀ w1, (convert 21 9 (.int .i32 x)).run Tryz.prog w1 = .ok (.string ⟨#[r0, 153, b]⟩) w1 := fun w1 => by rw [run_convert_int_string w1 21 9 .i32 x (by kernel_rfl) (by kernel_rfl), hE]
  clear hE
  go_enter Tryz.func91, Tryz.ntmps91
  go_wp2_with (go_at_call 114; refine (Tryz.utf8_ValidRune _ _).mono ?_; rintro e w1 ⟨rfl, rfl⟩; rw [hv])
  go_step3
  go_wp2
  refine wp_loop_rounds 6 ?_
  rw [rounds_succ]
  go_wp2
  refine wp_scope_fwd 0 rfl ?_
  go_wp2
  go_quiet (fail)
  go_wp2
  go_quiet ((go_at_call 113; refine (Tryz.strings_IndexByte _ _ _).mono ?_; rintro e w' ⟨rfl, rfl⟩; exact ⟨congrArg (fun z => Ending.returned (Value.int IntKind.i64 z)) q3, _, rfl⟩))
  go_wp2
  refine wp_loop_rounds 6 ?_
  rw [rounds_succ]
  go_wp2
  go_quiet (fail)
  go_wp2
  rw [rounds_succ]
  go_wp2
  go_quiet (fail)
  go_wp2
  go_step3
  refine fwd_goto ?_
  go_wp2
  change Code.rounds Tryz.prog _ _ _ _ _
  rw [rounds_succ]
  go_wp2
  show bodyPost Tryz.prog Tryz.f91 _ Exit.ret _ _
  go_ret
  first | exact ⟨rfl, below_drewN (Below.refl _ _) _⟩ | exact ⟨rfl, Below.refl _ _⟩

set_option maxHeartbeats 4000000 in
theorem ir3b1 (x : Int) (w : World) (a b r0 r1 : UInt8) (hv : Lib.validRune x = true) (h0 : 128 ≤ x) (hx : x ≠ 65533) (hE : Utf8.encode x = ⟨#[r0, r1, b]⟩) (h0 : (153 : UInt8) ≠ b) (h1 : (226 : UInt8) ≠ b) (h2 : (a : UInt8) ≠ b) (h3 : (153 : UInt8) ≠ r1) :
    Calls Tryz.prog 91 #[.string ⟨#[226, 153, a, 226, 153, b]⟩, .int .i32 x] w (RetB (.int .i64 (-1)) w) := by
  have q3 : Lib.indexByte ((ByteArray.mk #[226, 153, a, 226, 153, b]).extract 3 6).data.toList ((b.toNat : Int)).toNat.toUInt8 = 2 := by
    show Lib.indexByte [226, 153, b] _ = _
    simp [Lib.indexByte, h0, h1, h2, h3]
  have i0 : (153 : Int) ≠ (b.toNat : Int) := ne_int h0
  have i1 : (226 : Int) ≠ (b.toNat : Int) := ne_int h1
  have i2 : (a.toNat : Int) ≠ (b.toNat : Int) := ne_int h2
  have i3 : (153 : Int) ≠ (r1.toNat : Int) := ne_int h3
  have hc : ∀ w1, (convert 21 9 (.int .i32 x)).run Tryz.prog w1 = .ok (.string ⟨#[r0, r1, b]⟩) w1 := fun w1 => by rw [run_convert_int_string w1 21 9 .i32 x (by kernel_rfl) (by kernel_rfl), hE]
  clear hE
  go_enter Tryz.func91, Tryz.ntmps91
  go_wp2_with (go_at_call 114; refine (Tryz.utf8_ValidRune _ _).mono ?_; rintro e w1 ⟨rfl, rfl⟩; rw [hv])
  go_step3
  go_wp2
  refine wp_loop_rounds 6 ?_
  rw [rounds_succ]
  go_wp2
  refine wp_scope_fwd 0 rfl ?_
  go_wp2
  go_quiet (fail)
  go_wp2
  go_quiet ((go_at_call 113; refine (Tryz.strings_IndexByte _ _ _).mono ?_; rintro e w' ⟨rfl, rfl⟩; exact ⟨congrArg (fun z => Ending.returned (Value.int IntKind.i64 z)) q3, _, rfl⟩))
  go_wp2
  refine wp_loop_rounds 6 ?_
  rw [rounds_succ]
  go_wp2
  go_quiet (fail)
  go_wp2
  go_step3
  refine fwd_goto ?_
  go_wp2
  change Code.rounds Tryz.prog _ _ _ _ _
  rw [rounds_succ]
  go_wp2
  show bodyPost Tryz.prog Tryz.f91 _ Exit.ret _ _
  go_ret
  first | exact ⟨rfl, below_drewN (Below.refl _ _) _⟩ | exact ⟨rfl, Below.refl _ _⟩

set_option maxHeartbeats 4000000 in
theorem ir3c (x : Int) (w : World) (a b r0 r1 : UInt8) (hv : Lib.validRune x = true) (h0 : 128 ≤ x) (hx : x ≠ 65533) (hE : Utf8.encode x = ⟨#[r0, r1, 153]⟩) (h0 : (a : UInt8) ≠ 153) (h1 : (b : UInt8) ≠ 153) (h2 : (226 : UInt8) ≠ r1) :
    Calls Tryz.prog 91 #[.string ⟨#[226, 153, a, 226, 153, b]⟩, .int .i32 x] w (RetB (.int .i64 (-1)) w) := by
  have q3 : Lib.indexByte ((ByteArray.mk #[226, 153, a, 226, 153, b]).extract 3 6).data.toList ((153 : Int)).toNat.toUInt8 = 1 := by
    show Lib.indexByte [226, 153, b] _ = _
    simp [Lib.indexByte, h0, h1, h2]
  have q6 : Lib.indexByte ((ByteArray.mk #[226, 153, a, 226, 153, b]).extract 6 6).data.toList ((153 : Int)).toNat.toUInt8 = -1 := by
    show Lib.indexByte [] _ = _
    simp [Lib.indexByte, h0, h1, h2]
  have i0 : (a.toNat : Int) ≠ (153 : Int) := ne_int h0
  have i1 : (b.toNat : Int) ≠ (153 : Int) := ne_int h1
  have i2 : (226 : Int) ≠ (r1.toNat : Int) := ne_int h2
  have hc : ∀ w1, (convert 21 9 (.int .i32 x)).run Tryz.prog w1 = .ok (.string ⟨#[r0, r1, 153]⟩) w1 := fun w1 => by rw [run_convert_int_string w1 21 9 .i32 x (by kernel_rfl) (by kernel_rfl), hE]
  clear hE
  go_enter Tryz.func91, Tryz.ntmps91
  go_wp2_with (go_at_call 114; refine (Tryz.utf8_ValidRune _ _).mono ?_; rintro e w1 ⟨rfl, rfl⟩; rw [hv])
  go_step3
  go_wp2
  refine wp_loop_rounds 6 ?_
  rw [rounds_succ]
  go_wp2
  refine wp_scope_fwd 0 rfl ?_
  go_wp2
  go_quiet (fail)
  go_wp2
  go_quiet ((go_at_call 113; refine (Tryz.strings_IndexByte _ _ _).mono ?_; rintro e w' ⟨rfl, rfl⟩; exact ⟨congrArg (fun z => Ending.returned (Value.int IntKind.i64 z)) q3, _, rfl⟩))
  go_wp2
  refine wp_loop_rounds 6 ?_
  rw [rounds_succ]
  go_wp2
  go_quiet (fail)
  go_wp2
  go_step3
  refine fwd_goto ?_
  go_wp2
  change Code.rounds Tryz.prog _ _ _ _ _
  rw [rounds_succ]
  go_wp2
  refine wp_scope_fwd 0 rfl ?_
  go_wp2
  go_quiet (fail)
  go_wp2
  go_quiet ((go_at_call 113; refine (Tryz.strings_IndexByte _ _ _).mono ?_; rintro e w' ⟨rfl, rfl⟩; exact ⟨congrArg (fun z => Ending.returned (Value.int IntKind.i64 z)) q6, _, rfl⟩))
  go_wp2
  show bodyPost Tryz.prog Tryz.f91 _ Exit.ret _ _
  go_ret
  first | exact ⟨rfl, below_drewN (Below.refl _ _) _⟩ | exact ⟨rfl, Below.refl _ _⟩

set_option maxHeartbeats 4000000 in
theorem ir3d (x : Int) (w : World) (a b r0 r1 r2 : UInt8) (hv : Lib.validRune x = true) (h0 : 128 ≤ x) (hx : x ≠ 65533) (hE : Utf8.encode x = ⟨#[r0, r1, r2]⟩) (h0 : (a : UInt8) ≠ r2) (h1 : (b : UInt8) ≠ r2) (h2 : (153 : UInt8) ≠ r2) (h3 : (226 : UInt8) ≠ r2) :
    Calls Tryz.prog 91 #[.string ⟨#[226, 153, a, 226, 153, b]⟩, .int .i32 x] w (RetB (.int .i64 (-1)) w) := by
  have q3 : Lib.indexByte ((ByteArray.mk #[226, 153, a, 226, 153, b]).extract 3 6).data.toList ((r2.toNat : Int)).toNat.toUInt8 = -1 := by
    show Lib.indexByte [226, 153, b] _ = _
    simp [Lib.indexByte, h0, h1, h2, h3]
  have i0 : (a.toNat : Int) ≠ (r2.toNat : Int) := ne_int h0
  have i1 : (b.toNat : Int) ≠ (r2.toNat : Int) := ne_int h1
  have i2 : (153 : Int) ≠ (r2.toNat : Int) := ne_int h2
  have i3 : (226 : Int) ≠ (r2.toNat : Int) := ne_int h3
  have hc : ∀ w1, (convert 21 9 (.int .i32 x)).run Tryz.prog w1 = .ok (.string ⟨#[r0, r1, r2]⟩) w1 := fun w1 => by rw [run_convert_int_string w1 21 9 .i32 x (by kernel_rfl) (by kernel_rfl), hE]
  clear hE
  go_enter Tryz.func91, Tryz.ntmps91
  go_wp2_with (go_at_call 114; refine (Tryz.utf8_ValidRune _ _).mono ?_; rintro e w1 ⟨rfl, rfl⟩; rw [hv])
  go_step3
  go_wp2
  refine wp_loop_rounds 6 ?_
  rw [rounds_succ]
  go_wp2
  refine wp_scope_fwd 0 rfl ?_
  go_wp2
  go_quiet (fail)
  go_wp2
  go_quiet ((go_at_call 113; refine (Tryz.strings_IndexByte _ _ _).mono ?_; rintro e w' ⟨rfl, rfl⟩; exact ⟨congrArg (fun z => Ending.returned (Value.int IntKind.i64 z)) q3, _, rfl⟩))
  go_wp2
  show bodyPost Tryz.prog Tryz.f91 _ Exit.ret _ _
  go_ret
  first | exact ⟨rfl, below_drewN (Below.refl _ _) _⟩ | exact ⟨rfl, Below.refl _ _⟩

set_option maxHeartbeats 4000000 in
theorem ir2c (x : Int) (w : World) (a b r0 : UInt8) (hv : Lib.validRune x = true) (h0 : 128 ≤ x) (hx : x ≠ 65533) (hE : Utf8.encode x = ⟨#[r0, 153]⟩) (h0 : (a : UInt8) ≠ 153) (h1 : (b : UInt8) ≠ 153) (h2 : (226 : UInt8) ≠ r0) (h3 : (153 : UInt8) ≠ r0) :
    Calls Tryz.prog 91 #[.string ⟨#[226, 153, a, 226, 153, b]⟩, .int .i32 x] w (RetB (.int .i64 (-1)) w) := by
  have q3 : Lib.indexByte ((ByteArray.mk #[226, 153, a, 226, 153, b]).extract 3 6).data.toList ((153 : Int)).toNat.toUInt8 = 1 := by
    show Lib.indexByte [226, 153, b] _ = _
    simp [Lib.indexByte, h0, h1, h2, h3]
  have q6 : Lib.indexByte ((ByteArray.mk #[226, 153, a, 226, 153, b]).extract 6 6).data.toList ((153 : Int)).toNat.toUInt8 = -1 := by
    show Lib.indexByte [] _ = _
    simp [Lib.indexByte, h0, h1, h2, h3]
  have i0 : (a.toNat : Int) ≠ (153 : Int) := ne_int h0
  have i1 : (b.toNat : Int) ≠ (153 : Int) := ne_int h1
  have i2 : (226 : Int) ≠ (r0.toNat : Int) := ne_int h2
  have i3 : (153 : Int) ≠ (r0.toNat : Int) := ne_int h3
  have hc : ∀ w1, (convert 21 9 (.int .i32 x)).run Tryz.prog w1 = .ok (.string ⟨#[r0, 153]⟩) w1 := fun w1 => by rw [run_convert_int_string w1 21 9 .i32 x (by kernel_rfl) (by kernel_rfl), hE]
  clear hE
  go_enter Tryz.func91, Tryz.ntmps91
  go_wp2_with (go_at_call 114; refine (Tryz.utf8_ValidRune _ _).mono ?_; rintro e w1 ⟨rfl, rfl⟩; rw [hv])
  go_step3
  go_wp2
  refine wp_loop_rounds 6 ?_
  rw [rounds_succ]
  go_wp2
  refine wp_scope_fwd 0 rfl ?_
  go_wp2
  go_quiet (fail)
  go_wp2
  refine wp_loop_rounds 6 ?_
  rw [rounds_succ]
  go_wp2
  go_quiet (fail)
  go_wp2
  go_step3
  refine fwd_goto ?_
  go_wp2
  change Code.rounds Tryz.prog _ _ _ _ _
  rw [rounds_succ]
  go_wp2
  refine wp_scope_fwd 0 rfl ?_
  go_wp2
  go_quiet (fail)
  go_wp2
  go_quiet ((go_at_call 113; refine (Tryz.strings_IndexByte _ _ _).mono ?_; rintro e w' ⟨rfl, rfl⟩; exact ⟨congrArg (fun z => Ending.returned (Value.int IntKind.i64 z)) q3, _, rfl⟩))
  go_wp2
  refine wp_loop_rounds 6 ?_
  rw [rounds_succ]
  go_wp2
  go_quiet (fail)
  go_wp2
  go_step3
  refine fwd_goto ?_
  go_wp2
  change Code.rounds Tryz.prog _ _ _ _ _
  rw [rounds_succ]
  go_wp2
  refine wp_scope_fwd 0 rfl ?_
  go_wp2
  go_quiet (fail)
  go_wp2
  go_quiet ((go_at_call 113; refine (Tryz.strings_IndexByte _ _ _).mono ?_; rintro e w' ⟨rfl, rfl⟩; exact ⟨congrArg (fun z => Ending.returned (Value.int IntKind.i64 z)) q6, _, rfl⟩))
  go_wp2
  show bodyPost Tryz.prog Tryz.f91 _ Exit.ret _ _
  go_ret
  first | exact ⟨rfl, below_drewN (Below.refl _ _) _⟩ | exact ⟨rfl, Below.refl _ _⟩

set_option maxHeartbeats 4000000 in
theorem ir2a (x : Int) (w : World) (a b r0 : UInt8) (hv : Lib.validRune x = true) (h0 : 128 ≤ x) (hx : x ≠ 65533) (hE : Utf8.encode x = ⟨#[r0, a]⟩) (h0 : (153 : UInt8) ≠ a) (h1 : (226 : UInt8) ≠ a) (h2 : (b : UInt8) ≠ a) (h3 : (226 : UInt8) ≠ r0) (h4 : (153 : UInt8) ≠ r0) :
    Calls Tryz.prog 91 #[.string ⟨#[226, 153, a, 226, 153, b]⟩, .int .i32 x] w (RetB (.int .i64 (-1)) w) := by
  have q2 : Lib.indexByte ((ByteArray.mk #[226, 153, a, 226, 153, b]).extract 2 6).data.toList ((a.toNat : Int)).toNat.toUInt8 = 0 := by
    show Lib.indexByte [a, 226, 153, b] _ = _
    simp [Lib.indexByte, h0, h1, h2, h3, h4]
  have q4 : Lib.indexByte ((ByteArray.mk #[226, 153, a, 226, 153, b]).extract 4 6).data.toList ((a.toNat : Int)).toNat.toUInt8 = -1 := by
    show Lib.indexByte [153, b] _ = _
    simp [Lib.indexByte, h0, h1, h2, h3, h4]
  have i0 : (153 : Int) ≠ (a.toNat : Int) := ne_int h0
  have i1 : (226 : Int) ≠ (a.toNat : Int) := ne_int h1
  have i2 : (b.toNat : Int) ≠ (a.toNat : Int) := ne_int h2
  have i3 : (226 : Int) ≠ (r0.toNat : Int) := ne_int h3
  have i4 : (153 : Int) ≠ (r0.toNat : Int) := ne_int h4
  have hc : ∀ w1, (convert 21 9 (.int .i32 x)).run Tryz.prog w1 = .ok (.string ⟨#[r0, a]⟩) w1 := fun w1 => by rw [run_convert_int_string w1 21 9 .i32 x (by kernel_rfl) (by kernel_rfl), hE]
  clear hE
  go_enter Tryz.func91, Tryz.ntmps91
  go_wp2_with (go_at_call 114; refine (Tryz.utf8_ValidRune _ _).mono ?_; rintro e w1 ⟨rfl, rfl⟩; rw [hv])
  go_step3
  go_wp2
  refine wp_loop_rounds 6 ?_
  rw [rounds_succ]
  go_wp2
  refine wp_scope_fwd 0 rfl ?_
  go_wp2
  go_quiet (fail)
  go_wp2
  go_quiet ((go_at_call 113; refine (Tryz.strings_IndexByte _ _ _).mono ?_; rintro e w' ⟨rfl, rfl⟩; exact ⟨congrArg (fun z => Ending.returned (Value.int IntKind.i64 z)) q2, _, rfl⟩))
  go_wp2
  refine wp_loop_rounds 6 ?_
  rw [rounds_succ]
  go_wp2
  go_quiet (fail)
  go_wp2
  go_step3
  refine fwd_goto ?_
  go_wp2
  change Code.rounds Tryz.prog _ _ _ _ _
  rw [rounds_succ]
  go_wp2
  refine wp_scope_fwd 0 rfl ?_
  go_wp2
  go_quiet (fail)
  go_wp2
  go_quiet ((go_at_call 113; refine (Tryz.strings_IndexByte _ _ _).mono ?_; rintro e w' ⟨rfl, rfl⟩; exact ⟨congrArg (fun z => Ending.returned (Value.int IntKind.i64 z)) q4, _, rfl⟩))
  go_wp2
  show bodyPost Tryz.prog Tryz.f91 _ Exit.ret _ _
  go_ret
  first | exact ⟨rfl, below_drewN (Below.refl _ _) _⟩ | exact ⟨rfl, Below.refl _ _⟩

set_option maxHeartbeats 4000000 in
theorem ir2b (x : Int) (w : World) (a b r0 : UInt8) (hv : Lib.validRune x = true) (h0 : 128 ≤ x) (hx : x ≠ 65533) (hE : Utf8.encode x = ⟨#[r0, b]⟩) (h0 : (153 : UInt8) ≠ b) (h1 : (226 : UInt8) ≠ b) (h2 : (a : UInt8) ≠ b) (h3 : (226 : UInt8) ≠ r0) (h4 : (153 : UInt8) ≠ r0) :
    Calls Tryz.prog 91 #[.string ⟨#[226, 153, a, 226, 153, b]⟩, .int .i32 x] w (RetB (.int .i64 (-1)) w) := by
  have q2 : Lib.indexByte ((ByteArray.mk #[226, 153, a, 226, 153, b]).extract 2 6).data.toList ((b.toNat : Int)).toNat.toUInt8 = 3 := by
    show Lib.indexByte [a, 226, 153, b] _ = _
    simp [Lib.indexByte, h0, h1, h2, h3, h4]
  have i0 : (153 : Int) ≠ (b.toNat : Int) := ne_int h0
  have i1 : (226 : Int) ≠ (b.toNat : Int) := ne_int h1
  have i2 : (a.toNat : Int) ≠ (b.toNat : Int) := ne_int h2
  have i3 : (226 : Int) ≠ (r0.toNat : Int) := ne_int h3
  have i4 : (153 : Int) ≠ (r0.toNat : Int) := ne_int h4
  have hc : ∀ w1, (convert 21 9 (.int .i32 x)).run Tryz.prog w1 = .ok (.string ⟨#[r0, b]⟩) w1 := fun w1 => by rw [run_convert_int_string w1 21 9 .i32 x (by kernel_rfl) (by kernel_rfl), hE]
  clear hE
  go_enter Tryz.func91, Tryz.ntmps91
  go_wp2_with (go_at_call 114; refine (Tryz.utf8_ValidRune _ _).mono ?_; rintro e w1 ⟨rfl, rfl⟩; rw [hv])
  go_step3
  go_wp2
  refine wp_loop_rounds 6 ?_
  rw [rounds_succ]
  go_wp2
  refine wp_scope_fwd 0 rfl ?_
  go_wp2
  go_quiet (fail)
  go_wp2
  go_quiet ((go_at_call 113; refine (Tryz.strings_IndexByte _ _ _).mono ?_; rintro e w' ⟨rfl, rfl⟩; exact ⟨congrArg (fun z => Ending.returned (Value.int IntKind.i64 z)) q2, _, rfl⟩))
  go_wp2
  refine wp_loop_rounds 6 ?_
  rw [rounds_succ]
  go_wp2
  go_quiet (fail)
  go_wp2
  go_step3
  refine fwd_goto ?_
  go_wp2
  change Code.rounds Tryz.prog _ _ _ _ _
  rw [rounds_succ]
  go_wp2
  show bodyPost Tryz.prog Tryz.f91 _ Exit.ret _ _
  go_ret
  first | exact ⟨rfl, below_drewN (Below.refl _ _) _⟩ | exact ⟨rfl, Below.refl _ _⟩

set_option maxHeartbeats 4000000 in
theorem ir2d (x : Int) (w : World) (a b r0 r1 : UInt8) (hv : Lib.validRune x = true) (h0 : 128 ≤ x) (hx : x ≠ 65533) (hE : Utf8.encode x = ⟨#[r0, r1]⟩) (h0 : (a : UInt8) ≠ r1) (h1 : (b : UInt8) ≠ r1) (h2 : (153 : UInt8) ≠ r1) (h3 : (226 : UInt8) ≠ r1) :
    Calls Tryz.prog 91 #[.string ⟨#[226, 153, a, 226, 153, b]⟩, .int .i32 x] w (RetB (.int .i64 (-1)) w) := by
  have q2 : Lib.indexByte ((ByteArray.mk #[226, 153, a, 226, 153, b]).extract 2 6).data.toList ((r1.toNat : Int)).toNat.toUInt8 = -1 := by
    show Lib.indexByte [a, 226, 153, b] _ = _
    simp [Lib.indexByte, h0, h1, h2, h3]
  have i0 : (a.toNat : Int) ≠ (r1.toNat : Int) := ne_int h0
  have i1 : (b.toNat : Int) ≠ (r1.toNat : Int) := ne_int h1
  have i2 : (153 : Int) ≠ (r1.toNat : Int) := ne_int h2
  have i3 : (226 : Int) ≠ (r1.toNat : Int) := ne_int h3
  have hc : ∀ w1, (convert 21 9 (.int .i32 x)).run Tryz.prog w1 = .ok (.string ⟨#[r0, r1]⟩) w1 := fun w1 => by rw [run_convert_int_string w1 21 9 .i32 x (by kernel_rfl) (by kernel_rfl), hE]
  clear hE
  go_enter Tryz.func91, Tryz.ntmps91
  go_wp2_with (go_at_call 114; refine (Tryz.utf8_ValidRune _ _).mono ?_; rintro e w1 ⟨rfl, rfl⟩; rw [hv])
  go_step3
  go_wp2
  refine wp_loop_rounds 6 ?_
  rw [rounds_succ]
  go_wp2
  refine wp_scope_fwd 0 rfl ?_
  go_wp2
  go_quiet (fail)
  go_wp2
  go_quiet ((go_at_call 113; refine (Tryz.strings_IndexByte _ _ _).mono ?_; rintro e w' ⟨rfl, rfl⟩; exact ⟨congrArg (fun z => Ending.returned (Value.int IntKind.i64 z)) q2, _, rfl⟩))
  go_wp2
  show bodyPost Tryz.prog Tryz.f91 _ Exit.ret _ _
  go_ret
  first | exact ⟨rfl, below_drewN (Below.refl _ _) _⟩ | exact ⟨rfl, Below.refl _ _⟩

set_option maxHeartbeats 4000000 in
theorem ir4c (x : Int) (w : World) (a b r0 r1 r2 : UInt8) (hv : Lib.validRune x = true) (h0 : 128 ≤ x) (hx : x ≠ 65533) (hE : Utf8.encode x = ⟨#[r0, r1, r2, 153]⟩) (h0 : (a : UInt8) ≠ 153) (h1 : (b : UInt8) ≠ 153) (h2 : (226 : UInt8) ≠ r2) :
    Calls Tryz.prog 91 #[.string ⟨#[226, 153, a, 226, 153, b]⟩, .int .i32 x] w (RetB (.int .i64 (-1)) w) := by
  have q4 : Lib.indexByte ((ByteArray.mk #[226, 153, a, 226, 153, b]).extract 4 6).data.toList ((153 : Int)).toNat.toUInt8 = 0 := by
    show Lib.indexByte [153, b] _ = _
    simp [Lib.indexByte, h0, h1, h2]
  have q6 : Lib.indexByte ((ByteArray.mk #[226, 153, a, 226, 153, b]).extract 6 6).data.toList ((153 : Int)).toNat.toUInt8 = -1 := by
    show Lib.indexByte [] _ = _
    simp [Lib.indexByte, h0, h1, h2]
  have i0 : (a.toNat : Int) ≠ (153 : Int) := ne_int h0
  have i1 : (b.toNat : Int) ≠ (153 : Int) := ne_int h1
  have i2 : (226 : Int) ≠ (r2.toNat : Int) := ne_int h2
  have hc : ∀ w1, (convert 21 9 (.int .i32 x)).run Tryz.prog w1 = .ok (.string ⟨#[r0, r1, r2, 153]⟩) w1 := fun w1 => by rw [run_convert_int_string w1 21 9 .i32 x (by kernel_rfl) (by kernel_rfl), hE]
  clear hE
  go_enter Tryz.func91, Tryz.ntmps91
  go_wp2_with (go_at_call 114; refine (Tryz.utf8_ValidRune _ _).mono ?_; rintro e w1 ⟨rfl, rfl⟩; rw [hv])
  go_step3
  go_wp2
  refine wp_loop_rounds 6 ?_
  rw [rounds_succ]
  go_wp2
  refine wp_scope_fwd 0 rfl ?_
  go_wp2
  go_quiet (fail)
  go_wp2
  go_quiet ((go_at_call 113; refine (Tryz.strings_IndexByte _ _ _).mono ?_; rintro e w' ⟨rfl, rfl⟩; exact ⟨congrArg (fun z => Ending.returned (Value.int IntKind.i64 z)) q4, _, rfl⟩))
  go_wp2
  refine wp_loop_rounds 6 ?_
  rw [rounds_succ]
  go_wp2
  go_quiet (fail)
  go_wp2
  go_step3
  refine fwd_goto ?_
  go_wp2
  change Code.rounds Tryz.prog _ _ _ _ _
  rw [rounds_succ]
  go_wp2
  refine wp_scope_fwd 0 rfl ?_
  go_wp2
  go_quiet (fail)
  go_wp2
  go_quiet ((go_at_call 113; refine (Tryz.strings_IndexByte _ _ _).mono ?_; rintro e w' ⟨rfl, rfl⟩; exact ⟨congrArg (fun z => Ending.returned (Value.int IntKind.i64 z)) q6, _, rfl⟩))
  go_wp2
  show bodyPost Tryz.prog Tryz.f91 _ Exit.ret _ _
  go_ret
  first | exact ⟨rfl, below_drewN (Below.refl _ _) _⟩ | exact ⟨rfl, Below.refl _ _⟩

set_option maxHeartbeats 4000000 in
theorem ir4b (x : Int) (w : World) (a b r0 r1 r2 : UInt8) (hv : Lib.validRune x = true) (h0 : 128 ≤ x) (hx : x ≠ 65533) (hE : Utf8.encode x = ⟨#[r0, r1, r2, b]⟩) (h0 : (153 : UInt8) ≠ b) (h1 : (226 : UInt8) ≠ b) (h2 : (a : UInt8) ≠ b) (h3 : (153 : UInt8) ≠ r2) :
    Calls Tryz.prog 91 #[.string ⟨#[226, 153, a, 226, 153, b]⟩, .int .i32 x] w (RetB (.int .i64 (-1)) w) := by
  have q4 : Lib.indexByte ((ByteArray.mk #[226, 153, a, 226, 153, b]).extract 4 6).data.toList ((b.toNat : Int)).toNat.toUInt8 = 1 := by
    show Lib.indexByte [153, b] _ = _
    simp [Lib.indexByte, h0, h1, h2, h3]
  have i0 : (153 : Int) ≠ (b.toNat : Int) := ne_int h0
  have i1 : (226 : Int) ≠ (b.toNat : Int) := ne_int h1
  have i2 : (a.toNat : Int) ≠ (b.toNat : Int) := ne_int h2
  have i3 : (153 : Int) ≠ (r2.toNat : Int) := ne_int h3
  have hc : ∀ w1, (convert 21 9 (.int .i32 x)).run Tryz.prog w1 = .ok (.string ⟨#[r0, r1, r2, b]⟩) w1 := fun w1 => by rw [run_convert_int_string w1 21 9 .i32 x (by kernel_rfl) (by kernel_rfl), hE]
  clear hE
  go_enter Tryz.func91, Tryz.ntmps91
  go_wp2_with (go_at_call 114; refine (Tryz.utf8_ValidRune _ _).mono ?_; rintro e w1 ⟨rfl, rfl⟩; rw [hv])
  go_step3
  go_wp2
  refine wp_loop_rounds 6 ?_
  rw [rounds_succ]
  go_wp2
  refine wp_scope_fwd 0 rfl ?_
  go_wp2
  go_quiet (fail)
  go_wp2
  go_quiet ((go_at_call 113; refine (Tryz.strings_IndexByte _ _ _).mono ?_; rintro e w' ⟨rfl, rfl⟩; exact ⟨congrArg (fun z => Ending.returned (Value.int IntKind.i64 z)) q4, _, rfl⟩))
  go_wp2
  refine wp_loop_rounds 6 ?_
  rw [rounds_succ]
  go_wp2
  go_quiet (fail)
  go_wp2
  go_step3
  refine fwd_goto ?_
  go_wp2
  change Code.rounds Tryz.prog _ _ _ _ _
  rw [rounds_succ]
  go_wp2
  show bodyPost Tryz.prog Tryz.f91 _ Exit.ret _ _
  go_ret
  first | exact ⟨rfl, below_drewN (Below.refl _ _) _⟩ | exact ⟨rfl, Below.refl _ _⟩

set_option maxHeartbeats 4000000 in
theorem ir4b2 (x : Int) (w : World) (a b r0 r1 : UInt8) (hv : Lib.validRune x = true) (h0 : 128 ≤ x) (hx : x ≠ 65533) (hE : Utf8.encode x = ⟨#[r0, r1, 153, b]⟩) (h0 : (153 : UInt8) ≠ b) (h1 : (226 : UInt8) ≠ b) (h2 : (a : UInt8) ≠ b) (h3 : (226 : UInt8) ≠ r1) :
    Calls Tryz.prog 91 #[.string ⟨#[226, 153, a, 226, 153, b]⟩, .int .i32 x] w (RetB (.int .i64 (-1)) w) := by
  have q4 : Lib.indexByte ((ByteArray.mk #[226, 153, a, 226, 153, b]).extract 4 6).data.toList ((b.toNat : Int)).toNat.toUInt8 = 1 := by
    show Lib.indexByte [153, b] _ = _
    simp [Lib.indexByte, h0, h1, h2, h3]
  have i0 : (153 : Int) ≠ (b.toNat : Int) := ne_int h0
  have i1 : (226 : Int) ≠ (b.toNat : Int) := ne_int h1
  have i2 : (a.toNat : Int) ≠ (b.toNat : Int) := ne_int h2
  have i3 : (226 : Int) ≠ (r1.toNat : Int) := ne_int h3
  have hc : ∀ w1, (convert 21 9 (.int .i32 x)).run Tryz.prog w1 = .ok (.string ⟨#[r0, r1, 153, b]⟩) w1 := fun w1 => by rw [run_convert_int_string w1 21 9 .i32 x (by kernel_rfl) (by kernel_rfl), hE]
  clear hE
  go_enter Tryz.func91, Tryz.ntmps91
  go_wp2_with (go_at_call 114; refine (Tryz.utf8_ValidRune _ _).mono ?_; rintro e w1 ⟨rfl, rfl⟩; rw [hv])
  go_step3
  go_wp2
  refine wp_loop_rounds 6 ?_
  rw [rounds_succ]
  go_wp2
  refine wp_scope_fwd 0 rfl ?_
  go_wp2
  go_quiet (fail)
  go_wp2
  go_quiet ((go_at_call 113; refine (Tryz.strings_IndexByte _ _ _).mono ?_; rintro e w' ⟨rfl, rfl⟩; exact ⟨congrArg (fun z => Ending.returned (Value.int IntKind.i64 z)) q4, _, rfl⟩))
  go_wp2
  refine wp_loop_rounds 6 ?_
  rw [rounds_succ]
  go_wp2
  go_quiet (fail)
  go_wp2
  rw [rounds_succ]
  go_wp2
  go_quiet (fail)
  go_wp2
  go_step3
  refine fwd_goto ?_
  go_wp2
  change Code.rounds Tryz.prog _ _ _ _ _
  rw [rounds_succ]
  go_wp2
  show bodyPost Tryz.prog Tryz.f91 _ Exit.ret _ _
  go_ret
  first | exact ⟨rfl, below_drewN (Below.refl _ _) _⟩ | exact ⟨rfl, Below.refl _ _⟩

set_option maxHeartbeats 4000000 in
theorem ir4d (x : Int) (w : World) (a b r0 r1 r2 r3 : UInt8) (hv : Lib.validRune x = true) (h0 : 128 ≤ x) (hx : x ≠ 65533) (hE : Utf8.encode x = ⟨#[r0, r1, r2, r3]⟩) (h0 : (226 : UInt8) ≠ r3) (h1 : (153 : UInt8) ≠ r3) (h2 : (b : UInt8) ≠ r3) :
    Calls Tryz.prog 91 #[.string ⟨#[226, 153, a, 226, 153, b]⟩, .int .i32 x] w (RetB (.int .i64 (-1)) w) := by
  have q4 : Lib.indexByte ((ByteArray.mk #[226, 153, a, 226, 153, b]).extract 4 6).data.toList ((r3.toNat : Int)).toNat.toUInt8 = -1 := by
    show Lib.indexByte [153, b] _ = _
    simp [Lib.indexByte, h0, h1, h2]
  have i0 : (226 : Int) ≠ (r3.toNat : Int) := ne_int h0
  have i1 : (153 : Int) ≠ (r3.toNat : Int) := ne_int h1
  have i2 : (b.toNat : Int) ≠ (r3.toNat : Int) := ne_int h2
  have hc : ∀ w1, (convert 21 9 (.int .i32 x)).run Tryz.prog w1 = .ok (.string ⟨#[r0, r1, r2, r3]⟩) w1 := fun w1 => by rw [run_convert_int_string w1 21 9 .i32 x (by kernel_rfl) (by kernel_rfl), hE]
  clear hE
  go_enter Tryz.func91, Tryz.ntmps91
  go_wp2_with (go_at_call 114; refine (Tryz.utf8_ValidRune _ _).mono ?_; rintro e w1 ⟨rfl, rfl⟩; rw [hv])
  go_step3
  go_wp2
  refine wp_loop_rounds 6 ?_
  rw [rounds_succ]
  go_wp2
  refine wp_scope_fwd 0 rfl ?_
  go_wp2
  go_quiet (fail)
  go_wp2
  go_quiet ((go_at_call 113; refine (Tryz.strings_IndexByte _ _ _).mono ?_; rintro e w' ⟨rfl, rfl⟩; exact ⟨congrArg (fun z => Ending.returned (Value.int IntKind.i64 z)) q4, _, rfl⟩))
  go_wp2
  show bodyPost Tryz.prog Tryz.f91 _ Exit.ret _ _
  go_ret
  first | exact ⟨rfl, below_drewN (Below.refl _ _) _⟩ | exact ⟨rfl, Below.refl _ _⟩

end Go.Proofs.YthffhhbbhjcdeaaGreatDoor
