/- The law's contract at the form: what came in is opened, the walk runs, what came in reads as before. NotationWords: the second form's card: for every input of bulk at most 1048576 the law answers true, and what came in reads as before. -/
import Derived.Test.YthffhhbbhjcdeaaGreatDoorE6
import Derived.Test.YthffhhbbhjcdeaaGreatDoorRows
import Derived.WalkKit
import Derived.ProofKit
import Derived.OpenShut
import Derived.Carry
import Derived.Lib.SmallJoins
import Derived.Lib.LaidU8T
import Derived.PinnedBridge
import Derived.LaidSub
import Derived.Test.YthffhhbbhjcdeaaGreatDoorCards
import Derived.Test.YthffhhbbhjcdeaaGreatDoorTie
import Derived.Deep.DeepHandedRow
import Derived.Lib.LaidTab
set_option linter.unusedVariables false
set_option linter.unusedSimpArgs false
namespace Go.Proofs.YthffhhbbhjcdeaaGreatDoor
open Go.ChangeShapes Go.WideShapes Go.ChangeAt Go.RowKit Go.Joins Go.Deep
open Go.ChangeMaps (open_string shut_string)
set_option maxRecDepth 100000

theorem laidOutP : laidOutB Tryz.prog = true := by kernel_rfl
theorem cellsOf3 : Tryz.prog.cellsOf 3 = 1 := by kernel_rfl
theorem cellsOf22 : Tryz.prog.cellsOf 22 = 1 := by kernel_rfl

section
variable {H : Type} {enc : TypeId × Value → H} {W : World}

/-- A position that came in, field by field. -/
theorem open_chess {b0 : Nat} {v : Value} {d : DataW H} {ps : List MemPlace} (hv : Value.okWide Tryz.prog W .any b0 24 v) (h : DataW.Trod enc Tryz.prog W 0 (fun _ => true) true 24 v d ps) :
    ∃ (v0 : Value) (y0 : DataW H × List MemPlace) (c1 c2 c3 c4 c5 : Int) (n : Nat) (tl : List (DataW H)), v = .agg #[v0, .int .i64 c1, .int .i64 c2, .int .i64 c3, .int .i64 c4, .int .i64 c5] ∧ d = .agg (y0.1 :: tl) ∧
      DataW.trod enc Tryz.prog W 0 (fun _ => true) true n 22 [v0] = some y0 := by
  obtain ⟨cs, rfl, hsz⟩ := okWide_struct Tryz.underlying24 hv
  have hC : Tryz.prog.cellsOf 24 = 6 := by kernel_rfl
  rw [hC] at hsz
  obtain ⟨l⟩ := cs
  obtain ⟨fuel, hf⟩ := h
  obtain ⟨xs, n, _, hx, _, hlen, hg⟩ := DataW.trod_struct Tryz.underlying24 hf
  match l, hsz with
  | [e0, e1, e2, e3, e4, e5], _ =>
    match xs, hlen with
    | [y0, y1, y2, y3, y4, y5], _ =>
      have h0 : DataW.trod enc Tryz.prog W 0 (fun _ => true) true n 22 [e0] = some y0 := by simpa [Value.cells, cellsOf22] using hg 0 _ rfl
      have h1 : DataW.trod enc Tryz.prog W 0 (fun _ => true) true n 3 [e1] = some y1 := by simpa [Value.cells, cellsOf3] using hg 1 _ rfl
      have h2 : DataW.trod enc Tryz.prog W 0 (fun _ => true) true n 3 [e2] = some y2 := by simpa [Value.cells, cellsOf3] using hg 2 _ rfl
      have h3 : DataW.trod enc Tryz.prog W 0 (fun _ => true) true n 3 [e3] = some y3 := by simpa [Value.cells, cellsOf3] using hg 3 _ rfl
      have h4 : DataW.trod enc Tryz.prog W 0 (fun _ => true) true n 3 [e4] = some y4 := by simpa [Value.cells, cellsOf3] using hg 4 _ rfl
      have h5 : DataW.trod enc Tryz.prog W 0 (fun _ => true) true n 3 [e5] = some y5 := by simpa [Value.cells, cellsOf3] using hg 5 _ rfl
      obtain ⟨c1, g1, _, _⟩ := DataW.trod_int Tryz.underlying3 h1
      obtain ⟨c2, g2, _, _⟩ := DataW.trod_int Tryz.underlying3 h2
      obtain ⟨c3, g3, _, _⟩ := DataW.trod_int Tryz.underlying3 h3
      obtain ⟨c4, g4, _, _⟩ := DataW.trod_int Tryz.underlying3 h4
      obtain ⟨c5, g5, _, _⟩ := DataW.trod_int Tryz.underlying3 h5
      simp only [List.cons.injEq, and_true] at g1 g2 g3 g4 g5
      subst g1 g2 g3 g4 g5
      simp only [Prod.mk.injEq] at hx
      exact ⟨e0, y0, c1, c2, c3, c4, c5, n, _, rfl, by simpa using hx.1, h0⟩

theorem open_move {b0 : Nat} {v : Value} {d : DataW H} {ps : List MemPlace} (hv : Value.okWide Tryz.prog W .any b0 26 v) (h : DataW.Trod enc Tryz.prog W 0 (fun _ => true) true 26 v d ps) :
    ∃ (c1 c2 c3 : Int), v = .agg #[.int .i64 c1, .int .i64 c2, .int .i64 c3] := by
  obtain ⟨v0, v1, v2, y0, y1, y2, n, rfl, _, _, h0, h1, h2⟩ := open_agg3 Tryz.underlying26 (by kernel_rfl) (by kernel_rfl) hv h
  obtain ⟨c1, g1, _, _⟩ := DataW.trod_int Tryz.underlying3 h0
  obtain ⟨c2, g2, _, _⟩ := DataW.trod_int Tryz.underlying3 h1
  obtain ⟨c3, g3, _, _⟩ := DataW.trod_int Tryz.underlying3 h2
  simp only [List.cons.injEq, and_true] at g1 g2 g3
  subst g1 g2 g3
  exact ⟨c1, c2, c3, rfl⟩

/-- The places that came in: empty, or cells at an address; their bulk bounds the length. -/
theorem open_places {v0 : Value} {y0 : DataW H × List MemPlace} {fuel : Nat} (h : DataW.trod enc Tryz.prog W 0 (fun _ => true) true fuel 22 [v0] = some y0) (hlt : ∀ b v, W.cell? b = some v → b.block < W.heap.size) :
    ∃ (a : Option Addr) (n cap : Nat) (Z : Nat → Int), v0 = .slice a n cap ∧ BoardIn W a n Z ∧ n ≤ Rows.uptoBulk y0.1 ∧ ∀ i, -9223372036854775808 ≤ Z i ∧ Z i ≤ 9223372036854775807 := by
  rcases open_ints Tryz.underlying22 Tryz.underlying3 cellsOf3 h with ⟨hcs, hx⟩ | ⟨a, len, cap, zs, hcs, _, hl, hm, hz, hx, hcell, hwf⟩
  · simp only [List.cons.injEq, and_true] at hcs
    subst hcs
    exact ⟨none, 0, 0, fun _ => 0, rfl, .inl rfl, Nat.zero_le _, fun _ => by show -9223372036854775808 ≤ (0 : Int) ∧ (0 : Int) ≤ 9223372036854775807; omega⟩
  · simp only [List.cons.injEq, and_true] at hcs
    subst hcs
    simp only [if_true] at hz
    refine ⟨some a, len, cap, fun i => zs.getD i 0, rfl, ?_, ?_, fun i => ?_⟩
    · by_cases h0 : len = 0
      · exact .inl h0
      · obtain ⟨b, off, spot⟩ := a
        have hc0 := hcell 0 (by omega)
        have hspot : spot = none := by simpa [Addr.add] using World.cell?_spot hc0
        subst hspot
        refine .inr ⟨b, off, rfl, ?_, fun i hi => ?_⟩
        · have := hlt _ _ hc0
          simpa [Addr.add] using this
        · have := hcell i (by omega)
          rw [← this]
          by_cases hi0 : i = 0
          · subst hi0; simp [Addr.add]
          · simp [Addr.add, hi0]
    · rw [hx]
      simp only [Rows.uptoBulk]
      have hle : ∀ l : List (DataW H), l.length ≤ Rows.uptoBulkAll l := by
        intro l
        induction l with
        | nil => simp
        | cons d r ih =>
          simp only [Rows.uptoBulkAll, List.length_cons]
          have : 1 ≤ Rows.uptoBulk d := by
            cases d with
            | lit l => cases l <;> simp [Rows.uptoBulk]
            | _ => simp [Rows.uptoBulk]
          omega
      have := hle (lits .i64 (zs.take len))
      have hl2 : (lits (H := H) .i64 (zs.take len)).length = len := by simp [lits]; omega
      omega
    · by_cases hi : i < zs.length
      · have hmem : zs.getD i 0 ∈ zs := by rw [List.getD_eq_getElem?_getD, List.getElem?_eq_getElem hi]; exact List.getElem_mem hi
        have := hwf _ hmem
        simp only [Lit.wf, Bool.and_eq_true, decide_eq_true_eq] at this
        exact this
      · have : zs.getD i 0 = 0 := by rw [List.getD_eq_getElem?_getD, List.getElem?_eq_none (by omega)]; rfl
        show -9223372036854775808 ≤ zs.getD i 0 ∧ zs.getD i 0 ≤ 9223372036854775807
        rw [this]; omega
end

theorem cell_block {W : World} (b : Addr) (v : Value) (h : W.cell? b = some v) : b.block < W.heap.size := by
  unfold World.cell? at h
  rcases Nat.lt_or_ge b.block W.heap.size with h' | h'
  · exact h'
  · rw [Array.getElem?_eq_none h'] at h; cases h

theorem firstSame : Rows.laid_unicode_utf8_first = Lib.firstData := Pinned.utf8First_eq
theorem acceptSame : (Rows.laid_unicode_utf8_acceptRanges (H := Unit)) = Lib.acceptData := by kernel_rfl

set_option maxHeartbeats 2000000 in
/-- WHAT THE WALK GIVES AT THE FORM. -/
theorem contract (H : Type) (enc : TypeId × Value → H) (W : World) (base : Nat) (args : Array Value) (ds gs : List (DataW H)) (before : List MemPlace)
    (hval : ∀ (j : Nat) t v, Tryz.f3.params[j]? = some t → args[j]? = some v → Value.okWide Tryz.prog W .any base t v)
    (hW : DataW.Whole enc Tryz.prog Tryz.f3.params.toList Rows.notationWordsSpec.vars false W args.toList ds gs before)
    (hk : Rows.uptoSmall H (ds ++ gs) = true) (hL : laidMetH Tryz.prog Rows.notationWordsUptoRow.laid W) (hsh : W.ShapedOpen Tryz.prog) :
    Calls Tryz.prog 3 args W fun e W' => ∃ v, e = .returned v ∧ Rows.notationWordsSpec.post enc Tryz.prog Tryz.f3 false true false false W args v W' := by
  have hW' := hW
  obtain ⟨p, q, hA0, hV, rfl, hfz, hnd⟩ := hW
  have hA : DataW.TrodAll enc Tryz.prog W 0 (fun _ => true) true Tryz.f3.params.toList args.toList ds p := hA0
  rw [Tryz.params3] at hA hval
  obtain ⟨v0, vs0, d0, ds0, p0, q0, hargs, rfl, rfl, h0, r0⟩ := trodAll_cons hA
  obtain ⟨v1, vs1, d1, ds1, p1, q1, rfl, rfl, rfl, h1, r1⟩ := trodAll_cons r0
  obtain ⟨v2, vs2, d2, ds2, p2, q2, rfl, rfl, rfl, h2, r2⟩ := trodAll_cons r1
  obtain ⟨rfl, rfl, rfl⟩ := trodAll_nil r2
  obtain rfl : args = #[v0, v1, v2] := by cases args; simp_all
  obtain ⟨rfl, rfl⟩ := trodVars_none hV
  have hlt : ∀ x ∈ p0 ++ (p1 ++ (p2 ++ [])), x.block < W.heap.size := fun x hx => by simpa using hW'.lt x (by simpa using hx)
  obtain ⟨u0, y0, c1, c2, c3, c4, c5, n0, tl, rfl, hd0, hu0⟩ := open_chess (hval 0 24 v0 rfl rfl) h0
  obtain ⟨x, y, z, rfl⟩ := open_move (hval 1 26 v1 rfl rfl) h1
  obtain ⟨s, rfl, hd2, _, ws⟩ := open_string Tryz.underlying9 (hval 2 9 v2 rfl rfl) h2
  obtain ⟨a, n, cap, Z, rfl, hin, hnb, hwf⟩ := open_places hu0 cell_block
  have hB : Rows.uptoBulkAll ([d0, d1, d2] ++ []) ≤ 1048576 := of_decide_eq_true hk
  rw [hd0, hd2] at hB
  simp only [List.append_nil, Rows.uptoBulkAll, Rows.uptoBulk] at hB
  have hn : n ≤ 1048576 := by omega
  have hsl : s.data.toList.length ≤ 4000000 := by omega
  obtain ⟨m, hm⟩ : ∃ m, W.cell? ⟨0, 0, none⟩ = some (.int .i64 m) := Tryz.laysM155.s1_3 W hsh
  have hL2 : laidMet Tryz.prog Rows.notationWordsUptoRow.laid W := hL
  have hT : Lib.Utf8Tabs 1 2 W :=
    utf8Tabs_of_readsT (ρ := Tryz.lays230_ren) { Tryz.lays230 with } ⟨by kernel_rfl, by kernel_rfl, by kernel_rfl, by kernel_rfl, by kernel_rfl, by kernel_rfl, by kernel_rfl⟩
      (by rw [← firstSame]; exact Lib.laidMet.reads hL2 (.tail _ (.head _))) (by rw [← acceptSame]; exact Lib.laidMet.reads hL2 (.head _))
  have hlaw := law_all (a := a) (n := n) (cap := cap) (Z := Z) (p := { L := fun i => if n = 64 ∧ i < 64 then Z i else 0, turn := c1, castle := c2, ep := c3, half := c4, full := c5 }) x y z s.data.toList hin hn
    (fun h i hi => if_pos ⟨h, hi⟩) (fun i hi => if_neg (by omega)) (fun i => by
      show -9223372036854775808 ≤ (if n = 64 ∧ i < 64 then Z i else 0) ∧ (if n = 64 ∧ i < 64 then Z i else 0) ≤ 9223372036854775807
      split
      · exact hwf i
      · omega) hsl m hm hT
  have hstr : strV s.data.toList = .string s := by unfold strV; cases s; simp
  rw [hstr] at hlaw
  refine hlaw.mono ?_
  rintro e W' ⟨rfl, bel⟩
  have e1 : Rows.notationWordsSpec.fn H ([d0, d1, d2] ++ []) = { results := [.lit (.bool true)], args := [d0, d1, d2] } := rfl
  refine ⟨_, rfl, _, _, _, [], p0 ++ (p1 ++ (p2 ++ [])), [], hW', ?_, ?_, ?_, bel.frame _, fun h => by cases h⟩
  · rw [e1]; exact trodAll_cons_mk (shut_bool Tryz.underlying4 _) trodAll_mk0
  · rw [e1]
    exact trodAll_cons_mk (Below.trod laidOutP (by kernel_rfl) (of_decide_eq_true (by kernel_rfl)) h0 bel (fun x hx => hlt x (by simp [hx])))
      (trodAll_cons_mk (Below.trod laidOutP (by kernel_rfl) (of_decide_eq_true (by kernel_rfl)) h1 bel (fun x hx => hlt x (by simp [hx])))
        (trodAll_cons_mk (Below.trod laidOutP (by kernel_rfl) (of_decide_eq_true (by kernel_rfl)) h2 bel (fun x hx => hlt x (by simp [hx]))) trodAll_mk0))
  · rw [e1]; rfl

end Go.Proofs.YthffhhbbhjcdeaaGreatDoor
namespace Go.Proofs.YthffhhbbhjcdeaaGreatDoor
open Go.ChangeShapes Go.WideShapes Go.ChangeAt Go.RowKit
set_option maxRecDepth 100000

theorem own : ownKnob Tryz.prog.godebug = none := by kernel_rfl

/-- The arguments of the witness: an empty position, a move of noughts, an empty word. -/
noncomputable abbrev wordArgs : Array Value := #[.agg #[.slice none 0 0, .int .i64 0, .int .i64 0, .int .i64 0, .int .i64 0, .int .i64 0], .agg #[.int .i64 0, .int .i64 0, .int .i64 0], .string ⟨#[]⟩]

/-- A WORLD FOR THE WITNESS: the settled one, the two tables holding what the library's text lays. -/
noncomputable def laidWorld (os : Os) : World :=
  let w0 := World.holding Tryz.prog os ⟨#[], #[], []⟩
  let put (h : Array Obj) (g : Nat) (cs : Array Value) : Array Obj := h.modify g fun
    | .cells _ t frozen => .cells cs t frozen
    | o => o
  let h1 := put w0.heap 1 (Lib.firstTab.map fun z => Value.int .u8 z).toArray
  let h2 := put h1 2 ((List.range 16).flatMap fun i => [Value.int .u8 (Lib.accLo i), Value.int .u8 (Lib.accHi i)]).toArray
  { w0 with heap := h2 }

theorem laid_met (os : Os) : laidMet Tryz.prog Rows.notationWordsUptoRow.laid ((laidWorld os).forCall (fun _ _ => 0) ⟨#[], wordArgs, []⟩).memory :=
  laidMet_of_run' 8 (by kernel_rfl) (by kernel_rfl)

theorem word_reads (os : Os) {H : Type} (enc : TypeId × Value → H) :
    ∃ places, DataW.whole enc Tryz.prog ((laidWorld os).forCall (fun _ _ => 0) ⟨#[], wordArgs, []⟩).memory Tryz.f3.params.toList Rows.notationWordsSpec.vars false wordArgs.toList 8 =
      some ([.agg [.nil, .lit (.int .i64 0), .lit (.int .i64 0), .lit (.int .i64 0), .lit (.int .i64 0), .lit (.int .i64 0)], .agg [.lit (.int .i64 0), .lit (.int .i64 0), .lit (.int .i64 0)], .lit (.string [])], [], places) :=
  ⟨[], by kernel_rfl⟩

theorem liftedUpto (os : Os) (started : os.Started) (H : Type) (enc : TypeId × Value → H) (F : Stop.Interp) :
    ReturnsInHanded {} Tryz.checked os 3 .any ((Rows.OpenSpec.upto Rows.notationWordsSpec).preRow enc Tryz.prog Tryz.f3 Rows.notationWordsUptoRow.domain false Rows.notationWordsUptoRow.laid) (((Rows.OpenSpec.upto Rows.notationWordsSpec).at F).post enc Tryz.prog Tryz.f3 false true false false) := by
  obtain ⟨places, hx⟩ := word_reads os enc
  refine returnsInHanded_of_row (C := Tryz.checked) (s := Rows.OpenSpec.upto Rows.notationWordsSpec) own started (by kernel_rfl) Tryz.func3
    (witness_row_at (enc := enc) (C := Tryz.checked) false (laidWorld os) wordArgs rfl (by kernel_rfl) (by kernel_rfl) (by kernel_rfl)
      (OpenSpec.preRow_of_cond 8 hx (by kernel_rfl) (fun k hk => by cases hk; kernel_rfl) (by kernel_rfl) (laid_met os))) ?_
  intro W base args ds gs before hval hW _ hcond _ hL hsh _
  exact contract H enc W base args ds gs before hval hW (hcond _ rfl) hL hsh

theorem saidUpto : Rows.NotationWordsUptoSaid :=
  OpenClaim.holds_of_cond 3 Tryz.f3 rfl rfl rfl rfl rfl rfl rfl ⟨rfl, rfl, rfl, rfl, rfl⟩ rfl rfl rfl rfl rfl (by kernel_rfl) Tryz.func3 (by kernel_rfl)
    (of_decide_eq_true (by kernel_rfl)) (by unfold Func.isWrapper; first | (rw [if_pos (by decide +kernel)]; kernel_rfl) | (rw [if_neg (by decide +kernel)]; exact ⟨rfl, rfl⟩))
    (fun os started H enc _ F => by rw [OpenClaim.pre_eq_preRow]; exact liftedUpto os started H enc F)

theorem plainLooks (f : FuncId) (fn : Func) (hf : Tryz.pinned.checked.prog.funcNamed "gameroom/gameroomlaw.NotationWords" = some f) (hfn : Tryz.pinned.checked.prog.funcs[f]? = some fn) :
    false = Tryz.pinned.checked.prog.looks [] ∧ ∀ (j : Nat) t, fn.params[j]? = some t → Tryz.pinned.checked.prog.wantsStandIn t = false := by
  obtain rfl : f = 3 := Option.some.inj ((show Tryz.prog.funcNamed "gameroom/gameroomlaw.NotationWords" = some 3 by kernel_rfl).symm.trans hf) |>.symm
  obtain rfl : fn = Tryz.f3 := (Option.some.inj (Tryz.func3.symm.trans hfn)).symm
  refine ⟨by kernel_rfl, fun j t ht => ?_⟩
  rw [Tryz.params3] at ht
  have hm := Array.mem_of_getElem? ht
  simp only [List.mem_toArray, List.mem_cons, List.not_mem_nil, or_false] at hm
  rcases hm with rfl | rfl | rfl
  · exact (show Tryz.prog.wantsStandIn 24 = false by kernel_rfl)
  · exact (show Tryz.prog.wantsStandIn 26 = false by kernel_rfl)
  · exact (show Tryz.prog.wantsStandIn 9 = false by kernel_rfl)

/-- ████ THE SECOND FORM's CARD ████ -/
theorem notationWordsUpto_holds : Rows.NotationWordsUptoCardSaid :=
  Claim7.holds_tied_plain_at .later [] _ _ _ _ saidUpto (fun _ h => by cases h) (by kernel_rfl) (fun _ h => by cases h) notationWordsUpto_row_tie rfl ⟨rfl, rfl⟩ (by kernel_rfl) rfl plainLooks (by kernel_rfl)

#print axioms notationWordsUpto_holds
end Go.Proofs.YthffhhbbhjcdeaaGreatDoor
