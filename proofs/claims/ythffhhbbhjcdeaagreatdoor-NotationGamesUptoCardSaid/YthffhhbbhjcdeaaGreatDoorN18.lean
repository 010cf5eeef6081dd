/- The law NotationGames answers true of every input of bulk at most 1048576, and what came in reads as before: its contract at the form, and the card. The law NotationGames answers true of every input of bulk at most 1048576: the witness, and the card. -/
import Derived.Test.YthffhhbbhjcdeaaGreatDoorN15
import Derived.Test.YthffhhbbhjcdeaaGreatDoorE9
import Derived.Deep.Slices
import Derived.Test.YthffhhbbhjcdeaaGreatDoorCards
import Derived.Test.YthffhhbbhjcdeaaGreatDoorTie
set_option linter.unusedVariables false
set_option linter.unusedSimpArgs false
namespace Go.Proofs.YthffhhbbhjcdeaaGreatDoor
open Go.ChangeShapes Go.WideShapes Go.ChangeAt Go.RowKit Go.Joins Go.Deep
open Go.ChangeMaps (open_string shut_string)
set_option maxRecDepth 100000

section
variable {H : Type} {enc : TypeId × Value → H} {W : World}

theorem cellsOf26 : Tryz.prog.cellsOf 26 = 3 := by kernel_rfl
theorem move_cells {fuel : Nat} {cs : List Value} {x : DataW H × List MemPlace} (h : DataW.trod enc Tryz.prog W 0 (fun _ => true) true fuel 26 cs = some x) :
    ∃ (c1 c2 c3 : Int), cs = [.int .i64 c1, .int .i64 c2, .int .i64 c3] := by
  obtain ⟨xs, n, _, hx, hlc, hlen, hg⟩ := DataW.trod_struct Tryz.underlying26 h
  rw [cellsOf26] at hlc
  match cs, hlc with
  | [e0, e1, e2], _ =>
    match xs, hlen with
    | [y0, y1, y2], _ =>
      have h0 : DataW.trod enc Tryz.prog W 0 (fun _ => true) true n 3 [e0] = some y0 := by simpa [cellsOf3] using hg 0 _ rfl
      have h1 : DataW.trod enc Tryz.prog W 0 (fun _ => true) true n 3 [e1] = some y1 := by simpa [cellsOf3] using hg 1 _ rfl
      have h2 : DataW.trod enc Tryz.prog W 0 (fun _ => true) true n 3 [e2] = some y2 := by simpa [cellsOf3] using hg 2 _ rfl
      obtain ⟨c1, g1, _, _⟩ := DataW.trod_int Tryz.underlying3 h0
      obtain ⟨c2, g2, _, _⟩ := DataW.trod_int Tryz.underlying3 h1
      obtain ⟨c3, g3, _, _⟩ := DataW.trod_int Tryz.underlying3 h2
      simp only [List.cons.injEq, and_true] at g1 g2 g3
      subst g1 g2 g3
      exact ⟨c1, c2, c3, rfl⟩

theorem bulk_le : ∀ l : List (DataW H), l.length ≤ Rows.uptoBulkAll l := by
  intro l
  induction l with
  | nil => simp
  | cons d r ih =>
    simp only [Rows.uptoBulkAll, List.length_cons]
    have : 1 ≤ Rows.uptoBulk d := by
      cases d with
      | lit l => cases l <;> simp [Rows.uptoBulk]
      | _ => simp [Rows.uptoBulk]
    omega

/-- The moves that came in. -/
theorem open_moves {b0 : Nat} {v : Value} {d : DataW H} {ps : List MemPlace} (hv : Value.okWide Tryz.prog W .any b0 37 v) (h : DataW.Trod enc Tryz.prog W 0 (fun _ => true) true 37 v d ps) (hlt : ∀ b v, W.cell? b = some v → b.block < W.heap.size) :
    ∃ (al : Option Addr) (cl : Nat) (l : List (Int × Int × Int)), v = .slice al l.length cl ∧ TrIn W al l ∧ l.length ≤ Rows.uptoBulk d := by
  obtain ⟨a, len, cap, rfl⟩ := okWide_slice Tryz.underlying37 hv
  obtain ⟨fuel, hf⟩ := h
  rcases open_slice Tryz.underlying37 hf with ⟨hcs, hx⟩ | ⟨a', len', cap', m, n, D, Pl, hcs, hb, hl, hm, hmm, hx, hel⟩
  · have e : Value.slice a len cap = .slice none 0 0 := by simpa [Value.cells] using hcs
    cases e
    exact ⟨none, 0, [], rfl, .inl rfl, Nat.zero_le _⟩
  · have e : Value.slice a len cap = .slice (some a') len' cap' := by simpa [Value.cells] using hcs
    cases e
    simp only [if_true] at hmm
    subst hmm
    have hex : ∀ i, ∃ t : Int × Int × Int, i < len → W.cell? (a'.add (i * 3)) = some (.int .i64 t.1) ∧ W.cell? (a'.add (i * 3 + 1)) = some (.int .i64 t.2.1) ∧ W.cell? (a'.add (i * 3 + 2)) = some (.int .i64 t.2.2) := by
      intro i
      by_cases hi : i < len
      · obtain ⟨cs', h1, h2⟩ := hel i (by omega)
        rw [cellsOf26] at h1
        obtain ⟨c1, c2, c3, rfl⟩ := move_cells h2
        have hc := (World.cells?_some h1).2.2
        refine ⟨(c1, c2, c3), fun _ => ⟨?_, ?_, ?_⟩⟩
        · have := hc 0 (by omega); rw [add_add] at this; simpa using this
        · have := hc 1 (by omega); rw [add_add] at this; simpa using this
        · have := hc 2 (by omega); rw [add_add] at this; simpa using this
      · exact ⟨(0, 0, 0), fun h => absurd h hi⟩
    let T : Nat → Int × Int × Int := fun i => Classical.choose (hex i)
    have hT : ∀ i, i < len → W.cell? (a'.add (i * 3)) = some (.int .i64 (T i).1) ∧ W.cell? (a'.add (i * 3 + 1)) = some (.int .i64 (T i).2.1) ∧ W.cell? (a'.add (i * 3 + 2)) = some (.int .i64 (T i).2.2) := fun i => Classical.choose_spec (hex i)
    refine ⟨some a', m, (List.range len).map T, by rw [List.length_map, List.length_range], ?_, ?_⟩
    · by_cases h0 : len = 0
      · exact .inl (by rw [List.length_map, List.length_range]; exact h0)
      · obtain ⟨b, off, spot⟩ := a'
        have hc0 := (hT 0 (by omega)).1
        have hspot : spot = none := by simpa [Addr.add] using World.cell?_spot hc0
        subst hspot
        have hblk : b < W.heap.size := by
          have := hlt _ _ hc0
          simpa [Addr.add] using this
        have hadd : ∀ j, ((⟨b, off, none⟩ : Addr).add j) = ⟨b, off + j, none⟩ := fun j => by
          by_cases hj : j = 0
          · subst hj; simp [Addr.add]
          · simp [Addr.add, hj]
        refine .inr ⟨b, off, rfl, hblk, fun j hj => ?_⟩
        rw [List.length_map, List.length_range] at hj
        have hi : j / 3 < len := by omega
        have hat : trAt ((List.range len).map T) (j / 3) = T (j / 3) := by
          unfold trAt
          simp [hi]
        obtain ⟨g0, g1, g2⟩ := trCells_get ((List.range len).map T) (j / 3) (by rw [List.length_map, List.length_range]; exact hi)
        obtain ⟨h0, h1, h2⟩ := hT (j / 3) hi
        rw [hat] at g0 g1 g2
        rw [hadd] at h0 h1 h2
        have hcase : j % 3 = 0 ∨ j % 3 = 1 ∨ j % 3 = 2 := by omega
        rcases hcase with hr | hr | hr
        · have ej : j = j / 3 * 3 := by omega
          have ej' : j = 3 * (j / 3) := by omega
          rw [← ej] at h0
          rw [← ej'] at g0
          exact h0.trans g0.symm
        · have ej : j = j / 3 * 3 + 1 := by omega
          have ej' : j = 3 * (j / 3) + 1 := by omega
          rw [← ej] at h1
          rw [← ej'] at g1
          exact h1.trans g1.symm
        · have ej : j = j / 3 * 3 + 2 := by omega
          have ej' : j = 3 * (j / 3) + 2 := by omega
          rw [← ej] at h2
          rw [← ej'] at g2
          exact h2.trans g2.symm
    · have hd : d = .slice ((List.range len).map D) ((List.range (m - len)).map fun j => D (len + j)) := congrArg Prod.fst hx
      rw [hd, List.length_map, List.length_range]
      simp only [Rows.uptoBulk]
      have := bulk_le ((List.range len).map D)
      rw [List.length_map, List.length_range] at this
      omega
end

theorem pow10Only : Rows.notationGamesUptoRow.laid.filter (fun x => x.1 == "internal/strconv.uint64pow10") = [("internal/strconv.uint64pow10", Lib.tabData .u64 Lib.pow10Tab)] := by kernel_rfl

set_option maxHeartbeats 2000000 in
/-- WHAT THE WALK GIVES AT THE FORM. -/
theorem contractG (H : Type) (enc : TypeId × Value → H) (W : World) (base : Nat) (args : Array Value) (ds gs : List (DataW H)) (before : List MemPlace)
    (hval : ∀ (j : Nat) t v, Tryz.f4.params[j]? = some t → args[j]? = some v → Value.okWide Tryz.prog W .any base t v)
    (hW : DataW.Whole enc Tryz.prog Tryz.f4.params.toList Rows.notationGamesSpec.vars false W args.toList ds gs before)
    (hk : Rows.uptoSmall H (ds ++ gs) = true) (hL : laidMetH Tryz.prog Rows.notationGamesUptoRow.laid W) (hsh : W.ShapedOpen Tryz.prog) :
    Calls Tryz.prog 4 args W fun e W' => ∃ v, e = .returned v ∧ Rows.notationGamesSpec.post enc Tryz.prog Tryz.f4 false true false false W args v W' := by
  have hW' := hW
  obtain ⟨p, q, hA0, hV, rfl, hfz, hnd⟩ := hW
  have hA : DataW.TrodAll enc Tryz.prog W 0 (fun _ => true) true Tryz.f4.params.toList args.toList ds p := hA0
  rw [Tryz.params4] at hA hval
  obtain ⟨v0, vs0, d0, ds0, p0, q0, hargs, rfl, rfl, h0, r0⟩ := trodAll_cons hA
  obtain ⟨v1, vs1, d1, ds1, p1, q1, rfl, rfl, rfl, h1, r1⟩ := trodAll_cons r0
  obtain ⟨v2, vs2, d2, ds2, p2, q2, rfl, rfl, rfl, h2, r2⟩ := trodAll_cons r1
  obtain ⟨rfl, rfl, rfl⟩ := trodAll_nil r2
  obtain rfl : args = #[v0, v1, v2] := by cases args; simp_all
  obtain ⟨rfl, rfl⟩ := trodVars_none hV
  have hlt : ∀ x ∈ p0 ++ (p1 ++ (p2 ++ [])), x.block < W.heap.size := fun x hx => by simpa using hW'.lt x (by simpa using hx)
  obtain ⟨u0, y0, c1, c2, c3, c4, c5, n0, tl, rfl, hd0, hu0⟩ := open_chess (hval 0 24 v0 rfl rfl) h0
  obtain ⟨al, cl, l, rfl, hTr, hll⟩ := open_moves (hval 1 37 v1 rfl rfl) h1 cell_block
  obtain ⟨s, rfl, hd2, _, ws⟩ := open_string Tryz.underlying9 (hval 2 9 v2 rfl rfl) h2
  obtain ⟨a, n, cap, Z, rfl, hin, hnb, hwf⟩ := open_places hu0 cell_block
  have hB : Rows.uptoBulkAll ([d0, d1, d2] ++ []) ≤ 1048576 := of_decide_eq_true hk
  rw [hd0, hd2] at hB
  simp only [List.append_nil, Rows.uptoBulkAll, Rows.uptoBulk] at hB
  have hn : n ≤ 1048576 := by omega
  have hl : l.length ≤ 2000000 := by omega
  have hsl : s.data.toList.length ≤ 2000000 := by omega
  obtain ⟨m, hm⟩ : ∃ m, W.cell? ⟨0, 0, none⟩ = some (.int .i64 m) := Tryz.laysM155.s1_3 W hsh
  have hL2 : laidMet Tryz.prog Rows.notationGamesUptoRow.laid W := hL
  have hT : Lib.Utf8Tabs 1 2 W :=
    utf8Tabs_of_readsT (ρ := Tryz.lays230_ren) { Tryz.lays230 with } ⟨by kernel_rfl, by kernel_rfl, by kernel_rfl, by kernel_rfl, by kernel_rfl, by kernel_rfl, by kernel_rfl⟩
      (by rw [← firstSame]; exact Lib.laidMet.reads hL2 (.tail _ (.tail _ (.tail _ (.tail _ (.head _)))))) (by rw [← acceptSame]; exact Lib.laidMet.reads hL2 (.tail _ (.tail _ (.tail _ (.head _)))))
  have htab : Lib.TabIs Tryz.prog W "internal/strconv.uint64pow10" .u64 Lib.pow10Tab :=
    Lib.tabIs_of_head (g := 3) (t := 166) (e := 141) (n := 20) (by kernel_rfl) (by kernel_rfl) Tryz.underlying166 (by kernel_rfl) (by kernel_rfl) (by kernel_rfl) (by rw [← pow10Only]; exact laidMet.filter _ hL2)
  have hlaw := games_all (a := a) (n := n) (cap := cap) (Z := Z) (cl := cl) (p := { L := fun i => if n = 64 ∧ i < 64 then Z i else 0, turn := c1, castle := c2, ep := c3, half := c4, full := c5 }) s.data.toList hin hn
    (fun h i hi => if_pos ⟨h, hi⟩) (fun i hi => if_neg (by omega)) (fun i => by
      show -9223372036854775808 ≤ (if n = 64 ∧ i < 64 then Z i else 0) ∧ (if n = 64 ∧ i < 64 then Z i else 0) ≤ 9223372036854775807
      split
      · exact hwf i
      · omega) hl hTr hsl m hm hT htab
  have hstr : Value.string ⟨s.data.toList.toArray⟩ = .string s := by cases s; simp
  rw [hstr] at hlaw
  refine hlaw.mono ?_
  rintro e W' ⟨rfl, bel⟩
  have e1 : Rows.notationGamesSpec.fn H ([d0, d1, d2] ++ []) = { results := [.lit (.bool true)], args := [d0, d1, d2] } := rfl
  refine ⟨_, rfl, _, _, _, [], p0 ++ (p1 ++ (p2 ++ [])), [], hW', ?_, ?_, ?_, bel.frame _, fun h => by cases h⟩
  · rw [e1]; exact trodAll_cons_mk (shut_bool Tryz.underlying4 _) trodAll_mk0
  · rw [e1]
    exact trodAll_cons_mk (Below.trod laidOutP (by kernel_rfl) (of_decide_eq_true (by kernel_rfl)) h0 bel (fun x hx => hlt x (by simp [hx])))
      (trodAll_cons_mk (Below.trod laidOutP (by kernel_rfl) (of_decide_eq_true (by kernel_rfl)) h1 bel (fun x hx => hlt x (by simp [hx])))
        (trodAll_cons_mk (Below.trod laidOutP (by kernel_rfl) (of_decide_eq_true (by kernel_rfl)) h2 bel (fun x hx => hlt x (by simp [hx]))) trodAll_mk0))
  · rw [e1]; rfl

end Go.Proofs.YthffhhbbhjcdeaaGreatDoor
namespace Go.Proofs.YthffhhbbhjcdeaaGreatDoor
open Go.ChangeShapes Go.WideShapes Go.ChangeAt Go.RowKit
set_option maxRecDepth 100000

/-- The arguments of the witness: an empty position, no moves, an empty text. -/
noncomputable abbrev gameArgs : Array Value := #[.agg #[.slice none 0 0, .int .i64 0, .int .i64 0, .int .i64 0, .int .i64 0, .int .i64 0], .slice none 0 0, .string ⟨#[]⟩]

def cellsOfD : DataW Unit → Array Value
  | .agg l => (l.map fun d => match d with | .lit (.int k n) => Value.int k n | _ => undef).toArray
  | _ => #[]

/-- A WORLD FOR THE WITNESS: the settled one, the five tables holding what the library's text lays. -/
noncomputable def laidWorldG (os : Os) : World :=
  let w0 := World.holding Tryz.prog os ⟨#[], #[], []⟩
  let put (h : Array Obj) (g : Nat) (cs : Array Value) : Array Obj := h.modify g fun
    | .cells _ t frozen => .cells cs t frozen
    | o => o
  let h1 := put w0.heap 1 (Lib.firstTab.map fun z => Value.int .u8 z).toArray
  let h2 := put h1 2 ((List.range 16).flatMap fun i => [Value.int .u8 (Lib.accLo i), Value.int .u8 (Lib.accHi i)]).toArray
  let h3 := put h2 3 (cellsOfD Rows.laid_internal_strconv_uint64pow10)
  let h4 := put h3 4 (cellsOfD Rows.laid_math_bits_deBruijn32tab)
  let h5 := put h4 5 (cellsOfD Rows.laid_math_bits_deBruijn64tab)
  { w0 with heap := h5 }

theorem laidG_met (os : Os) : laidMet Tryz.prog Rows.notationGamesUptoRow.laid ((laidWorldG os).forCall (fun _ _ => 0) ⟨#[], gameArgs, []⟩).memory :=
  laidMet_of_run' 8 (by kernel_rfl) (by kernel_rfl)

theorem game_reads (os : Os) {H : Type} (enc : TypeId × Value → H) :
    ∃ places, DataW.whole enc Tryz.prog ((laidWorldG os).forCall (fun _ _ => 0) ⟨#[], gameArgs, []⟩).memory Tryz.f4.params.toList Rows.notationGamesSpec.vars false gameArgs.toList 8 =
      some ([.agg [.nil, .lit (.int .i64 0), .lit (.int .i64 0), .lit (.int .i64 0), .lit (.int .i64 0), .lit (.int .i64 0)], .nil, .lit (.string [])], [], places) :=
  ⟨[], by kernel_rfl⟩

theorem liftedUptoG (os : Os) (started : os.Started) (H : Type) (enc : TypeId × Value → H) (F : Stop.Interp) :
    ReturnsInHanded {} Tryz.checked os 4 .any ((Rows.OpenSpec.upto Rows.notationGamesSpec).preRow enc Tryz.prog Tryz.f4 Rows.notationGamesUptoRow.domain false Rows.notationGamesUptoRow.laid) (((Rows.OpenSpec.upto Rows.notationGamesSpec).at F).post enc Tryz.prog Tryz.f4 false true false false) := by
  obtain ⟨places, hx⟩ := game_reads os enc
  refine returnsInHanded_of_row (C := Tryz.checked) (s := Rows.OpenSpec.upto Rows.notationGamesSpec) own started (by kernel_rfl) Tryz.func4
    (witness_row_at (enc := enc) (C := Tryz.checked) false (laidWorldG os) gameArgs rfl (by kernel_rfl) (by kernel_rfl) (by kernel_rfl)
      (OpenSpec.preRow_of_cond 8 hx (by kernel_rfl) (fun k hk => by cases hk; kernel_rfl) (by kernel_rfl) (laidG_met os))) ?_
  intro W base args ds gs before hval hW _ hcond _ hL hsh _
  exact contractG H enc W base args ds gs before hval hW (hcond _ rfl) hL hsh

theorem saidUptoG : Rows.NotationGamesUptoSaid :=
  OpenClaim.holds_of_cond 4 Tryz.f4 rfl rfl rfl rfl rfl rfl rfl ⟨rfl, rfl, rfl, rfl, rfl⟩ rfl rfl rfl rfl rfl (by kernel_rfl) Tryz.func4 (by kernel_rfl)
    (of_decide_eq_true (by kernel_rfl)) (by unfold Func.isWrapper; first | (rw [if_pos (by decide +kernel)]; kernel_rfl) | (rw [if_neg (by decide +kernel)]; exact ⟨rfl, rfl⟩))
    (fun os started H enc _ F => by rw [OpenClaim.pre_eq_preRow]; exact liftedUptoG os started H enc F)

theorem plainLooksG (f : FuncId) (fn : Func) (hf : Tryz.pinned.checked.prog.funcNamed "gameroom/gameroomlaw.NotationGames" = some f) (hfn : Tryz.pinned.checked.prog.funcs[f]? = some fn) :
    false = Tryz.pinned.checked.prog.looks [] ∧ ∀ (j : Nat) t, fn.params[j]? = some t → Tryz.pinned.checked.prog.wantsStandIn t = false := by
  obtain rfl : f = 4 := Option.some.inj ((show Tryz.prog.funcNamed "gameroom/gameroomlaw.NotationGames" = some 4 by kernel_rfl).symm.trans hf) |>.symm
  obtain rfl : fn = Tryz.f4 := (Option.some.inj (Tryz.func4.symm.trans hfn)).symm
  refine ⟨by kernel_rfl, fun j t ht => ?_⟩
  rw [Tryz.params4] at ht
  have hm := Array.mem_of_getElem? ht
  simp only [List.mem_toArray, List.mem_cons, List.not_mem_nil, or_false] at hm
  rcases hm with rfl | rfl | rfl
  · exact (show Tryz.prog.wantsStandIn 24 = false by kernel_rfl)
  · exact (show Tryz.prog.wantsStandIn 37 = false by kernel_rfl)
  · exact (show Tryz.prog.wantsStandIn 9 = false by kernel_rfl)

/-- ████ THE SECOND FORM's CARD ████ -/
theorem notationGamesUpto_holds : Rows.NotationGamesUptoCardSaid :=
  Claim7.holds_tied_plain_at .later [] _ _ _ _ saidUptoG (fun _ h => by cases h) (by kernel_rfl) (fun _ h => by cases h) notationGamesUpto_row_tie rfl ⟨rfl, rfl⟩ (by kernel_rfl) rfl plainLooksG (by kernel_rfl)

#print axioms notationGamesUpto_holds
end Go.Proofs.YthffhhbbhjcdeaaGreatDoor
