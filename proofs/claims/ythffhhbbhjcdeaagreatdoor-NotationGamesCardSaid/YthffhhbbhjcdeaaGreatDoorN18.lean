/- The law NotationGames answers true of every input of bulk at most 1048576, and what came in reads as before: its contract at the form, and the card. The law NotationGames answers true of every input of bulk at most 1048576: the witness, and the card. WALKS: the law NotationGames answers true, however much came in: the walks of N3, N15 and A5 again, the bounds as the reach of the form gives them (2^47 bytes an argument). (Printed by wip/gen_n20.py.) The law NotationGames answers true of every input, and what came in reads as before: its contract at the form, the witness, the full card. (Printed by wip/gen_n21.py.) -/
import Derived.Test.YthffhhbbhjcdeaaGreatDoorN15
import Derived.Test.YthffhhbbhjcdeaaGreatDoorE9
import Derived.Deep.Slices
import Derived.Test.YthffhhbbhjcdeaaGreatDoorCards
import Derived.Test.YthffhhbbhjcdeaaGreatDoorTie
import Derived.SizedLaws
set_option linter.unusedVariables false
set_option linter.unusedSimpArgs false
namespace Go.Proofs.YthffhhbbhjcdeaaGreatDoor
open Go.ChangeShapes Go.WideShapes Go.ChangeAt Go.RowKit Go.Joins Go.Deep
open Go.ChangeMaps (open_string shut_string)
set_option maxRecDepth 100000

section
variable {H : Type} {enc : TypeId × Value → H} {W : World}

theorem cellsOf26 : Tryz.prog.cellsOf 26 = 3 := by kernel_rfl
theorem move_cells {fuel : Nat} {cs : List Value} {x : DataW H × List MemPlace} (h : DataW.trod enc Tryz.prog W 0 (fun _ => true) true fuel 26 cs = some x) :
    ∃ (c1 c2 c3 : Int), cs = [.int .i64 c1, .int .i64 c2, .int .i64 c3] := by
  obtain ⟨xs, n, _, hx, hlc, hlen, hg⟩ := DataW.trod_struct Tryz.underlying26 h
  rw [cellsOf26] at hlc
  match cs, hlc with
  | [e0, e1, e2], _ =>
    match xs, hlen with
    | [y0, y1, y2], _ =>
      have h0 : DataW.trod enc Tryz.prog W 0 (fun _ => true) true n 3 [e0] = some y0 := by simpa [cellsOf3] using hg 0 _ rfl
      have h1 : DataW.trod enc Tryz.prog W 0 (fun _ => true) true n 3 [e1] = some y1 := by simpa [cellsOf3] using hg 1 _ rfl
      have h2 : DataW.trod enc Tryz.prog W 0 (fun _ => true) true n 3 [e2] = some y2 := by simpa [cellsOf3] using hg 2 _ rfl
      obtain ⟨c1, g1, _, _⟩ := DataW.trod_int Tryz.underlying3 h0
      obtain ⟨c2, g2, _, _⟩ := DataW.trod_int Tryz.underlying3 h1
      obtain ⟨c3, g3, _, _⟩ := DataW.trod_int Tryz.underlying3 h2
      simp only [List.cons.injEq, and_true] at g1 g2 g3
      subst g1 g2 g3
      exact ⟨c1, c2, c3, rfl⟩

theorem bulk_le : ∀ l : List (DataW H), l.length ≤ Rows.uptoBulkAll l := by
  intro l
  induction l with
  | nil => simp
  | cons d r ih =>
    simp only [Rows.uptoBulkAll, List.length_cons]
    have : 1 ≤ Rows.uptoBulk d := by
      cases d with
      | lit l => cases l <;> simp [Rows.uptoBulk]
      | _ => simp [Rows.uptoBulk]
    omega

/-- The moves that came in. -/
theorem open_moves {b0 : Nat} {v : Value} {d : DataW H} {ps : List MemPlace} (hv : Value.okWide Tryz.prog W .any b0 37 v) (h : DataW.Trod enc Tryz.prog W 0 (fun _ => true) true 37 v d ps) (hlt : ∀ b v, W.cell? b = some v → b.block < W.heap.size) :
    ∃ (al : Option Addr) (cl : Nat) (l : List (Int × Int × Int)), v = .slice al l.length cl ∧ TrIn W al l ∧ l.length ≤ Rows.uptoBulk d := by
  obtain ⟨a, len, cap, rfl⟩ := okWide_slice Tryz.underlying37 hv
  obtain ⟨fuel, hf⟩ := h
  rcases open_slice Tryz.underlying37 hf with ⟨hcs, hx⟩ | ⟨a', len', cap', m, n, D, Pl, hcs, hb, hl, hm, hmm, hx, hel⟩
  · have e : Value.slice a len cap = .slice none 0 0 := by simpa [Value.cells] using hcs
    cases e
    exact ⟨none, 0, [], rfl, .inl rfl, Nat.zero_le _⟩
  · have e : Value.slice a len cap = .slice (some a') len' cap' := by simpa [Value.cells] using hcs
    cases e
    simp only [if_true] at hmm
    subst hmm
    have hex : ∀ i, ∃ t : Int × Int × Int, i < len → W.cell? (a'.add (i * 3)) = some (.int .i64 t.1) ∧ W.cell? (a'.add (i * 3 + 1)) = some (.int .i64 t.2.1) ∧ W.cell? (a'.add (i * 3 + 2)) = some (.int .i64 t.2.2) := by
      intro i
      by_cases hi : i < len
      · obtain ⟨cs', h1, h2⟩ := hel i (by omega)
        rw [cellsOf26] at h1
        obtain ⟨c1, c2, c3, rfl⟩ := move_cells h2
        have hc := (World.cells?_some h1).2.2
        refine ⟨(c1, c2, c3), fun _ => ⟨?_, ?_, ?_⟩⟩
        · have := hc 0 (by omega); rw [add_add] at this; simpa using this
        · have := hc 1 (by omega); rw [add_add] at this; simpa using this
        · have := hc 2 (by omega); rw [add_add] at this; simpa using this
      · exact ⟨(0, 0, 0), fun h => absurd h hi⟩
    let T : Nat → Int × Int × Int := fun i => Classical.choose (hex i)
    have hT : ∀ i, i < len → W.cell? (a'.add (i * 3)) = some (.int .i64 (T i).1) ∧ W.cell? (a'.add (i * 3 + 1)) = some (.int .i64 (T i).2.1) ∧ W.cell? (a'.add (i * 3 + 2)) = some (.int .i64 (T i).2.2) := fun i => Classical.choose_spec (hex i)
    refine ⟨some a', m, (List.range len).map T, by rw [List.length_map, List.length_range], ?_, ?_⟩
    · by_cases h0 : len = 0
      · exact .inl (by rw [List.length_map, List.length_range]; exact h0)
      · obtain ⟨b, off, spot⟩ := a'
        have hc0 := (hT 0 (by omega)).1
        have hspot : spot = none := by simpa [Addr.add] using World.cell?_spot hc0
        subst hspot
        have hblk : b < W.heap.size := by
          have := hlt _ _ hc0
          simpa [Addr.add] using this
        have hadd : ∀ j, ((⟨b, off, none⟩ : Addr).add j) = ⟨b, off + j, none⟩ := fun j => by
          by_cases hj : j = 0
          · subst hj; simp [Addr.add]
          · simp [Addr.add, hj]
        refine .inr ⟨b, off, rfl, hblk, fun j hj => ?_⟩
        rw [List.length_map, List.length_range] at hj
        have hi : j / 3 < len := by omega
        have hat : trAt ((List.range len).map T) (j / 3) = T (j / 3) := by
          unfold trAt
          simp [hi]
        obtain ⟨g0, g1, g2⟩ := trCells_get ((List.range len).map T) (j / 3) (by rw [List.length_map, List.length_range]; exact hi)
        obtain ⟨h0, h1, h2⟩ := hT (j / 3) hi
        rw [hat] at g0 g1 g2
        rw [hadd] at h0 h1 h2
        have hcase : j % 3 = 0 ∨ j % 3 = 1 ∨ j % 3 = 2 := by omega
        rcases hcase with hr | hr | hr
        · have ej : j = j / 3 * 3 := by omega
          have ej' : j = 3 * (j / 3) := by omega
          rw [← ej] at h0
          rw [← ej'] at g0
          exact h0.trans g0.symm
        · have ej : j = j / 3 * 3 + 1 := by omega
          have ej' : j = 3 * (j / 3) + 1 := by omega
          rw [← ej] at h1
          rw [← ej'] at g1
          exact h1.trans g1.symm
        · have ej : j = j / 3 * 3 + 2 := by omega
          have ej' : j = 3 * (j / 3) + 2 := by omega
          rw [← ej] at h2
          rw [← ej'] at g2
          exact h2.trans g2.symm
    · have hd : d = .slice ((List.range len).map D) ((List.range (m - len)).map fun j => D (len + j)) := congrArg Prod.fst hx
      rw [hd, List.length_map, List.length_range]
      simp only [Rows.uptoBulk]
      have := bulk_le ((List.range len).map D)
      rw [List.length_map, List.length_range] at this
      omega
end

theorem pow10Only : Rows.notationGamesUptoRow.laid.filter (fun x => x.1 == "internal/strconv.uint64pow10") = [("internal/strconv.uint64pow10", Lib.tabData .u64 Lib.pow10Tab)] := by kernel_rfl

set_option maxHeartbeats 2000000 in
/-- WHAT THE WALK GIVES AT THE FORM. -/
theorem contractG (H : Type) (enc : TypeId × Value → H) (W : World) (base : Nat) (args : Array Value) (ds gs : List (DataW H)) (before : List MemPlace)
    (hval : ∀ (j : Nat) t v, Tryz.f4.params[j]? = some t → args[j]? = some v → Value.okWide Tryz.prog W .any base t v)
    (hW : DataW.Whole enc Tryz.prog Tryz.f4.params.toList Rows.notationGamesSpec.vars false W args.toList ds gs before)
    (hk : Rows.uptoSmall H (ds ++ gs) = true) (hL : laidMetH Tryz.prog Rows.notationGamesUptoRow.laid W) (hsh : W.ShapedOpen Tryz.prog) :
    Calls Tryz.prog 4 args W fun e W' => ∃ v, e = .returned v ∧ Rows.notationGamesSpec.post enc Tryz.prog Tryz.f4 false true false false W args v W' := by
  have hW' := hW
  obtain ⟨p, q, hA0, hV, rfl, hfz, hnd⟩ := hW
  have hA : DataW.TrodAll enc Tryz.prog W 0 (fun _ => true) true Tryz.f4.params.toList args.toList ds p := hA0
  rw [Tryz.params4] at hA hval
  obtain ⟨v0, vs0, d0, ds0, p0, q0, hargs, rfl, rfl, h0, r0⟩ := trodAll_cons hA
  obtain ⟨v1, vs1, d1, ds1, p1, q1, rfl, rfl, rfl, h1, r1⟩ := trodAll_cons r0
  obtain ⟨v2, vs2, d2, ds2, p2, q2, rfl, rfl, rfl, h2, r2⟩ := trodAll_cons r1
  obtain ⟨rfl, rfl, rfl⟩ := trodAll_nil r2
  obtain rfl : args = #[v0, v1, v2] := by cases args; simp_all
  obtain ⟨rfl, rfl⟩ := trodVars_none hV
  have hlt : ∀ x ∈ p0 ++ (p1 ++ (p2 ++ [])), x.block < W.heap.size := fun x hx => by simpa using hW'.lt x (by simpa using hx)
  obtain ⟨u0, y0, c1, c2, c3, c4, c5, n0, tl, rfl, hd0, hu0⟩ := open_chess (hval 0 24 v0 rfl rfl) h0
  obtain ⟨al, cl, l, rfl, hTr, hll⟩ := open_moves (hval 1 37 v1 rfl rfl) h1 cell_block
  obtain ⟨s, rfl, hd2, _, ws⟩ := open_string Tryz.underlying9 (hval 2 9 v2 rfl rfl) h2
  obtain ⟨a, n, cap, Z, rfl, hin, hnb, hwf⟩ := open_places hu0 cell_block
  have hB : Rows.uptoBulkAll ([d0, d1, d2] ++ []) ≤ 1048576 := of_decide_eq_true hk
  rw [hd0, hd2] at hB
  simp only [List.append_nil, Rows.uptoBulkAll, Rows.uptoBulk] at hB
  have hn : n ≤ 1048576 := by omega
  have hl : l.length ≤ 2000000 := by omega
  have hsl : s.data.toList.length ≤ 2000000 := by omega
  obtain ⟨m, hm⟩ : ∃ m, W.cell? ⟨0, 0, none⟩ = some (.int .i64 m) := Tryz.laysM155.s1_3 W hsh
  have hL2 : laidMet Tryz.prog Rows.notationGamesUptoRow.laid W := hL
  have hT : Lib.Utf8Tabs 1 2 W :=
    utf8Tabs_of_readsT (ρ := Tryz.lays230_ren) { Tryz.lays230 with } ⟨by kernel_rfl, by kernel_rfl, by kernel_rfl, by kernel_rfl, by kernel_rfl, by kernel_rfl, by kernel_rfl⟩
      (by rw [← firstSame]; exact Lib.laidMet.reads hL2 (.tail _ (.tail _ (.tail _ (.tail _ (.head _)))))) (by rw [← acceptSame]; exact Lib.laidMet.reads hL2 (.tail _ (.tail _ (.tail _ (.head _)))))
  have htab : Lib.TabIs Tryz.prog W "internal/strconv.uint64pow10" .u64 Lib.pow10Tab :=
    Lib.tabIs_of_head (g := 3) (t := 166) (e := 141) (n := 20) (by kernel_rfl) (by kernel_rfl) Tryz.underlying166 (by kernel_rfl) (by kernel_rfl) (by kernel_rfl) (by rw [← pow10Only]; exact laidMet.filter _ hL2)
  have hlaw := games_all (a := a) (n := n) (cap := cap) (Z := Z) (cl := cl) (p := { L := fun i => if n = 64 ∧ i < 64 then Z i else 0, turn := c1, castle := c2, ep := c3, half := c4, full := c5 }) s.data.toList hin hn
    (fun h i hi => if_pos ⟨h, hi⟩) (fun i hi => if_neg (by omega)) (fun i => by
      show -9223372036854775808 ≤ (if n = 64 ∧ i < 64 then Z i else 0) ∧ (if n = 64 ∧ i < 64 then Z i else 0) ≤ 9223372036854775807
      split
      · exact hwf i
      · omega) hl hTr hsl m hm hT htab
  have hstr : Value.string ⟨s.data.toList.toArray⟩ = .string s := by cases s; simp
  rw [hstr] at hlaw
  refine hlaw.mono ?_
  rintro e W' ⟨rfl, bel⟩
  have e1 : Rows.notationGamesSpec.fn H ([d0, d1, d2] ++ []) = { results := [.lit (.bool true)], args := [d0, d1, d2] } := rfl
  refine ⟨_, rfl, _, _, _, [], p0 ++ (p1 ++ (p2 ++ [])), [], hW', ?_, ?_, ?_, bel.frame _, fun h => by cases h⟩
  · rw [e1]; exact trodAll_cons_mk (shut_bool Tryz.underlying4 _) trodAll_mk0
  · rw [e1]
    exact trodAll_cons_mk (Below.trod laidOutP (by kernel_rfl) (of_decide_eq_true (by kernel_rfl)) h0 bel (fun x hx => hlt x (by simp [hx])))
      (trodAll_cons_mk (Below.trod laidOutP (by kernel_rfl) (of_decide_eq_true (by kernel_rfl)) h1 bel (fun x hx => hlt x (by simp [hx])))
        (trodAll_cons_mk (Below.trod laidOutP (by kernel_rfl) (of_decide_eq_true (by kernel_rfl)) h2 bel (fun x hx => hlt x (by simp [hx]))) trodAll_mk0))
  · rw [e1]; rfl

end Go.Proofs.YthffhhbbhjcdeaaGreatDoor
namespace Go.Proofs.YthffhhbbhjcdeaaGreatDoor
open Go.ChangeShapes Go.WideShapes Go.ChangeAt Go.RowKit
set_option maxRecDepth 100000

/-- The arguments of the witness: an empty position, no moves, an empty text. -/
noncomputable abbrev gameArgs : Array Value := #[.agg #[.slice none 0 0, .int .i64 0, .int .i64 0, .int .i64 0, .int .i64 0, .int .i64 0], .slice none 0 0, .string ⟨#[]⟩]

def cellsOfD : DataW Unit → Array Value
  | .agg l => (l.map fun d => match d with | .lit (.int k n) => Value.int k n | _ => undef).toArray
  | _ => #[]

/-- A WORLD FOR THE WITNESS: the settled one, the five tables holding what the library's text lays. -/
noncomputable def laidWorldG (os : Os) : World :=
  let w0 := World.holding Tryz.prog os ⟨#[], #[], []⟩
  let put (h : Array Obj) (g : Nat) (cs : Array Value) : Array Obj := h.modify g fun
    | .cells _ t frozen => .cells cs t frozen
    | o => o
  let h1 := put w0.heap 1 (Lib.firstTab.map fun z => Value.int .u8 z).toArray
  let h2 := put h1 2 ((List.range 16).flatMap fun i => [Value.int .u8 (Lib.accLo i), Value.int .u8 (Lib.accHi i)]).toArray
  let h3 := put h2 3 (cellsOfD Rows.laid_internal_strconv_uint64pow10)
  let h4 := put h3 4 (cellsOfD Rows.laid_math_bits_deBruijn32tab)
  let h5 := put h4 5 (cellsOfD Rows.laid_math_bits_deBruijn64tab)
  { w0 with heap := h5 }

theorem laidG_met (os : Os) : laidMet Tryz.prog Rows.notationGamesUptoRow.laid ((laidWorldG os).forCall (fun _ _ => 0) ⟨#[], gameArgs, []⟩).memory :=
  laidMet_of_run' 8 (by kernel_rfl) (by kernel_rfl)

theorem game_reads (os : Os) {H : Type} (enc : TypeId × Value → H) :
    ∃ places, DataW.whole enc Tryz.prog ((laidWorldG os).forCall (fun _ _ => 0) ⟨#[], gameArgs, []⟩).memory Tryz.f4.params.toList Rows.notationGamesSpec.vars false gameArgs.toList 8 =
      some ([.agg [.nil, .lit (.int .i64 0), .lit (.int .i64 0), .lit (.int .i64 0), .lit (.int .i64 0), .lit (.int .i64 0)], .nil, .lit (.string [])], [], places) :=
  ⟨[], by kernel_rfl⟩

theorem liftedUptoG (os : Os) (started : os.Started) (H : Type) (enc : TypeId × Value → H) (F : Stop.Interp) :
    ReturnsInHanded {} Tryz.checked os 4 .any ((Rows.OpenSpec.upto Rows.notationGamesSpec).preRow enc Tryz.prog Tryz.f4 Rows.notationGamesUptoRow.domain false Rows.notationGamesUptoRow.laid) (((Rows.OpenSpec.upto Rows.notationGamesSpec).at F).post enc Tryz.prog Tryz.f4 false true false false) := by
  obtain ⟨places, hx⟩ := game_reads os enc
  refine returnsInHanded_of_row (C := Tryz.checked) (s := Rows.OpenSpec.upto Rows.notationGamesSpec) own started (by kernel_rfl) Tryz.func4
    (witness_row_at (enc := enc) (C := Tryz.checked) false (laidWorldG os) gameArgs rfl (by kernel_rfl) (by kernel_rfl) (by kernel_rfl)
      (OpenSpec.preRow_of_cond 8 hx (by kernel_rfl) (fun k hk => by cases hk; kernel_rfl) (by kernel_rfl) (laidG_met os))) ?_
  intro W base args ds gs before hval hW _ hcond _ hL hsh _
  exact contractG H enc W base args ds gs before hval hW (hcond _ rfl) hL hsh

theorem saidUptoG : Rows.NotationGamesUptoSaid :=
  OpenClaim.holds_of_cond 4 Tryz.f4 rfl rfl rfl rfl rfl rfl rfl ⟨rfl, rfl, rfl, rfl, rfl⟩ rfl rfl rfl rfl rfl (by kernel_rfl) Tryz.func4 (by kernel_rfl)
    (of_decide_eq_true (by kernel_rfl)) (by unfold Func.isWrapper; first | (rw [if_pos (by decide +kernel)]; kernel_rfl) | (rw [if_neg (by decide +kernel)]; exact ⟨rfl, rfl⟩))
    (fun os started H enc _ F => by rw [OpenClaim.pre_eq_preRow]; exact liftedUptoG os started H enc F)

theorem plainLooksG (f : FuncId) (fn : Func) (hf : Tryz.pinned.checked.prog.funcNamed "gameroom/gameroomlaw.NotationGames" = some f) (hfn : Tryz.pinned.checked.prog.funcs[f]? = some fn) :
    false = Tryz.pinned.checked.prog.looks [] ∧ ∀ (j : Nat) t, fn.params[j]? = some t → Tryz.pinned.checked.prog.wantsStandIn t = false := by
  obtain rfl : f = 4 := Option.some.inj ((show Tryz.prog.funcNamed "gameroom/gameroomlaw.NotationGames" = some 4 by kernel_rfl).symm.trans hf) |>.symm
  obtain rfl : fn = Tryz.f4 := (Option.some.inj (Tryz.func4.symm.trans hfn)).symm
  refine ⟨by kernel_rfl, fun j t ht => ?_⟩
  rw [Tryz.params4] at ht
  have hm := Array.mem_of_getElem? ht
  simp only [List.mem_toArray, List.mem_cons, List.not_mem_nil, or_false] at hm
  rcases hm with rfl | rfl | rfl
  · exact (show Tryz.prog.wantsStandIn 24 = false by kernel_rfl)
  · exact (show Tryz.prog.wantsStandIn 37 = false by kernel_rfl)
  · exact (show Tryz.prog.wantsStandIn 9 = false by kernel_rfl)

/-- ████ THE SECOND FORM's CARD ████ -/
theorem notationGamesUpto_holds : Rows.NotationGamesUptoCardSaid :=
  Claim7.holds_tied_plain_at .later [] _ _ _ _ saidUptoG (fun _ h => by cases h) (by kernel_rfl) (fun _ h => by cases h) notationGamesUpto_row_tie rfl ⟨rfl, rfl⟩ (by kernel_rfl) rfl plainLooksG (by kernel_rfl)

#print axioms notationGamesUpto_holds
end Go.Proofs.YthffhhbbhjcdeaaGreatDoor
namespace Go.Proofs.YthffhhbbhjcdeaaGreatDoor
open Go.RowKit
set_option maxRecDepth 100000

set_option maxHeartbeats 1000000 in
theorem ints_big (b off n cap : Nat) (Z : Nat → Int) (w : World) (hn : n ≤ 17592186044416) (hc : ∀ i, i < n → w.cell? ⟨b, off + i, none⟩ = some (.int .i64 (Z i))) :
    Calls Tryz.prog 23 #[.slice (some ⟨b, off, none⟩) n cap] w fun e w' => ∃ v, e = .returned v ∧ w'.ownsRow w.heap.size 3 1 v n (intsV Z n) ∧ Below w.heap.size w w' := by
  obtain ⟨i0, hi, hz0, hz1, hz2⟩ := info_parts Tryz.info3
  have HC := Lib.hid hc
  clear hc
  go_enter Tryz.func23, Tryz.ntmps23
  go_wp2_with (at_builtin; refine wpList_append_own _ rfl _ _ 22 rfl w.heap.size 3 i0 (.int .i64 0) 1 8 Tryz.underlying22 hi hz0 hz1 hz2 rfl (by decide) _ _ _ rfl (World.ownsRow_nil _ _ _ _) ⟨b, off, none⟩ n cap (intsV Z n) rfl ?c0 ?c1 ?c2 ?c3 ?c4 ?c5 ?_)
  case c0 => simp [intsV]
  case c1 =>
    intro j u hj
    have hjn : j < n := by have := (List.getElem?_eq_some_iff.1 hj).1; simpa [intsV] using this
    simp [intsV, hjn] at hj
    subst hj
    have := HC.out j hjn
    by_cases h0 : j = 0
    · subst h0; simpa [Addr.add] using this
    · simpa [Addr.add, h0] using this
  case c2 => intro u hu; simp [intsV] at hu; obtain ⟨a, _, rfl⟩ := hu; rfl
  case c3 => unfold maxLen; omega
  case c4 => omega
  case c5 => exact Nat.le_refl _
  intro v' w1 hown' hgrow _
  have hb1 : Below w.heap.size w w1 := (Below.refl _ w).grown hgrow (Nat.le_refl _) (fun k hk => by cases hk)
  clear hgrow
  go_wp2
  go_ret
  exact ⟨_, rfl, by simpa using hown', hb1⟩

set_option maxHeartbeats 1000000 in
theorem chessOf_big (b off n cap : Nat) (Z : Nat → Int) (c1 c2 c3 c4 c5 : Int) (w : World) (hlt : b < w.heap.size) (hn : n ≤ 17592186044416) (hc : ∀ i, i < n → w.cell? ⟨b, off + i, none⟩ = some (.int .i64 (Z i))) :
    Calls Tryz.prog 6 #[.agg #[.slice (some ⟨b, off, none⟩) n cap, .int .i64 c1, .int .i64 c2, .int .i64 c3, .int .i64 c4, .int .i64 c5]] w fun e w' =>
      ∃ v, e = .returned (.agg #[v, .int .i64 c1, .int .i64 c2, .int .i64 c3, .int .i64 c4, .int .i64 c5]) ∧ w'.ownsRow (w.heap.size + 2) 3 1 v n (intsV Z n) ∧ Below w.heap.size w w' := by
  have HC := Lib.hid hc
  clear hc
  go_enter Tryz.func6, Tryz.ntmps6
  go_upto_region 1 with fail
  generalize hW0 : World.alloc _ _ = W0
  have hP : Blk W0 w.heap.size #[.slice (some ⟨b, off, none⟩) n cap, .int .i64 c1, .int .i64 c2, .int .i64 c3, .int .i64 c4, .int .i64 c5] := by rw [← hW0]; exact (Blk.new w _ _).alloc _
  have hR : Blk W0 (w.heap.size + 1) #[.slice none 0 0, .int .i64 0, .int .i64 0, .int .i64 0, .int .i64 0, .int .i64 0] := by rw [← hW0]; exact Blk.new' (by simp) _ _
  have hb : Below w.heap.size w W0 := by rw [← hW0]; exact ((Below.refl _ _).alloc (Nat.le_refl _) _).alloc (by simp) _
  have hsz : W0.heap.size = w.heap.size + 2 := by rw [← hW0]; simp
  clear hW0
  have HP := Lib.hid hP
  have HR := Lib.hid hR
  have HZ := Lib.hid hsz
  have p0 := hP.cell (o := 0) rfl
  clear hP hR hsz
  go_cut [] (fun wx => ∃ v, Blk wx w.heap.size #[v, .int .i64 c1, .int .i64 c2, .int .i64 c3, .int .i64 c4, .int .i64 c5] ∧ Blk wx (w.heap.size + 1) #[.slice none 0 0, .int .i64 0, .int .i64 0, .int .i64 0, .int .i64 0, .int .i64 0] ∧ wx.ownsRow (w.heap.size + 2) 3 1 v n (intsV Z n) ∧ Below w.heap.size w wx)
  case first =>
    go_wp2_with fail
    refine (ints_big b off n cap Z _ hn (fun i hi => ?_)).mono ?_
    · exact (hb.cell (p := ⟨b, off + i, none⟩) hlt).trans (HC.out i hi)
    rintro e w1 ⟨v, rfl, hown, hb1⟩
    obtain ⟨a, cp, rfl⟩ := ownsRow_slice hown
    rw [HZ.out] at hown hb1
    have hP1 := HP.out.below hb1 (by omega)
    have hR1 := HR.out.below hb1 (by omega)
    have q0 := hP1.cell (o := 0) rfl
    have f0 := hP1.free 0
    go_wp2
    go_meet
    refine ⟨_, hP1.set 0 _, hR1.other (by omega) _ _, ownsRow_setCell_below hown (by simp) _, (hb.trans (hb1.mono (by omega))).setCell (by simp) _⟩
  case rest =>
  obtain ⟨v, hP1, hR1, hown, hb1⟩ := hcut
  obtain ⟨a, cp, rfl⟩ := ownsRow_slice hown
  go_upto_region 2 with fail
  go_cut [] (fun wx => Blk wx (w.heap.size + 1) #[.slice a n cp, .int .i64 c1, .int .i64 c2, .int .i64 c3, .int .i64 c4, .int .i64 c5] ∧ wx.ownsRow (w.heap.size + 2) 3 1 (.slice a n cp) n (intsV Z n) ∧ Below w.heap.size w wx)
  case first =>
    have p0 := hP1.cell (o := 0) rfl
    have p1 := hP1.cell (o := 1) rfl
    have p2 := hP1.cell (o := 2) rfl
    have p3 := hP1.cell (o := 3) rfl
    have p4 := hP1.cell (o := 4) rfl
    have p5 := hP1.cell (o := 5) rfl
    have r0 := hR1.cell (o := 0) rfl
    have r1 := hR1.cell (o := 1) rfl
    have r2 := hR1.cell (o := 2) rfl
    have r3 := hR1.cell (o := 3) rfl
    have r4 := hR1.cell (o := 4) rfl
    have r5 := hR1.cell (o := 5) rfl
    have f0 := hR1.free 0
    have f1 := hR1.free 1
    have f2 := hR1.free 2
    have f3 := hR1.free 3
    have f4 := hR1.free 4
    have f5 := hR1.free 5
    go_wp2
    go_meet
    refine ⟨(((((hR1.set 0 _).set 1 _).set 2 _).set 3 _).set 4 _).set 5 _, ?_, ?_⟩
    · iterate 6 refine ownsRow_setCell_below ?_ (by simp) _
      exact hown
    · iterate 6 refine Below.setCell ?_ (by simp) _
      exact hb1
  case rest =>
  obtain ⟨hR2, hown2, hb2⟩ := hcut
  go_wp2
  exact bodyPost_ret (ret_chess rfl rfl hR2) rfl ⟨_, rfl, hown2, hb2⟩

theorem chessOf_inB {a : Option Addr} {n cap : Nat} {Z : Nat → Int} {p : Pos} {w : World} (hin : BoardIn w a n Z) (hn : n ≤ 17592186044416) (hL : n = 64 → ∀ i, i < 64 → p.L i = Z i) :
    Calls Tryz.prog 6 #[.agg #[.slice a n cap, .int .i64 p.turn, .int .i64 p.castle, .int .i64 p.ep, .int .i64 p.half, .int .i64 p.full]] w fun e w' =>
      ∃ a' cap', e = .returned (.agg #[.slice a' n cap', .int .i64 p.turn, .int .i64 p.castle, .int .i64 p.ep, .int .i64 p.half, .int .i64 p.full]) ∧ (n = 64 → ∃ b off, a' = some ⟨b, off, none⟩ ∧ BrdA w' b off p.L) ∧ Below w.heap.size w w' := by
  rcases hin with h | ⟨b, off, rfl, hlt, hc⟩
  · subst h
    refine (chessOf_zero a cap _ _ _ _ _ w).mono ?_
    rintro e w' ⟨rfl, hb⟩
    exact ⟨_, _, rfl, fun h => absurd h (by decide), hb⟩
  · refine (chessOf_big b off n cap Z _ _ _ _ _ w hlt hn hc).mono ?_
    rintro e w' ⟨v, rfl, hown, hb⟩
    obtain ⟨a', cp, rfl⟩ := ownsRow_slice hown
    exact ⟨_, _, rfl, fun h => row_brd hown h (hL h), hb⟩

set_option maxHeartbeats 1000000 in
theorem list_big (a : Option Addr) (cap : Nat) (l : List (Int × Int × Int)) (w : World) (hl : l.length * 24 ≤ 140737488355328) (hr : l.length = 0 ∨ ∃ b off, a = some ⟨b, off, none⟩ ∧ TrRow w b off l) :
    Calls Tryz.prog 15 #[.slice a l.length cap] w fun e w' => ∃ v, e = .returned v ∧ w'.ownsRow w.heap.size 26 3 v l.length (trCells l) ∧ Below w.heap.size w w' := by
  obtain ⟨i0, hi0, hz0, hz1, hz2⟩ := info_parts Tryz.info26
  have hcl := trCells_length l
  by_cases ha : a = none
  · subst ha
    have h0 : l.length = 0 := by
      rcases hr with h | ⟨b, off, h, _⟩
      · exact h
      · cases h
    obtain rfl : l = [] := List.eq_nil_of_length_eq_zero h0
    go_enter Tryz.func15, Tryz.ntmps15
    go_wp2
    go_ret
    exact ⟨_, rfl, World.ownsRow_nil _ _ _ _, Below.refl _ _⟩
  · obtain ⟨⟨b, off, sp⟩, rfl⟩ := Option.ne_none_iff_exists'.1 ha
    have hnews : ∀ j u, (trCells l)[j]? = some u → w.cell? ((⟨b, off, sp⟩ : Addr).add j) = some u := by
      intro j u hj
      have hj2 := (List.getElem?_eq_some_iff.1 hj).1
      rcases hr with h | ⟨b', off', h, hR⟩
      · omega
      · cases h
        have e := (hR.cell j (by omega)).trans hj
        by_cases hj0 : j = 0
        · subst hj0
          simpa [Addr.add] using e
        · simpa [Addr.add, hj0] using e
    go_enter Tryz.func15, Tryz.ntmps15
    go_wp2_with (at_builtin; refine wpList_append_own _ rfl _ _ 37 rfl w.heap.size 26 i0 (.agg #[.int .i64 0, .int .i64 0, .int .i64 0]) 3 24 Tryz.underlying37 hi0 hz0 hz1 hz2 rfl (by decide) _ 0 [] rfl (World.ownsRow_nil _ _ _ _) ⟨b, off, sp⟩ l.length cap (trCells l) rfl hcl hnews trCells_one ?c3 ?c4 ?c5 ?_)
    case c3 => unfold maxLen; omega
    case c4 => omega
    case c5 => omega
    intro v' w1 hown' hgrow _
    have hb : Below w.heap.size w w1 := (Below.refl _ _).grown hgrow (Nat.le_refl _) fun k hk => by cases hk
    clear hgrow
    go_wp2
    go_ret
    exact ⟨_, rfl, by simpa using hown', hb⟩

theorem listTr_big {al : Option Addr} {cl : Nat} {l : List (Int × Int × Int)} {w : World} (hl : l.length * 24 ≤ 140737488355328) (hr : TrIn w al l) :
    Calls Tryz.prog 15 #[.slice al l.length cl] w fun e w' => ∃ a' c', e = .returned (.slice a' l.length c') ∧ TrIn w' a' l ∧ Below w.heap.size w w' := by
  refine (list_big al cl l w hl hr).mono ?_
  rintro e w' ⟨v, rfl, hown, hb⟩
  obtain ⟨a', c', rfl, h⟩ := owns_tr hown
  refine ⟨a', c', rfl, ?_, hb⟩
  rcases h with h | ⟨b, e, hr⟩
  · exact .inl h
  · exact .inr ⟨b, 0, e, hr⟩

set_option maxHeartbeats 4000000 in
theorem mayProg_ne (a : Option Addr) (n cap : Nat) (p : Pos) (w : World) (hn : n ≠ 64) :
    Calls Tryz.prog 34 #[.agg #[.slice a n cap, .int .i64 p.turn, .int .i64 p.castle, .int .i64 p.ep, .int .i64 p.half, .int .i64 p.full]] w (RetB (.bool false) w) := by
  have hi : ¬ ((n : Int) = 64) := by omega
  go_enter Tryz.func34, Tryz.ntmps34
  go_upto_region 1 with fail
  generalize hW0 : World.alloc _ _ = W0
  have hP : Blk W0 w.heap.size #[.slice a n cap, .int .i64 p.turn, .int .i64 p.castle, .int .i64 p.ep, .int .i64 p.half, .int .i64 p.full] := by rw [← hW0]; exact Blk.new w _ _
  have hbw : Below w.heap.size w W0 := by rw [← hW0]; exact (Below.refl _ _).alloc (Nat.le_refl _) _
  clear hW0
  have p0 := hP.cell (o := 0) rfl
  go_wp2
  go_ret
  exact ⟨rfl, hbw⟩

set_option maxHeartbeats 4000000 in
theorem chessMay_ne (a : Option Addr) (n cap : Nat) (p : Pos) (w : World) (hn : n ≠ 64) :
    Calls Tryz.prog 8 #[.agg #[.slice a n cap, .int .i64 p.turn, .int .i64 p.castle, .int .i64 p.ep, .int .i64 p.half, .int .i64 p.full]] w (RetB (.bool false) w) := by
  have hi : ¬ ((n : Int) = 64) := by omega
  go_enter Tryz.func8, Tryz.ntmps8
  go_upto_region 1 with fail
  generalize hW0 : World.alloc _ _ = W0
  have hP : Blk W0 w.heap.size #[.slice a n cap, .int .i64 p.turn, .int .i64 p.castle, .int .i64 p.ep, .int .i64 p.half, .int .i64 p.full] := by rw [← hW0]; exact Blk.new w _ _
  have hbw : Below w.heap.size w W0 := by rw [← hW0]; exact (Below.refl _ _).alloc (Nat.le_refl _) _
  clear hW0
  have p0 := hP.cell (o := 0) rfl
  go_wp2
  go_ret
  exact ⟨rfl, hbw⟩

theorem mayProg_false (a : Option Addr) (n cap : Nat) (p : Pos) (w : World) (hrow : n = 64 → ∃ b off, a = some ⟨b, off, none⟩ ∧ BrdA w b off p.L) (hbd : ∀ i, 64 ≤ i → p.L i = 0) (hwf : ∀ i, -9223372036854775808 ≤ p.L i ∧ p.L i ≤ 9223372036854775807) (hm : mayB n p = false) :
    Calls Tryz.prog 34 #[.agg #[.slice a n cap, .int .i64 p.turn, .int .i64 p.castle, .int .i64 p.ep, .int .i64 p.half, .int .i64 p.full]] w (RetB (.bool false) w) := by
  by_cases h : n = 64
  · exact hm ▸ mayProg_any a n cap p w (by omega) hrow hbd hwf
  · exact mayProg_ne a n cap p w h
theorem chessMay_false (a : Option Addr) (n cap : Nat) (p : Pos) (w : World) (hrow : n = 64 → ∃ b off, a = some ⟨b, off, none⟩ ∧ BrdA w b off p.L) (hbd : ∀ i, 64 ≤ i → p.L i = 0) (hm : mayB n p = false) :
    Calls Tryz.prog 8 #[.agg #[.slice a n cap, .int .i64 p.turn, .int .i64 p.castle, .int .i64 p.ep, .int .i64 p.half, .int .i64 p.full]] w (RetB (.bool false) w) := by
  by_cases h : n = 64
  · exact hm ▸ chessMay_any a n cap p w (by omega) hrow hbd
  · exact chessMay_ne a n cap p w h

section
variable (a : Option Addr) (n cap : Nat) (p : Pos) (w : World)

set_option maxHeartbeats 4000000 in
theorem tellP_noB (al : Option Addr) (nl cl : Nat) (hrow : n = 64 → ∃ b off, a = some ⟨b, off, none⟩ ∧ BrdA w b off p.L) (hbd : ∀ i, 64 ≤ i → p.L i = 0) (hwf : ∀ i, -9223372036854775808 ≤ p.L i ∧ p.L i ≤ 9223372036854775807) (hm : mayB n p = false) :
    Calls Tryz.prog 14 #[.agg #[.slice a n cap, .int .i64 p.turn, .int .i64 p.castle, .int .i64 p.ep, .int .i64 p.half, .int .i64 p.full], .slice al nl cl] w (RetB (.tuple #[strV [], .int .i64 12]) w) := by
  have hN : ∀ w1, Below w.heap.size w w1 → Calls Tryz.prog 34 #[.agg #[.slice a n cap, .int .i64 p.turn, .int .i64 p.castle, .int .i64 p.ep, .int .i64 p.half, .int .i64 p.full]] w1 (RetB (.bool false) w1) :=
    fun w1 hb => mayProg_false a n cap p w1 (fun h => by obtain ⟨b, off, e, hB⟩ := hrow h; exact ⟨b, off, e, hB.below hb hB.lt⟩) hbd hwf hm
  have HN := Lib.hid hN
  clear hN hrow hbd hwf hm
  go_enter Tryz.func14, Tryz.ntmps14
  go_upto_region 1 with fail
  generalize hW0 : World.alloc _ _ = W0
  have hP : Blk W0 w.heap.size #[.slice a n cap, .int .i64 p.turn, .int .i64 p.castle, .int .i64 p.ep, .int .i64 p.half, .int .i64 p.full] := by rw [← hW0]; exact Blk.new w _ _
  have hbw : Below w.heap.size w W0 := by rw [← hW0]; exact (Below.refl _ _).alloc (Nat.le_refl _) _
  clear hW0
  have p0 := hP.cell (o := 0) rfl
  have p1 := hP.cell (o := 1) rfl
  have p2 := hP.cell (o := 2) rfl
  have p3 := hP.cell (o := 3) rfl
  have p4 := hP.cell (o := 4) rfl
  have p5 := hP.cell (o := 5) rfl
  go_wp2_with (go_at_call 34; refine (HN.out _ hbw).mono ?_; rintro e w1 ⟨rfl, hb1⟩)
  go_ret2
  exact ⟨rfl, hbw.trans (hb1.mono hbw.size)⟩

set_option maxHeartbeats 4000000 in
theorem gameP_noB (s : ByteArray) (hrow : n = 64 → ∃ b off, a = some ⟨b, off, none⟩ ∧ BrdA w b off p.L) (hbd : ∀ i, 64 ≤ i → p.L i = 0) (hwf : ∀ i, -9223372036854775808 ≤ p.L i ∧ p.L i ≤ 9223372036854775807) (hm : mayB n p = false) :
    Calls Tryz.prog 16 #[.agg #[.slice a n cap, .int .i64 p.turn, .int .i64 p.castle, .int .i64 p.ep, .int .i64 p.half, .int .i64 p.full], .string s] w (RetB (.tuple #[.slice none 0 0, .int .i64 0, .int .i64 12]) w) := by
  have hN : ∀ w1, Below w.heap.size w w1 → Calls Tryz.prog 34 #[.agg #[.slice a n cap, .int .i64 p.turn, .int .i64 p.castle, .int .i64 p.ep, .int .i64 p.half, .int .i64 p.full]] w1 (RetB (.bool false) w1) :=
    fun w1 hb => mayProg_false a n cap p w1 (fun h => by obtain ⟨b, off, e, hB⟩ := hrow h; exact ⟨b, off, e, hB.below hb hB.lt⟩) hbd hwf hm
  have HN := Lib.hid hN
  clear hN hrow hbd hwf hm
  go_enter Tryz.func16, Tryz.ntmps16
  go_upto_region 1 with fail
  generalize hW0 : World.alloc _ _ = W0
  have hP : Blk W0 w.heap.size #[.slice a n cap, .int .i64 p.turn, .int .i64 p.castle, .int .i64 p.ep, .int .i64 p.half, .int .i64 p.full] := by rw [← hW0]; exact Blk.new w _ _
  have hbw : Below w.heap.size w W0 := by rw [← hW0]; exact (Below.refl _ _).alloc (Nat.le_refl _) _
  clear hW0
  have p0 := hP.cell (o := 0) rfl
  have p1 := hP.cell (o := 1) rfl
  have p2 := hP.cell (o := 2) rfl
  have p3 := hP.cell (o := 3) rfl
  have p4 := hP.cell (o := 4) rfl
  have p5 := hP.cell (o := 5) rfl
  go_wp2_with (go_at_call 34; refine (HN.out _ hbw).mono ?_; rintro e w1 ⟨rfl, hb1⟩)
  go_ret3
  exact ⟨rfl, hbw.trans (hb1.mono hbw.size)⟩

end

set_option maxHeartbeats 4000000 in
theorem games_noB {a : Option Addr} {n cap : Nat} {Z : Nat → Int} {p : Pos} {al : Option Addr} {cl : Nat} {l : List (Int × Int × Int)} (s : ByteArray) {w : World} (hin : BoardIn w a n Z) (hn : n ≤ 17592186044416) (hL : n = 64 → ∀ i, i < 64 → p.L i = Z i) (hbd : ∀ i, 64 ≤ i → p.L i = 0) (hwf : ∀ i, -9223372036854775808 ≤ p.L i ∧ p.L i ≤ 9223372036854775807) (hm : mayB n p = false)
    (hl : l.length * 24 ≤ 140737488355328) (hr : TrIn w al l) :
    Calls Tryz.prog 4 #[.agg #[.slice a n cap, .int .i64 p.turn, .int .i64 p.castle, .int .i64 p.ep, .int .i64 p.half, .int .i64 p.full], .slice al l.length cl, .string s] w (RetB (.bool true) w) := by
  have hC : ∀ w1, Below w.heap.size w w1 → _ := fun w1 hb => chessOf_inB (cap := cap) (hin.below hb) hn hL
  have hLi : ∀ w1, Below w.heap.size w w1 → _ := fun w1 hb => listTr_big (cl := cl) hl (hr.below hb)
  have hT := fun a' cap' w1 al nl cl hrow => tellP_noB a' n cap' p w1 al nl cl hrow hbd hwf hm
  have hG := fun a' cap' w1 hrow => gameP_noB a' n cap' p w1 s hrow hbd hwf hm
  have hM : ∀ w1, Below w.heap.size w w1 → _ := fun w1 hb => chessMay_false a n cap p w1 (fun h => (hin.below hb).row h (hL h)) hbd hm
  unfold strV at hT
  have HC := Lib.hid hC
  have HLi := Lib.hid hLi
  have HT := Lib.hid hT
  have HG := Lib.hid hG
  have HM := Lib.hid hM
  have HBB : Hid (∀ (a' : Option Addr) (w1 w2 : World), (n = 64 → ∃ b off, a' = some ⟨b, off, none⟩ ∧ BrdA w1 b off p.L) → Below w1.heap.size w1 w2 → (n = 64 → ∃ b off, a' = some ⟨b, off, none⟩ ∧ BrdA w2 b off p.L)) :=
    Lib.hid fun a' w1 w2 h hb hn => by obtain ⟨b, off, e, hB⟩ := h hn; exact ⟨b, off, e, hB.below hb hB.lt⟩
  clear hC hLi hT hG hM hin hL hbd hwf hm hn hr
  go_enter Tryz.func4, Tryz.ntmps4
  go_upto_region 1 with fail
  generalize hW0 : World.alloc _ _ = W0
  have hS : LG w W0 a n cap p := by
    rw [← hW0]; exact ⟨Blk.new w _ _, (Below.refl _ _).alloc (Nat.le_refl _) _⟩
  clear hW0
  obtain ⟨p0, p1, p2, p3, p4, p5⟩ := hS.cells
  have hbw := hS.below
  go_upto_region 2 with (first
    | (go_at_call 6; refine (HC.out _ hbw).mono ?_; rintro e w1 ⟨a', cap', rfl, hrow, hb1⟩)
    | (go_at_call 15; refine (HLi.out _ (hbw.trans (hb1.mono hbw.size))).mono ?_; rintro e w2 ⟨al2, cl2, rfl, htr, hb2⟩)
    | (go_at_call 14; refine (HT.out _ _ _ _ _ _ (HBB.out _ _ _ hrow hb2)).mono ?_; rintro e w3 ⟨rfl, hb3⟩))
  have hS2 := hS.trans ((hb1.trans (hb2.mono hb1.size)).trans (hb3.mono (hb1.trans (hb2.mono hb1.size)).size))
  clear p0 p1 p2 p3 p4 p5 hbw hS hb1 hb2 hb3 hrow htr
  obtain ⟨p0, p1, p2, p3, p4, p5⟩ := hS2.cells
  have hbw := hS2.below
  go_upto_region 3 with (first
    | (go_at_call 6; refine (HC.out _ hbw).mono ?_; rintro e w4 ⟨a', cap', rfl, hrow, hb4⟩)
    | (go_at_call 16; refine (HG.out _ _ _ hrow).mono ?_; rintro e w5 ⟨rfl, hb5⟩))
  have hS3 := hS2.trans (hb4.trans (hb5.mono hb4.size))
  clear p0 p1 p2 p3 p4 p5 hbw hS2 hb4 hb5 hrow
  obtain ⟨p0, p1, p2, p3, p4, p5⟩ := hS3.cells
  have hbw := hS3.below
  go_wp2_with (go_at_call 8; refine (HM.out _ hbw).mono ?_; rintro e w6 ⟨rfl, hb6⟩)
  go_ret
  exact ⟨rfl, (hS3.trans hb6).below⟩


set_option maxHeartbeats 8000000 in
theorem games_walkB {b off cap : Nat} {p : Pos} {al : Option Addr} {cl : Nat} {l : List (Int × Int × Int)} {s S7 : List UInt8} {C8 : Int} {G : List Mv} {N10 : Nat} {C11 : Int} {w : World} (hm : MayP p) (hbr : Brd w b off p.L) (hl : l.length * 24 ≤ 140737488355328) (hr : TrIn w al l)
    (hGl : G.length ≤ 2000000) (hto : Told4 p l s S7 C8 G N10 C11)
    (hTe : ∀ b' off' cap' al' cl' w1, Below w.heap.size w w1 → Brd w1 b' off' p.L → TrIn w1 al' l → Calls Tryz.prog 14 #[chessV b' off' cap' p, .slice al' l.length cl'] w1 (RetB (.tuple #[strV S7, .int .i64 C8]) w1))
    (hGa : ∀ b' off' cap' w1, Below w.heap.size w w1 → Brd w1 b' off' p.L → Calls Tryz.prog 16 #[chessV b' off' cap' p, .string ⟨s.toArray⟩] w1 fun e w' => ∃ v, e = .returned (.tuple #[v, .int .i64 N10, .int .i64 C11]) ∧ MvSl w' v G ∧ Below w1.heap.size w1 w') :
    Calls Tryz.prog 4 #[chessV b off cap p, .slice al l.length cl, .string ⟨s.toArray⟩] w (RetB (.bool true) w) := by
  have hlt := hbr.lt
  have hin : ∀ w1, Below w.heap.size w w1 → Brd w1 b off p.L := fun w1 hb => hbr.below hb hlt
  have hC : ∀ w1, Below w.heap.size w w1 → Calls Tryz.prog 6 #[chessV b off cap p] w1 fun e w' => ∃ b' off' cap', e = .returned (chessV b' off' cap' p) ∧ Brd w' b' off' p.L ∧ Below w1.heap.size w1 w' := fun w1 hb => by
    refine (chessOf_in (a := some ⟨b, off, none⟩) (Z := p.L) (.inr ⟨b, off, rfl, (hin w1 hb).lt, (hin w1 hb).cell⟩) (by decide) (fun _ _ _ => rfl)).mono ?_
    rintro e w' ⟨a', cap', rfl, hrow, hb1⟩
    obtain ⟨b', off', rfl, hB⟩ := hrow rfl
    exact ⟨b', off', cap', rfl, ⟨hB.lt, hB.cell, hm.ok.bd⟩, hb1⟩
  have hLi : ∀ w1, Below w.heap.size w w1 → _ := fun w1 hb => listTr_big (cl := cl) hl (hr.below hb)
  have hM : ∀ w1, Below w.heap.size w w1 → Calls Tryz.prog 8 #[chessV b off cap p] w1 (RetB (.bool true) w1) := fun w1 hb => by
    have h := chessMay_any (some ⟨b, off, none⟩) 64 cap p w1 (by omega) (fun _ => ⟨b, off, rfl, ⟨(hin w1 hb).lt, (hin w1 hb).cell⟩⟩) hm.out
    rwa [mayB_of hm] at h
  have hTr : l.length ≤ 200 → ∀ w1, Below w.heap.size w w1 → Calls Tryz.prog 17 #[chessV b off cap p, .slice al l.length cl] w1 (RetB (tellV (tellS p true [] l)) w1) := fun h w1 hb => tellR_any b off cap al cl p l w1 hm (hin w1 hb) h (hr.below hb)
  have hGr : s.length ≤ 4000 → ∀ w1, Below w.heap.size w w1 → Calls Tryz.prog 18 #[chessV b off cap p, .string ⟨s.toArray⟩] w1 fun e w' => ∃ v, e = .returned (.tuple #[v, .int .i64 N10, .int .i64 C11]) ∧ MvSl w' v G ∧ Below w1.heap.size w1 w' := fun h w1 hb => by
    rcases hto.big with ⟨hbig, _⟩ | ⟨_, h1, h2, h3⟩
    · omega
    · have hg := gameR_any b off cap p s w1 hm (hin w1 hb) h
      rw [h1, h2, h3] at hg
      exact hg
  unfold chessV strV at *
  have HC := Lib.hid hC
  have HLi := Lib.hid hLi
  have HM := Lib.hid hM
  have HTr := Lib.hid hTr
  have HGr := Lib.hid hGr
  have HTe := Lib.hid hTe
  have HGa := Lib.hid hGa
  have HTo := Lib.hid hto
  clear hC hLi hM hTr hGr hTe hGa hto hin hm hbr hr
  go_enter Tryz.func4, Tryz.ntmps4
  go_upto_region 1 with fail
  generalize hW0 : World.alloc _ _ = W0
  have hS : LG w W0 (some ⟨b, off, none⟩) 64 cap p := by
    rw [← hW0]; exact ⟨Blk.new w _ _, (Below.refl _ _).alloc (Nat.le_refl _) _⟩
  clear hW0
  obtain ⟨p0, p1, p2, p3, p4, p5⟩ := hS.cells
  have hbw := hS.below
  go_upto_region 2 with (first
    | (go_at_call 6; refine (HC.out _ hbw).mono ?_; rintro e w1 ⟨b', off', cap', rfl, hrow, hb1⟩; have hbw1 := hbw.trans (hb1.mono hbw.size))
    | (go_at_call 15; refine (HLi.out _ hbw1).mono ?_; rintro e w2 ⟨al2, cl2, rfl, htr, hb2⟩; have hbw2 := hbw1.trans (hb2.mono hbw1.size))
    | (go_at_call 14; refine (HTe.out _ _ _ _ _ _ hbw2 (hrow.below hb2 hrow.lt) htr).mono ?_; rintro e w3 ⟨rfl, hb3⟩))
  have hS2 := hS.trans ((hb1.trans (hb2.mono hb1.size)).trans (hb3.mono (hb1.trans (hb2.mono hb1.size)).size))
  clear p0 p1 p2 p3 p4 p5 hbw hbw1 hbw2 hS hb1 hb2 hb3 hrow htr
  obtain ⟨p0, p1, p2, p3, p4, p5⟩ := hS2.cells
  have hbw := hS2.below
  go_upto_region 3 with (first
    | (go_at_call 6; refine (HC.out _ hbw).mono ?_; rintro e w4 ⟨b', off', cap', rfl, hrow, hb4⟩; have hbw1 := hbw.trans (hb4.mono hbw.size))
    | (go_at_call 16; refine (HGa.out _ _ _ _ hbw1 hrow).mono ?_; rintro e w5 ⟨v9, rfl, hMS, hb5⟩))
  have hS3 := hS2.trans (hb4.trans (hb5.mono hb4.size))
  clear p0 p1 p2 p3 p4 p5 hbw hbw1 hS2 hb4 hb5 hrow
  obtain ⟨p0, p1, p2, p3, p4, p5⟩ := hS3.cells
  have hbw := hS3.below
  go_upto_region 5 with (go_at_call 8; refine (HM.out _ hbw).mono ?_; rintro e w6 ⟨rfl, hb6⟩)
  have hS4 := hS3.trans hb6
  have hMS := hMS.below hb6
  clear p0 p1 p2 p3 p4 p5 hbw hS3 hb6
  rcases HTo.out.many with ⟨hmany, hS7, hC8⟩ | ⟨hfew, S12, ok, hte, hcase⟩
  · subst hS7 hC8
    have hz1 : (200 : Int) < l.length := by omega
    have hS5 := hS4
    go_upto_region 11 with fail
    rcases HTo.out.big with ⟨hbig, hN, hC, hGe⟩ | ⟨hsm, hN, hC, hGe⟩
    · have hG0 : G.length = 0 := by rw [hGe]; rfl
      have hz : (4000 : Int) < s.length := by omega
      subst hN hC
      obtain ⟨a9, c9, rfl, -⟩ := hMS.form
      rw [hG0]
      clear HTo hGe hMS
      go_wp2
      go_ret
      exact ⟨rfl, hS5.below⟩
    · have hz : ¬ (4000 : Int) < s.length := by omega
      have HGR := Lib.hid (HGr.out hsm)
      have hsame : ∀ v1 v2 w1, MvSl w1 v1 G → MvSl w1 v2 G → Calls Tryz.prog 19 #[v1, v2] w1 (RetB (.bool true) w1) := fun v1 v2 w1 h1 h2 => sameMoves_any v1 v2 G w1 h1 h2 (by omega)
      have HSa := Lib.hid hsame
      have HMS := Lib.hid hMS
      clear HTo hsame hMS hGe hN hC
      obtain ⟨p0, p1, p2, p3, p4, p5⟩ := hS5.cells
      have hbw := hS5.below
      go_wp2_with (first
        | (go_at_call 18; refine (HGR.out _ hbw).mono ?_; rintro e w8 ⟨v14, rfl, hM8, hb8⟩)
        | (go_at_call 19; refine (HSa.out _ _ _ (HMS.out.below hb8) hM8).mono ?_; rintro e w9 ⟨rfl, hb9⟩))
      go_ret
      exact ⟨rfl, (hS5.trans (hb8.trans (hb9.mono hb8.size))).below⟩
  · have hz1 : ¬ (200 : Int) < l.length := by omega
    have hTR := HTr.out hfew
    rw [hte] at hTR
    have HTR := Lib.hid hTR
    clear hTR hte
    obtain ⟨p0, p1, p2, p3, p4, p5⟩ := hS4.cells
    have hbw := hS4.below
    rcases hcase with ⟨rfl, hC8, hS7⟩ | ⟨rfl, hC8, hS7⟩
    · subst hC8 hS7
      go_upto_region 11 with (go_at_call 17; refine (HTR.out _ hbw).mono ?_; rintro e w7 ⟨rfl, hb7⟩)
      have hS5 := hS4.trans hb7
      have hMS := hMS.below hb7
      clear p0 p1 p2 p3 p4 p5 hbw hS4 hb7
      rcases HTo.out.big with ⟨hbig, hN, hC, hGe⟩ | ⟨hsm, hN, hC, hGe⟩
      · have hG0 : G.length = 0 := by rw [hGe]; rfl
        have hz : (4000 : Int) < s.length := by omega
        subst hN hC
        obtain ⟨a9, c9, rfl, -⟩ := hMS.form
        rw [hG0]
        clear HTo hGe hMS
        go_wp2
        go_ret
        exact ⟨rfl, hS5.below⟩
      · have hz : ¬ (4000 : Int) < s.length := by omega
        have HGR := Lib.hid (HGr.out hsm)
        have hsame : ∀ v1 v2 w1, MvSl w1 v1 G → MvSl w1 v2 G → Calls Tryz.prog 19 #[v1, v2] w1 (RetB (.bool true) w1) := fun v1 v2 w1 h1 h2 => sameMoves_any v1 v2 G w1 h1 h2 (by omega)
        have HSa := Lib.hid hsame
        have HMS := Lib.hid hMS
        clear HTo hsame hMS hGe hN hC
        obtain ⟨p0, p1, p2, p3, p4, p5⟩ := hS5.cells
        have hbw := hS5.below
        go_wp2_with (first
          | (go_at_call 18; refine (HGR.out _ hbw).mono ?_; rintro e w8 ⟨v14, rfl, hM8, hb8⟩)
          | (go_at_call 19; refine (HSa.out _ _ _ (HMS.out.below hb8) hM8).mono ?_; rintro e w9 ⟨rfl, hb9⟩))
        go_ret
        exact ⟨rfl, (hS5.trans (hb8.trans (hb9.mono hb8.size))).below⟩
    · subst hC8 hS7
      go_upto_region 11 with (go_at_call 17; refine (HTR.out _ hbw).mono ?_; rintro e w7 ⟨rfl, hb7⟩)
      have hS5 := hS4.trans hb7
      have hMS := hMS.below hb7
      clear p0 p1 p2 p3 p4 p5 hbw hS4 hb7
      rcases HTo.out.big with ⟨hbig, hN, hC, hGe⟩ | ⟨hsm, hN, hC, hGe⟩
      · have hG0 : G.length = 0 := by rw [hGe]; rfl
        have hz : (4000 : Int) < s.length := by omega
        subst hN hC
        obtain ⟨a9, c9, rfl, -⟩ := hMS.form
        rw [hG0]
        clear HTo hGe hMS
        go_wp2
        go_ret
        exact ⟨rfl, hS5.below⟩
      · have hz : ¬ (4000 : Int) < s.length := by omega
        have HGR := Lib.hid (HGr.out hsm)
        have hsame : ∀ v1 v2 w1, MvSl w1 v1 G → MvSl w1 v2 G → Calls Tryz.prog 19 #[v1, v2] w1 (RetB (.bool true) w1) := fun v1 v2 w1 h1 h2 => sameMoves_any v1 v2 G w1 h1 h2 (by omega)
        have HSa := Lib.hid hsame
        have HMS := Lib.hid hMS
        clear HTo hsame hMS hGe hN hC
        obtain ⟨p0, p1, p2, p3, p4, p5⟩ := hS5.cells
        have hbw := hS5.below
        go_wp2_with (first
          | (go_at_call 18; refine (HGR.out _ hbw).mono ?_; rintro e w8 ⟨v14, rfl, hM8, hb8⟩)
          | (go_at_call 19; refine (HSa.out _ _ _ (HMS.out.below hb8) hM8).mono ?_; rintro e w9 ⟨rfl, hb9⟩))
        go_ret
        exact ⟨rfl, (hS5.trans (hb8.trans (hb9.mono hb8.size))).below⟩

theorem games_allB {a : Option Addr} {n cap : Nat} {Z : Nat → Int} {p : Pos} {al : Option Addr} {cl : Nat} {l : List (Int × Int × Int)} (s : List UInt8) {w : World} (hin : BoardIn w a n Z) (hn : n ≤ 17592186044416) (hL : n = 64 → ∀ i, i < 64 → p.L i = Z i) (hbd : ∀ i, 64 ≤ i → p.L i = 0) (hwf : ∀ i, -9223372036854775808 ≤ p.L i ∧ p.L i ≤ 9223372036854775807)
    (hl : l.length * 24 ≤ 140737488355328) (hr : TrIn w al l) (mx : Int) (hmax : w.cell? ⟨0, 0, none⟩ = some (.int .i64 mx)) (hT : Lib.Utf8Tabs 1 2 w) (htab : Lib.TabIs Tryz.prog w "internal/strconv.uint64pow10" .u64 Lib.pow10Tab) :
    Calls Tryz.prog 4 #[.agg #[.slice a n cap, .int .i64 p.turn, .int .i64 p.castle, .int .i64 p.ep, .int .i64 p.half, .int .i64 p.full], .slice al l.length cl, .string ⟨s.toArray⟩] w (RetB (.bool true) w) := by
  cases hmay : mayB n p with
  | false => exact games_noB ⟨s.toArray⟩ hin hn hL hbd hwf hmay hl hr
  | true =>
    have h64 : n = 64 := by
      have h := hmay
      simp only [mayB, mayHead, Bool.and_eq_true, beq_iff_eq, decide_eq_true_eq] at h
      omega
    subst h64
    have hm := mayP_of hmay hbd
    obtain ⟨b, off, rfl, hB⟩ := hin.row rfl (hL rfl)
    have hbr : Brd w b off p.L := ⟨hB.lt, hB.cell, hm.ok.bd⟩
    have h0lt : 0 < w.heap.size := World.block_lt_of_cell? w ⟨0, 0, none⟩ hmax
    have hte : ∃ S7 C8, ((200 < l.length ∧ S7 = [] ∧ C8 = 11) ∨ (l.length ≤ 200 ∧ ∃ S12 ok, tellV (tellS p true [] l) = .tuple #[.string ⟨S12.toArray⟩, .bool ok] ∧ ((ok = true ∧ C8 = 0 ∧ S7 = S12) ∨ (ok = false ∧ C8 = 8 ∧ S7 = [])))) ∧
        ∀ b' off' cap' al' cl' w1, Below w.heap.size w w1 → Brd w1 b' off' p.L → TrIn w1 al' l → Calls Tryz.prog 14 #[chessV b' off' cap' p, .slice al' l.length cl'] w1 (RetB (.tuple #[strV S7, .int .i64 C8]) w1) := by
      by_cases hmany : 200 < l.length
      · exact ⟨[], 11, .inl ⟨hmany, rfl, rfl⟩, fun b' off' cap' al' cl' w1 _ hB' _ => tellP_many al' l.length cl' hm hB' hmany⟩
      · have hfew : l.length ≤ 200 := by omega
        have hlaw := tell_law l p hm.ok.turn
        have hyes : ∀ b' off' cap' al' cl' w1, Below w.heap.size w w1 → Brd w1 b' off' p.L → TrIn w1 al' l → Calls Tryz.prog 14 #[chessV b' off' cap' p, .slice al' l.length cl'] w1 (RetB (tellVP (tellA p true [] l)) w1) :=
          fun b' off' cap' al' cl' w1 hb hB' hr' => tellP_yes b' off' cap' al' cl' p l w1 hm hB' hfew hr' (pow10_below htab hb)
        cases hA : tellA p true [] l with
        | none =>
          rw [hA] at hlaw hyes
          exact ⟨[], 8, .inr ⟨hfew, [], false, by rw [hlaw]; rfl, .inr ⟨rfl, rfl, rfl⟩⟩, hyes⟩
        | some ws =>
          rw [hA] at hlaw hyes
          exact ⟨joinB ws, 0, .inr ⟨hfew, joinB ws, true, by rw [hlaw]; rfl, .inl ⟨rfl, rfl, rfl⟩⟩, hyes⟩
    have hga : ∃ (G : List Mv) (N10 : Nat) (C11 : Int), G.length ≤ 200 ∧ ((4000 < s.length ∧ N10 = 0 ∧ C11 = 2 ∧ G = []) ∨ (s.length ≤ 4000 ∧ (gameG p [] 0 (wordsL s)).2.1 = N10 ∧ (gameG p [] 0 (wordsL s)).2.2 = C11 ∧ (gameG p [] 0 (wordsL s)).1 = G)) ∧
        ∀ b' off' cap' w1, Below w.heap.size w w1 → Brd w1 b' off' p.L → Calls Tryz.prog 16 #[chessV b' off' cap' p, .string ⟨s.toArray⟩] w1 fun e w' => ∃ v, e = .returned (.tuple #[v, .int .i64 N10, .int .i64 C11]) ∧ MvSl w' v G ∧ Below w1.heap.size w1 w' := by
      by_cases hbig : 4000 < s.length
      · refine ⟨[], 0, 2, by simp, .inl ⟨hbig, rfl, rfl, rfl⟩, fun b' off' cap' w1 _ hB' => (gameP_big (cap := cap') s hm hB' hbig).mono ?_⟩
        rintro e w' ⟨rfl, hb⟩
        exact ⟨_, rfl, .inl ⟨rfl, rfl⟩, hb⟩
      · have hsm : s.length ≤ 4000 := by omega
        exact ⟨_, _, _, gameG_le _ p [] 0 (by simp), .inr ⟨hsm, rfl, rfl, rfl⟩, fun b' off' cap' w1 hb hB' => gameP_yes b' off' cap' p s w1 hm hB' hsm mx ((hb.cell (p := ⟨0, 0, none⟩) h0lt).trans hmax) (Utf8Tabs_below hT hb)⟩
    obtain ⟨S7, C8, ht1, ht2⟩ := hte
    obtain ⟨G, N10, C11, hgl, hg1, hg2⟩ := hga
    exact games_walkB hm hbr hl hr (by omega) ⟨ht1, hg1⟩ ht2 hg2

end Go.Proofs.YthffhhbbhjcdeaaGreatDoor
namespace Go.Proofs.YthffhhbbhjcdeaaGreatDoor
open Go.ChangeShapes Go.WideShapes Go.ChangeAt Go.RowKit Go.Joins Go.Deep
open Go.ChangeMaps (open_string shut_string)
set_option maxRecDepth 100000

section
variable {H : Type} {enc : TypeId × Value → H} {W : World}

theorem bytesOf26 : Tryz.prog.bytesOf 26 = 24 := by kernel_rfl
theorem bytesOf3 : Tryz.prog.bytesOf 3 = 8 := by kernel_rfl
/-- The weight of a position's places is among the weights that the reach bounds. -/
theorem places_weight {ts : List TypeId} {ds : List (DataW H)} {y : DataW H} {tl el sp : List (DataW H)} (ht : ts[0]? = some 24) (hd : ds[0]? = some (.agg (y :: tl))) (hy : y = .slice el sp)
    (h : (DataW.weightsEach Tryz.prog ts ds).all (· ≤ reachBytes) = true) : (el.length + sp.length) * 8 ≤ reachBytes := by
  have h1 : (el.length + sp.length) * Tryz.prog.bytesOf 3 ∈ y.weights Tryz.prog 22 := by subst hy; simp [DataW.weights, Tryz.underlying22]
  have h2 : (el.length + sp.length) * Tryz.prog.bytesOf 3 ∈ (DataW.agg (y :: tl)).weights Tryz.prog 24 := by
    simp only [DataW.weights, Tryz.underlying24]
    exact DataW.weights_mem_each (j := 0) (t := 22) rfl rfl _ h1
  have h3 := List.all_eq_true.1 h _ (DataW.weights_mem_each ht hd _ h2)
  rw [bytesOf3] at h3
  simpa using h3

/-- The places that came in: empty, or cells at an address; their bulk bounds the length. -/
theorem open_placesB {v0 : Value} {y0 : DataW H × List MemPlace} {fuel : Nat} (h : DataW.trod enc Tryz.prog W 0 (fun _ => true) true fuel 22 [v0] = some y0) (hlt : ∀ b v, W.cell? b = some v → b.block < W.heap.size) :
    ∃ (a : Option Addr) (n cap : Nat) (Z : Nat → Int), v0 = .slice a n cap ∧ BoardIn W a n Z ∧ (n = 0 ∨ ∃ el sp, y0.1 = .slice el sp ∧ n ≤ el.length) ∧ ∀ i, -9223372036854775808 ≤ Z i ∧ Z i ≤ 9223372036854775807 := by
  rcases open_ints Tryz.underlying22 Tryz.underlying3 cellsOf3 h with ⟨hcs, hx⟩ | ⟨a, len, cap, zs, hcs, _, hl, hm, hz, hx, hcell, hwf⟩
  · simp only [List.cons.injEq, and_true] at hcs
    subst hcs
    exact ⟨none, 0, 0, fun _ => 0, rfl, .inl rfl, .inl rfl, fun _ => by show -9223372036854775808 ≤ (0 : Int) ∧ (0 : Int) ≤ 9223372036854775807; omega⟩
  · simp only [List.cons.injEq, and_true] at hcs
    subst hcs
    simp only [if_true] at hz
    refine ⟨some a, len, cap, fun i => zs.getD i 0, rfl, ?_, ?_, fun i => ?_⟩
    · by_cases h0 : len = 0
      · exact .inl h0
      · obtain ⟨b, off, spot⟩ := a
        have hc0 := hcell 0 (by omega)
        have hspot : spot = none := by simpa [Addr.add] using World.cell?_spot hc0
        subst hspot
        refine .inr ⟨b, off, rfl, ?_, fun i hi => ?_⟩
        · have := hlt _ _ hc0
          simpa [Addr.add] using this
        · have := hcell i (by omega)
          rw [← this]
          by_cases hi0 : i = 0
          · subst hi0; simp [Addr.add]
          · simp [Addr.add, hi0]
    · have hl2 : (lits (H := H) .i64 (zs.take len)).length = len := by simp [lits]; omega
      exact .inr ⟨_, _, by rw [hx], by omega⟩
    · by_cases hi : i < zs.length
      · have hmem : zs.getD i 0 ∈ zs := by rw [List.getD_eq_getElem?_getD, List.getElem?_eq_getElem hi]; exact List.getElem_mem hi
        have := hwf _ hmem
        simp only [Lit.wf, Bool.and_eq_true, decide_eq_true_eq] at this
        exact this
      · have : zs.getD i 0 = 0 := by rw [List.getD_eq_getElem?_getD, List.getElem?_eq_none (by omega)]; rfl
        show -9223372036854775808 ≤ zs.getD i 0 ∧ zs.getD i 0 ≤ 9223372036854775807
        rw [this]; omega

/-- The moves that came in. -/
theorem open_movesB {b0 : Nat} {v : Value} {d : DataW H} {ps : List MemPlace} (hv : Value.okWide Tryz.prog W .any b0 37 v) (h : DataW.Trod enc Tryz.prog W 0 (fun _ => true) true 37 v d ps) (hlt : ∀ b v, W.cell? b = some v → b.block < W.heap.size) :
    ∃ (al : Option Addr) (cl : Nat) (l : List (Int × Int × Int)), v = .slice al l.length cl ∧ TrIn W al l ∧ (l.length = 0 ∨ ∃ el sp, d = .slice el sp ∧ l.length ≤ el.length) := by
  obtain ⟨a, len, cap, rfl⟩ := okWide_slice Tryz.underlying37 hv
  obtain ⟨fuel, hf⟩ := h
  rcases open_slice Tryz.underlying37 hf with ⟨hcs, hx⟩ | ⟨a', len', cap', m, n, D, Pl, hcs, hb, hl, hm, hmm, hx, hel⟩
  · have e : Value.slice a len cap = .slice none 0 0 := by simpa [Value.cells] using hcs
    cases e
    exact ⟨none, 0, [], rfl, .inl rfl, .inl rfl⟩
  · have e : Value.slice a len cap = .slice (some a') len' cap' := by simpa [Value.cells] using hcs
    cases e
    simp only [if_true] at hmm
    subst hmm
    have hex : ∀ i, ∃ t : Int × Int × Int, i < len → W.cell? (a'.add (i * 3)) = some (.int .i64 t.1) ∧ W.cell? (a'.add (i * 3 + 1)) = some (.int .i64 t.2.1) ∧ W.cell? (a'.add (i * 3 + 2)) = some (.int .i64 t.2.2) := by
      intro i
      by_cases hi : i < len
      · obtain ⟨cs', h1, h2⟩ := hel i (by omega)
        rw [cellsOf26] at h1
        obtain ⟨c1, c2, c3, rfl⟩ := move_cells h2
        have hc := (World.cells?_some h1).2.2
        refine ⟨(c1, c2, c3), fun _ => ⟨?_, ?_, ?_⟩⟩
        · have := hc 0 (by omega); rw [add_add] at this; simpa using this
        · have := hc 1 (by omega); rw [add_add] at this; simpa using this
        · have := hc 2 (by omega); rw [add_add] at this; simpa using this
      · exact ⟨(0, 0, 0), fun h => absurd h hi⟩
    let T : Nat → Int × Int × Int := fun i => Classical.choose (hex i)
    have hT : ∀ i, i < len → W.cell? (a'.add (i * 3)) = some (.int .i64 (T i).1) ∧ W.cell? (a'.add (i * 3 + 1)) = some (.int .i64 (T i).2.1) ∧ W.cell? (a'.add (i * 3 + 2)) = some (.int .i64 (T i).2.2) := fun i => Classical.choose_spec (hex i)
    refine ⟨some a', m, (List.range len).map T, by rw [List.length_map, List.length_range], ?_, ?_⟩
    · by_cases h0 : len = 0
      · exact .inl (by rw [List.length_map, List.length_range]; exact h0)
      · obtain ⟨b, off, spot⟩ := a'
        have hc0 := (hT 0 (by omega)).1
        have hspot : spot = none := by simpa [Addr.add] using World.cell?_spot hc0
        subst hspot
        have hblk : b < W.heap.size := by
          have := hlt _ _ hc0
          simpa [Addr.add] using this
        have hadd : ∀ j, ((⟨b, off, none⟩ : Addr).add j) = ⟨b, off + j, none⟩ := fun j => by
          by_cases hj : j = 0
          · subst hj; simp [Addr.add]
          · simp [Addr.add, hj]
        refine .inr ⟨b, off, rfl, hblk, fun j hj => ?_⟩
        rw [List.length_map, List.length_range] at hj
        have hi : j / 3 < len := by omega
        have hat : trAt ((List.range len).map T) (j / 3) = T (j / 3) := by
          unfold trAt
          simp [hi]
        obtain ⟨g0, g1, g2⟩ := trCells_get ((List.range len).map T) (j / 3) (by rw [List.length_map, List.length_range]; exact hi)
        obtain ⟨h0, h1, h2⟩ := hT (j / 3) hi
        rw [hat] at g0 g1 g2
        rw [hadd] at h0 h1 h2
        have hcase : j % 3 = 0 ∨ j % 3 = 1 ∨ j % 3 = 2 := by omega
        rcases hcase with hr | hr | hr
        · have ej : j = j / 3 * 3 := by omega
          have ej' : j = 3 * (j / 3) := by omega
          rw [← ej] at h0
          rw [← ej'] at g0
          exact h0.trans g0.symm
        · have ej : j = j / 3 * 3 + 1 := by omega
          have ej' : j = 3 * (j / 3) + 1 := by omega
          rw [← ej] at h1
          rw [← ej'] at g1
          exact h1.trans g1.symm
        · have ej : j = j / 3 * 3 + 2 := by omega
          have ej' : j = 3 * (j / 3) + 2 := by omega
          rw [← ej] at h2
          rw [← ej'] at g2
          exact h2.trans g2.symm
    · have hd : d = .slice ((List.range len).map D) ((List.range (m - len)).map fun j => D (len + j)) := congrArg Prod.fst hx
      refine .inr ⟨_, _, hd, ?_⟩
      simp

end

theorem pow10OnlyF : Rows.notationGamesRow.laid.filter (fun x => x.1 == "internal/strconv.uint64pow10") = [("internal/strconv.uint64pow10", Lib.tabData .u64 Lib.pow10Tab)] := by kernel_rfl

set_option maxHeartbeats 2000000 in
/-- WHAT THE WALK GIVES AT THE FORM. -/
theorem contractF (H : Type) (enc : TypeId × Value → H) (W : World) (base : Nat) (args : Array Value) (ds gs : List (DataW H)) (before : List MemPlace)
    (hval : ∀ (j : Nat) t v, Tryz.f4.params[j]? = some t → args[j]? = some v → Value.okWide Tryz.prog W .any base t v)
    (hW : DataW.Whole enc Tryz.prog Tryz.f4.params.toList Rows.notationGamesSpec.vars false W args.toList ds gs before)
    (hz : (DataW.weightsEach Tryz.prog (Tryz.f4.params.toList ++ (OpenSpec.ofChange Rows.notationGamesSpec).bare.plain.varTypes Tryz.prog) (ds ++ gs)).all (· ≤ reachBytes) = true) (hL : laidMetH Tryz.prog Rows.notationGamesRow.laid W) (hsh : W.ShapedOpen Tryz.prog) :
    Calls Tryz.prog 4 args W fun e W' => ∃ v, e = .returned v ∧ Rows.notationGamesSpec.post enc Tryz.prog Tryz.f4 false true false false W args v W' := by
  have hW' := hW
  obtain ⟨p, q, hA0, hV, rfl, hfz, hnd⟩ := hW
  have hA : DataW.TrodAll enc Tryz.prog W 0 (fun _ => true) true Tryz.f4.params.toList args.toList ds p := hA0
  rw [Tryz.params4] at hA hval
  obtain ⟨v0, vs0, d0, ds0, p0, q0, hargs, rfl, rfl, h0, r0⟩ := trodAll_cons hA
  obtain ⟨v1, vs1, d1, ds1, p1, q1, rfl, rfl, rfl, h1, r1⟩ := trodAll_cons r0
  obtain ⟨v2, vs2, d2, ds2, p2, q2, rfl, rfl, rfl, h2, r2⟩ := trodAll_cons r1
  obtain ⟨rfl, rfl, rfl⟩ := trodAll_nil r2
  obtain rfl : args = #[v0, v1, v2] := by cases args; simp_all
  obtain ⟨rfl, rfl⟩ := trodVars_none hV
  have hlt : ∀ x ∈ p0 ++ (p1 ++ (p2 ++ [])), x.block < W.heap.size := fun x hx => by simpa using hW'.lt x (by simpa using hx)
  obtain ⟨u0, y0, c1, c2, c3, c4, c5, n0, tl, rfl, hd0, hu0⟩ := open_chess (hval 0 24 v0 rfl rfl) h0
  obtain ⟨al, cl, l, rfl, hTr, hll⟩ := open_movesB (hval 1 37 v1 rfl rfl) h1 cell_block
  obtain ⟨s, rfl, hd2, _, ws⟩ := open_string Tryz.underlying9 (hval 2 9 v2 rfl rfl) h2
  obtain ⟨a, n, cap, Z, rfl, hin, hnb, hwf⟩ := open_placesB hu0 cell_block
  have hn : n ≤ 17592186044416 := by
    rcases hnb with h | ⟨el, sp, hy, hle⟩
    · omega
    · have h22 := places_weight (by kernel_rfl : (Tryz.f4.params.toList ++ (OpenSpec.ofChange Rows.notationGamesSpec).bare.plain.varTypes Tryz.prog)[0]? = some 24) (by rw [hd0]; rfl) hy hz
      unfold reachBytes at h22
      omega
  have hl : l.length * 24 ≤ 140737488355328 := by
    rcases hll with h | ⟨el, sp, hy, hle⟩
    · omega
    · have h37 := sized_slice hz (j := 1) (t := 37) (by kernel_rfl) (by rw [hy]; rfl) Tryz.underlying37
      rw [bytesOf26] at h37
      unfold reachBytes at h37
      omega
  obtain ⟨m, hm⟩ : ∃ m, W.cell? ⟨0, 0, none⟩ = some (.int .i64 m) := Tryz.laysM155.s1_3 W hsh
  have hL2 : laidMet Tryz.prog Rows.notationGamesRow.laid W := hL
  have hT : Lib.Utf8Tabs 1 2 W :=
    utf8Tabs_of_readsT (ρ := Tryz.lays230_ren) { Tryz.lays230 with } ⟨by kernel_rfl, by kernel_rfl, by kernel_rfl, by kernel_rfl, by kernel_rfl, by kernel_rfl, by kernel_rfl⟩
      (by rw [← firstSame]; exact Lib.laidMet.reads hL2 (.tail _ (.tail _ (.tail _ (.tail _ (.head _)))))) (by rw [← acceptSame]; exact Lib.laidMet.reads hL2 (.tail _ (.tail _ (.tail _ (.head _)))))
  have htab : Lib.TabIs Tryz.prog W "internal/strconv.uint64pow10" .u64 Lib.pow10Tab :=
    Lib.tabIs_of_head (g := 3) (t := 166) (e := 141) (n := 20) (by kernel_rfl) (by kernel_rfl) Tryz.underlying166 (by kernel_rfl) (by kernel_rfl) (by kernel_rfl) (by rw [← pow10OnlyF]; exact laidMet.filter _ hL2)
  have hlaw := games_allB (a := a) (n := n) (cap := cap) (Z := Z) (cl := cl) (p := { L := fun i => if n = 64 ∧ i < 64 then Z i else 0, turn := c1, castle := c2, ep := c3, half := c4, full := c5 }) s.data.toList hin hn
    (fun h i hi => if_pos ⟨h, hi⟩) (fun i hi => if_neg (by omega)) (fun i => by
      show -9223372036854775808 ≤ (if n = 64 ∧ i < 64 then Z i else 0) ∧ (if n = 64 ∧ i < 64 then Z i else 0) ≤ 9223372036854775807
      split
      · exact hwf i
      · omega) hl hTr m hm hT htab
  have hstr : Value.string ⟨s.data.toList.toArray⟩ = .string s := by cases s; simp
  rw [hstr] at hlaw
  refine hlaw.mono ?_
  rintro e W' ⟨rfl, bel⟩
  have e1 : Rows.notationGamesSpec.fn H ([d0, d1, d2] ++ []) = { results := [.lit (.bool true)], args := [d0, d1, d2] } := rfl
  refine ⟨_, rfl, _, _, _, [], p0 ++ (p1 ++ (p2 ++ [])), [], hW', ?_, ?_, ?_, bel.frame _, fun h => by cases h⟩
  · rw [e1]; exact trodAll_cons_mk (shut_bool Tryz.underlying4 _) trodAll_mk0
  · rw [e1]
    exact trodAll_cons_mk (Below.trod laidOutP (by kernel_rfl) (of_decide_eq_true (by kernel_rfl)) h0 bel (fun x hx => hlt x (by simp [hx])))
      (trodAll_cons_mk (Below.trod laidOutP (by kernel_rfl) (of_decide_eq_true (by kernel_rfl)) h1 bel (fun x hx => hlt x (by simp [hx])))
        (trodAll_cons_mk (Below.trod laidOutP (by kernel_rfl) (of_decide_eq_true (by kernel_rfl)) h2 bel (fun x hx => hlt x (by simp [hx]))) trodAll_mk0))
  · rw [e1]; rfl

end Go.Proofs.YthffhhbbhjcdeaaGreatDoor
namespace Go.Proofs.YthffhhbbhjcdeaaGreatDoor
open Go.ChangeShapes Go.WideShapes Go.ChangeAt Go.RowKit
set_option maxRecDepth 100000

theorem laidF_met (os : Os) : laidMet Tryz.prog Rows.notationGamesRow.laid ((laidWorldG os).forCall (fun _ _ => 0) ⟨#[], gameArgs, []⟩).memory :=
  laidMet_of_run' 8 (by kernel_rfl) (by kernel_rfl)

theorem game_readsF (os : Os) {H : Type} (enc : TypeId × Value → H) :
    ∃ places, DataW.whole enc Tryz.prog ((laidWorldG os).forCall (fun _ _ => 0) ⟨#[], gameArgs, []⟩).memory Tryz.f4.params.toList Rows.notationGamesSpec.vars false gameArgs.toList 8 =
      some ([.agg [.nil, .lit (.int .i64 0), .lit (.int .i64 0), .lit (.int .i64 0), .lit (.int .i64 0), .lit (.int .i64 0)], .nil, .lit (.string [])], [], places) :=
  ⟨[], by kernel_rfl⟩

theorem liftedF (os : Os) (started : os.Started) (H : Type) (enc : TypeId × Value → H) (F : Stop.Interp) :
    ReturnsInHanded {} Tryz.checked os 4 .any ((OpenSpec.ofChange Rows.notationGamesSpec).preRow enc Tryz.prog Tryz.f4 Rows.notationGamesRow.domain false Rows.notationGamesRow.laid) (((OpenSpec.ofChange Rows.notationGamesSpec).at F).post enc Tryz.prog Tryz.f4 false true false false) := by
  obtain ⟨places, hx⟩ := game_readsF os enc
  refine returnsInHanded_of_row (C := Tryz.checked) (s := OpenSpec.ofChange Rows.notationGamesSpec) own started (by kernel_rfl) Tryz.func4
    (witness_row_at (enc := enc) (C := Tryz.checked) false (laidWorldG os) gameArgs rfl (by kernel_rfl) (by kernel_rfl) (by kernel_rfl)
      (OpenSpec.preRow_of_cond 8 hx (by kernel_rfl) (fun k hk => by cases hk) (by kernel_rfl) (laidF_met os))) ?_
  intro W base args ds gs before hval hW _ _ hz hL hsh _
  exact contractF H enc W base args ds gs before hval hW hz hL hsh

theorem saidF : Rows.NotationGamesSaid :=
  OpenClaim.holds_of_cond 4 Tryz.f4 rfl rfl rfl rfl rfl rfl rfl ⟨rfl, rfl, rfl, rfl, rfl⟩ rfl rfl rfl rfl rfl (by kernel_rfl) Tryz.func4 (by kernel_rfl)
    (of_decide_eq_true (by kernel_rfl)) (by unfold Func.isWrapper; first | (rw [if_pos (by decide +kernel)]; kernel_rfl) | (rw [if_neg (by decide +kernel)]; exact ⟨rfl, rfl⟩))
    (fun os started H enc _ F => by rw [OpenClaim.pre_eq_preRow]; exact liftedF os started H enc F)

theorem plainLooksF (f : FuncId) (fn : Func) (hf : Tryz.pinned.checked.prog.funcNamed "gameroom/gameroomlaw.NotationGames" = some f) (hfn : Tryz.pinned.checked.prog.funcs[f]? = some fn) :
    false = Tryz.pinned.checked.prog.looks [] ∧ ∀ (j : Nat) t, fn.params[j]? = some t → Tryz.pinned.checked.prog.wantsStandIn t = false := by
  obtain rfl : f = 4 := Option.some.inj ((show Tryz.prog.funcNamed "gameroom/gameroomlaw.NotationGames" = some 4 by kernel_rfl).symm.trans hf) |>.symm
  obtain rfl : fn = Tryz.f4 := (Option.some.inj (Tryz.func4.symm.trans hfn)).symm
  refine ⟨by kernel_rfl, fun j t ht => ?_⟩
  rw [Tryz.params4] at ht
  have hm := Array.mem_of_getElem? ht
  simp only [List.mem_toArray, List.mem_cons, List.not_mem_nil, or_false] at hm
  rcases hm with rfl | rfl | rfl
  · exact (show Tryz.prog.wantsStandIn 24 = false by kernel_rfl)
  · exact (show Tryz.prog.wantsStandIn 37 = false by kernel_rfl)
  · exact (show Tryz.prog.wantsStandIn 9 = false by kernel_rfl)

/-- ████ THE FULL FORM's CARD ████ -/
theorem notationGames_holds : Rows.NotationGamesCardSaid :=
  Claim7.holds_tied_plain_at .later [] _ _ _ _ saidF (fun _ h => by cases h) (by kernel_rfl) (fun _ h => by cases h) notationGames_row_tie rfl ⟨rfl, rfl⟩ (by kernel_rfl) rfl plainLooksF (by kernel_rfl)

#print axioms notationGames_holds
end Go.Proofs.YthffhhbbhjcdeaaGreatDoor
