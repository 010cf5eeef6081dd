/- WALKS: slices.SortFunc at the moves that have been found. -/
import Derived.Test.YthffhhbbhjcdeaaGreatDoorC11
import Derived.Test.YthffhhbbhjcdeaaGreatDoorC8
import Derived.Test.YthffhhbbhjcdeaaGreatDoorA10
import Derived.Shelf.SlSortCmp.NoneTotal
import Derived.Test.YthffhhbbhjcdeaaGreatDoorShelf
set_option linter.unusedVariables false
set_option linter.unusedSimpArgs false
namespace Go.Proofs.YthffhhbbhjcdeaaGreatDoor
open Go.RowKit Go.Sort
set_option maxRecDepth 100000

theorem encM_flat (l : List Mv) (t : Nat) (ht : t < l.length * 3) : (mvCells l)[t]? = some ((flatK encM 3 l.toArray)[t]!) := by
  rw [get_flatK _ _ _ _ (by simpa using ht)]
  have hi : t / 3 < l.length := by omega
  obtain ⟨h0, h1, h2⟩ := mvCells_get l (t / 3) hi
  have hm : (l.toArray)[t / 3]! = mvAt l (t / 3) := by
    rw [getElem!_pos _ _ (by simpa using hi)]
    simp [mvAt, hi]
  rw [hm]
  have hr : t % 3 = 0 ∨ t % 3 = 1 ∨ t % 3 = 2 := by omega
  rcases hr with h | h | h
  · rw [show t = 3 * (t / 3) by omega, h0]
    rw [show (3 * (t / 3)) % 3 = 0 by omega, show (3 * (t / 3)) / 3 = t / 3 by omega]
    rfl
  · rw [show t = 3 * (t / 3) + 1 by omega, h1]
    rw [show (3 * (t / 3) + 1) % 3 = 1 by omega, show (3 * (t / 3) + 1) / 3 = t / 3 by omega]
    rfl
  · rw [show t = 3 * (t / 3) + 2 by omega, h2]
    rw [show (3 * (t / 3) + 2) % 3 = 2 by omega, show (3 * (t / 3) + 2) / 3 = t / 3 by omega]
    rfl

theorem grownBy_sortedK {w : World} {g n : Nat} {os : Array Obj} (d : Array Mv) : w.grownBy (sortWorldK encM 3 w g 0 n d os) (some g) := by
  unfold sortWorldK putRowK
  refine ⟨rfl, rfl, rfl, by simp, fun k hk hne => ?_⟩
  rw [heap_grow_old _ _ (by simpa using hk)]
  have : g ≠ k := fun e => hne (by rw [e])
  simp [putRow, mapBlock, Sort.ahead, Array.getElem?_modify, this]

set_option maxHeartbeats 2000000 in
theorem sortP_any {W : World} {base : Nat} {v : Value} {l : List Mv} (hown : W.ownsRow base 26 3 v l.length (mvCells l)) (hl : l.length ≤ 20000) :
    Calls Tryz.prog 79 #[v, .func (.func 80) #[] #[]] W fun e w' => e = .returned (.tuple #[]) ∧ ∃ l', l'.Perm l ∧ (l'.Pairwise fun a b => ¬ ltM b a) ∧ MvSl w' v l' ∧ W.grownBy w' v.ownBlock := by
  rcases hown.2 with ⟨rfl, h0⟩ | ⟨g, cp, cur, rfl, hg, hgb, _⟩
  · have hl0 : l = [] := List.eq_nil_of_length_eq_zero h0
    subst hl0
    have hcon := AnyF.slices_SortFunc_none Tryz.sortMv none 0 (.func (.func 80) #[] #[]) W
    change Calls Tryz.prog 79 _ _ _ at hcon
    refine hcon.mono ?_
    rintro e w' ⟨rfl, rfl⟩
    exact ⟨rfl, [], List.Perm.refl _, List.Pairwise.nil, .inl ⟨rfl, rfl⟩, ⟨rfl, rfl, rfl, Nat.le_refl _, fun _ _ _ => rfl⟩⟩
  · have eg : ∀ args w, (callFunc 80 args).run Tryz.prog w = .ok (.enter 80 args) w := enters_of Tryz.func80 (by kernel_rfl) rfl
    have hgl : g < W.heap.size := (Array.getElem?_eq_some_iff.1 hgb).1
    have hH : HoldsK encM 3 W g 0 l.toArray := by
      intro j hj
      have hj3 : j < l.length * 3 := by simpa using hj
      refine ⟨?_, hown.frozenAt (0 + j)⟩
      rw [hown.cellAt (0 + j) (by omega), Nat.zero_add]
      exact encM_flat l j hj3
    have hcon := AnyQ.slices_SortFunc Tryz.sortMv 3 Tryz.isAgg26 Tryz.sizeOf26 encM (fun _ => rfl) (fun x v hv => by simp [encM] at hv; rcases hv with rfl | rfl | rfl <;> rfl) cmpM swoM 80 #[] g 0 cp l.toArray W eg (fun _ _ _ _ x y => compareM_any x y _) hH hgl (by simp; omega)
    change Calls Tryz.prog 79 _ _ _ at hcon
    rw [List.size_toArray] at hcon
    refine hcon.mono ?_
    rintro e w' ⟨rfl, d', n, os, hp, hs, rfl⟩
    have hsz : d'.size = l.length := by simpa using hp.1
    have hperm : d'.toList.Perm l := by
      have h1 := hp.2.2
      have e1 : d'.extract 0 l.length = d' := by rw [← hsz]; simp
      have e2 : l.toArray.extract 0 l.length = l.toArray := by
        have : l.toArray.size = l.length := by simp
        rw [← this]; simp
      rw [e1, e2] at h1
      simpa using h1
    have hlen : d'.toList.length = l.length := by simpa using hsz
    refine ⟨rfl, d'.toList, hperm, ?_, .inr ⟨g, 0, cp, by rw [hlen], ?_⟩, grownBy_sortedK d'⟩
    · rw [List.pairwise_iff_getElem]
      intro i j hi hj hij
      have h1 := hs i j (Nat.zero_le _) hij (by rw [← hlen]; exact hj)
      rw [ltOf_M, getElem!_pos d' j (by simpa using hj), getElem!_pos d' i (by simpa using hi)] at h1
      simpa using h1
    · refine ⟨Nat.lt_of_lt_of_le hgl (by unfold sortWorldK putRowK; simp), fun j hj => ?_⟩
      have hj' : j < d'.size * 3 := by simpa using hj
      have h1 := holdsK_putRowK (enc := encM) (k := 3) (Sort.ahead W n) g 0 l.toArray d' hH (by simpa using hsz) j (by simpa using hj')
      unfold sortWorldK
      rw [cell?_grow _ _ _ (by unfold putRowK; simpa using hgl)]
      rw [h1.1]
      have h2 := encM_flat d'.toList j (by simpa using hj)
      rw [h2]
      simp

end Go.Proofs.YthffhhbbhjcdeaaGreatDoor
