/-
  slices.SortFunc of cuts by whatever compares them, at this program, on a row of the call's own.
-/
import Derived.Test.YtaegekfdbhmcaaaDoorSortLay
import Derived.Test.YtaegekfdbhmcaaaDoorRbP
import Derived.Sort.Grow
import Derived.Shelf.SlSortCmp.NoneTotal
namespace Go.Proofs.YtaegekfdbhmcaaaDoor
open Go.RowKit Go.Sort
set_option maxRecDepth 100000
instance cutInh : Inhabited Cut := ⟨⟨0, 0, 0⟩⟩
theorem flatCut (L : List Cut) : (flatK Cut.cells 3 L.toArray).toList = L.flatMap Cut.cells := by
  have hl := length_flatMap_const Cut.cells 3 Cut.cells_length L
  have hs : (flatK Cut.cells 3 L.toArray).size = L.length * 3 := by rw [size_flatK]; simp
  refine List.ext_getElem (by rw [hl, Array.length_toList, hs]) fun t h1 h2 => ?_
  rw [Array.length_toList, hs] at h1
  have hg := get_flatK Cut.cells 3 L.toArray t (by simpa using h1)
  rw [getElem!_pos (flatK Cut.cells 3 L.toArray) t (by rw [hs]; exact h1)] at hg
  rw [Array.getElem_toList, hg]
  have hk : t / 3 < L.length := by omega
  have ht : t = t / 3 * 3 + t % 3 := by omega
  have hm : t % 3 < 3 := by omega
  have := getElem?_flatMap Cut.cells 3 Cut.cells_length L (t / 3) (t % 3) _ (List.getElem?_eq_getElem hk) hm
  rw [← ht, List.getElem?_eq_getElem h2] at this
  have e2 : L.toArray[t / 3]! = L[t / 3] := by rw [getElem!_pos L.toArray (t / 3) (by simpa using hk)]; simp
  rw [e2, getElem!_pos (L[t / 3].cells) (t % 3) (by rw [Cut.cells_length]; exact hm)]
  rw [List.getElem?_eq_getElem (by rw [Cut.cells_length]; exact hm)] at this
  exact (Option.some.inj this).symm
theorem putCells_takeC (F : Array Value) (cur : Array Value) (n : Nat) (hF : F.size = n) (hc : n ≤ cur.size) : (putCells id 0 F cur).toList.take n = F.toList := by
  have hs : (putCells id 0 F cur).size = cur.size := by unfold putCells; simp
  refine List.ext_getElem (by rw [List.length_take, Array.length_toList, Array.length_toList, hs, hF]; omega) fun t h1 h2 => ?_
  rw [Array.length_toList] at h2
  rw [List.getElem_take, Array.getElem_toList, Array.getElem_toList]
  unfold putCells
  rw [Array.getElem_mapIdx, if_pos ⟨Nat.zero_le _, by omega⟩]
  simp only [id, Nat.sub_zero]
  rw [getElem!_pos F t h2]
set_option maxHeartbeats 1000000 in
theorem sortC_gen (cf : Cut → Cut → Int) (swo : SWO (ltOf cf)) (hsw : ∀ a b, cf b a = -cf a b) (fo : Nat) (eg : ∀ args w, (callFunc fo args).run Tryd.prog w = .ok (.enter fo args) w) (hc : ∀ (x y : Cut) (w : World), Calls Tryd.prog fo #[x.val, y.val] w fun e w' => e = .returned (.int .i64 (cf x y)) ∧ ∃ q os', w' = grow (w.drewN q) os') (base : Nat) (A : Option Addr) (n c : Nat) (L : List Cut) (w : World) (hL : L.length ≤ 1000) (ho : OwnL w base 48 3 (.slice A n c) Cut.cells L) :
    Calls Tryd.prog 20 #[.slice A n c, .func (.func fo) #[] #[]] w fun e w' => e = .returned (.tuple #[]) ∧ ∃ L' : List Cut, L'.Perm L ∧ L'.Pairwise (fun a b => cf a b ≤ 0) ∧ OwnL w' base 48 3 (.slice A n c) Cut.cells L' ∧ Below base w w' := by
  have hn := ho.len
  subst hn
  rcases Nat.eq_zero_or_pos L.length with h0 | hpos
  · have := AnyF.slices_SortFunc_none Tryd.sortCut A c (.func (.func fo) #[] #[]) w
    change Calls Tryd.prog 20 _ _ _ at this
    rw [h0]
    refine this.mono ?_
    rintro e w' ⟨rfl, rfl⟩
    have hnil : L = [] := List.eq_nil_of_length_eq_zero h0
    subst hnil
    exact ⟨rfl, [], List.Perm.refl _, List.Pairwise.nil, ho, Below.refl _ _⟩
  · obtain ⟨g, rfl, -, hbg, hgl⟩ := ho.formA hpos
    obtain ⟨hlen, hr⟩ := ho
    rcases hr with ⟨h, -⟩ | ⟨g', cap, cur, hv, -, hg, hnc, hcap, hcur, htk⟩
    · cases h
    · cases hv
      have ho : OwnL w base 48 3 (.slice (some ⟨g, 0, none⟩) L.length c) Cut.cells L := ⟨hlen, .inr ⟨g, c, cur, rfl, hbg, hg, hnc, hcap, hcur, htk⟩⟩
      have hH : HoldsK Cut.cells 3 w g 0 L.toArray := fun j hj => by
        rw [size_flatK] at hj
        refine ⟨?_, ?_⟩
        · rw [Nat.zero_add, World.ownsRow.cellAt ho j (by simpa using hj)]
          have h2 : j < (flatK Cut.cells 3 L.toArray).toList.length := by rw [Array.length_toList, size_flatK]; exact hj
          rw [← flatCut, List.getElem?_eq_getElem h2, Array.getElem_toList, getElem!_pos _ j (by rw [size_flatK]; exact hj)]
          rfl
        · rw [Nat.zero_add]; exact ho.frozen j
      have hcmp : CmpLays Tryd.prog fo #[] Cut.cells 3 cf g 0 L.toArray.size w := fun _ _ _ _ x y => hc x y _
      have hcon := AnyQ.slices_SortFunc Tryd.sortCut 3 Tryd.isAgg48 Tryd.sizeOf48 Cut.cells Cut.cells_length (fun x v hv => by
        simp only [Cut.cells, List.mem_cons, List.not_mem_nil, or_false] at hv
        rcases hv with rfl | rfl | rfl <;> rfl) cf swo fo #[] g 0 c L.toArray w eg hcmp hH hgl (by simp; omega)
      change Calls Tryd.prog 20 _ _ _ at hcon
      rw [List.size_toArray] at hcon
      refine hcon.mono ?_
      rintro e w' ⟨rfl, d', m, os, ⟨hds, -, hperm⟩, hsort, rfl⟩
      have hd0 : d'.size = L.length := by simpa using hds
      have hp : d'.toList.Perm L := by
        have e1 : d'.extract 0 L.length = d' := by rw [← hd0]; simp
        have e2 : L.toArray.extract 0 L.length = L.toArray := by simp
        rw [e1, e2] at hperm
        simpa using hperm
      have hF : (flatK Cut.cells 3 d').size = L.length * 3 := by rw [size_flatK, hd0]
      have hblk : ∀ k, k < w.heap.size → k ≠ g → (sortWorldK Cut.cells 3 w g 0 m d' os).heap[k]? = w.heap[k]? := fun k hk hkg => by
        show ((w.heap.modify g (onCells (putCells id 0 (flatK Cut.cells 3 d')))) ++ os)[k]? = _
        rw [Array.getElem?_append_left (by simpa using hk), Array.getElem?_modify, if_neg (fun e => hkg e.symm)]
      have hat : (sortWorldK Cut.cells 3 w g 0 m d' os).heap[g]? = some (.cells (putCells id 0 (flatK Cut.cells 3 d') cur) 48 (0, 0)) := by
        show ((w.heap.modify g (onCells (putCells id 0 (flatK Cut.cells 3 d')))) ++ os)[g]? = _
        rw [Array.getElem?_append_left (by simpa using hgl), Array.getElem?_modify, if_pos rfl, hg]
        rfl
      have hcs : L.length * 3 ≤ cur.size := by rw [hcur]; exact Nat.mul_le_mul_right _ hnc
      have htk' := putCells_takeC (flatK Cut.cells 3 d') cur (L.length * 3) hF hcs
      have hfe := flatCut d'.toList
      simp only [Array.toArray_toList] at hfe
      refine ⟨rfl, d'.toList, hp, ?_, ⟨?_, .inr ⟨g, c, putCells id 0 (flatK Cut.cells 3 d') cur, ?_, hbg, hat, ?_, hcap, ?_, ?_⟩⟩, ⟨rfl, rfl, rfl, ?_, fun k hk => hblk k (by omega) (by omega)⟩⟩
      · rw [List.pairwise_iff_getElem]
        intro i j hi hj hij
        rw [Array.length_toList] at hi hj
        have := hsort i j (Nat.zero_le _) hij (by omega)
        unfold ltOf at this
        rw [decide_eq_false_iff_not, getElem!_pos d' i hi, getElem!_pos d' j hj] at this
        have hsw := hsw d'[i] d'[j]
        simp only [Array.getElem_toList]
        omega
      · rw [length_flatMap_const Cut.cells 3 Cut.cells_length]
      · show Value.slice (some ⟨g, 0, none⟩) L.length c = .slice (some ⟨g, 0, none⟩) d'.toList.length c
        rw [show d'.toList.length = L.length by simpa using hd0]
      · rw [show d'.toList.length = L.length by simpa using hd0]; exact hnc
      · have hs : (putCells id 0 (flatK Cut.cells 3 d') cur).size = cur.size := by unfold putCells; simp
        rw [hs, hcur]
      · rw [show d'.toList.length = L.length by simpa using hd0, htk', hfe]
      · show _ ≤ ((w.heap.modify g _) ++ os).size
        simp
end Go.Proofs.YtaegekfdbhmcaaaDoor
