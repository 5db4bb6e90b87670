/-
  slices.SortFunc of events by whatever compares their keys, at this program, on a row of the call's own.
-/
import Derived.Test.YteccmklacgpodaaSortLay
import Derived.Test.YteccmklacgpodaaCmpG
import Derived.Test.YteccmklacgpodaaSrtP
import Derived.Shelf.SlSortCmp.NoneTotal
namespace Go.Proofs.Yteccmklacgpodaa
open Go.RowKit Go.Sort
set_option maxRecDepth 100000
instance evInh : Inhabited Ev := ⟨⟨0, 0, 0, 0, 0, 0, 0, 0, 0⟩⟩
def cfE (x y : Ev) : Int := cmpK x.key y.key
theorem swoE : SWO (ltOf cfE) where
  irrefl x := by
    unfold ltOf cfE
    rw [decide_eq_false_iff_not, cmpK_neg]
    exact fun h => h.irrefl
  trans x y z h1 h2 := by
    unfold ltOf cfE at *
    rw [decide_eq_true_eq, cmpK_neg] at *
    exact h1.trans h2
  ntrans x y z h1 h2 := by
    unfold ltOf cfE at *
    rw [decide_eq_false_iff_not, cmpK_neg] at *
    unfold Key4.Lt at *
    omega
theorem flatE (L : List Ev) : (flatK Ev.cells 9 L.toArray).toList = L.flatMap Ev.cells := by
  have hl := length_flatMap_const Ev.cells 9 Ev.cells_length L
  have hs : (flatK Ev.cells 9 L.toArray).size = L.length * 9 := by rw [size_flatK]; simp
  refine List.ext_getElem (by rw [hl, Array.length_toList, hs]) fun t h1 h2 => ?_
  rw [Array.length_toList, hs] at h1
  have hg := get_flatK Ev.cells 9 L.toArray t (by simpa using h1)
  rw [getElem!_pos (flatK Ev.cells 9 L.toArray) t (by rw [hs]; exact h1)] at hg
  rw [Array.getElem_toList, hg]
  have hk : t / 9 < L.length := by omega
  have ht : t = t / 9 * 9 + t % 9 := by omega
  have hm : t % 9 < 9 := by omega
  have := getElem?_flatMap Ev.cells 9 Ev.cells_length L (t / 9) (t % 9) _ (List.getElem?_eq_getElem hk) hm
  rw [← ht, List.getElem?_eq_getElem h2] at this
  have e2 : L.toArray[t / 9]! = L[t / 9] := by rw [getElem!_pos L.toArray (t / 9) (by simpa using hk)]; simp
  rw [e2, getElem!_pos (L[t / 9].cells) (t % 9) (by rw [Ev.cells_length]; exact hm)]
  rw [List.getElem?_eq_getElem (by rw [Ev.cells_length]; exact hm)] at this
  exact (Option.some.inj this).symm
theorem putCells_take (F : Array Value) (cur : Array Value) (n : Nat) (hF : F.size = n) (hc : n ≤ cur.size) : (putCells id 0 F cur).toList.take n = F.toList := by
  have hs : (putCells id 0 F cur).size = cur.size := by unfold putCells; simp
  refine List.ext_getElem (by rw [List.length_take, Array.length_toList, Array.length_toList, hs, hF]; omega) fun t h1 h2 => ?_
  rw [Array.length_toList] at h2
  rw [List.getElem_take, Array.getElem_toList, Array.getElem_toList]
  unfold putCells
  rw [Array.getElem_mapIdx, if_pos ⟨Nat.zero_le _, by omega⟩]
  simp only [id, Nat.sub_zero]
  rw [getElem!_pos F t h2]
set_option maxHeartbeats 1000000 in
theorem sort_gen (fo : Nat) (eg : ∀ args w, (callFunc fo args).run Try.prog w = .ok (.enter fo args) w) (hc : ∀ (x y : Ev) (w : World), Calls Try.prog fo #[x.val, y.val] w fun e w' => e = .returned (.int .i64 (cmpK x.key y.key)) ∧ ∃ q os', w' = grow (w.drewN q) os') (base : Nat) (A : Option Addr) (n c : Nat) (L : List Ev) (w : World) (hL : L.length ≤ 1000) (ho : OwnL w base 43 9 (.slice A n c) Ev.cells L) :
    Calls Try.prog 39 #[.slice A n c, .func (.func fo) #[] #[]] w fun e w' => e = .returned (.tuple #[]) ∧ ∃ L' : List Ev, L'.Perm L ∧ SortedW L' ∧ OwnL w' base 43 9 (.slice A n c) Ev.cells L' ∧ Below base w w' := by
  have hn := ho.len
  subst hn
  rcases Nat.eq_zero_or_pos L.length with h0 | hpos
  · have := AnyF.slices_SortFunc_none Try.sortEv A c (.func (.func fo) #[] #[]) w
    change Calls Try.prog 39 _ _ _ at this
    rw [h0]
    refine this.mono ?_
    rintro e w' ⟨rfl, rfl⟩
    have hnil : L = [] := List.eq_nil_of_length_eq_zero h0
    subst hnil
    exact ⟨rfl, [], List.Perm.refl _, List.Pairwise.nil, ho, Below.refl _ _⟩
  · obtain ⟨g, rfl, -, hbg, hgl⟩ := ho.formA hpos
    obtain ⟨hlen, hr⟩ := ho
    rcases hr with ⟨h, -⟩ | ⟨g', cap, cur, hv, -, hg, hnc, hcap, hcur, htk⟩
    · cases h
    · cases hv
      have ho : OwnL w base 43 9 (.slice (some ⟨g, 0, none⟩) L.length c) Ev.cells L := ⟨hlen, .inr ⟨g, c, cur, rfl, hbg, hg, hnc, hcap, hcur, htk⟩⟩
      have hH : HoldsK Ev.cells 9 w g 0 L.toArray := fun j hj => by
        rw [size_flatK] at hj
        refine ⟨?_, ?_⟩
        · rw [Nat.zero_add, World.ownsRow.cellAt ho j (by simpa using hj)]
          have h2 : j < (flatK Ev.cells 9 L.toArray).toList.length := by rw [Array.length_toList, size_flatK]; exact hj
          rw [← flatE, List.getElem?_eq_getElem h2, Array.getElem_toList, getElem!_pos _ j (by rw [size_flatK]; exact hj)]
          rfl
        · rw [Nat.zero_add]; exact ho.frozen j
      have hcmp : CmpLays Try.prog fo #[] Ev.cells 9 cfE g 0 L.toArray.size w := fun _ _ _ _ x y => hc x y _
      have hcon := AnyQ.slices_SortFunc Try.sortEv 9 Try.isAgg43 Try.sizeOf43 Ev.cells Ev.cells_length (fun x v hv => by
        simp only [Ev.cells, List.mem_cons, List.not_mem_nil, or_false] at hv
        rcases hv with rfl | rfl | rfl | rfl | rfl | rfl | rfl | rfl | rfl <;> rfl) cfE swoE fo #[] g 0 c L.toArray w eg hcmp hH hgl (by simp; omega)
      change Calls Try.prog 39 _ _ _ at hcon
      rw [List.size_toArray] at hcon
      refine hcon.mono ?_
      rintro e w' ⟨rfl, d', m, os, ⟨hds, -, hperm⟩, hsort, rfl⟩
      have hd0 : d'.size = L.length := by simpa using hds
      have hp : d'.toList.Perm L := by
        have e1 : d'.extract 0 L.length = d' := by rw [← hd0]; simp
        have e2 : L.toArray.extract 0 L.length = L.toArray := by simp
        rw [e1, e2] at hperm
        simpa using hperm
      have hF : (flatK Ev.cells 9 d').size = L.length * 9 := by rw [size_flatK, hd0]
      have hblk : ∀ k, k < w.heap.size → k ≠ g → (sortWorldK Ev.cells 9 w g 0 m d' os).heap[k]? = w.heap[k]? := fun k hk hkg => by
        show ((w.heap.modify g (onCells (putCells id 0 (flatK Ev.cells 9 d')))) ++ os)[k]? = _
        rw [Array.getElem?_append_left (by simpa using hk), Array.getElem?_modify, if_neg (fun e => hkg e.symm)]
      have hat : (sortWorldK Ev.cells 9 w g 0 m d' os).heap[g]? = some (.cells (putCells id 0 (flatK Ev.cells 9 d') cur) 43 (0, 0)) := by
        show ((w.heap.modify g (onCells (putCells id 0 (flatK Ev.cells 9 d')))) ++ os)[g]? = _
        rw [Array.getElem?_append_left (by simpa using hgl), Array.getElem?_modify, if_pos rfl, hg]
        rfl
      have hcs : L.length * 9 ≤ cur.size := by rw [hcur]; exact Nat.mul_le_mul_right _ hnc
      have htk' := putCells_take (flatK Ev.cells 9 d') cur (L.length * 9) hF hcs
      have hfe := flatE d'.toList
      simp only [Array.toArray_toList] at hfe
      refine ⟨rfl, d'.toList, hp, ?_, ⟨?_, .inr ⟨g, c, putCells id 0 (flatK Ev.cells 9 d') cur, ?_, hbg, hat, ?_, hcap, ?_, ?_⟩⟩, ⟨rfl, rfl, rfl, ?_, fun k hk => hblk k (by omega) (by omega)⟩⟩
      · unfold SortedW
        rw [List.pairwise_iff_getElem]
        intro i j hi hj hij
        rw [Array.length_toList] at hi hj
        have := hsort i j (Nat.zero_le _) hij (by omega)
        unfold ltOf cfE at this
        rw [decide_eq_false_iff_not, getElem!_pos d' i hi, getElem!_pos d' j hj] at this
        have hsw := cmpK_swap d'[i].key d'[j].key
        simp only [Array.getElem_toList]
        omega
      · rw [length_flatMap_const Ev.cells 9 Ev.cells_length]
      · show Value.slice (some ⟨g, 0, none⟩) L.length c = .slice (some ⟨g, 0, none⟩) d'.toList.length c
        rw [show d'.toList.length = L.length by simpa using hd0]
      · rw [show d'.toList.length = L.length by simpa using hd0]; exact hnc
      · have hs : (putCells id 0 (flatK Ev.cells 9 d') cur).size = cur.size := by unfold putCells; simp
        rw [hs, hcur]
      · rw [show d'.toList.length = L.length by simpa using hd0, htk', hfe]
      · show _ ≤ ((w.heap.modify g _) ++ os).size
        simp
end Go.Proofs.Yteccmklacgpodaa
