/-
  The walks beneath: CmpG, SrtE, LivG, MapW.
-/
import Derived.Sort.Grow
import Derived.Shelf.SlSortCmp.NoneTotal
import Derived.Test.YtibeihcpehikoaaGreatMq2
import Derived.Test.YtibeihcpehikoaaGreatSortLay
import Derived.Test.YtibeihcpehikoaaGreatMq47
import Derived.Test.YtibeihcpehikoaaGreatMq44
import Derived.Test.YtibeihcpehikoaaGreatMq42
import Derived.Test.YtibeihcpehikoaaGreatMq43
namespace Go.Proofs.YtibeihcpehikoaaGreat
open Go.RowKit Go.Sort
set_option maxRecDepth 100000
set_option maxHeartbeats 1000000 in
theorem compare_grown (a b : Key4) (w : World) : Calls Tryz.prog 80 #[a.val, b.val] w fun e w' => e = .returned (.int .i64 (cmpK a b)) ∧ ∃ q os', w' = grow (w.drewN q) os' := by
  unfold Key4.val
  go_enter Tryz.func80, Tryz.ntmps80
  go_wp2_with fail
  obtain ⟨W1, hW1⟩ : ∃ W1, W1 = (w.alloc (.cells #[.int .i64 a.frame, .int .i64 a.emitter, .int .i64 a.kind, .int .i64 a.ord] 60)).alloc (.cells #[.int .i64 b.frame, .int .i64 b.emitter, .int .i64 b.kind, .int .i64 b.ord] 60) := ⟨_, rfl⟩
  have hba : Blk W1 w.heap.size 60 #[.int .i64 a.frame, .int .i64 a.emitter, .int .i64 a.kind, .int .i64 a.ord] := by rw [hW1]; exact (Blk.new _ _ _).alloc _
  have hbb : Blk W1 (w.heap.size + 1) 60 #[.int .i64 b.frame, .int .i64 b.emitter, .int .i64 b.kind, .int .i64 b.ord] := by
    rw [hW1]
    have := Blk.new (w.alloc (.cells #[.int .i64 a.frame, .int .i64 a.emitter, .int .i64 a.kind, .int .i64 a.ord] 60)) 60 #[.int .i64 b.frame, .int .i64 b.emitter, .int .i64 b.kind, .int .i64 b.ord]
    simpa using this
  have hsz : W1.heap.size = w.heap.size + 2 := by rw [hW1]; simp
  have HG : Hid (∀ o, ∃ q os', (W1.alloc o).drew = grow (w.drewN q) os') := Lib.hid (fun o => ⟨1, _, by rw [hW1, alloc_eq_grow, alloc_eq_grow, alloc_eq_grow, grow_grow, grow_grow]; rfl⟩)
  have a0 := hba.cell 0
  have a1 := hba.cell 1
  have a2 := hba.cell 2
  have a3 := hba.cell 3
  have b0 := hbb.cell 0
  have b1 := hbb.cell 1
  have b2 := hbb.cell 2
  have b3 := hbb.cell 3
  simp only [List.getElem?_toArray, List.getElem?_cons_zero, List.getElem?_cons_succ] at a0 a1 a2 a3 b0 b1 b2 b3
  rw [← hW1]
  have hs1 : w.heap.size < W1.heap.size := by omega
  have hs2 : w.heap.size + 1 < W1.heap.size := by omega
  clear hW1 hba hbb hsz
  go_region_held3 (fun w' => w'.cell? ⟨w.heap.size, 0, none⟩ = some (.int .i64 a.frame) ∧ w'.cell? ⟨w.heap.size, 1, none⟩ = some (.int .i64 a.emitter) ∧ w'.cell? ⟨w.heap.size, 2, none⟩ = some (.int .i64 a.kind) ∧ w'.cell? ⟨w.heap.size, 3, none⟩ = some (.int .i64 a.ord) ∧
      w'.cell? ⟨w.heap.size + 1, 0, none⟩ = some (.int .i64 b.frame) ∧ w'.cell? ⟨w.heap.size + 1, 1, none⟩ = some (.int .i64 b.emitter) ∧ w'.cell? ⟨w.heap.size + 1, 2, none⟩ = some (.int .i64 b.kind) ∧ w'.cell? ⟨w.heap.size + 1, 3, none⟩ = some (.int .i64 b.ord))
    (first | go_keep)
    (first
      | (go_at_call 158; refine (cmp_any _ _ _).mono ?_; rintro e w4 ⟨rfl, rfl⟩)
      | (go_at_call 157; refine (or_any _ _ [cmpI a.frame b.frame, cmpI a.emitter b.emitter, cmpI a.kind b.kind, cmpI a.ord b.ord] _ (by simp) (by exact rd_new W1 _ 3 _ rfl _ (by simp))).mono ?_; rintro e w4 ⟨rfl, rfl⟩))
  go_wp2
  go_ret
  exact ⟨rfl, HG.out _⟩
end Go.Proofs.YtibeihcpehikoaaGreat

namespace Go.Proofs.YtibeihcpehikoaaGreat
open Go.RowKit Go.Sort
set_option maxRecDepth 100000
instance evInh : Inhabited Ev := ⟨⟨0, 0, 0, 0, 0, 0, 0, 0, 0⟩⟩
def cfE (x y : Ev) : Int := cmpK x.key y.key
theorem swoE : SWO (ltOf cfE) where
  irrefl x := by
    unfold ltOf cfE
    rw [decide_eq_false_iff_not, cmpK_neg]
    exact fun h => h.irrefl
  trans x y z h1 h2 := by
    unfold ltOf cfE at *
    rw [decide_eq_true_eq, cmpK_neg] at *
    exact h1.trans h2
  ntrans x y z h1 h2 := by
    unfold ltOf cfE at *
    rw [decide_eq_false_iff_not, cmpK_neg] at *
    unfold Key4.Lt at *
    omega
theorem flatE (L : List Ev) : (flatK Ev.cells 9 L.toArray).toList = L.flatMap Ev.cells := by
  have hl := length_flatMap_const Ev.cells 9 Ev.cells_length L
  have hs : (flatK Ev.cells 9 L.toArray).size = L.length * 9 := by rw [size_flatK]; simp
  refine List.ext_getElem (by rw [hl, Array.length_toList, hs]) fun t h1 h2 => ?_
  rw [Array.length_toList, hs] at h1
  have hg := get_flatK Ev.cells 9 L.toArray t (by simpa using h1)
  rw [getElem!_pos (flatK Ev.cells 9 L.toArray) t (by rw [hs]; exact h1)] at hg
  rw [Array.getElem_toList, hg]
  have hk : t / 9 < L.length := by omega
  have ht : t = t / 9 * 9 + t % 9 := by omega
  have hm : t % 9 < 9 := by omega
  have := getElem?_flatMap Ev.cells 9 Ev.cells_length L (t / 9) (t % 9) _ (List.getElem?_eq_getElem hk) hm
  rw [← ht, List.getElem?_eq_getElem h2] at this
  have e2 : L.toArray[t / 9]! = L[t / 9] := by rw [getElem!_pos L.toArray (t / 9) (by simpa using hk)]; simp
  rw [e2, getElem!_pos (L[t / 9].cells) (t % 9) (by rw [Ev.cells_length]; exact hm)]
  rw [List.getElem?_eq_getElem (by rw [Ev.cells_length]; exact hm)] at this
  exact (Option.some.inj this).symm
theorem putCells_take (F : Array Value) (cur : Array Value) (n : Nat) (hF : F.size = n) (hc : n ≤ cur.size) : (putCells id 0 F cur).toList.take n = F.toList := by
  have hs : (putCells id 0 F cur).size = cur.size := by unfold putCells; simp
  refine List.ext_getElem (by rw [List.length_take, Array.length_toList, Array.length_toList, hs, hF]; omega) fun t h1 h2 => ?_
  rw [Array.length_toList] at h2
  rw [List.getElem_take, Array.getElem_toList, Array.getElem_toList]
  unfold putCells
  rw [Array.getElem_mapIdx, if_pos ⟨Nat.zero_le _, by omega⟩]
  simp only [id, Nat.sub_zero]
  rw [getElem!_pos F t h2]
set_option maxHeartbeats 1000000 in
theorem sort_gen (fo : Nat) (eg : ∀ args w, (callFunc fo args).run Tryz.prog w = .ok (.enter fo args) w) (hc : ∀ (x y : Ev) (w : World), Calls Tryz.prog fo #[x.val, y.val] w fun e w' => e = .returned (.int .i64 (cmpK x.key y.key)) ∧ ∃ q os', w' = grow (w.drewN q) os') (base : Nat) (A : Option Addr) (n c : Nat) (L : List Ev) (w : World) (hL : L.length ≤ 1000) (ho : OwnL w base 62 9 (.slice A n c) Ev.cells L) :
    Calls Tryz.prog 155 #[.slice A n c, .func (.func fo) #[] #[]] w fun e w' => e = .returned (.tuple #[]) ∧ ∃ L' : List Ev, L'.Perm L ∧ SortedW L' ∧ OwnL w' base 62 9 (.slice A n c) Ev.cells L' ∧ Below base w w' := by
  have hn := ho.len
  subst hn
  rcases Nat.eq_zero_or_pos L.length with h0 | hpos
  · have := AnyF.slices_SortFunc_none Tryz.sortEv A c (.func (.func fo) #[] #[]) w
    change Calls Tryz.prog 155 _ _ _ at this
    rw [h0]
    refine this.mono ?_
    rintro e w' ⟨rfl, rfl⟩
    have hnil : L = [] := List.eq_nil_of_length_eq_zero h0
    subst hnil
    exact ⟨rfl, [], List.Perm.refl _, List.Pairwise.nil, ho, Below.refl _ _⟩
  · obtain ⟨g, rfl, -, hbg, hgl⟩ := ho.formA hpos
    obtain ⟨hlen, hr⟩ := ho
    rcases hr with ⟨h, -⟩ | ⟨g', cap, cur, hv, -, hg, hnc, hcap, hcur, htk⟩
    · cases h
    · cases hv
      have ho : OwnL w base 62 9 (.slice (some ⟨g, 0, none⟩) L.length c) Ev.cells L := ⟨hlen, .inr ⟨g, c, cur, rfl, hbg, hg, hnc, hcap, hcur, htk⟩⟩
      have hH : HoldsK Ev.cells 9 w g 0 L.toArray := fun j hj => by
        rw [size_flatK] at hj
        refine ⟨?_, ?_⟩
        · rw [Nat.zero_add, World.ownsRow.cellAt ho j (by simpa using hj)]
          have h2 : j < (flatK Ev.cells 9 L.toArray).toList.length := by rw [Array.length_toList, size_flatK]; exact hj
          rw [← flatE, List.getElem?_eq_getElem h2, Array.getElem_toList, getElem!_pos _ j (by rw [size_flatK]; exact hj)]
          rfl
        · rw [Nat.zero_add]; exact ho.frozen j
      have hcmp : CmpLays Tryz.prog fo #[] Ev.cells 9 cfE g 0 L.toArray.size w := fun _ _ _ _ x y => hc x y _
      have hcon := AnyQ.slices_SortFunc Tryz.sortEv 9 Tryz.isAgg62 Tryz.sizeOf62 Ev.cells Ev.cells_length (fun x v hv => by
        simp only [Ev.cells, List.mem_cons, List.not_mem_nil, or_false] at hv
        rcases hv with rfl | rfl | rfl | rfl | rfl | rfl | rfl | rfl | rfl <;> rfl) cfE swoE fo #[] g 0 c L.toArray w eg hcmp hH hgl (by simp; omega)
      change Calls Tryz.prog 155 _ _ _ at hcon
      rw [List.size_toArray] at hcon
      refine hcon.mono ?_
      rintro e w' ⟨rfl, d', m, os, ⟨hds, -, hperm⟩, hsort, rfl⟩
      have hd0 : d'.size = L.length := by simpa using hds
      have hp : d'.toList.Perm L := by
        have e1 : d'.extract 0 L.length = d' := by rw [← hd0]; simp
        have e2 : L.toArray.extract 0 L.length = L.toArray := by simp
        rw [e1, e2] at hperm
        simpa using hperm
      have hF : (flatK Ev.cells 9 d').size = L.length * 9 := by rw [size_flatK, hd0]
      have hblk : ∀ k, k < w.heap.size → k ≠ g → (sortWorldK Ev.cells 9 w g 0 m d' os).heap[k]? = w.heap[k]? := fun k hk hkg => by
        show ((w.heap.modify g (onCells (putCells id 0 (flatK Ev.cells 9 d')))) ++ os)[k]? = _
        rw [Array.getElem?_append_left (by simpa using hk), Array.getElem?_modify, if_neg (fun e => hkg e.symm)]
      have hat : (sortWorldK Ev.cells 9 w g 0 m d' os).heap[g]? = some (.cells (putCells id 0 (flatK Ev.cells 9 d') cur) 62 (0, 0)) := by
        show ((w.heap.modify g (onCells (putCells id 0 (flatK Ev.cells 9 d')))) ++ os)[g]? = _
        rw [Array.getElem?_append_left (by simpa using hgl), Array.getElem?_modify, if_pos rfl, hg]
        rfl
      have hcs : L.length * 9 ≤ cur.size := by rw [hcur]; exact Nat.mul_le_mul_right _ hnc
      have htk' := putCells_take (flatK Ev.cells 9 d') cur (L.length * 9) hF hcs
      have hfe := flatE d'.toList
      simp only [Array.toArray_toList] at hfe
      refine ⟨rfl, d'.toList, hp, ?_, ⟨?_, .inr ⟨g, c, putCells id 0 (flatK Ev.cells 9 d') cur, ?_, hbg, hat, ?_, hcap, ?_, ?_⟩⟩, ⟨rfl, rfl, rfl, ?_, fun k hk => hblk k (by omega) (by omega)⟩⟩
      · unfold SortedW
        rw [List.pairwise_iff_getElem]
        intro i j hi hj hij
        rw [Array.length_toList] at hi hj
        have := hsort i j (Nat.zero_le _) hij (by omega)
        unfold ltOf cfE at this
        rw [decide_eq_false_iff_not, getElem!_pos d' i hi, getElem!_pos d' j hj] at this
        have hsw := cmpK_swap d'[i].key d'[j].key
        simp only [Array.getElem_toList]
        omega
      · rw [length_flatMap_const Ev.cells 9 Ev.cells_length]
      · show Value.slice (some ⟨g, 0, none⟩) L.length c = .slice (some ⟨g, 0, none⟩) d'.toList.length c
        rw [show d'.toList.length = L.length by simpa using hd0]
      · rw [show d'.toList.length = L.length by simpa using hd0]; exact hnc
      · have hs : (putCells id 0 (flatK Ev.cells 9 d') cur).size = cur.size := by unfold putCells; simp
        rw [hs, hcur]
      · rw [show d'.toList.length = L.length by simpa using hd0, htk', hfe]
      · show _ ≤ ((w.heap.modify g _) ++ os).size
        simp
end Go.Proofs.YtibeihcpehikoaaGreat

namespace Go.Proofs.YtibeihcpehikoaaGreat
open Go.RowKit Go.Sort
set_option maxRecDepth 100000
set_option linter.unusedSimpArgs false
set_option maxHeartbeats 1000000
theorem values_any (b : Nat) (w : World) : Calls Tryz.prog 78 #[.map (some b)] w fun e w' => e = .returned (.func (.func 156) #[] #[.pointer (some ⟨w.heap.size, 0, none⟩)]) ∧ w' = w.alloc (.cells #[.map (some b)] 148) := by
  go_enter Tryz.func78, Tryz.ntmps78
  go_wp2
  go_ret
  exact ⟨rfl, rfl⟩
theorem collect_any (Bm b : Nat) (L : List (Key4 × Ev)) (w : World) (hL : L.length ≤ 1000000) (hm : w.cell? ⟨Bm, 0, none⟩ = some (.map (some b))) (hown : MapIs Key4.val Ev.val Tryz.prog 60 w b L) :
    Calls Tryz.prog 76 #[.func (.func 156) #[] #[.pointer (some ⟨Bm, 0, none⟩)]] w fun e w' => ∃ (A : Option Addr) (c : Nat) (xs : List (Key4 × Ev)), e = .returned (.slice A xs.length c) ∧ xs.Perm L ∧ OwnL w' w.heap.size 62 9 (.slice A xs.length c) Ev.cells (xs.map (·.2)) ∧ Below w.heap.size w w' := by
  have HC := Lib.hid (fun W (hW : Below w.heap.size w W) => callsIn_wide.1 (appendSeq_in 156 #[.pointer (some ⟨Bm, 0, none⟩)] (enters_of Tryz.func156 (by kernel_rfl) rfl) L hL W (fun V hV => valsM_stops 2 (by decide) Bm b L V (((bTrans hW hV).cell (p := ⟨Bm, 0, none⟩) (block_lt_of_cell hm)).trans hm) (hown.same ((bTrans hW hV).block b hown.lt)))))
  clear hm hown
  go_enter Tryz.func76, Tryz.ntmps76
  go_wp2_with (first | (go_at_call 154; refine (HC.out _ (Below.refl _ _)).mono ?_; rintro e w1 ⟨A, c, xs, rfl, h1, h2, h3⟩; have H1 := Lib.hid h1; have H2 := Lib.hid h2; have H3 := Lib.hid h3; clear h1 h2 h3))
  go_ret
  exact ⟨A, c, xs, rfl, H1.out, H2.out, H3.out⟩
theorem sortedG_any (fo : Nat) (eg : ∀ args w, (callFunc fo args).run Tryz.prog w = .ok (.enter fo args) w) (hc : ∀ (x y : Ev) (w : World), Calls Tryz.prog fo #[x.val, y.val] w fun e w' => e = .returned (.int .i64 (cmpK x.key y.key)) ∧ ∃ q os', w' = grow (w.drewN q) os') (Bm b : Nat) (L : List (Key4 × Ev)) (w : World) (hL : L.length ≤ 1000) (hm : w.cell? ⟨Bm, 0, none⟩ = some (.map (some b))) (hown : MapIs Key4.val Ev.val Tryz.prog 60 w b L) :
    Calls Tryz.prog 77 #[.func (.func 156) #[] #[.pointer (some ⟨Bm, 0, none⟩)], .func (.func fo) #[] #[]] w fun e w' => ∃ (A : Option Addr) (c : Nat) (M : List Ev), e = .returned (.slice A M.length c) ∧ M.Perm (L.map (·.2)) ∧ SortedW M ∧ OwnL w' w.heap.size 62 9 (.slice A M.length c) Ev.cells M ∧ Below w.heap.size w w' := by
  have HC := Lib.hid (collect_any Bm b L w (by omega) hm hown)
  clear hm hown
  go_enter Tryz.func77, Tryz.ntmps77
  go_wp2_with (first
    | (go_at_call 76; refine (HC.out).mono ?_; rintro e w1 ⟨A, c, xs, rfl, h1, h2, h3⟩
       have hlen : xs.length ≤ 1000 := by rw [h1.length_eq]; exact hL
       have hml : (xs.map (·.2)).length = xs.length := List.length_map _
       have HS := Lib.hid (sort_gen fo eg hc w.heap.size A xs.length c (xs.map (·.2)) w1 (by rw [hml]; exact hlen) h2)
       have H1 := Lib.hid h1; have H3 := Lib.hid h3; clear h1 h2 h3 hml hlen)
    | (go_at_call 155; refine (HS.out).mono ?_; rintro e w2 ⟨rfl, M, p1, p2, p3, p4⟩
       have P1 := Lib.hid p1; have P2 := Lib.hid p2; have P3 := Lib.hid p3; have P4 := Lib.hid p4; clear p1 p2 p3 p4))
  go_ret
  have hl : xs.length = M.length := by rw [P1.out.length_eq, List.length_map]
  have h3 := P3.out
  rw [hl] at h3 ⊢
  exact ⟨A, c, M, rfl, P1.out.trans (H1.out.map _), P2.out, h3, H3.out.trans P4.out⟩
end Go.Proofs.YtibeihcpehikoaaGreat

namespace Go.Proofs.YtibeihcpehikoaaGreat
open Go.RowKit
theorem wpList_mapV {κ ν : Type} {ke : κ → Value} {ve : ν → Value} {P : Program} (w : World) {ops : Array Oper} {rest : List Oper} {o : Oper} {a : Act} {Q : Exit → Act → World → Prop} (hg : o.guard = none) (m x : Operand) (t : TypeId) (hop : o.op = Op.lookup t m x false) (k e : TypeId) (K : Go.Maps.Keyed P k) (ht : P.underlying t = some (.map k e)) {z : Value} (hz : (zeroValue e).run P w = .ok z w) (b : Nat) (L : List (κ × ν))
    (hm : a.eval m = .map (some b)) (h : MapIs ke ve P k w b L) (key : κ) (kl : Lit) (hx : a.eval x = ke key) (hkey : keyOf P k (ke key) = some kl)
    (v : Value) (hno : (∀ p ∈ L, ke p.1 ≠ ke key) → v = z) (hyes : ∀ p ∈ L, ke p.1 = ke key → v = ve p.2) (hK : wpList P ops Q rest (a.put o.dst v) w) : wpList P ops Q (o :: rest) a w :=
  wpList_lookM1 w hg m x t hop k e K ht hz b L hm h key kl hx hkey (fun hn => by rw [← hno hn]; exact hK) (fun p hp he => by rw [← hyes p hp he]; exact hK)
theorem wpList_mapW {κ ν : Type} {ke : κ → Value} {ve : ν → Value} {P : Program} (w : World) {ops : Array Oper} {rest : List Oper} {o : Oper} {a : Act} {Q : Exit → Act → World → Prop} (hg : o.guard = none) (m x : Operand) (t : TypeId) (hop : o.op = Op.lookup t m x true) (k e : TypeId) (K : Go.Maps.Keyed P k) (ht : P.underlying t = some (.map k e)) {z : Value} (hz : (zeroValue e).run P w = .ok z w) (b : Nat) (L : List (κ × ν))
    (hm : a.eval m = .map (some b)) (h : MapIs ke ve P k w b L) (key : κ) (kl : Lit) (hx : a.eval x = ke key) (hkey : keyOf P k (ke key) = some kl)
    (v : Value) (hno : (∀ p ∈ L, ke p.1 ≠ ke key) → v = .tuple #[z, .bool false]) (hyes : ∀ p ∈ L, ke p.1 = ke key → v = .tuple #[ve p.2, .bool true]) (hK : wpList P ops Q rest (a.put o.dst v) w) : wpList P ops Q (o :: rest) a w :=
  wpList_lookM w hg m x t hop k e K ht hz b L hm h key kl hx hkey (fun hn => by rw [← hno hn]; exact hK) (fun p hp he => by rw [← hyes p hp he]; exact hK)
end Go.Proofs.YtibeihcpehikoaaGreat
