/-
  slices.Insert of one event ahead of another one, and Page.Add wherever the event goes.
-/
import Derived.Lib.AppendZeros
import Derived.Lib.AppendZerosOnto
import Derived.Test.YtibeihcpehikoaaGreatNq4
import Derived.Test.YtibeihcpehikoaaGreatNq5
namespace Go.Proofs.YtibeihcpehikoaaGreat
open Go.RowKit
set_option maxRecDepth 100000

theorem OwnL.cellAt' {α : Type} {w : World} {base : Nat} {E : TypeId} {m : Nat} {f : α → List Value} {l : List α} {g n cap j : Nat} (h : OwnL w base E m (.slice (some ⟨g, 0, none⟩) n cap) f l) (hj : j < l.length * m) :
    w.cell? ⟨g, j, none⟩ = (l.flatMap f)[j]? := by
  obtain rfl := h.len
  exact World.ownsRow.cellAt h j hj
theorem evSize : (Tryz.prog.info? 62).map (·.size) = some 9 := by kernel_rfl
theorem evSizeOf (w : World) : (Go.sizeOf 62).run Tryz.prog w = .ok 9 w := by kernel_rfl
theorem ev_oneCells (L : List Ev) : ∀ u ∈ L.flatMap Ev.cells, u.oneCell' = true := by
  intro u hu
  obtain ⟨x, -, hx⟩ := List.mem_flatMap.1 hu
  exact ev_oneCell x u hx
theorem blk_shape {w : World} {g : Nat} {E : TypeId} {cs : Array Value} (h : Blk w g E cs) : w.shape? g = some (E, cs.size) := by
  unfold Blk at h
  unfold World.shape?
  rw [h]
theorem overl_no (w : World) (gv g : Nat) (E E' : TypeId) (cs cs' : Array Value) (hx : Blk w gv E cs) (hg : Blk w g E' cs') (hne : gv ≠ g) (h0 : cs'.size ≠ 0) (o lb cb : Nat) :
    (callFunc 314 #[.slice (some ⟨gv, 0, none⟩) 1 1, .slice (some ⟨g, o, none⟩) lb cb]).run Tryz.prog w = .ok (.value (.bool false)) w := by
  rw [run_callFunc_extern Tryz.func314 (by kernel_rfl) (by kernel_rfl) (by kernel_rfl) (e := Extern.SlicesOverlaps.overlaps #[52, 52] #[4]) (by kernel_rfl),
    Lib.run_overlaps_apart w 52 4 62 Tryz.underlying52 9 evSizeOf ⟨gv, 0, none⟩ ⟨g, o, none⟩ 1 1 lb cb hne E E' cs.size cs'.size (blk_shape hx) (blk_shape hg) h0 (hx.frozen 0) (hx.frozen cs.size)]
  rfl
set_option maxHeartbeats 2000000 in
theorem ins_room (g n c i : Nat) (L : List Ev) (x : Ev) (gv base : Nat) (w : World) (hA : OwnL w base 62 9 (.slice (some ⟨g, 0, none⟩) n c) Ev.cells L) (hi : i < n) (hn : n ≤ 1000) (hroom : n + 1 ≤ c)
    (hx : Blk w gv 62 x.cells.toArray) (hne : gv ≠ g) :
    Calls Tryz.prog 295 #[.slice (some ⟨g, 0, none⟩) n c, .int .i64 i, .slice (some ⟨gv, 0, none⟩) 1 1] w fun e w' => e = .returned (.slice (some ⟨g, 0, none⟩) (n + 1) c) ∧ OwnL w' base 62 9 (.slice (some ⟨g, 0, none⟩) (n + 1) c) Ev.cells (insL L i x) ∧ w.grownBy w' (some g) := by
  have hln := hA.len
  obtain ⟨cur, hcur, hcs⟩ : ∃ cur, Blk w g 62 cur ∧ cur.size = c * 9 := by
    rcases hA.2 with ⟨e, -⟩ | ⟨g', cap', cur, hv, hb, hg, hn', hc, hs, ht⟩
    · cases e
    · simp only [Value.slice.injEq, Option.some.injEq, Addr.mk.injEq, and_true] at hv
      obtain ⟨rfl, -, rfl⟩ := hv
      exact ⟨cur, hg, hs⟩
  have hov := fun o lb cb => overl_no w gv g 62 62 _ cur hx hcur hne (by omega) o lb cb
  have hdl : ((L.drop i).flatMap Ev.cells).length = (n - i) * 9 := by rw [length_flatMap_const Ev.cells 9 Ev.cells_length, List.length_drop, hln]
  have hcp1 : ∀ ty dc sc, (Builtin.copy_ #[52, 52] ty #[.slice (some ⟨g, (i + 1) * 9, none⟩) (n - i) dc, .slice (some ⟨g, i * 9, none⟩) (n + 1 - i) sc]).run Tryz.prog w.drew = .ok (goInt ((n - i : Nat) : Int)) (w.drew.setCells g ((i + 1) * 9) ((L.drop i).flatMap Ev.cells)) := fun ty dc sc =>
    run_copyN w.drew _ _ ty 62 g ((i + 1) * 9) (n - i) dc ⟨g, i * 9, none⟩ (n + 1 - i) sc 9 (n - i) _ Tryz.underlying52 evSize (by simp only [Nat.min_def]; split <;> omega) hdl
      (fun j v hj => by
        rw [Go.WideShapes.add_plain]
        have hj9 : j < (n - i) * 9 := by rw [← hdl]; exact (List.getElem?_eq_some_iff.1 hj).1
        have hli : L.length * 9 = i * 9 + (n - i) * 9 := by rw [← Nat.add_mul]; congr 1; omega
        have h := hA.drew.cellAt' (j := i * 9 + j) (by omega)
        rw [h, ← hj, ← List.take_append_drop i L, List.flatMap_append, List.getElem?_append_right (by rw [length_flatMap_const Ev.cells 9 Ev.cells_length, List.length_take]; omega), length_flatMap_const Ev.cells 9 Ev.cells_length, List.length_take, List.take_append_drop]
        congr 1
        omega)
      (fun j hj => by
        have h := hcur.cell ((i + 1) * 9 + j)
        have hlt : (i + 1) * 9 + j < cur.size := by omega
        rw [Array.getElem?_eq_getElem hlt] at h
        exact Option.isSome_iff_exists.2 ⟨_, h⟩)
      (fun j _ => hcur.frozen _) (ev_oneCells _)
  obtain ⟨W1, hW1⟩ : ∃ W1, W1 = w.drew.setCells g ((i + 1) * 9) ((L.drop i).flatMap Ev.cells) := ⟨_, rfl⟩
  rw [← hW1] at hcp1
  have hcp2 : ∀ ty dc, (Builtin.copy_ #[52, 52] ty #[.slice (some ⟨g, i * 9, none⟩) (n + 1 - i) dc, .slice (some ⟨gv, 0, none⟩) 1 1]).run Tryz.prog W1 = .ok (goInt ((1 : Nat) : Int)) (W1.setCells g (i * 9) x.cells) := fun ty dc => by
    have hc1 : Blk W1 g 62 (putAt cur ((i + 1) * 9) ((L.drop i).flatMap Ev.cells)) := by rw [hW1]; exact hcur.drew.setCells _ _
    have hx1 : Blk W1 gv 62 x.cells.toArray := by rw [hW1]; exact hx.drew.farC hne _ _
    refine run_copyN W1 _ _ ty 62 g (i * 9) (n + 1 - i) dc ⟨gv, 0, none⟩ 1 1 9 1 _ Tryz.underlying52 evSize (by simp only [Nat.min_def]; split <;> omega) rfl ?_ ?_ (fun j _ => hc1.frozen _) (ev_oneCell x)
    · intro j v hj
      rw [Go.WideShapes.add_plain, Nat.zero_add, hx1.cell j]
      simpa using hj
    · intro j hj
      have hj9 : j < 9 := hj
      have h := hc1.cell (i * 9 + j)
      have hlt : i * 9 + j < (putAt cur ((i + 1) * 9) ((L.drop i).flatMap Ev.cells)).size := by rw [putAt_size]; omega
      rw [Array.getElem?_eq_getElem hlt] at h
      exact Option.isSome_iff_exists.2 ⟨_, h⟩
  have hfin : OwnL (W1.setCells g (i * 9) x.cells) base 62 9 (.slice (some ⟨g, 0, none⟩) (n + 1) c) Ev.cells (insL L i x) := by rw [hW1]; exact OwnL.put Ev.cells_length hA.drew (by omega) hroom
  have hgr : w.grownBy (W1.setCells g (i * 9) x.cells) (some g) := by rw [hW1]; exact oSetCells (oSetCells (oDrew (oRefl _ _)) _ _) _ _
  have HF := Lib.hid hfin
  have HG := Lib.hid hgr
  have HW := Lib.hid hW1
  have hb1 : ¬ c = i + 1 := by omega
  have hb2 : ¬ c = i := by omega
  have hin : i ≤ n := by omega
  have hw1 : IntKind.i64.wrap ((i : Int) + 1) = (i : Int) + 1 := by rw [IntKind.wrap_i64]; omega
  have hb3 : (0 : Int) ≤ (i : Int) + 1 := by omega
  have hb4 : (i : Int) ≤ (n : Int) + 1 := by omega
  have htn : ((i : Int) + 1).toNat = i + 1 := by omega
  have hne1 : ((i : Int) == (n : Int)) = false := by simp; omega
  clear hA hln hcur hcs hdl hx hfin hgr hW1
  go_enter Tryz.func295, Tryz.ntmps295
  go_wp2_with (simp only [hov])
  go_region_law (refine step_copy_run rfl (.tmp 73) (.tmp 76) 52 52 rfl _ _ (by simp [Act.eval, Act.put]) (by simp [Act.eval, Act.put]) (hcp1 _ _ _) ?_)
  all_goals
    go_wp2_with (refine wpList_copy_run rfl (.tmp 80) (.tmp 81) 52 52 rfl _ _ rfl rfl (hcp2 _ _) ?_)
    go_ret
    exact ⟨rfl, HF.out, HG.out⟩
theorem drew_put (b : Nat) (vs : List Value) : ∀ (w : World) (o : Nat), (w.setCells b o vs).drew = w.drew.setCells b o vs := by
  induction vs with
  | nil => intro w o; rfl
  | cons v r ih => intro w o; rw [World.setCells, World.setCells, ih]; rfl
theorem World.heap_drew' (w : World) : w.drew.heap = w.heap := rfl
def zEv : Value := .agg #[.int .i64 0, .int .i64 0, .int .i64 0, .int .i64 0, .int .i64 0, .int .i64 0, .int .i64 0, .int .i64 0, .int .i64 0]
theorem zero_size (k : Nat) : (Builtin.zeroCells zEv.cells k).size = k * 9 := by simp [Builtin.zeroCells, zEv, Value.cells]
set_option maxHeartbeats 4000000 in
theorem ins_grow (g n i : Nat) (L : List Ev) (x : Ev) (gv base : Nat) (w : World) (hbase : base ≤ w.heap.size) (hA : OwnL w base 62 9 (.slice (some ⟨g, 0, none⟩) n n) Ev.cells L) (hi : i < n) (hn : n ≤ 1000)
    (hx : Blk w gv 62 x.cells.toArray) :
    Calls Tryz.prog 295 #[.slice (some ⟨g, 0, none⟩) n n, .int .i64 i, .slice (some ⟨gv, 0, none⟩) 1 1] w fun e w' => ∃ c', e = .returned (.slice (some ⟨w.heap.size, 0, none⟩) (n + 1) c') ∧ OwnL w' base 62 9 (.slice (some ⟨w.heap.size, 0, none⟩) (n + 1) c') Ev.cells (insL L i x) ∧ Below w.heap.size w w' := by
  obtain ⟨i0, hi0, hz0, hzs, hzb⟩ := info_parts Tryz.infoEv
  have hln := hA.len
  have hgl : g < w.heap.size := hA.block_lt g rfl
  have hvl : gv < w.heap.size := hx.lt
  have hkk : (n : Int) + 1 - (i : Int) = ((n + 1 - i : Nat) : Int) := by omega
  have hik : i + (n + 1 - i) = n + 1 := by omega
  have hmi : ∀ a b : Nat, a ≤ b → a * 9 ≤ b * 9 := fun a b h => Nat.mul_le_mul_right _ h
  have htk : ((L.take i).flatMap Ev.cells).length = i * 9 := by rw [length_flatMap_const Ev.cells 9 Ev.cells_length, List.length_take]; congr 1; omega
  have hdl : ((L.drop i).flatMap Ev.cells).length = (n - i) * 9 := by rw [length_flatMap_const Ev.cells 9 Ev.cells_length, List.length_drop, hln]
  have hLl : (L.flatMap Ev.cells).length = n * 9 := by rw [length_flatMap_const Ev.cells 9 Ev.cells_length, hln]
  have hsp : L.flatMap Ev.cells = (L.take i).flatMap Ev.cells ++ (L.drop i).flatMap Ev.cells := by rw [← List.flatMap_append, List.take_append_drop]
  have hni : n * 9 = i * 9 + (n - i) * 9 := by rw [← Nat.add_mul]; congr 1; omega
  have hold : (Builtin.firstCells i0.size i (.slice (some ⟨g, 0, none⟩) i n)).run Tryz.prog w.drew = .ok ((L.take i).flatMap Ev.cells).toArray w.drew := by
    rw [hzs]
    refine run_firstCells_some w.drew 9 i ⟨g, 0, none⟩ i n _ htk (fun j v hj => ?_)
    have hj9 : j < i * 9 := by rw [← htk]; exact (List.getElem?_eq_some_iff.1 hj).1
    rw [Go.WideShapes.add_plain, Nat.zero_add]
    have h := hA.drew.cellAt' (j := j) (by rw [← hln]; omega)
    rw [h, hsp, List.getElem?_append_left (by omega), hj]
  obtain ⟨G, hG⟩ : ∃ G, G = grownCap w (n + 1) n 62 := ⟨_, rfl⟩
  obtain ⟨ROW, hROW⟩ : ∃ ROW : Array Value, ROW = ((L.take i).flatMap Ev.cells).toArray ++ Builtin.zeroCells zEv.cells (n + 1 - i) ++ Builtin.zeroCells zEv.cells (G - (n + 1)) := ⟨_, rfl⟩
  have hGn : n + 1 ≤ G := by rw [hG]; exact grownCap_ge w _ _ _
  have hGm : G ≤ maxLen := by rw [hG]; exact grownCap_le_maxLen w (n + 1) n 62 (by unfold maxLen; omega)
  have hRs : ROW.size = G * 9 := by
    rw [hROW, Array.size_append, Array.size_append, zero_size, zero_size, List.size_toArray, htk, ← Nat.add_mul, ← Nat.add_mul]
    congr 1
    omega
  have hRh : ∀ j, j < i * 9 → ROW[j]? = (L.flatMap Ev.cells)[j]? := fun j hj => by
    rw [hROW, Array.append_assoc, Array.getElem?_append_left (by rw [List.size_toArray, htk]; exact hj), List.getElem?_toArray, hsp, List.getElem?_append_left (by omega)]
  have hrz : ∀ ty, (Builtin.append_ #[52, 3] ty #[.slice (some ⟨g, 0, none⟩) i n, .int .i64 ((n : Int) + 1 - (i : Int))]).run Tryz.prog w =
      .ok (.slice (some ⟨w.heap.size, 0, none⟩) (n + 1) G) (w.drew.alloc (.cells ROW 62)) := fun ty => by
    have h := Lib.run_append_grow_zeros w 52 3 ty 62 i0 _ .i64 .i64 Tryz.underlying52 Tryz.underlying3 hi0 hz0 (some ⟨g, 0, none⟩) i n ((L.take i).flatMap Ev.cells) hold (n + 1 - i) (by omega) (by omega) (by omega) (by omega) (by rw [hzb]; omega) (by rw [hzb, hik]; exact growslice_fits (by omega) (by omega))
    rw [hik, ← hG] at h
    rw [hkk, hROW]
    exact h
  obtain ⟨W1, hW1⟩ : ∃ W1, W1 = w.drew.alloc (.cells ROW 62) := ⟨_, rfl⟩
  have hB1 : Blk W1 w.heap.size 62 ROW := by rw [hW1]; exact Blk.new w.drew 62 ROW
  have hx1 : Blk W1 gv 62 x.cells.toArray := by rw [hW1]; exact hx.drew.alloc _
  have hA1 : OwnL W1 base 62 9 (.slice (some ⟨g, 0, none⟩) n n) Ev.cells L := by rw [hW1]; exact hA.drew.alloc _
  have hb1 : Below w.heap.size w W1 := by rw [hW1]; exact bAlloc (Below.refl _ _).drew _
  have hcpA : ∀ (W : World), W.heap = W1.heap → ∀ ty dc, (Builtin.copy_ #[52, 52] ty #[.slice (some ⟨w.heap.size, i * 9, none⟩) (n + 1 - i) dc, .slice (some ⟨gv, 0, none⟩) 1 1]).run Tryz.prog W = .ok (goInt ((1 : Nat) : Int)) (W.setCells w.heap.size (i * 9) x.cells) := fun W hW ty dc => by
    have hBW : Blk W w.heap.size 62 ROW := by unfold Blk; rw [hW]; exact hB1
    have hxW : Blk W gv 62 x.cells.toArray := by unfold Blk; rw [hW]; exact hx1
    refine run_copyN W _ _ ty 62 w.heap.size (i * 9) (n + 1 - i) dc ⟨gv, 0, none⟩ 1 1 9 1 _ Tryz.underlying52 evSize (by simp only [Nat.min_def]; split <;> omega) rfl ?_ ?_ (fun j _ => hBW.frozen _) (ev_oneCell x)
    · intro j v hj
      rw [Go.WideShapes.add_plain, Nat.zero_add, hxW.cell j]
      simpa using hj
    · intro j hj
      have hj9 : j < 9 := hj
      have h := hBW.cell (i * 9 + j)
      have hlt : i * 9 + j < ROW.size := by have := hmi (n + 1) G hGn; omega
      rw [Array.getElem?_eq_getElem hlt] at h
      exact Option.isSome_iff_exists.2 ⟨_, h⟩
  have hcpB : ∀ (W : World), W.heap = (W1.setCells w.heap.size (i * 9) x.cells).heap → ∀ ty dc sc, (Builtin.copy_ #[52, 52] ty #[.slice (some ⟨w.heap.size, (i + 1) * 9, none⟩) (n - i) dc, .slice (some ⟨g, i * 9, none⟩) (n - i) sc]).run Tryz.prog W = .ok (goInt ((n - i : Nat) : Int)) (W.setCells w.heap.size ((i + 1) * 9) ((L.drop i).flatMap Ev.cells)) := fun W hW ty dc sc => by
    have hBW : Blk W w.heap.size 62 (putAt ROW (i * 9) x.cells) := by unfold Blk; rw [hW]; exact hB1.setCells _ _
    have hA2 : OwnL (W1.setCells w.heap.size (i * 9) x.cells) base 62 9 (.slice (some ⟨g, 0, none⟩) n n) Ev.cells L := hA1.kept (row := some w.heap.size) (oSetCells (oRefl _ _) _ _) (.inr (by simp [Value.ownBlock]; omega))
    refine run_copyN W _ _ ty 62 w.heap.size ((i + 1) * 9) (n - i) dc ⟨g, i * 9, none⟩ (n - i) sc 9 (n - i) _ Tryz.underlying52 evSize (Nat.min_self _) hdl ?_ ?_ (fun j _ => hBW.frozen _) (ev_oneCells _)
    · intro j v hj
      rw [Go.WideShapes.add_plain]
      have hj9 : j < (n - i) * 9 := by rw [← hdl]; exact (List.getElem?_eq_some_iff.1 hj).1
      have h := hA2.cellAt' (j := i * 9 + j) (by rw [← hln]; omega)
      have e : W.cell? ⟨g, i * 9 + j, none⟩ = (W1.setCells w.heap.size (i * 9) x.cells).cell? ⟨g, i * 9 + j, none⟩ := by unfold World.cell?; rw [hW]
      rw [e, h, hsp, List.getElem?_append_right (by omega), htk, show i * 9 + j - i * 9 = j from by omega]
      exact hj
    · intro j hj
      have hj9 : j < (n - i) * 9 := by rw [← hdl]; exact hj
      have h := hBW.cell ((i + 1) * 9 + j)
      have hlt : (i + 1) * 9 + j < (putAt ROW (i * 9) x.cells).size := by rw [putAt_size]; have := hmi (n + 1) G hGn; omega
      rw [Array.getElem?_eq_getElem hlt] at h
      exact Option.isSome_iff_exists.2 ⟨_, h⟩
  rw [← hW1] at hrz
  have hfin : ∀ W : World, Blk W w.heap.size 62 ROW → OwnL ((W.setCells w.heap.size (i * 9) x.cells).setCells w.heap.size ((i + 1) * 9) ((L.drop i).flatMap Ev.cells)) base 62 9 (.slice (some ⟨w.heap.size, 0, none⟩) (n + 1) G) Ev.cells (insL L i x) := fun W hB => by
    have := OwnL.fresh (l := L) (x := x) (cap := G) (i := i) (base := base) Ev.cells_length hB hbase (by omega) (by omega) hGm hRs hRh
    rwa [← hln] at this
  have hA9 : ∀ ty, (Builtin.copy_ #[52, 52] ty #[.slice (some ⟨w.heap.size, i * 9, none⟩) (n + 1 - i) (G - i), .slice (some ⟨gv, 0, none⟩) 1 1]).run Tryz.prog W1 = .ok (goInt ((1 : Nat) : Int)) (W1.setCells w.heap.size (i * 9) x.cells) := fun ty => hcpA W1 rfl ty _
  obtain ⟨W2, hW2⟩ : ∃ W2, W2 = W1.setCells w.heap.size (i * 9) x.cells := ⟨_, rfl⟩
  have hB9 : ∀ ty, (Builtin.copy_ #[52, 52] ty #[.slice (some ⟨w.heap.size, (i + 1) * 9, none⟩) (n - i) (G - (i + 1)), .slice (some ⟨g, i * 9, none⟩) (n - i) (n - i)]).run Tryz.prog W2.drew = .ok (goInt ((n - i : Nat) : Int)) (W2.drew.setCells w.heap.size ((i + 1) * 9) ((L.drop i).flatMap Ev.cells)) := fun ty => hcpB W2.drew (by rw [hW2, World.heap_drew']) ty _ _
  have hfin2 : OwnL (W2.drew.setCells w.heap.size ((i + 1) * 9) ((L.drop i).flatMap Ev.cells)) base 62 9 (.slice (some ⟨w.heap.size, 0, none⟩) (n + 1) G) Ev.cells (insL L i x) := by rw [hW2, drew_put]; exact hfin W1.drew hB1.drew
  have hbl2 : Below w.heap.size w (W2.drew.setCells w.heap.size ((i + 1) * 9) ((L.drop i).flatMap Ev.cells)) := by rw [hW2]; exact bSetCells (bSetCells hb1 (Nat.le_refl _) _ _).drew (Nat.le_refl _) _ _
  rw [← hW2] at hA9
  have HF2 := Lib.hid hfin2
  have HB2 := Lib.hid hbl2
  have hGi : ¬ G = i := by omega
  have hGi1 : ¬ G = i + 1 := by omega
  have hni1 : ¬ n = i := by omega
  have hw1 : IntKind.i64.wrap ((i : Int) + 1) = (i : Int) + 1 := by rw [IntKind.wrap_i64]; omega
  have hb3 : (0 : Int) ≤ (i : Int) + 1 := by omega
  have hb4 : (i : Int) ≤ (n : Int) := by omega
  have hG63 : G ≤ 9223372036854775807 := by unfold maxLen at hGm; omega
  have htn : ((i : Int) + 1).toNat = i + 1 := by omega
  have hne1 : ((i : Int) == (n : Int)) = false := by simp; omega
  have hlt1 : (n : Int) < (n : Int) + 1 := by omega
  clear hcpA hcpB hfin2 hbl2 hW2 hA hln hdl hx hfin hold hROW hG hRs hRh hi0 hz0 hzs hzb hkk hik htk hLl hsp hni hB1 hx1 hA1 hb1 hmi hGm hW1
  go_enter Tryz.func295, Tryz.ntmps295
  go_wp2_with (first
    | (at_builtin; refine Lib.wpList_append_run _ rfl (.tmp 34) (.tmp 39) 52 3 rfl _ _ rfl rfl _ _ (hrz _) ?_)
    | (refine wpList_copy_run rfl (.tmp 43) (.tmp 44) 52 52 rfl _ _ rfl rfl (hA9 _) ?_))
  go_region_law (refine step_copy_run rfl (.tmp 50) (.tmp 53) 52 52 rfl _ _ (by simp [Act.eval, Act.put]) (by simp [Act.eval, Act.put]) (hB9 _) ?_)
  all_goals
    go_wp2
    go_ret
    exact ⟨G, rfl, HF2.out, HB2.out⟩
end Go.Proofs.YtibeihcpehikoaaGreat
