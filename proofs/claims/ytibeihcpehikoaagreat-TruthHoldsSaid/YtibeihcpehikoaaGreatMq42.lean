/-
  The walks beneath: TrH, PgO, MapL, MapR.
-/
import Derived.Maps.RangeWalk
import Derived.Test.YtibeihcpehikoaaGreatMq41
import Derived.Test.YtibeihcpehikoaaGreatMq1
namespace Go.Proofs.YtibeihcpehikoaaGreat
open Go.RowKit Go.WideShapes Go.ChangeShapes
set_option maxRecDepth 100000
set_option linter.unusedSimpArgs false
set_option maxHeartbeats 2000000 in
theorem pages_bad (s d x y : Int) (A B : Option Addr) (c c' : Nat) (a b : List Nat) (w : World) (hok : ofB d a b = true) (ha : a.length ≤ 1000) (hb : b.length ≤ 1000) (ra : Rd w w.heap.size A (a.flatMap btC)) (rb : Rd w w.heap.size B (b.flatMap btC)) :
    Calls Tryz.prog 16 #[.agg #[.int .u32 s, .int .i64 d, .int .i64 x, .int .i64 y], .slice A a.length c, .slice B b.length c'] w fun e w' => e = .returned (.tuple #[.slice none 0 0, .int .i64 1]) ∧ Below w.heap.size w w' := by
  have HOF := Lib.hid (fun (V : World) (hV : Below w.heap.size w V) => of_bad s d x y A B c c' a b V ha hb ((ra.below hV (Nat.le_refl _)).more hV.size) ((rb.below hV (Nat.le_refl _)).more hV.size) hok)
  clear ra rb hok
  refine (callsIn_wide (n := 3)).1 ?_
  refine callsIn_of_wp_marks Tryz.func16 rfl trivial ?_ rfl
  simp only [Tryz.ntmps16, List.size_toArray, List.length_cons, List.length_nil, Nat.reduceAdd, Nat.reduceSub, Array.replicate_succ, Array.replicate_zero, List.push_toArray, List.append_toArray, List.nil_append, List.cons_append]
  refine wpIn_wide.2 ?_
  go_upto_region 1 with fail
  refine named1 (F := fun W => Code.wp _ _ _ _ W) ?_
  intro w1 k3 hb1 hz1
  have r0a := (k3).cell 0; have r0b := (k3).cell 1; have r0c := (k3).cell 2; have r0d := (k3).cell 3; have r0e := (k3).frozen 0; have r0f := (k3).frozen 1; have r0g := (k3).frozen 2; have r0h := (k3).frozen 3; have r0l := (k3).lt; simp only [List.getElem?_toArray, List.getElem?_cons_zero, List.getElem?_cons_succ] at r0a r0b r0c r0d
  clear k3
  go_wp2_with (first
    | (go_at_call 68; refine (HOF.out _ hb1).mono ?_; rintro e w2 ⟨rfl, hb2⟩; have HB2 := Lib.hid hb2; clear hb2))
  have hb9 : Below w.heap.size w (w2.alloc (.cells #[.int .u32 0, .int .i64 0, .slice none 0 0, .slice none 0 0] 133)) := bAlloc (bTrans hb1 HB2.out) _
  refine ⟨.tuple #[.slice none 0 0, .int .i64 1], by simp [results, Tryz.results16, go_sem], rfl, hb9⟩
set_option maxHeartbeats 2000000 in
theorem awake26_any (w : World) : Calls Tryz.prog 15 #[] w fun e w' => e = .returned (.bool true) ∧ Below w.heap.size w w' := by
  have hp := fun (V : World) => pages_good 0 2 0 0 none none 0 0 [] [] 2 V (by unfold U32; omega) rfl rfl (by simp) (by simp) (Rd.nil _ _ _) (Rd.nil _ _ _)
  have HP := Lib.hid hp
  clear hp
  go_enter Tryz.func15, Tryz.ntmps15
  go_upto_region 2 with (first
    | (go_at_call 16; refine (HP.out _).mono ?_; rintro e w2 ⟨A', cp, xs, rfl, hc, ho, -, hb2⟩; have HO := Lib.hid ho; have hl2 := rows_len hc; clear ho hc))
  obtain ⟨g, rfl, -, -, hlt⟩ := HO.out.formA (by rw [List.length_zipIdx, hl2]; decide)
  rw [hl2] at HO
  have hcell := HO.out.cell pgC_length (k := 1) (j := 0) (u := .int .i64 1) (by rw [List.length_zipIdx, hl2]; decide) (by simp [pgC])
  simp only [Nat.one_mul, Nat.add_zero] at hcell
  clear HO
  go_wp2
  go_ret
  exact ⟨rfl, hb2⟩
section
variable {H : Type} {enc : TypeId × Value → H} {w : World} {held : Bool} {r : Reach} {b0 : Nat} {v : Value} {d : DataW H} {p : List MemPlace}
theorem byte_kinds : kindsOf Tryz.prog 100 5 = some [.u8] := by kernel_rfl
theorem cellsByte : Tryz.prog.cellsOf 5 = 1 := by kernel_rfl
theorem cfg_kinds : kindsOf Tryz.prog 100 24 = some [.u32, .i64, .i64, .i64] := by kernel_rfl
theorem cellsCfg : Tryz.prog.cellsOf 24 = 4 := by kernel_rfl
theorem open_bytes (hv : Value.okWide Tryz.prog w r b0 25 v) (h : DataW.Trod enc Tryz.prog w 0 (fun _ => true) held 25 v d p) :
    ∃ (A : Option Addr) (c : Nat) (l : List Nat), v = .slice A l.length c ∧ (l.length ≤ c ∧ c ≤ maxLen) ∧ Rd w w.heap.size A (l.flatMap btC) ∧ ∀ q ∈ l, q < 256 := by
  obtain ⟨A, n, c, css, rfl, rfl, hn, hm, hr, hall⟩ := open_rows Tryz.underlying25 cellsByte (by omega) hv h
  obtain ⟨l, rfl, hfit⟩ := list_of_forms (f := btC) (p := fun q => q < 256) (l := css) (fun cs hcs => by
    obtain ⟨-, fuel, y, hy⟩ := hall cs hcs
    obtain ⟨X, e1, e2, e3⟩ := trod_ints 100 5 _ byte_kinds (by rw [cellsByte]; rfl) fuel _ _ hy
    match X, e2 with
    | [a], _ =>
      have ha := bounds_u8 (e3 0 .u8 a rfl rfl)
      refine ⟨a.toNat, ?_, by omega⟩
      rw [e1]
      unfold btC ivals
      simp only [List.zipWith_cons_cons, List.zipWith_nil_left]
      rw [Int.toNat_of_nonneg ha.1])
  refine ⟨A, c, l, by rw [List.length_map], ⟨by rw [List.length_map] at hn; omega, hm⟩, ?_, hfit⟩
  rw [List.flatMap_def]; exact hr
theorem open_cfg (hv : Value.okWide Tryz.prog w r b0 24 v) (h : DataW.Trod enc Tryz.prog w 0 (fun _ => true) held 24 v d p) : ∃ s d' x y : Int, v = .agg #[.int .u32 s, .int .i64 d', .int .i64 x, .int .i64 y] ∧ U32 s ∧ I64 d' := by
  obtain ⟨cs, rfl, -⟩ := okWide_struct Tryz.underlying24 hv
  obtain ⟨fuel, hf⟩ := h
  obtain ⟨X, e1, e2, e3⟩ := trod_ints 100 24 _ cfg_kinds (by rw [cellsCfg]; rfl) fuel _ _ hf
  match X, e2 with
  | [a, b, c, e], _ =>
    refine ⟨a, b, c, e, ?_, bounds_u32 (e3 0 .u32 a rfl rfl), bounds_i64 (e3 1 .i64 b rfl rfl)⟩
    have : cs = #[.int .u32 a, .int .i64 b, .int .i64 c, .int .i64 e] := by
      apply Array.ext'
      rw [show (Value.agg cs).cells.toList = cs.toList from rfl] at e1
      rw [e1]
      rfl
    rw [this]
end
end Go.Proofs.YtibeihcpehikoaaGreat

namespace Go.Proofs.YtibeihcpehikoaaGreat
open Go.RowKit Go.WideShapes Go.ChangeShapes
set_option maxRecDepth 100000
/-- A page: its frame, and its row. -/
structure PgP where
  frame : Int
  A : Option Addr
  c : Nat
  evs : List Ev
def PgP.cells (p : PgP) : List Value := [.int .i64 p.frame, .slice p.A p.evs.length p.c]
theorem PgP.cells_length (p : PgP) : p.cells.length = 2 := rfl
structure PgP.In (p : PgP) (w : World) : Prop where
  frame : I64 p.frame
  fit : ∀ e ∈ p.evs, e.Fit
  rows : Rd w w.heap.size p.A (p.evs.flatMap Ev.cells)
section
variable {H : Type} {enc : TypeId × Value → H} {w : World} {held : Bool}
theorem Tryz.cellsPageO : Tryz.prog.cellsOf 54 = 2 := by kernel_rfl
theorem Tryz.cellsEvsO : Tryz.prog.cellsOf 52 = 1 := by kernel_rfl
theorem pg_of_trod {fuel : Nat} {cs : List Value} {y : DataW H × List MemPlace} (h : DataW.trod enc Tryz.prog w 0 (fun _ => true) held fuel 54 cs = some y) : ∃ a : PgP, cs = a.cells ∧ a.In w := by
  obtain ⟨xs, n, -, -, hlen, hxl, hg⟩ := DataW.trod_struct Tryz.underlying54 h
  rw [Tryz.cellsPageO] at hlen
  match cs, hlen with
  | [c0, c1], _ =>
    simp only [List.size_toArray, List.length_cons, List.length_nil] at hxl
    match xs, hxl with
    | [y0, y1], _ =>
      have k0 : DataW.trod enc Tryz.prog w 0 (fun _ => true) held n 3 ((List.drop 0 [c0, c1]).take (Tryz.prog.cellsOf 3)) = some y0 := hg 0 _ rfl
      rw [Tryz.cellsInt] at k0
      have k1 : DataW.trod enc Tryz.prog w 0 (fun _ => true) held n 52 ((List.drop 1 [c0, c1]).take (Tryz.prog.cellsOf 52)) = some y1 := hg 1 _ rfl
      rw [Tryz.cellsEvsO] at k1
      obtain ⟨a0, e0, -, w0⟩ := DataW.trod_int Tryz.underlying3 k0
      obtain ⟨A, m, c, css, e2, rfl, hn, hm, hr, hall⟩ := rows_of_trod Tryz.underlying52 Tryz.cellsEv (by omega) k1
      simp only [List.drop_zero, List.drop_succ_cons, List.take_succ_cons, List.take_zero, List.cons.injEq, and_true] at e0 e2
      subst e0 e2
      obtain ⟨l, rfl, hf⟩ := list_of_forms (f := Ev.cells) (p := Ev.Fit) (l := css) (fun cs hcs => by
        obtain ⟨-, fuel, y, hy⟩ := hall cs hcs
        exact ev_of_trod hy)
      refine ⟨⟨a0, A, c, l⟩, by simp [PgP.cells], bd_of_wf w0, hf, ?_⟩
      rw [List.flatMap_def]; exact hr
theorem open_pages {r : Reach} {b0 : Nat} {v : Value} {d : DataW H} {p : List MemPlace} (hv : Value.okWide Tryz.prog w r b0 27 v) (h : DataW.Trod enc Tryz.prog w 0 (fun _ => true) held 27 v d p) :
    ∃ (A : Option Addr) (c : Nat) (l : List PgP), v = .slice A l.length c ∧ (l.length ≤ c ∧ c ≤ maxLen) ∧ Rd w w.heap.size A (l.flatMap PgP.cells) ∧ ∀ a ∈ l, a.In w := by
  obtain ⟨A, n, c, css, rfl, rfl, hn, hm, hr, hall⟩ := open_rows Tryz.underlying27 Tryz.cellsPageO (by omega) hv h
  obtain ⟨l, rfl, hin⟩ := list_of_forms (f := PgP.cells) (p := fun a => a.In w) (l := css) (fun cs hcs => by
    obtain ⟨-, fuel, y, hy⟩ := hall cs hcs
    exact pg_of_trod hy)
  refine ⟨A, c, l, by rw [List.length_map], ⟨by rw [List.length_map] at hn; omega, hm⟩, ?_, hin⟩
  rw [List.flatMap_def]; exact hr
end
end Go.Proofs.YtibeihcpehikoaaGreat

namespace Go.Proofs.YtibeihcpehikoaaGreat
open Go.RowKit Go.WideShapes
open Go.Maps (Keyed)
open Go.WideElems (Fit rg rd_key rd_mk rg_of)

/-- Every value reads as itself. -/
def tokR (v : Value) : Option (DataW Value × List MemPlace) := some (.held v, [])

section
variable {κ ν : Type} {ke : κ → Value} {ve : ν → Value}

/-- Block b holds a map with just the entries L. -/
def MapIs (ke : κ → Value) (ve : ν → Value) (P : Program) (k : TypeId) (w : World) (b : Nat) (L : List (κ × ν)) : Prop :=
  ∃ es clock, w.heap[b]? = some (.map es clock) ∧ Fit P k tokR es clock ∧ (L.map (fun p => ke p.1)).Nodup ∧ ∀ x y, (∃ e ∈ es.toList, e.key = x ∧ e.val = y) ↔ ∃ p ∈ L, ke p.1 = x ∧ ve p.2 = y

variable {P : Program} {k : TypeId} {w : World} {b : Nat} {L : List (κ × ν)}

theorem MapIs.made (w : World) : MapIs ke ve P k (w.alloc (.map #[] 0)) w.heap.size [] :=
  ⟨#[], 0, (MapKept.heap_alloc w _).1, ⟨by simp, MapKept.stamped_empty 0, by simp⟩, by simp, by simp⟩
theorem MapIs.lt (h : MapIs ke ve P k w b L) : b < w.heap.size := by
  obtain ⟨es, clock, hb, _⟩ := h
  exact (Array.getElem?_eq_some_iff.1 hb).1
theorem MapIs.perm (h : MapIs ke ve P k w b L) {L' : List (κ × ν)} (hp : L.Perm L') : MapIs ke ve P k w b L' := by
  obtain ⟨es, clock, hb, F, hn, hm⟩ := h
  refine ⟨es, clock, hb, F, (hp.map _).nodup_iff.1 hn, fun x y => (hm x y).trans ?_⟩
  constructor
  · rintro ⟨p, h1, h2⟩; exact ⟨p, hp.mem_iff.1 h1, h2⟩
  · rintro ⟨p, h1, h2⟩; exact ⟨p, hp.mem_iff.2 h1, h2⟩
theorem MapIs.same (h : MapIs ke ve P k w b L) {w' : World} (e : w'.heap[b]? = w.heap[b]?) : MapIs ke ve P k w' b L := by
  obtain ⟨es, clock, hb, r⟩ := h
  exact ⟨es, clock, e.trans hb, r⟩
theorem MapIs.nodup (h : MapIs ke ve P k w b L) : (L.map (fun p => ke p.1)).Nodup := by
  obtain ⟨_, _, _, _, hn, _⟩ := h
  exact hn
theorem keysPair {es : Array MapEntry} {clock : Nat} (F : Fit P k tokR es clock) : es.toList.Pairwise (fun x y => x.key ≠ y.key) := ((MapKept.stamped_iff es clock).1 F.stamped).2.2
theorem pairs_nodup {es : Array MapEntry} {clock : Nat} (F : Fit P k tokR es clock) : (es.toList.map fun e => (e.key, e.val)).Nodup := by
  unfold List.Nodup
  rw [List.pairwise_map]
  exact (keysPair F).imp (fun h e => h (congrArg Prod.fst e))
theorem encs_nodup {L : List (κ × ν)} (hn : (L.map (fun p => ke p.1)).Nodup) : (L.map fun p => (ke p.1, ve p.2)).Nodup := by
  unfold List.Nodup at hn ⊢
  rw [List.pairwise_map] at hn ⊢
  exact hn.imp (fun h e => h (congrArg Prod.fst e))
theorem entries_perm {es : Array MapEntry} {clock : Nat} (F : Fit P k tokR es clock) (hn : (L.map (fun p => ke p.1)).Nodup) (hm : ∀ x y, (∃ e ∈ es.toList, e.key = x ∧ e.val = y) ↔ ∃ p ∈ L, ke p.1 = x ∧ ve p.2 = y) :
    (es.toList.map fun e => (e.key, e.val)).Perm (L.map fun p => (ke p.1, ve p.2)) := by
  refine (List.perm_ext_iff_of_nodup (pairs_nodup F) (encs_nodup hn)).2 fun q => ?_
  rw [List.mem_map, List.mem_map]
  have := hm q.1 q.2
  constructor
  · rintro ⟨e, h1, rfl⟩
    obtain ⟨p, h2, h3, h4⟩ := this.1 ⟨e, h1, rfl, rfl⟩
    exact ⟨p, h2, Prod.ext h3 h4⟩
  · rintro ⟨p, h1, rfl⟩
    obtain ⟨e, h2, h3, h4⟩ := this.2 ⟨p, h1, rfl, rfl⟩
    exact ⟨e, h2, Prod.ext h3 h4⟩
theorem MapIs.size (h : MapIs ke ve P k w b L) : ∃ es clock, w.heap[b]? = some (.map es clock) ∧ es.size = L.length := by
  obtain ⟨es, clock, hb, F, hn, hm⟩ := h
  have := (entries_perm F hn hm).length_eq
  simp at this
  exact ⟨es, clock, hb, this⟩
/-- Every key of the list is a key. -/
theorem MapIs.keyed (h : MapIs ke ve P k w b L) {p : κ × ν} (hp : p ∈ L) : ∃ l, keyOf P k (ke p.1) = some l := by
  obtain ⟨es, clock, _, F, _, hm⟩ := h
  obtain ⟨e, he, e1, _⟩ := (hm _ _).2 ⟨p, hp, rfl, rfl⟩
  obtain ⟨y, hy⟩ := F.reads e he
  exact ⟨_, e1 ▸ rd_key hy⟩

/-- 'm[k]', and with the comma. -/
theorem MapIs.look {t e : TypeId} (h : MapIs ke ve P k w b L) (c : Bool) (K : Keyed P k) (ht : P.underlying t = some (.map k e)) {z : Value} (hz : (zeroValue e).run P w = .ok z w) {a : κ} {kl : Lit} (hkey : keyOf P k (ke a) = some kl) :
    ((∀ p ∈ L, ke p.1 ≠ ke a) ∧ (Instr.lookup t (.map (some b)) (ke a) c).run P w = .ok (if c then .tuple #[z, .bool false] else z) w) ∨
    ∃ p ∈ L, ke p.1 = ke a ∧ (Instr.lookup t (.map (some b)) (ke a) c).run P w = .ok (if c then .tuple #[ve p.2, .bool true] else ve p.2) w := by
  obtain ⟨es, clock, hb, F, hn, hm⟩ := h
  rcases Maps.fit_look c K ht hz hb F hkey with ⟨h1, h2, _⟩ | ⟨e0, y, h1, h2, h3, _⟩
  · refine Or.inl ⟨fun p hp e => ?_, h1⟩
    obtain ⟨x, hx, e1, _⟩ := (hm _ _).2 ⟨p, hp, rfl, rfl⟩
    exact h2 x hx (e1.trans e)
  · obtain ⟨p, hp, e1, e2⟩ := (hm _ _).1 ⟨e0, h1, rfl, rfl⟩
    exact Or.inr ⟨p, hp, e1.trans h2, by rw [e2]; exact h3⟩

/-- 'm[k] = v'. L': the entries afterwards. -/
theorem MapIs.store {t e : TypeId} (h : MapIs ke ve P k w b L) (K : Keyed P k) (ht : P.underlying t = some (.map k e)) (hL : L.length < maxLen) {a : κ} {v : ν} {kl : Lit} (hkey : keyOf P k (ke a) = some kl)
    {L' : List (κ × ν)} (hL1 : ∀ p ∈ L', p = (a, v) ∨ (p ∈ L ∧ ke p.1 ≠ ke a)) (hL2 : ∀ p ∈ L, ke p.1 ≠ ke a → p ∈ L') (hL3 : (a, v) ∈ L') (hL4 : (L'.map (fun p => ke p.1)).Nodup) :
    ∃ w', (Instr.mapUpdate t (.map (some b)) (ke a) (ve v)).run P w = .ok () w' ∧ MapIs ke ve P k w' b L' ∧ w.mapTurned w' b := by
  obtain ⟨es, clock, hb, F, hn, hm⟩ := h
  have hsz : es.size = L.length := by
    have := (entries_perm F hn hm).length_eq
    simpa using this
  obtain ⟨es', clock', hrun, F', hput, _, _, hwho⟩ := Maps.fit_store (R' := tokR) K ht hb F (by omega) (val := ve v) (fun _ _ _ _ hz => hz) hkey rfl
  refine ⟨_, hrun, ⟨es', clock', ChangeMaps.heap_setBlock_same hb _, F', hL4, fun x y => ?_⟩, ⟨es, clock, es', clock', hb, rfl⟩⟩
  -- what stands in the new block
  have back : ∀ (kx : Value) (lx : Lit) (vx : Value), keyOf P k kx = some lx → (lx, DataW.held vx) ∈ (es'.toList.map (rg P k tokR)).foldr DataW.insert [] → ∃ x ∈ es'.toList, x.key = kx ∧ x.val = vx := fun kx lx vx hk hmem => by
    obtain ⟨x, hx, ex⟩ := List.mem_map.1 (mem_sorted.1 hmem)
    obtain ⟨y, hy⟩ := F'.reads x hx
    have m1 := rd_key hy
    obtain ⟨z, hz, hz2⟩ := Go.WideElems.rd_val hy
    rw [rg_of hy] at ex
    refine ⟨x, hx, ?_, ?_⟩
    · rw [ex] at m1
      exact K.inj m1 hk
    · rw [ex] at hz2
      have hz' : some (DataW.held x.val, ([] : List MemPlace)) = some z := hz
      cases hz'
      cases hz2
      rfl
  constructor
  · rintro ⟨x', hx', rfl, rfl⟩
    rcases hwho x' hx' with ⟨h1, h2⟩ | ⟨h1, h2⟩
    · obtain ⟨p, hp, e1, e2⟩ := (hm _ _).1 ⟨x', h1, rfl, rfl⟩
      exact ⟨p, hL2 p hp (by rw [e1]; exact h2), e1, e2⟩
    · exact ⟨(a, v), hL3, h1.symm, h2.symm⟩
  · rintro ⟨p, hp, rfl, rfl⟩
    rcases hL1 p hp with rfl | ⟨h1, h2⟩
    · refine back _ _ _ hkey ?_
      rw [hput]
      unfold ChangeMaps.putKey
      exact ChangeMaps.mem_insert_iff.2 (Or.inl rfl)
    · obtain ⟨x, hx, e1, e2⟩ := (hm _ _).2 ⟨p, h1, rfl, rfl⟩
      obtain ⟨y, hy⟩ := F.reads x hx
      have m1 := rd_key hy
      refine back _ y.1 _ (by rw [← e1]; exact m1) ?_
      rw [hput]
      unfold ChangeMaps.putKey
      refine ChangeMaps.mem_insert_iff.2 (Or.inr (List.mem_filter.2 ⟨mem_sorted.2 (List.mem_map.2 ⟨x, hx, ?_⟩), ?_⟩))
      · obtain ⟨z, hz, hz2⟩ := Go.WideElems.rd_val hy
        rw [rg_of hy]
        have hz' : some (DataW.held x.val, ([] : List MemPlace)) = some z := hz
        cases hz'
        rw [← e2]
        exact Prod.ext rfl hz2
      · refine (Maps.notKey_iff (K.key hkey)).2 fun e => h2 ?_
        have e' : y.1 = kl := e
        rw [e'] at m1
        rw [← e1]
        exact K.inj m1 hkey

/-- 'delete(m, k)'. -/
theorem MapIs.drop {t e : TypeId} (h : MapIs ke ve P k w b L) (K : Keyed P k) (ht : P.underlying t = some (.map k e)) {a : κ} {kl : Lit} (hkey : keyOf P k (ke a) = some kl) (ty : TypeId)
    {L' : List (κ × ν)} (hL1 : ∀ p, p ∈ L' ↔ (p ∈ L ∧ ke p.1 ≠ ke a)) (hL4 : (L'.map (fun p => ke p.1)).Nodup) :
    ∃ w', (Builtin.delete_ #[t, k] ty #[.map (some b), ke a]).run P w = .ok (.tuple #[]) w' ∧ MapIs ke ve P k w' b L' ∧ w.mapTurned w' b := by
  obtain ⟨es, clock, hb, F, hn, hm⟩ := h
  obtain ⟨es', hrun, F', _, _, _, hwho⟩ := fit_drop_who (ty := ty) K ht hb F hkey
  refine ⟨_, hrun, ⟨es', clock, ChangeMaps.heap_setBlock_same hb _, F', hL4, fun x y => ?_⟩, ⟨es, clock, es', clock, hb, rfl⟩⟩
  constructor
  · rintro ⟨x', hx', rfl, rfl⟩
    obtain ⟨h1, h2⟩ := (hwho x').1 hx'
    obtain ⟨p, hp, e1, e2⟩ := (hm _ _).1 ⟨x', h1, rfl, rfl⟩
    exact ⟨p, (hL1 p).2 ⟨hp, by rw [e1]; exact h2⟩, e1, e2⟩
  · rintro ⟨p, hp, rfl, rfl⟩
    obtain ⟨h1, h2⟩ := (hL1 p).1 hp
    obtain ⟨x, hx, e1, e2⟩ := (hm _ _).2 ⟨p, h1, rfl, rfl⟩
    exact ⟨x, (hwho x).2 ⟨hx, by rw [e1]; exact h2⟩, e1, e2⟩

/-- 'len(m)'. -/
theorem MapIs.len {t e : TypeId} (h : MapIs ke ve P k w b L) (ht : P.underlying t = some (.map k e)) (ty : TypeId) : (Builtin.len_ #[t] ty #[.map (some b)]).run P w = .ok (.int .i64 L.length) w := by
  obtain ⟨es, clock, hb, hs⟩ := h.size
  rw [← hs]
  simp [Builtin.len_, run_underlying ht, MapKept.run_getObj_map hb, goInt, Result.andThen]

/-- 'clear(m)'. -/
theorem MapIs.clear {t e : TypeId} (h : MapIs ke ve P k w b L) (ht : P.underlying t = some (.map k e)) (ty : TypeId) :
    ∃ w', (Builtin.clear_ #[t] ty #[.map (some b)]).run P w = .ok (.tuple #[]) w' ∧ MapIs ke ve P k w' b [] ∧ w.mapTurned w' b := by
  obtain ⟨es, clock, hb, _⟩ := h
  refine ⟨ChangeMaps.setBlock w b (.map #[] clock), ?_, ⟨#[], clock, ChangeMaps.heap_setBlock_same hb _, ⟨by simp, MapKept.stamped_empty clock, by simp⟩, by simp, by simp⟩, ⟨es, clock, #[], clock, hb, rfl⟩⟩
  simp [Builtin.clear_, run_underlying ht, MapKept.run_getObj_map hb, MapKept.run_setObj_map _ hb, Result.andThen, ChangeMaps.setBlock]
end
end Go.Proofs.YtibeihcpehikoaaGreat

namespace Go.Proofs.YtibeihcpehikoaaGreat
open Go.RowKit Go.WideShapes
open Go.Maps (Keyed)
open Go.WideElems (Fit rg rd_key rd_mk rg_of)
section
variable {κ ν : Type} {ke : κ → Value} {ve : ν → Value}
/-- 'range m' under way: just the entries 'left' are still to come. -/
def MapGo (ke : κ → Value) (ve : ν → Value) (P : Program) (k : TypeId) (w : World) (b r : Nat) (L left : List (κ × ν)) : Prop :=
  ∃ es clock since seen c0, w.heap[b]? = some (.map es clock) ∧ Fit P k tokR es clock ∧ (L.map (fun p => ke p.1)).Nodup ∧ (∀ x y, (∃ e ∈ es.toList, e.key = x ∧ e.val = y) ↔ ∃ p ∈ L, ke p.1 = x ∧ ve p.2 = y) ∧
    w.heap[r]? = some (.mapIter (some b) since seen c0) ∧ (∀ x ∈ es.toList, x.born < since) ∧ since ≤ c0 ∧ since ≤ clock ∧
    ((leftOf es seen).toList.map fun e => (e.key, e.val)).Perm (left.map fun p => (ke p.1, ve p.2))
variable {P : Program} {k : TypeId} {w : World} {b r : Nat} {L left : List (κ × ν)}
theorem MapGo.isMap (h : MapGo ke ve P k w b r L left) : MapIs ke ve P k w b L := by
  obtain ⟨es, clock, _, _, _, hb, F, hn, hm, _⟩ := h
  exact ⟨es, clock, hb, F, hn, hm⟩
theorem MapGo.lt (h : MapGo ke ve P k w b r L left) : r < w.heap.size := by
  obtain ⟨_, _, _, _, _, _, _, _, _, hr, _⟩ := h
  exact (Array.getElem?_eq_some_iff.1 hr).1
theorem MapGo.same (h : MapGo ke ve P k w b r L left) {w' : World} (e : w'.heap[b]? = w.heap[b]?) (e' : w'.heap[r]? = w.heap[r]?) : MapGo ke ve P k w' b r L left := by
  obtain ⟨es, clock, s, q, c, hb, F, hn, hm, hr, rest⟩ := h
  exact ⟨es, clock, s, q, c, e.trans hb, F, hn, hm, e'.trans hr, rest⟩
theorem MapIs.range {t e : TypeId} (h : MapIs ke ve P k w b L) (ht : P.underlying t = some (.map k e)) :
    ∃ w', (Instr.range t (.map (some b))).run P w = .ok (.pointer (some ⟨w.heap.size, 0, none⟩)) w' ∧ MapGo ke ve P k w' b w.heap.size L L ∧ w.grownBy w' none ∧ w'.heap.size = w.heap.size + 1 := by
  have hlt := h.lt
  obtain ⟨es, clock, hb, F, hn, hm⟩ := h
  refine ⟨_, run_range_map w t k e b es clock ht hb, ⟨es, clock, clock, #[], clock, ((MapKept.heap_alloc w _).2 b hlt).trans hb, F, hn, hm, (MapKept.heap_alloc w _).1, F.stamped.1, Nat.le_refl _, Nat.le_refl _, ?_⟩, World.grownBy_alloc w _ none, by simp⟩
  have : leftOf es #[] = es := by simp [leftOf]
  rw [this]
  exact entries_perm F hn hm
theorem left_perm {es : Array MapEntry} {seen : Array Nat} {e : MapEntry} (hn : (es.toList.map (·.born)).Nodup) (he : e ∈ (leftOf es seen).toList) : (leftOf es seen).toList.Perm (e :: (leftOf es (seen.push e.born)).toList) := by
  have hnd : es.toList.Nodup := by
    unfold List.Nodup at hn ⊢
    rw [List.pairwise_map] at hn
    exact hn.imp (fun h e => h (congrArg _ e))
  have e1 : ∀ s : Array Nat, (leftOf es s).toList = es.toList.filter (fun e => !s.contains e.born) := fun s => by
    unfold leftOf
    rw [← Array.toList_filter]
  obtain ⟨hem, hes⟩ := mem_left he
  refine (List.perm_ext_iff_of_nodup ?_ ?_).2 fun x => ?_
  · rw [e1]; exact hnd.filter _
  · rw [e1]
    refine List.nodup_cons.2 ⟨fun h => ?_, hnd.filter _⟩
    have := (List.mem_filter.1 h).2
    rw [contains_push] at this
    simp at this
  · rw [e1, e1, List.mem_cons, List.mem_filter, List.mem_filter, contains_push]
    constructor
    · rintro ⟨h1, h2⟩
      by_cases hb : x.born = e.born
      · exact Or.inl (born_inj hn h1 hem hb)
      · refine Or.inr ⟨h1, ?_⟩
        simp at h2 ⊢
        exact ⟨h2, hb⟩
    · rintro (rfl | ⟨h1, h2⟩)
      · exact ⟨hem, by rw [hes]; rfl⟩
      · refine ⟨h1, ?_⟩
        simp at h2 ⊢
        exact h2.1
/-- THE STEP. -/
theorem MapGo.next (h : MapGo ke ve P k w b r L left) (ty : TypeId) :
    (left = [] ∧ (Instr.next (.pointer (some ⟨r, 0, none⟩)) false ty).run P w = .ok (.tuple #[.bool false]) w) ∨
    ∃ p left' w', left.Perm (p :: left') ∧ (Instr.next (.pointer (some ⟨r, 0, none⟩)) false ty).run P w = .ok (.tuple #[.bool true, ke p.1, ve p.2]) w' ∧
      MapGo ke ve P k w' b r L left' ∧ w.grownBy w' (some r) ∧ w'.heap.size = w.heap.size ∧ (Instr.entry (.pointer (some ⟨r, 0, none⟩))).run P w' = .ok (.tuple #[ke p.1, ve p.2]) w' := by
  have hne : r ≠ b := by
    obtain ⟨_, _, _, _, _, hb, _, _, _, hr, _⟩ := h
    intro e
    rw [e, hb] at hr
    cases hr
  obtain ⟨es, clock, since, seen, c0, hb, F, hn, hm, hr, hold, hsc, hsk, hp⟩ := h
  rcases run_next_at (P := P) w ty r b since c0 seen es clock hr hb hold hsc with ⟨h0, hrun⟩ | ⟨e, he, w1, hal, hrun⟩
  · refine Or.inl ⟨?_, hrun⟩
    have := hp.length_eq
    simp [h0] at this
    exact List.length_eq_zero_iff.1 this.symm
  · have hst := (MapKept.stamped_iff es clock).1 F.stamped
    obtain ⟨hem, hes⟩ := mem_left he
    obtain ⟨p, hpl, hpe⟩ := List.mem_map.1 (hp.mem_iff.1 (List.mem_map.2 ⟨e, he, rfl⟩))
    obtain ⟨s, t, rfl⟩ := List.append_of_mem hpl
    have e1 : ke p.1 = e.key := congrArg Prod.fst hpe
    have e2 : ve p.2 = e.val := congrArg Prod.snd hpe
    have hr1 : w1.heap[r]? = some (.mapIter (some b) since seen c0) := by rcases hal with rfl | rfl <;> exact hr
    have hb1 : w1.heap[b]? = some (.map es clock) := by rcases hal with rfl | rfl <;> exact hb
    have hset := MapKept.heap_set (o' := .mapIter (some b) since (seen.push e.born) clock) hr1
    have hb' : (ChangeMaps.setBlock w1 r (.mapIter (some b) since (seen.push e.born) clock)).heap[b]? = some (.map es clock) := (hset.2 b (fun e1 => hne e1.symm)).trans hb1
    refine Or.inr ⟨p, s ++ t, _, List.perm_middle, by rw [e1, e2]; exact hrun, ⟨es, clock, since, seen.push e.born, clock, hb', F, hn, hm, hset.1, hold, hsk, hsk, ?_⟩, ?_, ?_, ?_⟩
    · have q1 := (left_perm hst.2.1 he).map (fun e => (e.key, e.val))
      have q2 := (q1.symm.trans hp).trans ((List.perm_middle (a := p) (l₁ := s) (l₂ := t)).map _)
      rw [List.map_cons, List.map_cons, e1, e2] at q2
      exact q2.cons_inv
    · rcases hal with rfl | rfl <;> exact ⟨rfl, rfl, rfl, by simp [ChangeMaps.setBlock], fun i _ hi => hset.2 i (fun e1 => hi (by rw [e1]))⟩
    · rcases hal with rfl | rfl <;> simp [ChangeMaps.setBlock]
    · rw [e1, e2]
      exact run_entry_at _ r b since seen es clock e hset.1 hb' hem hst.2.1
end
/-! ### At the operation. -/
section
variable {κ ν : Type} {ke : κ → Value} {ve : ν → Value} {P : Program} (w : World) {ops : Array Oper} {rest : List Oper} {o : Oper} {a : Act} {Q : Exit → Act → World → Prop}
theorem wpList_lookM (hg : o.guard = none) (m x : Operand) (t : TypeId) (hop : o.op = Op.lookup t m x true) (k e : TypeId) (K : Keyed P k) (ht : P.underlying t = some (.map k e)) {z : Value} (hz : (zeroValue e).run P w = .ok z w) (b : Nat) (L : List (κ × ν))
    (hm : a.eval m = .map (some b)) (h : MapIs ke ve P k w b L) (key : κ) (kl : Lit) (hx : a.eval x = ke key) (hkey : keyOf P k (ke key) = some kl)
    (hNo : (∀ p ∈ L, ke p.1 ≠ ke key) → wpList P ops Q rest (a.put o.dst (.tuple #[z, .bool false])) w)
    (hYes : ∀ p, p ∈ L → ke p.1 = ke key → wpList P ops Q rest (a.put o.dst (.tuple #[ve p.2, .bool true])) w) : wpList P ops Q (o :: rest) a w := by
  refine wpList_plain hg fun K' hK' => ?_
  unfold Oper.wp
  rcases h.look true K ht hz hkey with ⟨h1, hrun⟩ | ⟨p, h1, h2, hrun⟩
  · simp [execOp, hop, hm, hx, hrun, Result.andThen]
    exact hK' _ _ (hNo h1)
  · simp [execOp, hop, hm, hx, hrun, Result.andThen]
    exact hK' _ _ (hYes p h1 h2)
theorem wpList_lookM1 (hg : o.guard = none) (m x : Operand) (t : TypeId) (hop : o.op = Op.lookup t m x false) (k e : TypeId) (K : Keyed P k) (ht : P.underlying t = some (.map k e)) {z : Value} (hz : (zeroValue e).run P w = .ok z w) (b : Nat) (L : List (κ × ν))
    (hm : a.eval m = .map (some b)) (h : MapIs ke ve P k w b L) (key : κ) (kl : Lit) (hx : a.eval x = ke key) (hkey : keyOf P k (ke key) = some kl)
    (hNo : (∀ p ∈ L, ke p.1 ≠ ke key) → wpList P ops Q rest (a.put o.dst z) w)
    (hYes : ∀ p, p ∈ L → ke p.1 = ke key → wpList P ops Q rest (a.put o.dst (ve p.2)) w) : wpList P ops Q (o :: rest) a w := by
  refine wpList_plain hg fun K' hK' => ?_
  unfold Oper.wp
  rcases h.look false K ht hz hkey with ⟨h1, hrun⟩ | ⟨p, h1, h2, hrun⟩
  · simp [execOp, hop, hm, hx, hrun, Result.andThen]
    exact hK' _ _ (hNo h1)
  · simp [execOp, hop, hm, hx, hrun, Result.andThen]
    exact hK' _ _ (hYes p h1 h2)
theorem wpList_storeM (hg : o.guard = none) (m x v : Operand) (t : TypeId) (hop : o.op = Op.mapUpdate t m x v) (k e : TypeId) (K : Keyed P k) (ht : P.underlying t = some (.map k e)) (b : Nat) (L L' : List (κ × ν))
    (hm : a.eval m = .map (some b)) (h : MapIs ke ve P k w b L) (hL : L.length < maxLen) (key : κ) (val : ν) (kl : Lit) (hx : a.eval x = ke key) (hv : a.eval v = ve val) (hkey : keyOf P k (ke key) = some kl)
    (hL1 : ∀ p ∈ L', p = (key, val) ∨ (p ∈ L ∧ ke p.1 ≠ ke key)) (hL2 : ∀ p ∈ L, ke p.1 ≠ ke key → p ∈ L') (hL3 : (key, val) ∈ L') (hL4 : (L'.map (fun p => ke p.1)).Nodup)
    (hK : ∀ w', MapIs ke ve P k w' b L' → w.mapTurned w' b → wpList P ops Q rest (a.put o.dst undef) w') : wpList P ops Q (o :: rest) a w := by
  refine wpList_plain hg fun K' hK' => ?_
  obtain ⟨w', hrun, r1, r2⟩ := h.store K ht hL hkey hL1 hL2 hL3 hL4
  unfold Oper.wp
  simp [execOp, hop, hm, hx, hv, hrun, Result.andThen]
  exact hK' _ _ (hK w' r1 r2)
theorem wpList_dropM (hg : o.guard = none) (m x : Operand) (t k : TypeId) (hop : o.op = Op.call { callee := Callee.builtin Builtin.delete, args := #[m, x], argTypes := #[t, k] }) (e : TypeId) (K : Keyed P k) (ht : P.underlying t = some (.map k e)) (b : Nat) (L L' : List (κ × ν))
    (hm : a.eval m = .map (some b)) (h : MapIs ke ve P k w b L) (key : κ) (kl : Lit) (hx : a.eval x = ke key) (hkey : keyOf P k (ke key) = some kl)
    (hL1 : ∀ p, p ∈ L' ↔ (p ∈ L ∧ ke p.1 ≠ ke key)) (hL4 : (L'.map (fun p => ke p.1)).Nodup)
    (hK : ∀ w', MapIs ke ve P k w' b L' → w.mapTurned w' b → wpList P ops Q rest (a.put o.dst (.tuple #[])) w') : wpList P ops Q (o :: rest) a w := by
  refine wpList_plain hg fun K' hK' => ?_
  obtain ⟨w', hrun, r1, r2⟩ := h.drop K ht hkey o.type hL1 hL4
  unfold Oper.wp
  simp [execOp, hop, resolve, invoke, builtin, hm, hx, hrun, Result.andThen]
  exact hK' _ _ (hK w' r1 r2)
theorem wpList_lenM (hg : o.guard = none) (m : Operand) (t : TypeId) (hop : o.op = Op.call { callee := Callee.builtin Builtin.len, args := #[m], argTypes := #[t] }) (k e : TypeId) (ht : P.underlying t = some (.map k e)) (b : Nat) (L : List (κ × ν))
    (hm : a.eval m = .map (some b)) (h : MapIs ke ve P k w b L) (hK : wpList P ops Q rest (a.put o.dst (.int .i64 L.length)) w) : wpList P ops Q (o :: rest) a w := by
  refine wpList_plain hg fun K' hK' => ?_
  unfold Oper.wp
  simp [execOp, hop, resolve, invoke, builtin, hm, h.len ht o.type, Result.andThen]
  exact hK' _ _ hK
theorem wpList_clearM (hg : o.guard = none) (m : Operand) (t : TypeId) (hop : o.op = Op.call { callee := Callee.builtin Builtin.clear, args := #[m], argTypes := #[t] }) (k e : TypeId) (ht : P.underlying t = some (.map k e)) (b : Nat) (L : List (κ × ν))
    (hm : a.eval m = .map (some b)) (h : MapIs ke ve P k w b L) (hK : ∀ w', MapIs ke ve P k w' b [] → w.mapTurned w' b → wpList P ops Q rest (a.put o.dst (.tuple #[])) w') : wpList P ops Q (o :: rest) a w := by
  refine wpList_plain hg fun K' hK' => ?_
  obtain ⟨w', hrun, r1, r2⟩ := h.clear ht o.type
  unfold Oper.wp
  simp [execOp, hop, resolve, invoke, builtin, hm, hrun, Result.andThen]
  exact hK' _ _ (hK w' r1 r2)
theorem wpList_rangeM (hg : o.guard = none) (m : Operand) (t : TypeId) (hop : o.op = Op.range t m) (k e : TypeId) (ht : P.underlying t = some (.map k e)) (b : Nat) (L : List (κ × ν)) (hm : a.eval m = .map (some b)) (h : MapIs ke ve P k w b L)
    (hK : ∀ w', MapGo ke ve P k w' b w.heap.size L L → w.grownBy w' none → w'.heap.size = w.heap.size + 1 → wpList P ops Q rest (a.put o.dst (.pointer (some ⟨w.heap.size, 0, none⟩))) w') : wpList P ops Q (o :: rest) a w := by
  refine wpList_plain hg fun K' hK' => ?_
  obtain ⟨w', hrun, r1, r2, r3⟩ := h.range ht
  unfold Oper.wp
  simp [execOp, hop, hm, hrun, Result.andThen]
  exact hK' _ _ (hK w' r1 r2 r3)
theorem wpList_nextM (hg : o.guard = none) (it : Operand) (hop : o.op = Op.next it false) (k : TypeId) (b r : Nat) (L left : List (κ × ν)) (hit : a.eval it = .pointer (some ⟨r, 0, none⟩)) (h : MapGo ke ve P k w b r L left)
    (hDone : left = [] → wpList P ops Q rest (a.put o.dst (.tuple #[.bool false])) w)
    (hMore : ∀ (p : κ × ν) (left' : List (κ × ν)) (w' : World), left.Perm (p :: left') → MapGo ke ve P k w' b r L left' → w.grownBy w' (some r) → w'.heap.size = w.heap.size →
      (Instr.entry (.pointer (some ⟨r, 0, none⟩))).run P w' = .ok (.tuple #[ke p.1, ve p.2]) w' → wpList P ops Q rest (a.put o.dst (.tuple #[.bool true, ke p.1, ve p.2])) w') : wpList P ops Q (o :: rest) a w := by
  refine wpList_plain hg fun K' hK' => ?_
  unfold Oper.wp
  rcases h.next o.type with ⟨h0, hrun⟩ | ⟨p, left', w', h1, hrun, h2, h3, h4, h5⟩
  · simp [execOp, hop, hit, hrun, Result.andThen]
    exact hK' _ _ (hDone h0)
  · simp [execOp, hop, hit, hrun, Result.andThen]
    exact hK' _ _ (hMore p left' w' h1 h2 h3 h4 h5)
end
end Go.Proofs.YtibeihcpehikoaaGreat
