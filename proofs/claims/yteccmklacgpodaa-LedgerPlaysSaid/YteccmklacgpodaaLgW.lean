/-
  A ledger in memory; its closures and small functions.
-/
import Derived.Test.YteccmklacgpodaaLStart
import Derived.Test.YteccmklacgpodaaDelE
import Derived.Test.YteccmklacgpodaaOrd
namespace Go.Proofs.Yteccmklacgpodaa
open Go.RowKit
set_option maxRecDepth 100000
set_option linter.unusedSimpArgs false
theorem MapIs.block {κ ν : Type} {ke : κ → Value} {ve : ν → Value} {P : Program} {k : TypeId} {w : World} {b : Nat} {L : List (κ × ν)} (h : MapIs ke ve P k w b L) : ∃ es clock, w.heap[b]? = some (.map es clock) := by
  obtain ⟨es, clock, hb, _⟩ := h
  exact ⟨es, clock, hb⟩
/-- A row of cells lies in no map's block. -/
theorem OwnL.noMap {α : Type} {w : World} {base : Nat} {E : TypeId} {m : Nat} {v : Value} {f : α → List Value} {l : List α} (h : OwnL w base E m v f l) {b : Nat} {es : Array MapEntry} {clock : Nat} (hb : w.heap[b]? = some (.map es clock)) : v.ownBlock ≠ some b := by
  rcases h.2 with ⟨rfl, _⟩ | ⟨g2, cap2, cur2, rfl, _, h2, _⟩
  · simp [Value.ownBlock]
  · intro e
    simp only [Value.ownBlock, Option.some.injEq] at e
    subst e
    rw [hb] at h2
    cases h2
theorem Blk.noMap {w : World} {g b : Nat} {E : TypeId} {cs : Array Value} {es : Array MapEntry} {clock : Nat} (h : Blk w g E cs) (hb : w.heap[b]? = some (.map es clock)) : g ≠ b := by
  intro e
  subst e
  unfold Blk at h
  rw [hb] at h
  cases h
/-- A row kept, as another of another type grows. -/
theorem OwnL.keptR {α β : Type} {w w' : World} {base base' : Nat} {E E' : TypeId} {m m' : Nat} {v v' : Value} {f : α → List Value} {f' : β → List Value} {l : List α} {l' : List β} (h : OwnL w base E m v f l) (h' : OwnL w base' E' m' v' f' l') (hne : E ≠ E') (hg : w.grownBy w' v'.ownBlock) : OwnL w' base E m v f l :=
  h.kept hg (by
    cases hr : v'.ownBlock with
    | none =>
      cases hv : v.ownBlock with
      | none => exact .inl rfl
      | some k => exact .inr (by simp)
    | some r => exact .inr (h.apart h' hne hr))
theorem Rd.grown {w w' : World} {B : Nat} {A : Option Addr} {xs : List Value} {row : Option Nat} (h : Rd w B A xs) (hg : w.grownBy w' row) (hr : ∀ r, row = some r → B ≤ r) : Rd w' B A xs := fun hn => by
  obtain ⟨g, off, e, hlt, hc⟩ := h hn
  refine ⟨g, off, e, hlt, fun j u hu => ?_⟩
  have h1 := hc j u hu
  rw [← h1]
  unfold World.cell?
  rw [hg.block g (block_lt_of_cell h1) (fun e => by have := hr g e.symm; omega)]
abbrev TEnt := Int × Value × List Ev
/-- A ledger in memory: its block, its maps, the rows that it keeps. -/
structure LgW (w : World) (g gl gt : Nat) (most : Int) (S : List Ev) (T : List TEnt) (com : Int) (halt : Bool) : Prop where
  blk : Blk w g 62 #[.int .i64 most, .map (some gl), .map (some gt), .int .i64 com, .bool halt]
  live : MapIs Key4.val Ev.val Try.prog 41 w gl (prs S)
  told : MapIs (Value.int .i64) (fun p : Value × List Ev => p.1) Try.prog 3 w gt T
  rows : ∀ p ∈ T, OwnL w 0 43 9 p.2.1 Ev.cells p.2.2
  ne : gl ≠ gt
section
variable {w w' : World} {g gl gt : Nat} {most com : Int} {halt : Bool} {S : List Ev} {T : List TEnt}
theorem LgW.on (h : LgW w g gl gt most S T com halt) (hb : Below w.heap.size w w') : LgW w' g gl gt most S T com halt :=
  ⟨h.blk.on hb, h.live.same (hb.block gl h.live.lt), h.told.same (hb.block gt h.told.lt), fun p hp => (h.rows p hp).below hb, h.ne⟩
theorem LgW.drew (h : LgW w g gl gt most S T com halt) : LgW w.drew g gl gt most S T com halt := h.on (Below.refl _ _).drew
theorem LgW.alloc (h : LgW w g gl gt most S T com halt) (o : Obj) : LgW (w.alloc o) g gl gt most S T com halt := h.on (bAlloc (Below.refl _ _) o)
/-- What turns another block. -/
theorem LgW.far (h : LgW w g gl gt most S T com halt) {r : Nat} (hg : w.grownBy w' (some r)) (h1 : r ≠ g) (h2 : r ≠ gl) (h3 : r ≠ gt) (h4 : ∀ p ∈ T, p.2.1.ownBlock ≠ some r) : LgW w' g gl gt most S T com halt :=
  ⟨h.blk.grown hg (fun e => h1 (Option.some.inj e)), h.live.same (hg.block gl h.live.lt (fun e => h2 (Option.some.inj e).symm)), h.told.same (hg.block gt h.told.lt (fun e => h3 (Option.some.inj e).symm)), fun p hp => (h.rows p hp).kept hg (.inr (h4 p hp)), h.ne⟩
theorem LgW.apart (h : LgW w g gl gt most S T com halt) {r : Nat} {E : TypeId} {cs : Array Value} (hr : Blk w r E cs) (h1 : E ≠ 62) (h2 : E ≠ 43) : r ≠ g ∧ r ≠ gl ∧ r ≠ gt ∧ ∀ p ∈ T, p.2.1.ownBlock ≠ some r := by
  obtain ⟨es, c, hl⟩ := h.live.block
  obtain ⟨es', c', ht⟩ := h.told.block
  refine ⟨fun e => ?_, hr.noMap hl, hr.noMap ht, fun p hp => hr.apart (h.rows p hp) h2⟩
  subst e
  have := h.blk
  unfold Blk at this hr
  rw [hr] at this
  injection this with this
  injection this with _ ht
  exact h1 ht
theorem LgW.farO (h : LgW w g gl gt most S T com halt) {row : Option Nat} (hg : w.grownBy w' row) (hr : ∀ r, row = some r → r ≠ g ∧ r ≠ gl ∧ r ≠ gt ∧ ∀ p ∈ T, p.2.1.ownBlock ≠ some r) : LgW w' g gl gt most S T com halt :=
  ⟨h.blk.grown hg (fun e => (hr _ e).1 rfl), h.live.same (hg.block gl h.live.lt (fun e => (hr _ e.symm).2.1 rfl)), h.told.same (hg.block gt h.told.lt (fun e => (hr _ e.symm).2.2.1 rfl)), fun p hp => (h.rows p hp).kept hg (by
    cases hrow : row with
    | none =>
      cases hv : p.2.1.ownBlock with
      | none => exact .inl rfl
      | some k => exact .inr (by simp)
    | some r => exact .inr ((hr r hrow).2.2.2 p hp)), h.ne⟩
theorem LgW.apartO {α : Type} (h : LgW w g gl gt most S T com halt) {base : Nat} {E : TypeId} {m : Nat} {v : Value} {f : α → List Value} {l : List α} (ho : OwnL w base E m v f l) (h1 : E ≠ 62) (h2 : E ≠ 43) : ∀ r, v.ownBlock = some r → r ≠ g ∧ r ≠ gl ∧ r ≠ gt ∧ ∀ p ∈ T, p.2.1.ownBlock ≠ some r := fun r hr => by
  obtain ⟨es, c, hl⟩ := h.live.block
  obtain ⟨es', c', ht⟩ := h.told.block
  refine ⟨fun e => ?_, fun e => ?_, fun e => ?_, fun p hp => (h.rows p hp).apart ho h2.symm hr⟩
  · exact h.blk.apart ho h1.symm (by rw [hr, e])
  · exact ho.noMap hl (by rw [hr, e])
  · exact ho.noMap ht (by rw [hr, e])
/-- Another row. -/
theorem LgW.farR {α : Type} (h : LgW w g gl gt most S T com halt) {base : Nat} {E : TypeId} {m : Nat} {v : Value} {f : α → List Value} {l : List α} (ho : OwnL w base E m v f l) (hg : w.grownBy w' v.ownBlock) (h1 : E ≠ 62) (h2 : E ≠ 43) : LgW w' g gl gt most S T com halt := h.farO hg (h.apartO ho h1 h2)
/-- Another block. -/
theorem LgW.farB (h : LgW w g gl gt most S T com halt) {r : Nat} {E : TypeId} {cs : Array Value} (hg : w.grownBy w' (some r)) (hr : Blk w r E cs) (h1 : E ≠ 62) (h2 : E ≠ 43) : LgW w' g gl gt most S T com halt := by
  obtain ⟨a, b, c, d⟩ := h.apart hr h1 h2
  exact h.far hg a b c d
/-- The entries turned. -/
theorem LgW.turned (h : LgW w g gl gt most S T com halt) {S' : List Ev} (hM : MapIs Key4.val Ev.val Try.prog 41 w' gl (prs S')) (hg : w.grownBy w' (some gl)) : LgW w' g gl gt most S' T com halt := by
  obtain ⟨es, c, hl⟩ := h.live.block
  exact ⟨h.blk.grown hg (fun e => h.blk.noMap hl (Option.some.inj e).symm), hM, h.told.same (hg.block gt h.told.lt (fun e => h.ne (Option.some.inj e).symm)), fun p hp => (h.rows p hp).kept hg (.inr ((h.rows p hp).noMap hl)), h.ne⟩
theorem LgW.cells (h : LgW w g gl gt most S T com halt) : g < w.heap.size ∧ w.cell? ⟨g, 0, none⟩ = some (.int .i64 most) ∧ w.cell? ⟨g, 1, none⟩ = some (.map (some gl)) ∧ w.cell? ⟨g, 2, none⟩ = some (.map (some gt)) ∧ w.cell? ⟨g, 3, none⟩ = some (.int .i64 com) ∧ w.cell? ⟨g, 4, none⟩ = some (.bool halt) :=
  ⟨h.blk.lt, h.blk.cell 0, h.blk.cell 1, h.blk.cell 2, h.blk.cell 3, h.blk.cell 4⟩
end
set_option maxHeartbeats 1000000 in
theorem lofC_any (x : Ev) (q : Nat) (f : Int) (w : World) (hq : w.cell? ⟨q, 0, none⟩ = some (.int .i64 f)) : Calls Try.prog 64 #[x.val, .pointer (some ⟨q, 0, none⟩)] w fun e w' => e = .returned (.bool (!decide (x.frame = f))) ∧ Below w.heap.size w w' := by
  have hql := block_lt_of_cell hq
  unfold Ev.val
  by_cases hf : x.frame = f
  · have HD : Hid ((!decide (x.frame = f)) = false) := Lib.hid (by simp [hf])
    have hb : (x.frame != f) = false := by simp [hf]
    rw [HD.out]
    clear hf HD
    go_enter Try.func64, Try.ntmps64
    go_wp2
    go_ret
    exact ⟨rfl, bAlloc (Below.refl _ _) _⟩
  · have HD : Hid ((!decide (x.frame = f)) = true) := Lib.hid (by simp [hf])
    have hb : (x.frame != f) = true := by simp [hf]
    rw [HD.out]
    clear hf HD
    go_enter Try.func64, Try.ntmps64
    go_wp2
    go_ret
    exact ⟨rfl, bAlloc (Below.refl _ _) _⟩
set_option maxHeartbeats 1000000 in
theorem lfitsC_any (x : Ev) (q : Nat) (f : Int) (w : World) (hq : w.cell? ⟨q, 0, none⟩ = some (.int .i64 f)) : Calls Try.prog 43 #[x.val, .pointer (some ⟨q, 0, none⟩)] w fun e w' => e = .returned (.bool (!decide (x.frame = f))) ∧ Below w.heap.size w w' := by
  have hql := block_lt_of_cell hq
  unfold Ev.val
  by_cases hf : x.frame = f
  · have HD : Hid ((!decide (x.frame = f)) = false) := Lib.hid (by simp [hf])
    have hb : (x.frame != f) = false := by simp [hf]
    rw [HD.out]
    clear hf HD
    go_enter Try.func43, Try.ntmps43
    go_wp2
    go_ret
    exact ⟨rfl, bAlloc (Below.refl _ _) _⟩
  · have HD : Hid ((!decide (x.frame = f)) = true) := Lib.hid (by simp [hf])
    have hb : (x.frame != f) = true := by simp [hf]
    rw [HD.out]
    clear hf HD
    go_enter Try.func43, Try.ntmps43
    go_wp2
    go_ret
    exact ⟨rfl, bAlloc (Below.refl _ _) _⟩
set_option maxHeartbeats 1000000 in
theorem llike_any (x y : Ev) (w : World) : Calls Try.prog 48 #[x.val, y.val] w fun e w' => e = .returned (.bool (likeE x y)) ∧ Below w.heap.size w w' := by
  unfold Ev.val likeE
  by_cases h1 : x.asset = y.asset <;> by_cases h2 : x.len = y.len
  all_goals
    have b1 : (x.asset == y.asset) = decide (x.asset = y.asset) := by rw [Bool.eq_iff_iff]; simp
    have b2 : (x.len == y.len) = decide (x.len = y.len) := by rw [Bool.eq_iff_iff]; simp
    simp only [h1, h2, decide_true, decide_false, Bool.and_true, Bool.and_false] at b1 b2 ⊢
    go_enter Try.func48, Try.ntmps48
    go_wp2
    go_ret
    exact ⟨rfl, bAlloc (bAlloc (Below.refl _ _) _) _⟩
end Go.Proofs.Yteccmklacgpodaa
