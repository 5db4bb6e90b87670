/-
  The walks beneath: MgW, MgT, MixO, MgC, MgB, MgP, MixT, MgG, CmE.
-/
import Derived.Great.BuildSlice
import Derived.Deep.AppendSrc
import Derived.Deep.Upon
import Derived.Test.YteccmklacgpodaaMp1
import Derived.Test.YteccmklacgpodaaMix
namespace Go.Proofs.Yteccmklacgpodaa
open Go.RowKit
set_option maxRecDepth 100000
set_option linter.unusedSimpArgs false
/-- A page's cells. -/
def pgC (p : TEnt) : List Value := [.int .i64 p.1, p.2.1]
theorem pgC_length (p : TEnt) : (pgC p).length = 2 := rfl
/-- The document's ledger in memory. -/
structure MgW (w : World) (gm : Nat) (most : Int) (S : List Ev) (P : List TEnt) (com : Int) (halt : Bool) (A : Option Addr) (c : Nat) (Ap : Option Addr) (cp : Nat) : Prop where
  blk : Blk w gm 52 #[.int .i64 most, .slice A S.length c, .slice Ap P.length cp, .int .i64 com, .bool halt]
  live : OwnL w 0 43 9 (.slice A S.length c) Ev.cells S
  pages : OwnL w 0 30 2 (.slice Ap P.length cp) pgC P
  rows : ∀ p ∈ P, OwnL w 0 43 9 p.2.1 Ev.cells p.2.2
section
variable {w w' : World} {gm : Nat} {most com : Int} {halt : Bool} {S : List Ev} {P : List TEnt} {A Ap : Option Addr} {c cp : Nat}
theorem MgW.on (h : MgW w gm most S P com halt A c Ap cp) (hb : Below w.heap.size w w') : MgW w' gm most S P com halt A c Ap cp :=
  ⟨h.blk.on hb, h.live.below hb, h.pages.below hb, fun p hp => (h.rows p hp).below hb⟩
/-- Another block or row of another type. -/
theorem MgW.far (h : MgW w gm most S P com halt A c Ap cp) {row : Option Nat} (hg : w.grownBy w' row) (h1 : ∀ r, row = some r → r ≠ gm ∧ (Value.slice A S.length c).ownBlock ≠ some r ∧ (Value.slice Ap P.length cp).ownBlock ≠ some r ∧ ∀ p ∈ P, p.2.1.ownBlock ≠ some r) : MgW w' gm most S P com halt A c Ap cp := by
  have hk : ∀ {v : Value}, (∀ r, row = some r → v.ownBlock ≠ some r) → ∀ k, v.ownBlock = some k → k < w.heap.size → w'.heap[k]? = w.heap[k]? := fun hv k hk hlt => hg.block k hlt (fun e => hv k e.symm hk)
  exact ⟨h.blk.grown hg (fun e => (h1 _ e).1 rfl), h.live.same (fun k hv => hk (fun r e => (h1 r e).2.1) k hv (h.live.block_lt k hv)), h.pages.same (fun k hv => hk (fun r e => (h1 r e).2.2.1) k hv (h.pages.block_lt k hv)), fun p hp => (h.rows p hp).same (fun k hv => hk (fun r e => (h1 r e).2.2.2 p hp) k hv ((h.rows p hp).block_lt k hv))⟩
theorem MgW.farR {α : Type} (h : MgW w gm most S P com halt A c Ap cp) {base : Nat} {E : TypeId} {m : Nat} {v : Value} {f : α → List Value} {l : List α} (ho : OwnL w base E m v f l) (hg : w.grownBy w' v.ownBlock) (h1 : E ≠ 52) (h2 : E ≠ 43) (h3 : E ≠ 30) : MgW w' gm most S P com halt A c Ap cp :=
  h.far hg (fun r hr => ⟨fun e => h.blk.apart ho h1.symm (by rw [hr, e]), h.live.apart ho h2.symm hr, h.pages.apart ho h3.symm hr, fun p hp => (h.rows p hp).apart ho h2.symm hr⟩)
theorem MgW.cells (h : MgW w gm most S P com halt A c Ap cp) : gm < w.heap.size ∧ w.cell? ⟨gm, 0, none⟩ = some (.int .i64 most) ∧ w.cell? ⟨gm, 1, none⟩ = some (.slice A S.length c) ∧ w.cell? ⟨gm, 2, none⟩ = some (.slice Ap P.length cp) ∧ w.cell? ⟨gm, 3, none⟩ = some (.int .i64 com) ∧ w.cell? ⟨gm, 4, none⟩ = some (.bool halt) :=
  ⟨h.blk.lt, h.blk.cell 0, h.blk.cell 1, h.blk.cell 2, h.blk.cell 3, h.blk.cell 4⟩
/-- Its own block stored into. -/
theorem MgW.put (h : MgW w gm most S P com halt A c Ap cp) (o : Nat) (u : Value) {S' : List Ev} {P' : List TEnt} {com' : Int} {halt' : Bool} {A' : Option Addr} {c' : Nat} {Ap' : Option Addr} {cp' : Nat} (hl : OwnL w 0 43 9 (.slice A' S'.length c') Ev.cells S') (hp : OwnL w 0 30 2 (.slice Ap' P'.length cp') pgC P') (hr : ∀ p ∈ P', OwnL w 0 43 9 p.2.1 Ev.cells p.2.2)
    (he : (#[.int .i64 most, .slice A S.length c, .slice Ap P.length cp, .int .i64 com, .bool halt] : Array Value).setIfInBounds o u = #[.int .i64 most, .slice A' S'.length c', .slice Ap' P'.length cp', .int .i64 com', .bool halt']) : MgW (w.setCell ⟨gm, o, none⟩ u) gm most S' P' com' halt' A' c' Ap' cp' :=
  ⟨by rw [← he]; exact h.blk.set o u, hl.farG (h.blk.apart hl (by decide)) o u, hp.farG (h.blk.apart hp (by decide)) o u, fun p hp => (hr p hp).farG (h.blk.apart (hr p hp) (by decide)) o u⟩
end
theorem rnew_any (n : Int) (w : World) : Calls Try.prog 18 #[.int .i64 n] w fun e w' => e = .returned (.pointer (some ⟨w.heap.size, 0, none⟩)) ∧ MgW w' w.heap.size n [] [] (-1) false none 0 none 0 ∧ Below w.heap.size w w' := by
  go_enter Try.func18, Try.ntmps18
  go_wp2
  go_ret
  exact ⟨rfl, ⟨Blk.new _ _ _, OwnL.nil, OwnL.nil, fun p hp => by cases hp⟩, bAlloc (Below.refl _ _) _⟩
theorem dropK_snoc (L : List Ev) (k : Key4) (i : Nat) (h : i < L.length) : dropK (L.take (i + 1)) k = dropK (L.take i) k ++ (if L[i].key = k then [] else [L[i]]) := by
  unfold dropK
  rw [List.take_succ_eq_append_getElem h, List.filter_append]
  congr 1
  by_cases hk : L[i].key = k <;> simp [hk]
theorem key_neqB (a b : Key4) (W : World) : (binOp .neq 41 (.agg #[.int .i64 a.frame, .int .i64 a.emitter, .int .i64 a.kind, .int .i64 a.ord]) (.agg #[.int .i64 b.frame, .int .i64 b.emitter, .int .i64 b.kind, .int .i64 b.ord])).run Try.prog W = .ok (.bool (!decide (a = b))) W := by
  have := neq_ints (P := Try.prog) key_kindsA (fun cs => by unfold valOf; rw [Try.underlying41]) (xs := [.int .i64 a.frame, .int .i64 a.emitter, .int .i64 a.kind, .int .i64 a.ord]) (ys := [.int .i64 b.frame, .int .i64 b.emitter, .int .i64 b.kind, .int .i64 b.ord]) (keyI a) (keyI b) rfl rfl rfl rfl W
  rw [keyI_dec] at this
  exact this
set_option maxHeartbeats 4000000 in
theorem without_any (A : Option Addr) (c : Nat) (L : List Ev) (k : Key4) (w : World) (hL : L.length ≤ 100000) (hr : Rd w w.heap.size A (L.flatMap Ev.cells)) :
    Calls Try.prog 53 #[.slice A L.length c, k.val] w fun e w' => ∃ (A' : Option Addr) (c' : Nat), e = .returned (.slice A' (dropK L k).length c') ∧ OwnL w' w.heap.size 43 9 (.slice A' (dropK L k).length c') Ev.cells (dropK L k) ∧ Below w.heap.size w w' := by
  obtain ⟨n, hn⟩ : ∃ n, L.length = n := ⟨_, rfl⟩
  have HN := Lib.hid hn
  have HR := Lib.hid hr
  obtain ⟨X, hX⟩ : ∃ X, dropK L k = X := ⟨_, rfl⟩
  have HX := Lib.hid hX
  rw [hn] at hL
  rw [hn, hX]
  obtain ⟨w1, hw1⟩ : ∃ w1, w1 = (w.alloc (.cells #[.int .i64 k.frame, .int .i64 k.emitter, .int .i64 k.kind, .int .i64 k.ord] 41)).alloc (.cells #[] 43) := ⟨_, rfl⟩
  have HB1 : Hid (Below w.heap.size w w1) := Lib.hid (by rw [hw1]; exact bAlloc (bAlloc (Below.refl _ _) _) _)
  have HK1 : Hid (Blk w1 w.heap.size 41 #[.int .i64 k.frame, .int .i64 k.emitter, .int .i64 k.kind, .int .i64 k.ord]) := Lib.hid (by rw [hw1]; exact (Blk.new _ _ _).alloc _)
  have HO1 : Hid (OwnL w1 w.heap.size 43 9 (.slice (some ⟨w.heap.size + 1, 0, none⟩) 0 0) Ev.cells (dropK (L.take 0) k)) := Lib.hid (by
    rw [hw1]
    have := OwnL.lit (w := w.alloc (.cells #[.int .i64 k.frame, .int .i64 k.emitter, .int .i64 k.kind, .int .i64 k.ord] 41)) (base := w.heap.size) (E := 43) (f := Ev.cells) (m := 9) (n := 0) (c := 0) [] #[] (by simp) (by simp [maxLen]) Ev.cells_length rfl rfl rfl
    rw [World.size_alloc] at this
    exact this)
  unfold Key4.val
  clear hr hn hX
  go_enter Try.func53, Try.ntmps53
  go_upto_region 2 with fail
  rw [← hw1]
  clear hw1
  go_wp2_with fail
  go_loopw [5, 6] (fun u v wr => ∃ i : Nat, i ≤ n ∧ v = .int .i64 i ∧ ∃ A' n' c', u = .slice A' n' c' ∧ Hid (OwnL wr w.heap.size 43 9 (.slice A' n' c') Ev.cells (dropK (L.take i) k)) ∧ Hid (Blk wr w.heap.size 41 #[.int .i64 k.frame, .int .i64 k.emitter, .int .i64 k.kind, .int .i64 k.ord]) ∧ Hid (Below w.heap.size w wr)) (fun _ v _ => n - (intOf v).toNat)
  case atStart => exact ⟨0, Nat.zero_le _, rfl, _, _, _, rfl, HO1, HK1, HB1⟩
  case round =>
    obtain ⟨i, hi, rfl, A', n', c', rfl, HO, HK, HB⟩ := hrel
    clear HO1 HK1 HB1
    have hws := HB.out.size
    by_cases hlt : i < n
    · have hiL : i < L.length := by rw [HN.out]; exact hlt
      obtain ⟨b, off, rfl, hbl, x0, x1, x2, x3, x4, x5, x6, x7, x8⟩ := (HR.out.below HB.out (Nat.le_refl _)).ev hiL
      have hbw : b < wr.heap.size := Nat.lt_of_lt_of_le hbl hws
      have HSN := Lib.hid (dropK_snoc L k i hiL)
      have hle := dropK_le (L.take i) k
      rw [List.length_take] at hle
      obtain ⟨x, hx⟩ : ∃ x, L[i] = x := ⟨_, rfl⟩
      rw [hx] at x0 x1 x2 x3 x4 x5 x6 x7 x8 HSN
      obtain ⟨k0, k1, k2, k3, lk⟩ := HK.out.four
      clear hx hbl
      by_cases hkey : x.key = k
      · have HNE : Hid (∀ W, (binOp .neq 41 (.agg #[.int .i64 x.frame, .int .i64 x.emitter, .int .i64 x.kind, .int .i64 x.ord]) (.agg #[.int .i64 k.frame, .int .i64 k.emitter, .int .i64 k.kind, .int .i64 k.ord])).run Try.prog W = .ok (.bool false) W) := Lib.hid (fun W => by have h1 := key_neqB x.key k W; rw [decide_eq_true hkey] at h1; exact h1)
        rw [if_pos hkey, List.append_nil] at HSN
        clear hkey
        go_upto_region 5 with fail
        refine wp_region_mild (by kernel_rfl) (by kernel_rfl) ?_
        repeat (go_big_quiet_step (fail))
        refine wpQuiet_runs_mild (.bool false) rfl (fun W => runs_neq rfl rfl rfl (by kernel_rfl) HNE.out W) ?_
        simp only [Act.put, List.setIfInBounds_toArray, List.set_cons_zero, List.set_cons_succ]
        repeat (go_big_quiet_step (fail))
        refine wpQuiet_nil ?_
        intro w9 hw'
        obtain ⟨⟨wq, k9⟩, hw''⟩ := hw'
        subst hw''
        go_wp2
        go_roundw
        case rel => exact ⟨i + 1, by omega, by go_num, A', n', c', rfl, Lib.hid (by rw [HSN.out]; exact HO.out.below k9), Lib.hid (HK.out.on k9), Lib.hid (bTrans HB.out k9)⟩
        case measure => simp [intOf]; omega
      · have HNE : Hid (∀ W, (binOp .neq 41 (.agg #[.int .i64 x.frame, .int .i64 x.emitter, .int .i64 x.kind, .int .i64 x.ord]) (.agg #[.int .i64 k.frame, .int .i64 k.emitter, .int .i64 k.kind, .int .i64 k.ord])).run Try.prog W = .ok (.bool true) W) := Lib.hid (fun W => by have h1 := key_neqB x.key k W; rw [decide_eq_false hkey] at h1; exact h1)
        rw [if_neg hkey] at HSN
        clear hkey
        go_upto_region 5 with fail
        refine wp_region_mild (by kernel_rfl) (by kernel_rfl) ?_
        repeat (go_big_quiet_step (fail))
        refine wpQuiet_runs_mild (.bool true) rfl (fun W => runs_neq rfl rfl rfl (by kernel_rfl) HNE.out W) ?_
        simp only [Act.put, List.setIfInBounds_toArray, List.set_cons_zero, List.set_cons_succ]
        repeat (go_big_quiet_step (fail))
        refine wpQuiet_nil ?_
        intro w9 hw'
        obtain ⟨⟨wq, k9⟩, hw''⟩ := hw'
        subst hw''
        have HO9 := Lib.hid (HO.out.below k9)
        have HK9 := Lib.hid (HK.out.on k9)
        have HB9 := Lib.hid (bTrans HB.out k9)
        have hbc : ∀ o, w9.cell? ⟨b, o, none⟩ = wr.cell? ⟨b, o, none⟩ := fun o => k9.cell (p := ⟨b, o, none⟩) hbw
        have hbw9 : b < w9.heap.size := Nat.lt_of_lt_of_le hbw k9.size
        rw [← hbc] at x0 x1 x2 x3 x4 x5 x6 x7 x8
        have hws9 := HB9.out.size
        have hws9' := k9.size
        clear hbc hbw k9 HO HK HB HNE k0 k1 k2 k3 lk
        go_wp2_with (first | (at_builtin; refine wpList_app_ev rfl (.tmp 21) (.tmp 26) rfl w.heap.size _ (dropK (L.take i) k) [x] (HO9.out.alloc _) rfl _ _ 1 1 rfl rfl (rd_ev1 _ x) (by simp only [List.length_cons, List.length_nil]; omega) (by simp; omega) ?_; intro A6 c6 n6 w6 hn6 ho6 hg6; have HO6 := Lib.hid ho6; have HG6 := Lib.hid hg6; clear ho6 hg6))
        go_roundw
        case rel =>
          have ho9 := HO9.out.alloc (.cells x.cells.toArray 43)
          exact ⟨i + 1, by omega, by go_num, A6, n6, c6, rfl, Lib.hid (by rw [HSN.out]; exact HO6.out), Lib.hid ((HK9.out.alloc _).grown HG6.out ((HK9.out.alloc _).apart ho9 (by decide))), Lib.hid ((bAlloc HB9.out _).grown HG6.out (by simp; omega) (fun g hg => ho9.base_le g hg))⟩
        case measure => simp [intOf]; omega
    · obtain rfl : i = n := by omega
      rw [List.take_of_length_le (by rw [HN.out]; exact Nat.le_refl _), HX.out] at HO
      have hnl := HO.out.len
      rw [hnl] at HO ⊢
      go_wp2
      go_ret
      exact ⟨A', c', rfl, HO.out, HB.out⟩
end Go.Proofs.Yteccmklacgpodaa

namespace Go.Proofs.Yteccmklacgpodaa
open Go.RowKit
set_option maxRecDepth 100000
set_option linter.unusedSimpArgs false
def toldP (P : List TEnt) (com f : Int) : List Ev := if com < f then toldAt P f else []
theorem toldAt_at {P : List TEnt} {f : Int} {k : Nat} (h : k < P.length) (hk : P[k].1 = f) (hn : ∀ j (hj : j < P.length), j < k → P[j].1 ≠ f) : toldAt P f = P[k].2.2 := by
  unfold toldAt
  have : P.find? (fun p => decide (p.1 = f)) = some P[k] := by
    rw [List.find?_eq_some_iff_getElem]
    exact ⟨by simpa using hk, k, h, rfl, fun j hj => by simpa using hn j (by omega) hj⟩
  rw [this]
theorem toldAt_not {P : List TEnt} {f : Int} (hn : ∀ j (hj : j < P.length), P[j].1 ≠ f) : toldAt P f = [] := by
  unfold toldAt
  have : P.find? (fun p => decide (p.1 = f)) = none := by
    rw [List.find?_eq_none]
    intro p hp
    obtain ⟨j, hj, rfl⟩ := List.mem_iff_getElem.1 hp
    simpa using hn j hj
  rw [this]
section
variable {w : World} {gm : Nat} {most com : Int} {halt : Bool} {S : List Ev} {P : List TEnt} {A Ap : Option Addr} {c cp : Nat}
/-- The k-th page. -/
theorem MgW.page (h : MgW w gm most S P com halt A c Ap cp) {k : Nat} (hk : k < P.length) : ∃ gp A' n' c', Ap = some ⟨gp, 0, none⟩ ∧ gp < w.heap.size ∧ w.cell? ⟨gp, k * 2, none⟩ = some (.int .i64 P[k].1) ∧ w.cell? ⟨gp, k * 2 + 1, none⟩ = some (.slice A' n' c') ∧ OwnL w 0 43 9 (.slice A' n' c') Ev.cells P[k].2.2 := by
  have hp := h.pages
  obtain ⟨gp, rfl, -, -, hlt⟩ := hp.formA (by omega)
  have hr := h.rows P[k] (List.getElem_mem hk)
  obtain ⟨A', c', hv⟩ := hr.shape
  have c0 := hp.cell pgC_length (k := k) (j := 0) hk rfl
  have c1 := hp.cell pgC_length (k := k) (j := 1) hk rfl
  rw [hv] at c1 hr
  exact ⟨gp, A', _, c', rfl, hlt, c0, c1, hr⟩
set_option maxHeartbeats 4000000 in
theorem rtold_any (h : MgW w gm most S P com halt A c Ap cp) (f : Int) (hP : P.length ≤ 1000) : Calls Try.prog 22 #[.pointer (some ⟨gm, 0, none⟩), .int .i64 f] w fun e w' => ∃ (A' : Option Addr) (n' c' : Nat), e = .returned (.slice A' n' c') ∧ OwnL w' 0 43 9 (.slice A' n' c') Ev.cells (toldP P com f) ∧ Below w.heap.size w w' := by
  have HW := Lib.hid h
  obtain ⟨n, hn⟩ : ∃ n, P.length = n := ⟨_, rfl⟩
  have HN := Lib.hid hn
  obtain ⟨X, hX⟩ : ∃ X, toldP P com f = X := ⟨_, rfl⟩
  have HX := Lib.hid hX
  obtain ⟨lg, -, -, c2, c3, -⟩ := h.cells
  rw [hn] at c2 hP
  rw [hX]
  clear h hn hX
  go_enter Try.func22, Try.ntmps22
  go_wp2_with fail
  go_loopw [5] (fun v wr => ∃ k : Nat, k ≤ n ∧ v = .int .i64 k ∧ Hid (∀ j (hj : j < P.length), j < k → P[j].1 ≠ f ∨ ¬ com < f) ∧ wr = w) (fun v _ => n - (intOf v).toNat)
  case atStart => exact ⟨0, Nat.zero_le _, rfl, Lib.hid (fun j _ h => absurd h (Nat.not_lt_zero _)), rfl⟩
  case round =>
    obtain ⟨k, hk, rfl, HE, rfl⟩ := hrel
    by_cases hlt : k < n
    · have hkP : k < P.length := by rw [HN.out]; exact hlt
      obtain ⟨gp, A', n', c', rfl, hgp, p0, p1, ho⟩ := HW.out.page hkP
      have HO := Lib.hid ho
      have HNX : Hid (P[k].1 ≠ f ∨ ¬ com < f → ∀ j (hj : j < P.length), j < k + 1 → P[j].1 ≠ f ∨ ¬ com < f) := Lib.hid (fun h j hj hjk => by
        rcases Nat.lt_or_ge j k with h1 | h1
        · exact HE.out j hj h1
        · have : j = k := by omega
          subst this; exact h)
      have HAT : Hid (P[k].1 = f → com < f → X = P[k].2.2) := Lib.hid (fun h1 h2 => by
        rw [← HX.out]
        unfold toldP
        rw [if_pos h2]
        exact toldAt_at hkP h1 (fun j hj hjk => (HE.out j hj hjk).resolve_right (fun h => h h2)))
      obtain ⟨q, hq⟩ : ∃ q, P[k] = q := ⟨_, rfl⟩
      rw [hq] at p0 HO HNX HAT
      clear hq ho hkP
      by_cases hqf : q.1 = f
      · have hb : (q.1 == f) = true := by simp [hqf]
        by_cases hcf : com < f
        · have HXQ := Lib.hid (HAT.out hqf hcf)
          clear hqf HNX HAT
          go_wp2
          go_ret
          exact ⟨A', n', c', rfl, by rw [HXQ.out]; exact HO.out, Below.refl _ _⟩
        · have HNX2 := Lib.hid (HNX.out (.inr hcf))
          clear hqf HNX HAT
          go_wp2
          go_roundw
          case rel => exact ⟨k + 1, by omega, by go_num, HNX2, trivial⟩
          case measure => simp [intOf]; omega
      · have hb : (q.1 == f) = false := by simp [hqf]
        have HNX2 := Lib.hid (HNX.out (.inl hqf))
        clear hqf HNX HAT
        go_wp2
        go_roundw
        case rel => exact ⟨k + 1, by omega, by go_num, HNX2, trivial⟩
        case measure => simp [intOf]; omega
    · obtain rfl : k = n := by omega
      have HX0 : Hid (X = []) := Lib.hid (by
        rw [← HX.out]
        unfold toldP
        by_cases hcf : com < f
        · rw [if_pos hcf]
          exact toldAt_not (fun j hj => (HE.out j hj (by have := HN.out; omega)).resolve_right (fun h => h hcf))
        · rw [if_neg hcf])
      have HOL : Hid (OwnL (wr.alloc (.cells #[] 43)) 0 43 9 (.slice (some ⟨wr.heap.size, 0, none⟩) 0 0) Ev.cells ([] : List Ev)) := Lib.hid (OwnL.lit (f := Ev.cells) (m := 9) (n := 0) (c := 0) [] #[] (Nat.zero_le _) (by simp [maxLen]) Ev.cells_length rfl rfl rfl)
      go_wp2
      go_ret
      exact ⟨_, _, _, rfl, by rw [HX0.out]; exact HOL.out, bAlloc (Below.refl _ _) _⟩
set_option maxHeartbeats 4000000 in
theorem rhalt_any (h : MgW w gm most S P com halt A c Ap cp) (hl : S.length ≤ 1000) : Calls Try.prog 37 #[.pointer (some ⟨gm, 0, none⟩)] w fun e w' => ∃ (A' : Option Addr) (n' c' : Nat), e = .returned (.slice A' n' c') ∧ OwnL w' w.heap.size 57 12 (.slice A' n' c') Cm.cells (haltF S) ∧ MgW w' gm most [] P com true none 0 Ap cp ∧ KeptX w w' [gm] := by
  obtain ⟨w1, hw1⟩ : ∃ w1, w1 = w.alloc (.cells #[] 57) := ⟨_, rfl⟩
  have HM1 : Hid (MgW w1 gm most S P com halt A c Ap cp) := Lib.hid (by rw [hw1]; exact h.on (bAlloc (Below.refl _ _) _))
  have HO1 : Hid (OwnL w1 w.heap.size 57 12 (.slice (some ⟨w.heap.size, 0, none⟩) 0 0) Cm.cells (haltF (S.take 0))) := Lib.hid (by
    rw [hw1]
    exact OwnL.lit (f := Cm.cells) (m := 12) (n := 0) (c := 0) [] #[] (Nat.le_refl _) (by simp [maxLen]) Cm.cells_length rfl rfl rfl)
  have HB1 : Hid (Below w.heap.size w w1) := Lib.hid (by rw [hw1]; exact bAlloc (Below.refl _ _) _)
  obtain ⟨n, hn⟩ : ∃ n, S.length = n := ⟨_, rfl⟩
  have HN := Lib.hid hn
  obtain ⟨X, hX⟩ : ∃ X, haltF S = X := ⟨_, rfl⟩
  have HX := Lib.hid hX
  have lgm := h.cells.1
  rw [hn] at hl
  rw [hX]
  clear h hn hX
  go_enter Try.func37, Try.ntmps37
  go_upto_region 2 with fail
  rw [← hw1]
  clear hw1
  go_wp2_with fail
  go_loopw [3, 4] (fun u v wr => ∃ k : Nat, k ≤ n ∧ v = .int .i64 k ∧ ∃ A' n' c', u = .slice A' n' c' ∧ Hid (OwnL wr w.heap.size 57 12 (.slice A' n' c') Cm.cells (haltF (S.take k))) ∧ Hid (MgW wr gm most S P com halt A c Ap cp) ∧ Hid (Below w.heap.size w wr)) (fun _ v _ => n - (intOf v).toNat)
  case atStart => exact ⟨0, Nat.zero_le _, rfl, _, _, _, rfl, HO1, HM1, HB1⟩
  case round =>
    obtain ⟨k, hk, rfl, A', n', c', rfl, HO, HM, HB⟩ := hrel
    clear HO1 HM1 HB1
    obtain ⟨lg, -, c1, -, -, -⟩ := HM.out.cells
    rw [HN.out] at c1
    have hws := HB.out.size
    by_cases hlt : k < n
    · have hkS : k < S.length := by rw [HN.out]; exact hlt
      obtain ⟨b, off, rfl, hbl, x0, x1, x2, x3, x4, x5, x6, x7, x8⟩ := HM.out.live.rd.ev hkS
      have HSN := Lib.hid (haltF_snoc S k hkS)
      have hs6 : (haltF (S.take k)).length ≤ k := by rw [haltF_len, List.length_take]; omega
      obtain ⟨x, hx⟩ : ∃ x, S[k] = x := ⟨_, rfl⟩
      rw [hx] at x0 x1 x2 x3 x4 x5 x6 x7 x8 HSN
      clear hx hkS
      go_wp2_with (first | (at_builtin; refine wpList_app_cm rfl (.tmp 15) (.tmp 24) rfl w.heap.size _ (haltF (S.take k)) [⟨3, x, 0, false⟩] (HO.out.alloc _) rfl _ _ 1 1 rfl rfl (rd_cm1 _ ⟨3, x, 0, false⟩) (by simp only [List.length_cons, List.length_nil]; omega) (by simp; omega) ?_; intro A6 c6 n6 w6 hn6 ho6 hg6; have HO6 := Lib.hid ho6; have HG6 := Lib.hid hg6; clear ho6 hg6))
      go_roundw
      case rel =>
        have ho5 := HO.out.alloc (.cells (Cm.cells ⟨3, x, 0, false⟩).toArray 57)
        exact ⟨k + 1, by omega, by go_num, A6, n6, c6, rfl, Lib.hid (by rw [HSN.out]; exact HO6.out), Lib.hid ((HM.out.on (bAlloc (Below.refl _ _) _)).farR ho5 HG6.out (by decide) (by decide) (by decide)), Lib.hid ((bAlloc HB.out _).grown HG6.out (by simp; omega) (fun g hg => ho5.base_le g hg))⟩
      case measure => simp [intOf]; omega
    · obtain rfl : k = n := by omega
      rw [List.take_of_length_le (by rw [HN.out]; exact Nat.le_refl _), HX.out] at HO
      have f1 := HM.out.blk.frozen 1
      have f4 := HM.out.blk.frozen 4
      have c4 := HM.out.cells.2.2.2.2.2
      have c1' := HM.out.cells.2.2.1
      clear c1'
      go_wp2
      go_ret
      have hm1 : MgW (wr.setCell ⟨gm, 1, none⟩ (.slice none 0 0)) gm most [] P com halt none 0 Ap cp := HM.out.put 1 (.slice none 0 0) (S' := []) OwnL.nil HM.out.pages HM.out.rows rfl
      have hm2 : MgW ((wr.setCell ⟨gm, 1, none⟩ (.slice none 0 0)).setCell ⟨gm, 4, none⟩ (.bool true)) gm most [] P com true none 0 Ap cp := hm1.put 4 (.bool true) (S' := []) OwnL.nil hm1.pages hm1.rows rfl
      refine ⟨A', n', c', rfl, (HO.out.farG (HM.out.blk.apart HO.out (by decide)) _ _).farG (fun e => HM.out.blk.apart HO.out (by decide) e) _ _, hm2, ((KeptX.ofBelow HB.out [gm]).setCell (.inl (by simp)) _ _).setCell (.inl (by simp)) _ _⟩
end
end Go.Proofs.Yteccmklacgpodaa

namespace Go.Proofs.Yteccmklacgpodaa
open Go.RowKit
section
variable {P : Program} {ops : Array Oper} {w : World} {kd : Nat → Kd} {sp : Nat → Told} {E : Act → (World → Prop) → Prop} {o : Oper} {rest : List Oper} {k : Nat} {a : Act} {D : World → Prop}
theorem run_storeVar_cell (w : World) (b i : Nat) (ty : TypeId) (u : Value) (ht : w.there b i 1) (hi : (P.info? ty).map (·.size) = some 1) (hc : u.cells = #[u]) (h1 : u.oneCell' = true) : (storeVar ty ⟨b, i, none⟩ u).run P w = .ok () (w.setCell ⟨b, i, none⟩ u) := by
  have hst := run_storeCells_cells (P := P) b i [u] 0 w (fun j hj => by simpa using (ht j (by simpa using hj)).1) (fun j hj => by simpa using (ht j (by simpa using hj)).2) (by simpa using h1)
  cases hq : P.info? ty with
  | none => simp [hq] at hi
  | some inf =>
    have hs : inf.size = 1 := by simpa [hq] using hi
    unfold storeVar
    rw [hc]
    simp [sizeOf, typeInfo, hq, hs]
    simpa [World.setCells] using hst
theorem mix_store1 (hw : Region.wanted o (yielded ops a.tmps) = true) (hk : kd k = .tail) (ty : TypeId) (x y : Operand) (ho : o.op = .store ty x y)
    (b i : Nat) (u : Value) (hx : a.eval x = .pointer (some ⟨b, i, none⟩)) (hy : a.eval y = u) (ht : ∀ W, D W → W.there b i 1) (hi : (P.info? ty).map (·.size) = some 1) (hc : u.cells = #[u]) (h1 : u.oneCell' = true)
    (h : wpMix P ops w kd sp E rest (k + 1) (a.put o.dst undef) (fun W' => ∃ W, D W ∧ W' = W.setCell ⟨b, i, none⟩ u)) : wpMix P ops w kd sp E (o :: rest) k a D :=
  mix_tail hw hk (fun W => W.setCell ⟨b, i, none⟩ u) (fun W hW => by
    unfold execOp
    simp only [ho, hx, hy, Instr.storeAt, Instr.sureAddr, Sem.run_bind, Sem.run_pure, Result.andThen_ok, run_storeVar_cell W b i ty u (ht W hW) hi hc h1]) h
/-- A call that writes nothing that was there, behind all that read: its contract may ask what the makes ahead of it tell. -/
theorem mix_tailC (hw : Region.wanted o (yielded ops a.tmps) = true) (hk : kd k = .tail) (S : Value → Prop) (T : Value → World → Prop) (hT : ∀ W, D W → Oper.goes P o a W (fun v W' => S v ∧ T v W'))
    (h : ∀ v, S v → wpMix P ops w kd sp E rest (k + 1) (a.put o.dst v) (T v)) : wpMix P ops w kd sp E (o :: rest) k a D := by
  unfold wpMix mStep
  rw [if_pos hw, hk]
  exact ⟨S, T, hT, fun v hv _ => h v hv⟩
end
end Go.Proofs.Yteccmklacgpodaa

namespace Go.Proofs.Yteccmklacgpodaa
open Go.RowKit
set_option maxRecDepth 100000
set_option linter.unusedSimpArgs false
theorem atI_findS (L : List Ev) (k : Key4) : decide (0 ≤ atI L k) = (findS L k).isSome := by
  unfold atI
  by_cases h : atN L k < L.length
  · rw [if_pos h]
    have h1 := atN_key h
    have h2 : (findS L k).isSome = true := by
      cases hf : findS L k with
      | some z => rfl
      | none => exact absurd h1 (findS_none.1 hf _ (List.getElem_mem h))
    rw [h2]
    simp
  · rw [if_neg h]
    have h2 : findS L k = none := findS_none.2 (fun x hx => by
      obtain ⟨j, hj, rfl⟩ := List.mem_iff_getElem.1 hx
      exact atN_lt hj (by omega))
    rw [h2]
    rfl
section
variable {w : World} {gm : Nat} {most com : Int} {S : List Ev} {P : List TEnt} {A Ap : Option Addr} {c cp : Nat}
set_option maxHeartbeats 1000000 in
theorem rcommit_halted (h : MgW w gm most S P com true A c Ap cp) (f : Int) : Calls Try.prog 36 #[.pointer (some ⟨gm, 0, none⟩), .int .i64 f] w fun e w' => e = .returned (.tuple #[.slice none 0 0, .int .i64 12]) ∧ w = w' := by
  obtain ⟨lg, -, -, -, -, c4⟩ := h.cells
  clear h
  go_enter Try.func36, Try.ntmps36
  go_wp2
  go_ret2
  exact ⟨rfl, rfl⟩
set_option maxHeartbeats 1000000 in
theorem rcommit_order (h : MgW w gm most S P com false A c Ap cp) (f : Int) (hc : -4611686018427387904 ≤ f ∧ f ≤ 4611686018427387904) (hf : f ≠ com + 1) : Calls Try.prog 36 #[.pointer (some ⟨gm, 0, none⟩), .int .i64 f] w fun e w' => e = .returned (.tuple #[.slice none 0 0, .int .i64 11]) ∧ w = w' := by
  obtain ⟨lg, -, -, -, c3, c4⟩ := h.cells
  have hb : (f - 1 != com) = true := by simp; omega
  clear h hf
  go_enter Try.func36, Try.ntmps36
  go_wp2
  go_ret2
  exact ⟨rfl, rfl⟩
set_option maxHeartbeats 8000000 in
theorem rcommit_ok (h : MgW w gm most S P com false A c Ap cp) (hS : LvOk S) (hl : S.length ≤ 256) (hP : P.length ≤ 1000) (hc : -1 ≤ com ∧ com ≤ 4611686018427387904) (hE : (toldP P com (com + 1)).length ≤ 64) :
    Calls Try.prog 36 #[.pointer (some ⟨gm, 0, none⟩), .int .i64 (com + 1)] w fun e w' => ∃ (A' : Option Addr) (n' c' : Nat) (AL : Option Addr) (cL : Nat), e = .returned (.tuple #[.slice A' n' c', .int .i64 0]) ∧ OwnL w' w.heap.size 57 12 (.slice A' n' c') Cm.cells (commitF (toldP P com (com + 1)) S).2 ∧
      MgW w' gm most (commitF (toldP P com (com + 1)) S).1 P (com + 1) false AL cL Ap cp ∧ KeptX w w' [gm] := by
  obtain ⟨w1, hw1⟩ : ∃ w1, w1 = w.alloc (.cells #[] 57) := ⟨_, rfl⟩
  have HM1 : Hid (MgW w1 gm most S P com false A c Ap cp) := Lib.hid (by rw [hw1]; exact h.on (bAlloc (Below.refl _ _) _))
  have HO1 : Hid (OwnL w1 w.heap.size 57 12 (.slice (some ⟨w.heap.size, 0, none⟩) 0 0) Cm.cells ([] : List Cm)) := Lib.hid (by
    rw [hw1]
    exact OwnL.lit (f := Cm.cells) (m := 12) (n := 0) (c := 0) [] #[] (Nat.le_refl _) (by simp [maxLen]) Cm.cells_length rfl rfl rfl)
  have HB1 : Hid (Below w.heap.size w w1) := Lib.hid (by rw [hw1]; exact bAlloc (Below.refl _ _) _)
  have HTO := Lib.hid (rtold_any HM1.out (com + 1) hP)
  obtain ⟨lg, -, -, -, c3, c4⟩ := h.cells
  obtain ⟨E, hEE⟩ : ∃ E, toldP P com (com + 1) = E := ⟨_, rfl⟩
  rw [hEE] at hE HTO ⊢
  obtain ⟨X, hX⟩ : ∃ X, commitF E S = X := ⟨_, rfl⟩
  have HX : Hid (X = E.foldl commitS (S, [])) := Lib.hid hX.symm
  rw [hX]
  have HS := Lib.hid hS
  have hb : (com + 1 - 1 != com) = false := by simp
  clear h hS hEE hX
  go_enter Try.func36, Try.ntmps36
  go_upto_region 6 with fail
  rw [← hw1]
  clear hw1 c3 c4 lg
  go_wp2_with (first | (go_at_call 22; refine HTO.out.mono ?_; rintro e w2 ⟨B, n, cb, rfl, ho2, hb2⟩; have HT2 := Lib.hid ho2; have HM2 := Lib.hid (HM1.out.on hb2); have HO2 := Lib.hid (HO1.out.below hb2); have HK2 := Lib.hid ((KeptX.ofBelow HB1.out [gm]).below hb2); have HN : Hid (n = E.length) := Lib.hid ho2.len; clear ho2 hb2))
  have hn64 : n ≤ 64 := by have := HN.out; omega
  go_loopw [6, 8] (fun u v wr => ∃ k : Nat, k ≤ n ∧ v = .int .i64 k ∧ ∃ A' n' c' AL cL, u = .slice A' n' c' ∧ Hid (OwnL wr w.heap.size 57 12 (.slice A' n' c') Cm.cells ((E.take k).foldl commitS (S, [])).2) ∧ Hid (MgW wr gm most ((E.take k).foldl commitS (S, [])).1 P com false AL cL Ap cp) ∧ Hid (OwnL wr 0 43 9 (.slice B n cb) Ev.cells E) ∧ Hid (KeptX w wr [gm])) (fun _ v _ => n - (intOf v).toNat)
  case atStart => exact ⟨0, Nat.zero_le _, rfl, _, _, _, A, c, rfl, HO2, HM2, HT2, HK2⟩
  case round =>
    obtain ⟨k, hk, rfl, A', n', c', AL, cL, rfl, HO, HM, HT, HK⟩ := hrel
    clear HO2 HM2 HT2 HK2 HM1 HO1 HB1 HTO
    have hws := HK.out.size
    by_cases hlt : k < n
    · have hkE : k < E.length := by rw [← HN.out]; exact hlt
      obtain ⟨b, off, rfl, hbl, x0, x1, x2, x3, x4, x5, x6, x7, x8⟩ := HT.out.rd.ev hkE
      have HSN := Lib.hid (foldl_snoc commitS (S, []) E k hkE)
      obtain ⟨hs1, hs2, hs3⟩ := commit_fold (E.take k) (S, []) HS.out
      have hs4 : ((S, []) : Sc).2.length = 0 := rfl
      have hs5 : ((S, []) : Sc).1.length = S.length := rfl
      have hs6 : (E.take k).length ≤ k := by rw [List.length_take]; omega
      rw [hs4] at hs3
      rw [hs5] at hs2
      obtain ⟨x, hx⟩ : ∃ x, E[k] = x := ⟨_, rfl⟩
      obtain ⟨s, hs⟩ : ∃ s, (E.take k).foldl commitS (S, []) = s := ⟨_, rfl⟩
      rw [hx] at x0 x1 x2 x3 x4 x5 x6 x7 x8 HSN
      rw [hs] at HSN hs2 hs3 HO HM
      have HKX : Hid (∀ W, OwnL W 0 43 9 (.slice (some ⟨b, off, none⟩) n cb) Ev.cells E → W.rangeAt b (off + k * 9) x.key.cells ∧ b < W.heap.size) := Lib.hid (fun W hW => by
        obtain ⟨b', off', hA, hb', y0, y1, y2, y3, -⟩ := hW.rd.ev hkE
        cases hA
        rw [hx] at y0 y1 y2 y3
        refine ⟨fun j v hv => ?_, hb'⟩
        have h4 : j < 4 := by
          have := (List.getElem?_eq_some_iff.1 hv).1
          simpa [Key4.cells] using this
        obtain rfl | rfl | rfl | rfl : j = 0 ∨ j = 1 ∨ j = 2 ∨ j = 3 := by omega
        · rw [← hv]; exact y0
        · rw [← hv]; exact y1
        · rw [← hv]; exact y2
        · rw [← hv]; exact y3)
      clear hx hs hs1 hs4 hs5 hkE
      have HAT : Hid (∀ W, Below wr.heap.size wr W → Calls Try.prog 52 #[.slice AL s.1.length cL, x.key.val] W fun e w' => e = .returned (.int .i64 (atI s.1 x.key)) ∧ Below W.heap.size W w') := Lib.hid (fun W hW => rat_any AL cL s.1 x.key W (by omega) ((HM.out.live.below hW).rd))
      have hat := atI_findS s.1 x.key
      have hab := atI_bd s.1 x.key
      obtain ⟨q, hq⟩ : ∃ q, atI s.1 x.key = q := ⟨_, rfl⟩
      obtain ⟨p, hp⟩ : ∃ p, (findS s.1 x.key).isSome = p := ⟨_, rfl⟩
      rw [hq] at HAT hat hab
      rw [hp] at hat
      have HCS : Hid (commitS s x = (dropK s.1 x.key, s.2 ++ [⟨4, x, 0, p⟩])) := Lib.hid (by unfold commitS; rw [hp])
      have HHT := Lib.hid hat
      obtain ⟨lg, -, c1, -, -, -⟩ := HM.out.cells
      unfold Key4.val at HAT
      clear hq hp hat
      go_upto_region 10 with fail
      refine wp_region_mild (by kernel_rfl) (by kernel_rfl) ?_
      repeat (go_big_quiet_step ((go_at_call 52; exact mild_of (HAT.out _ (Ext.below _)))))
      refine wpQuiet_nil ?_
      intro w2 hw'
      obtain ⟨⟨wq, k2⟩, hw''⟩ := hw'
      subst hw''
      rw [HHT.out]
      have HO2 := Lib.hid (HO.out.below k2)
      have HM2 := Lib.hid (HM.out.on k2)
      have HT2 := Lib.hid (HT.out.below k2)
      have HK2 := Lib.hid (HK.out.below k2)
      have hws2 := HK2.out.size
      have hat2 : EvAt w2 b (off + k * 9) x := by
        have hbc : ∀ o, w2.cell? ⟨b, o, none⟩ = wr.cell? ⟨b, o, none⟩ := fun o => k2.cell (p := ⟨b, o, none⟩) hbl
        unfold EvAt
        simp only [hbc]
        exact ⟨x0, x1, x2, x3, x4, x5, x6, x7, x8⟩
      have hbl2 : b < w2.heap.size := Nat.lt_of_lt_of_le hbl k2.size
      clear x0 x1 x2 x3 x4 x5 x6 x7 x8 k2 HO HM HT HK hbl HAT HHT hab c1 lg
      obtain ⟨x0, x1, x2, x3, x4, x5, x6, x7, x8⟩ := hat2
      go_upto_region 12 with (first | (at_builtin; refine wpList_app_cm rfl (.tmp 42) (.tmp 49) rfl w.heap.size _ s.2 [⟨4, x, 0, p⟩] (HO2.out.alloc _) rfl _ _ 1 1 rfl rfl (rd_cm1 _ ⟨4, x, 0, p⟩) (by simp only [List.length_cons, List.length_nil]; omega) (by simp; omega) ?_; intro A6 c6 n6 w6 hn6 ho6 hg6; have HO6 := Lib.hid ho6; have HG6 := Lib.hid hg6; clear ho6 hg6))
      have ho5 := HO2.out.alloc (.cells (Cm.cells ⟨4, x, 0, p⟩).toArray 57)
      have HM6 : Hid (MgW w6 gm most s.1 P com false AL cL Ap cp) := Lib.hid ((HM2.out.on (bAlloc (Below.refl _ _) _)).farR ho5 HG6.out (by decide) (by decide) (by decide))
      have HT6 : Hid (OwnL w6 0 43 9 (.slice (some ⟨b, off, none⟩) n cb) Ev.cells E) := Lib.hid ((HT2.out.alloc _).keptR ho5 (by decide) HG6.out)
      have HK6 : Hid (KeptX w w6 [gm]) := Lib.hid ((HK2.out.alloc _).grown HG6.out (fun r hr => .inr (ho5.base_le r hr)))
      obtain ⟨hkr, hbl6⟩ := HKX.out w6 HT6.out
      have HKR := Lib.hid hkr
      obtain ⟨lg6, -, c16, -, -, -⟩ := HM6.out.cells
      have HWO : Hid (∀ W, Grown w6 W → Calls Try.prog 53 #[.slice AL s.1.length cL, x.key.val] W fun e w' => ∃ v, e = .returned v ∧ ((clnTold w6 (dropK s.1 x.key)).S v ∧ (clnTold w6 (dropK s.1 x.key)).R v w') ∧ Grown W w') := Lib.hid (fun W hW => by
        refine (without_any AL cL s.1 x.key W (by omega) ((HM6.out.live.below hW).rd)).mono ?_
        rintro e w' ⟨A9, c9, rfl, ho9, hb9⟩
        exact ⟨_, rfl, ⟨⟨A9, c9, rfl⟩, ho9.more hW.size⟩, hb9⟩)
      clear x0 x1 x2 x3 x4 x5 x6 x7 x8 hkr ho5 HO2 HM2 HT2 HK2 HG6 hbl2 hws2
      have hKp := Keeps.base w6
      refine wp_region_mixed [.pure, .pure, .pure, .pure, .held, .pure, .pure, .pure, .pure, .held, .make, .pure, .pure, .tail] (fun _ => clnTold w6 (dropK s.1 x.key)) (by kernel_rfl) (by kernel_rfl) ?_
      repeat (first | (refine mix_pure rfl rfl rfl (fun K hK => ?_); go_big_quiet_op; refine hK _ ?_; clear hK K) | (refine mix_held rfl rfl rfl (by assumption) (fun K hK => ?_); go_big_quiet_op; refine hK _ ?_; clear hK K))
      refine mix_load rfl rfl (by assumption) 41 (.tmp 59) rfl b (off + k * 9) rfl x.key.cells _ hbl6 HKR.out Try.underlying41 rfl (by kernel_rfl) ?_
      simp only [Act.put, List.setIfInBounds_toArray, List.set_cons_zero, List.set_cons_succ]
      refine mix_make rfl rfl (by assumption) clnTold_st (fun W hW => ?_) ?_
      · have HS2 := Lib.hid (HWO.out W hW)
        go_simp
        exact HS2.out
      rintro v ⟨Av, cv, rfl⟩ hKp2
      simp only [Act.put, List.setIfInBounds_toArray, List.set_cons_zero, List.set_cons_succ]
      repeat (first | (refine mix_pure rfl rfl rfl (fun K hK => ?_); go_big_quiet_op; refine hK _ ?_; clear hK K) | (refine mix_held rfl rfl rfl (by assumption) (fun K hK => ?_); go_big_quiet_op; refine hK _ ?_; clear hK K))
      refine mix_store1 rfl rfl 28 (.tmp 63) (.tmp 61) rfl gm 1 (.slice Av (dropK s.1 x.key).length cv) rfl rfl (fun W hW => Blk.there (HM6.out.blk.on hW.1) (by simp)) (by kernel_rfl) rfl rfl ?_
      refine mix_nil ?_
      rintro W' ⟨V, ⟨hV, hOv⟩, rfl⟩
      have hOv' : OwnL V w6.heap.size 43 9 (.slice Av (dropK s.1 x.key).length cv) Ev.cells (dropK s.1 x.key) := hOv
      have hMV := HM6.out.on hV
      have HM7 : Hid (MgW (V.setCell ⟨gm, 1, none⟩ (.slice Av (dropK s.1 x.key).length cv)) gm most (dropK s.1 x.key) P com false Av cv Ap cp) := Lib.hid (hMV.put 1 _ (hOv'.more (Nat.zero_le _)) hMV.pages hMV.rows rfl)
      have HO7 : Hid (OwnL (V.setCell ⟨gm, 1, none⟩ (.slice Av (dropK s.1 x.key).length cv)) w.heap.size 57 12 (.slice A6 n6 c6) Cm.cells (s.2 ++ [⟨4, x, 0, p⟩])) := Lib.hid ((HO6.out.below hV).farG (hMV.blk.apart (HO6.out.below hV) (by decide)) _ _)
      have HT7 : Hid (OwnL (V.setCell ⟨gm, 1, none⟩ (.slice Av (dropK s.1 x.key).length cv)) 0 43 9 (.slice (some ⟨b, off, none⟩) n cb) Ev.cells E) := Lib.hid ((HT6.out.below hV).farG (hMV.blk.apart (HT6.out.below hV) (by decide)) _ _)
      have HK7 : Hid (KeptX w (V.setCell ⟨gm, 1, none⟩ (.slice Av (dropK s.1 x.key).length cv)) [gm]) := Lib.hid ((HK6.out.below hV).setCell (.inl (by simp)) _ _)
      obtain ⟨w7, hw7⟩ : ∃ w7, V.setCell ⟨gm, 1, none⟩ (.slice Av (dropK s.1 x.key).length cv) = w7 := ⟨_, rfl⟩
      rw [hw7] at HM7 HO7 HT7 HK7 ⊢
      clear hw7 hV hOv hOv' hMV hKp hKp2 HWO HKR HM6 HT6 HK6 HO6 lg6 c16 hbl6
      go_wp2_with fail
      go_roundw
      case rel => exact ⟨k + 1, by omega, by go_num, A6, n6, c6, Av, cv, rfl, Lib.hid (by rw [HSN.out, HCS.out]; exact HO7.out), Lib.hid (by rw [HSN.out, HCS.out]; exact HM7.out), HT7, HK7⟩
      case measure => simp [intOf]; omega
    · obtain rfl : k = n := by omega
      rw [List.take_of_length_le (by rw [HN.out]; exact Nat.le_refl _), ← HX.out] at HO HM
      obtain ⟨lg, -, -, -, c3, -⟩ := HM.out.cells
      have f3 := HM.out.blk.frozen 3
      go_wp2
      go_ret2
      refine ⟨A', n', c', AL, cL, rfl, HO.out.farG (HM.out.blk.apart HO.out (by decide)) _ _, HM.out.put 3 (.int .i64 (com + 1)) HM.out.live HM.out.pages HM.out.rows rfl, HK.out.setCell (.inl (by simp)) _ _⟩
end
end Go.Proofs.Yteccmklacgpodaa

namespace Go.Proofs.Yteccmklacgpodaa
open Go.RowKit
set_option maxRecDepth 100000
set_option linter.unusedSimpArgs false
theorem ret_err {v : Value} {a b : Int} (h : a = b) : Ending.returned (.tuple #[v, .int .i64 a]) = .returned (.tuple #[v, .int .i64 b]) := by rw [h]
theorem otherB_yes {f : Int} {evs : List Ev} {k : Nat} (h : k < evs.length) (hk : evs[k].frame ≠ f) : otherB f evs = true := by
  unfold otherB
  exact List.any_eq_true.2 ⟨evs[k], List.getElem_mem h, by simp [hk]⟩
theorem otherB_no {f : Int} {evs : List Ev} (h : ∀ j (hj : j < evs.length), evs[j].frame = f) : otherB f evs = false := by
  unfold otherB
  rw [List.any_eq_false]
  intro e he
  obtain ⟨j, hj, rfl⟩ := List.mem_iff_getElem.1 he
  simp [h j hj]
section
variable {w : World} {gm : Nat} {most com : Int} {halt : Bool} {S : List Ev} {P : List TEnt} {AL Ap : Option Addr} {cL cp : Nat}
set_option maxHeartbeats 8000000 in
theorem rtell_bad (h : MgW w gm most S P com halt AL cL Ap cp) (f now : Int) (A : Option Addr) (c : Nat) (evs : List Ev) (hn : evs.length ≤ 1000) (hr : Rd w w.heap.size A (evs.flatMap Ev.cells)) (hb : fitsE halt com evs f now ≠ 0) :
    Calls Try.prog 34 #[.pointer (some ⟨gm, 0, none⟩), .agg #[.int .i64 f, .slice A evs.length c], .int .i64 now] w fun e w' => e = .returned (.tuple #[.slice none 0 0, .int .i64 (fitsE halt com evs f now)]) ∧ Below w.heap.size w w' := by
  obtain ⟨w1, hw1⟩ : ∃ w1, w1 = w.alloc (.cells #[.int .i64 f, .slice A evs.length c] 30) := ⟨_, rfl⟩
  have HB : Hid (Below w.heap.size w w1) := Lib.hid (by rw [hw1]; exact bAlloc (Below.refl _ _) _)
  have HP : Hid (Blk w1 w.heap.size 30 #[.int .i64 f, .slice A evs.length c]) := Lib.hid (by rw [hw1]; exact Blk.new _ _ _)
  have HM : Hid (MgW w1 gm most S P com halt AL cL Ap cp) := Lib.hid (by rw [hw1]; exact h.on (bAlloc (Below.refl _ _) _))
  have HR : Hid (Rd w1 w.heap.size A (evs.flatMap Ev.cells)) := Lib.hid (hr.below HB.out (Nat.le_refl _))
  have HO := Lib.hid (rordered_any A c evs hn w1 (HR.out.more HB.out.size))
  have HYES := Lib.hid (fun (k : Nat) (hk : k < evs.length) (hkf : evs[k].frame ≠ f) => otherB_yes hk hkf)
  have HNO := Lib.hid (fun (hj : ∀ j (hj : j < evs.length), evs[j].frame = f) => otherB_no hj)
  obtain ⟨E, hE⟩ : ∃ E, fitsE halt com evs f now = E := ⟨_, rfl⟩
  have HE0 : Hid ((if halt = true then (12 : Int) else if (orderedB evs && (!otherB f evs && (decide (f ≤ now) && decide (now ≤ 1073741824)))) = true then (if f ≤ com then 10 else 0) else 1) = E) := Lib.hid hE
  obtain ⟨ob, hob⟩ : ∃ ob, orderedB evs = ob := ⟨_, rfl⟩
  obtain ⟨n, hnn⟩ : ∃ n, evs.length = n := ⟨_, rfl⟩
  have HN := Lib.hid hnn
  rw [hE] at hb ⊢
  rw [hob] at HE0 HO
  rw [hnn] at HO HP hw1 hn ⊢
  have HBE := Lib.hid hb
  clear hE hob hnn hr h hb
  go_enter Try.func34, Try.ntmps34
  go_upto_region 1 with fail
  rw [← hw1]
  clear hw1
  have p0 := HP.out.cell 0
  have p1 := HP.out.cell 1
  have lp := HP.out.lt
  simp only [List.getElem?_toArray, List.getElem?_cons_zero, List.getElem?_cons_succ] at p0 p1
  obtain ⟨lg, -, -, -, c3, c4⟩ := HM.out.cells
  have HP2 : Hid (∀ W, Below w1.heap.size w1 W → (W.cell? ⟨w.heap.size, 0, none⟩ = some (.int .i64 f) ∧ W.cell? ⟨w.heap.size, 1, none⟩ = some (.slice A n c)) ∧ w.heap.size < W.heap.size ∧ gm < W.heap.size ∧ W.cell? ⟨gm, 3, none⟩ = some (.int .i64 com)) := Lib.hid (fun W hW => ⟨⟨(HP.out.on hW).cell 0, (HP.out.on hW).cell 1⟩, (HP.out.on hW).lt, (HM.out.on hW).cells.1, (HM.out.on hW).cells.2.2.2.2.1⟩)
  cases halt
  · have HE1 : Hid ((if (ob && (!otherB f evs && (decide (f ≤ now) && decide (now ≤ 1073741824)))) = true then (if f ≤ com then (10 : Int) else 0) else 1) = E) := Lib.hid (by have := HE0.out; rwa [if_neg (by decide)] at this)
    clear HE0
    cases ob
    · have HX : Hid (1 = E) := Lib.hid (by have := HE1.out; rwa [if_neg (by simp)] at this)
      clear HE1
      go_wp2_with (first | (go_at_call 51; refine HO.out.mono ?_; rintro e w2 ⟨rfl, hb2⟩; have HB2 := Lib.hid (bTrans HB.out hb2); clear hb2))
      go_ret2
      exact ⟨ret_err HX.out, HB2.out⟩
    · by_cases h1 : now < f
      · have HX : Hid (1 = E) := Lib.hid (by have := HE1.out; rwa [if_neg (by simp; omega)] at this)
        clear HE1
        go_wp2_with (first | (go_at_call 51; refine HO.out.mono ?_; rintro e w2 ⟨rfl, hb2⟩; obtain ⟨⟨p02, p12⟩, l2, lg2, c32⟩ := HP2.out w2 hb2; have HB2 := Lib.hid (bTrans HB.out hb2); have HBX := Lib.hid hb2; clear hb2))
        go_ret2
        exact ⟨ret_err HX.out, HB2.out⟩
      · by_cases h2 : 1073741824 < now
        · have HX : Hid (1 = E) := Lib.hid (by have := HE1.out; rwa [if_neg (by simp; omega)] at this)
          clear HE1
          go_wp2_with (first | (go_at_call 51; refine HO.out.mono ?_; rintro e w2 ⟨rfl, hb2⟩; obtain ⟨⟨p02, p12⟩, l2, lg2, c32⟩ := HP2.out w2 hb2; have HB2 := Lib.hid (bTrans HB.out hb2); have HBX := Lib.hid hb2; clear hb2))
          go_ret2
          exact ⟨ret_err HX.out, HB2.out⟩
        · have HE2 : Hid ((if otherB f evs = true then (1 : Int) else if f ≤ com then 10 else 0) = E) := Lib.hid (by
            have := HE1.out
            rw [decide_eq_true (show f ≤ now by omega), decide_eq_true (show now ≤ 1073741824 by omega)] at this
            rw [← this]
            cases otherB f evs <;> simp)
          clear HE1
          go_upto_region 5 with (first | (go_at_call 51; refine HO.out.mono ?_; rintro e w2 ⟨rfl, hb2⟩; obtain ⟨⟨p02, p12⟩, l2, lg2, c32⟩ := HP2.out w2 hb2; have HB2 := Lib.hid (bTrans HB.out hb2); have HBX := Lib.hid hb2; clear hb2))
          go_wp2_with fail
          go_loopw [8] (fun v wr => ∃ k : Nat, k ≤ n ∧ v = .int .i64 k ∧ Hid (∀ j (hj : j < evs.length), j < k → evs[j].frame = f) ∧ Hid (Below w1.heap.size w1 wr)) (fun v _ => n - (intOf v).toNat)
          case atStart => exact ⟨0, Nat.zero_le _, rfl, Lib.hid (fun j _ h => absurd h (Nat.not_lt_zero _)), HBX⟩
          case round =>
            obtain ⟨k, hk, rfl, HA, HBR⟩ := hrel
            clear p02 p12 l2 lg2 c32 HBX
            obtain ⟨⟨p0r, p1r⟩, lr, lgr, c3r⟩ := HP2.out wr HBR.out
            have HBW := Lib.hid (bTrans HB.out HBR.out)
            by_cases hlt : k < n
            · have hkE : k < evs.length := by rw [HN.out]; exact hlt
              obtain ⟨b, off, rfl, hbl, x0, -⟩ := (HR.out.below HBR.out HB.out.size).ev hkE
              have hbw : b < wr.heap.size := Nat.lt_of_lt_of_le hbl HBW.out.size
              have HY := Lib.hid (HYES.out k hkE)
              have HNX : Hid (evs[k].frame = f → ∀ j (hj : j < evs.length), j < k + 1 → evs[j].frame = f) := Lib.hid (fun h j hj hjk => by
                rcases Nat.lt_or_ge j k with h1 | h1
                · exact HA.out j hj h1
                · have : j = k := by omega
                  subst this; exact h)
              obtain ⟨x, hx⟩ : ∃ x, evs[k] = x := ⟨_, rfl⟩
              rw [hx] at x0 HY HNX
              clear hx hkE hbl
              by_cases hxf : x.frame = f
              · have hbf : (x.frame != f) = false := by simp [hxf]
                have HA2 := Lib.hid (HNX.out hxf)
                clear hxf
                go_wp2_with fail
                refine wp_region_mild (by kernel_rfl) (by kernel_rfl) ?_
                repeat (go_big_quiet_step (fail))
                refine wpQuiet_nil ?_
                intro w4 hw'
                obtain ⟨⟨wq, k4⟩, hw''⟩ := hw'
                subst hw''
                go_wp2
                go_roundw
                case rel => exact ⟨k + 1, by omega, by go_num, HA2, Lib.hid (bTrans HBR.out k4)⟩
                case measure => simp [intOf]; omega
              · have hbf : (x.frame != f) = true := by simp [hxf]
                have HX : Hid (1 = E) := Lib.hid (by have := HE2.out; rwa [if_pos (HY.out hxf)] at this)
                clear hxf
                go_wp2_with fail
                refine wp_region_mild (by kernel_rfl) (by kernel_rfl) ?_
                repeat (go_big_quiet_step (fail))
                refine wpQuiet_nil ?_
                intro w4 hw'
                obtain ⟨⟨wq, k4⟩, hw''⟩ := hw'
                subst hw''
                go_wp2
                go_ret2
                exact ⟨ret_err HX.out, bTrans HBW.out k4⟩
            · obtain rfl : k = n := by omega
              have hno : otherB f evs = false := HNO.out (fun j hj => HA.out j hj (by have := HN.out; omega))
              have h10 : f ≤ com := by
                rcases Int.lt_or_le com f with h | h
                · have := HE2.out
                  rw [hno, if_neg (by decide), if_neg (by omega)] at this
                  exact absurd this.symm HBE.out
                · exact h
              have HX : Hid (10 = E) := Lib.hid (by have := HE2.out; rwa [hno, if_neg (by decide), if_pos h10] at this)
              clear hno
              go_wp2_with fail
              refine wp_region_mild (by kernel_rfl) (by kernel_rfl) ?_
              repeat (go_big_quiet_step (fail))
              refine wpQuiet_nil ?_
              intro w4 hw'
              obtain ⟨⟨wq, k4⟩, hw''⟩ := hw'
              subst hw''
              go_wp2
              go_ret2
              exact ⟨ret_err HX.out, bTrans HBW.out k4⟩
  · have HX : Hid (12 = E) := Lib.hid (by have := HE0.out; rwa [if_pos rfl] at this)
    clear HE0
    go_wp2_with fail
    go_ret2
    exact ⟨ret_err HX.out, HB.out⟩
end
end Go.Proofs.Yteccmklacgpodaa

namespace Go.Proofs.Yteccmklacgpodaa
open Go.RowKit
theorem stays_no {evs : List Ev} {o : Ev} (h : ¬ atN evs o.key < evs.length) : staysE evs o = false := by
  unfold staysE
  rw [List.any_eq_false]
  intro x hx
  obtain ⟨j, hj, rfl⟩ := List.mem_iff_getElem.1 hx
  have := atN_lt hj (show j < atN evs o.key by omega)
  simp [this]
theorem stays_at {evs : List Ev} (hs : SortedE evs) {o : Ev} (h : atN evs o.key < evs.length) : staysE evs o = likeE (evs[atN evs o.key]'h) o := by
  have hk := atN_key h
  obtain ⟨q, hq⟩ : ∃ q, atN evs o.key = q := ⟨_, rfl⟩
  simp only [hq] at h hk ⊢
  unfold staysE
  cases hl : likeE evs[q] o with
  | true => exact List.any_eq_true.2 ⟨evs[q], List.getElem_mem h, by simp [hk, hl]⟩
  | false =>
    rw [List.any_eq_false]
    intro x hx
    by_cases hxk : x.key = o.key
    · obtain ⟨j, hj, rfl⟩ := List.mem_iff_getElem.1 hx
      have := sorted_uniq hs hj h (hxk.trans hk.symm)
      subst this
      simp [hl]
    · simp [hxk]
def dstep (evs : List Ev) (f : Int) (s : Sc) (o : Ev) : Sc := if o.frame = f then cancelS evs s o else s
theorem cancelF_all (evs : List Ev) (f : Int) (S : List Ev) : cancelF evs f S = S.foldl (dstep evs f) (S, []) := by
  unfold cancelF ofF
  rw [List.foldl_filter]
  congr 1
  funext s o
  unfold dstep
  by_cases h : o.frame = f <;> simp [h]
theorem dstep_ok {evs : List Ev} {f : Int} : ∀ (L : List Ev) (s : Sc), LvOk s.1 → LvOk (L.foldl (dstep evs f) s).1 ∧ (L.foldl (dstep evs f) s).1.length ≤ s.1.length ∧ (L.foldl (dstep evs f) s).2.length ≤ s.2.length + L.length
  | [], s, h => ⟨h, Nat.le_refl _, Nat.le_refl _⟩
  | o :: L, s, h => by
    have h0 : LvOk (dstep evs f s o).1 ∧ (dstep evs f s o).1.length ≤ s.1.length ∧ (dstep evs f s o).2.length ≤ s.2.length + 1 := by
      unfold dstep
      split
      · exact ⟨cancelS_ok h o, (cancelS_le evs s o).1, (cancelS_le evs s o).2⟩
      · exact ⟨h, Nat.le_refl _, Nat.le_succ _⟩
    obtain ⟨h1, h2, h3⟩ := dstep_ok L (dstep evs f s o) h0.1
    rw [List.foldl_cons, List.length_cons]
    exact ⟨h1, by omega, by omega⟩
/-- What a start does, told by where the key stands. -/
theorem start_no {most now : Int} {s : Sc} {e : Ev} (h : ¬ atN s.1 e.key < s.1.length) : startS most now s e = if (s.1.length : Int) < most then (putE s.1 e, s.2 ++ [⟨1, e, now - e.frame, false⟩]) else s := by
  have hn : findS s.1 e.key = none := findS_none.2 (fun x hx => by
    obtain ⟨j, hj, rfl⟩ := List.mem_iff_getElem.1 hx
    exact atN_lt hj (by omega))
  unfold startS
  rw [hn]
theorem start_at {most now : Int} {s : Sc} (hs : SortedE s.1) {e : Ev} (h : atN s.1 e.key < s.1.length) : startS most now s e = if s.1[atN s.1 e.key]'h = e then s else (putE (dropK s.1 e.key) e, s.2 ++ [⟨2, e, 0, false⟩]) := by
  have hk := atN_key h
  have hf : findS s.1 e.key = some (s.1[atN s.1 e.key]'h) := by
    have := findS_mem hs (List.getElem_mem h)
    rwa [hk] at this
  unfold startS
  rw [hf]
theorem setT_eq (P : List TEnt) (f : Int) (v : Value) (evs : List Ev) (k : Nat) (hk : k < P.length) : setT (P.take (k + 1)) f v evs = setT (P.take k) f v evs ++ (if P[k].1 = f then [] else [P[k]]) := by
  unfold setT
  rw [List.take_succ_eq_append_getElem hk, List.filter_append]
  by_cases h : P[k].1 = f <;> simp [h]
end Go.Proofs.Yteccmklacgpodaa

namespace Go.Proofs.Yteccmklacgpodaa
open Go.RowKit
section
variable {P : Program} {ops : Array Oper} {md : Region.Mode} {w : World} {kd : Nat → Kd} {sp : Nat → Told}
/-- One operation waits for another, directly or through others. -/
def waitsT (md : Region.Mode) (ops : Array Oper) : Nat → Nat → Nat → Bool
  | 0, j, i => Region.waitsFor md ops j i
  | n + 1, j, i => Region.waitsFor md ops j i || (List.range ops.size).any fun k => Region.waitsFor md ops j k && waitsT md ops n k i
/-- What is listed has all listed for which it waits. -/
def Closed (md : Region.Mode) (ops : Array Oper) (listed : Array Bool) : Prop := ∀ j oj, ops[j]? = some oj → listed.getD j false = true → ∀ e ∈ oj.after, Region.binds md e = true → listed.getD e.on false = true
theorem Closed.none (md : Region.Mode) (ops : Array Oper) (n : Nat) : Closed md ops (Array.replicate n false) := fun j _ _ h => by
  rw [Array.getD_eq_getD_getElem?, Array.getElem?_replicate] at h
  split at h <;> simp at h
theorem Closed.set {listed : Array Bool} (h : Closed md ops listed) {i : Nat} (hi : i ∈ Region.ready md ops listed) : Closed md ops (listed.setIfInBounds i true) := fun j oj hj hl e he hb => by
  by_cases hij : i = j
  · subst hij
    obtain ⟨-, o, ho, hall⟩ := mem_ready.1 hi
    obtain rfl : o = oj := Option.some.inj (ho.symm.trans hj)
    exact getD_set_true (hall e he hb)
  · rw [getD_set_ne false hij] at hl
    exact getD_set_true (h j oj hj hl e he hb)
theorem waitsT_done {listed : Array Bool} (h : Closed md ops listed) : ∀ (n j i : Nat), (∀ oj, ops[j]? = some oj → ∀ e ∈ oj.after, Region.binds md e = true → listed.getD e.on false = true) → waitsT md ops n j i = true → listed.getD i false = true
  | 0, j, i, hd, hw => by
    obtain ⟨oj, hoj, e, he, hb, hon⟩ := Region.waitsFor_spec hw
    rw [← hon]; exact hd oj hoj e he hb
  | n + 1, j, i, hd, hw => by
    simp only [waitsT, Bool.or_eq_true, List.any_eq_true, Bool.and_eq_true] at hw
    rcases hw with hw | ⟨k, -, hk, hw⟩
    · obtain ⟨oj, hoj, e, he, hb, hon⟩ := Region.waitsFor_spec hw
      rw [← hon]; exact hd oj hoj e he hb
    · obtain ⟨oj, hoj, e, he, hb, hon⟩ := Region.waitsFor_spec hk
      have hkl : listed.getD k false = true := by rw [← hon]; exact hd oj hoj e he hb
      exact waitsT_done h n k i (fun ok hok e he hb => h k ok hok hkl e he hb) hw
theorem waitsT_ready {listed : Array Bool} (h : Closed md ops listed) (n j i : Nat) (hj : j ∈ Region.ready md ops listed) (hw : waitsT md ops n j i = true) : listed.getD i false = true :=
  waitsT_done h n j i (fun oj hoj e he hb => by
    obtain ⟨-, o, ho, hall⟩ := mem_ready.1 hj
    obtain rfl : o = oj := Option.some.inj (ho.symm.trans hoj)
    exact hall e he hb) hw
theorem wpAnyKT_first {E : Act → (World → Prop) → Prop} {i : Nat} {oi : Oper} (hi : ops[i]? = some oi) (hsel : ∀ (j : Nat) (o : Oper) cs b, ops[j]? = some o → o.op ≠ .select cs b)
    (hsw : ∀ j, j < ops.size → j ≠ i → swapOk (kd i) (kd j) = false → waitsT md ops 2 j i = true ∨ waitsT md ops 2 i j = true) :
    ∀ (f : Nat) (listed : Array Bool) (a : Act) (D : World → Prop), Ne D → Closed md ops listed →
      (∀ j oj, ops[j]? = some oj → j ≠ i → listed.getD j true = false → (∀ e ∈ oj.after, Region.binds md e = true → e.on ≠ i) → oi.apart ops oj = true) →
      i ∈ Region.ready md ops listed → mOp P ops w kd sp i (wpAnyK P md ops w kd sp E f (listed.setIfInBounds i true)) a D → wpAnyK P md ops w kd sp E (f + 1) listed a D := by
  intro f
  induction f with
  | zero =>
    intro listed a D hne _ _ hr H
    refine ⟨fun h => (by rw [h] at hr; cases hr), fun j hj => ?_⟩
    by_cases hji : j = i
    · subst hji; exact H
    · unfold mOp at H
      rw [hi] at H
      obtain ⟨a', D', -, h0, -⟩ := mStep_some hne H
      have := ready_mono hj hji
      rw [h0] at this; cases this
  | succ f ih =>
    intro listed a D hne hcl hfree hr H
    refine ⟨fun h => (by rw [h] at hr; cases hr), fun j hj => ?_⟩
    by_cases hji : j = i
    · subst hji; exact H
    · obtain ⟨hjun, oj, hoj, hall⟩ := mem_ready.1 hj
      have hun := (mem_ready.1 hr).1
      have hnot : ∀ e ∈ oj.after, Region.binds md e = true → e.on ≠ i := fun e he hb heq => by
        have h1 := hall e he hb
        rw [heq, getD_both hun] at h1
        cases h1
      have hap := hfree j oj hoj hji hjun hnot
      have hswap : swapOk (kd i) (kd j) = true := by
        cases hs : swapOk (kd i) (kd j) with
        | true => rfl
        | false =>
          rcases hsw j (Array.getElem?_eq_some_iff.1 hoj).1 hji hs with h1 | h1
          · have h2 := waitsT_ready hcl 2 j i hj h1
            rw [getD_both hun] at h2; cases h2
          · have h2 := waitsT_ready hcl 2 i j hr h1
            rw [getD_both hjun] at h2; cases h2
      have hfree' : ∀ k ok, ops[k]? = some ok → k ≠ i → (listed.setIfInBounds j true).getD k true = false →
          (∀ e ∈ ok.after, Region.binds md e = true → e.on ≠ i) → oi.apart ops ok = true := fun k ok hk hki hun' hno => by
        refine hfree k ok hk hki ?_ hno
        by_cases hjk : j = k
        · subst hjk; exact hjun
        · rw [getD_set_ne true hjk] at hun'; exact hun'
      have hri := ready_mono hr (Ne.symm hji)
      unfold mOp at H
      rw [hi] at H
      have H2 : mStep P ops w kd sp oi i (fun a1 D1 => mStep P ops w kd sp oj j (wpAnyK P md ops w kd sp E f ((listed.setIfInBounds i true).setIfInBounds j true)) a1 D1) a D :=
        mStep_mono hne (fun a1 D1 _ hK => by
          have := hK.2 j (ready_mono hj hji)
          unfold mOp at this
          rw [hoj] at this
          exact this) H
      have H3 := mStep_swap hap (fun cs b => hsel i oi cs b hi) (fun cs b => hsel j oj cs b hoj) hswap hne H2
      unfold mOp
      rw [hoj]
      refine mStep_mono hne (fun a2 D2 hne2 h3 => ih (listed.setIfInBounds j true) a2 D2 hne2 (hcl.set hj) hfree' hri ?_) H3
      unfold mOp
      rw [hi, Array.setIfInBounds_comm _ _ hji]
      exact h3
def mixTB (md : Region.Mode) (ops : Array Oper) (kd : Nat → Kd) : Bool :=
  Region.lexB md ops && (List.range ops.size).all fun i => (List.range ops.size).all fun j => decide (j = i) || (swapOk (kd i) (kd j) || (waitsT md ops 2 j i || waitsT md ops 2 i j))
theorem wpAnyKT_lex {E : Act → (World → Prop) → Prop} (hs : Region.noSelect ops = true) (hsw : ∀ i j, i < ops.size → j < ops.size → j ≠ i → swapOk (kd i) (kd j) = false → waitsT md ops 2 j i = true ∨ waitsT md ops 2 i j = true) :
    ∀ (l : List Oper) (k : Nat) (listed : Array Bool) (a : Act) (D : World → Prop), Ne D → Closed md ops listed → (∀ j, l[j]? = ops[k + j]?) →
    Region.lexFrom md ops l.length k listed = true → wpMix P ops w kd sp E l k a D → wpAnyK P md ops w kd sp E l.length listed a D
  | [], _, _, _, _, _, _, _, hB, h => ⟨by simpa [Region.lexFrom] using hB, h⟩
  | o :: l, k, listed, a, D, hne, hcl, hl, hB, h => by
    have h0 : ops[k]? = some o := by simpa using (hl 0).symm
    simp only [List.length_cons, Region.lexFrom, Bool.and_eq_true] at hB
    obtain ⟨⟨hr, hf⟩, hB'⟩ := hB
    have hk : k < ops.size := (Array.getElem?_eq_some_iff.1 h0).1
    refine wpAnyKT_first h0 (Region.noSelect_spec hs) (fun j hjl hj hsw' => hsw k j hk hjl hj hsw') l.length listed a D hne hcl (Region.free_spec h0 hf) (by simpa using hr) ?_
    unfold mOp
    rw [h0]
    exact mStep_mono hne (fun a' D' hne' h' => wpAnyKT_lex hs hsw l (k + 1) _ a' D' hne' (hcl.set (by simpa using hr)) (fun j => by have := hl (j + 1); simpa [Nat.add_assoc, Nat.add_comm 1 j] using this) hB' h') h
/-- **The law.** -/
theorem wp_region_mixedT {id : Nat} {Q : Exit → Act → World → Prop} {a : Act} {w : World} {l : List Oper} (kds : List Kd) (sp : Nat → Told) (hm : P.follows .mixedOrders = true) (hB : mixTB .any l.toArray (fun i => kds.getD i .pure) = true)
    (h : wpMix P l.toArray w (fun i => kds.getD i .pure) sp (fun a D => ∀ W, D W → Q .normal a W) l 0 a (Grown w)) : (Code.region id l.toArray true).wp P Q a w := by
  simp only [mixTB, Bool.and_eq_true] at hB
  obtain ⟨hlex, hall⟩ := hB
  simp only [Region.lexB, Bool.and_eq_true] at hlex
  have hg0 : Grown w { w with drawn := w.drawn + 1 } := (Below.refl _ _).drew
  refine wp_region_any hm (wpAny_of_K (w := w) (kd := fun i => kds.getD i .pure) (sp := sp) _ _ _ (Grown w) _ hg0 ?_)
  have := wpAnyKT_lex (P := P) (md := .any) (w := w) (kd := fun i => kds.getD i .pure) (sp := sp) (E := fun a D => ∀ W, D W → Q .normal a W) hlex.1 (fun i j hi hjl hj hs => by
    have h1 := List.all_eq_true.1 (List.all_eq_true.1 hall i (List.mem_range.2 hi)) j (List.mem_range.2 hjl)
    simp only [Bool.or_eq_true, decide_eq_true_eq] at h1
    rcases h1 with h1 | h1 | h1 | h1
    · exact absurd h1 hj
    · rw [hs] at h1; cases h1
    · exact .inl h1
    · exact .inr h1) l 0 (Array.replicate l.toArray.size false) a (Grown w) ⟨w, Grown.refl w⟩ (Closed.none _ _ _) (by simp) (by simpa using hlex.2) h
  simpa using this
end
end Go.Proofs.Yteccmklacgpodaa

namespace Go.Proofs.Yteccmklacgpodaa
open Go.RowKit
set_option maxRecDepth 100000
set_option linter.unusedSimpArgs false
section
variable {P : Program} {a : Act} {o : Oper}
theorem goes_mono {W : World} {T T' : Value → World → Prop} (h : Oper.goes P o a W T) (ht : ∀ v w', T v w' → T' v w') : Oper.goes P o a W T' := by
  unfold Oper.goes at *
  generalize (execOp a.eval o).run P W = r at *
  cases r with
  | ok n w' =>
    cases n <;> simp only [Oper.goesUpon] at h ⊢
    case value u => exact ht _ _ h
    case skip => exact ht _ _ h
    case enter f args => exact h.mono fun e w'' ⟨v, he, hh⟩ => ⟨v, he, ht _ _ hh⟩
  | halt x w' => simp only [Oper.goesUpon] at h
/-- What has no room and no length: its address counts for nothing. -/
theorem append_cap0 (w : World) (t ty e : TypeId) (i : TypeInfo) (z : Value) (ht : P.underlying t = some (.slice e)) (hi : P.info? e = some i) (hz : i.zero = some z) (p q : Addr) (n c : Nat) (news : List Value) (hl : news.length = n * i.size) (hnews : ∀ j u, news[j]? = some u → w.cell? (q.add j) = some u) (h1 : ∀ u ∈ news, u.oneCell' = true) (hn : 0 < n) (h63 : n ≤ 9223372036854775807) (hb : n * i.bytes ≤ 281474976710656) :
    (Builtin.append_ #[t, t] ty #[.slice (some p) 0 0, .slice (some q) n c]).run P w = (Builtin.append_ #[t, t] ty #[.slice none 0 0, .slice (some q) n c]).run P w := by
  have hs := Src.ofSlice w ht q n c news hl hnews h1
  have hc : Builtin.nextslicecap (0 + n) 0 * i.bytes ≤ 281474976710656 := by rw [Nat.zero_add, nextslicecap_zero hn]; exact hb
  rw [run_append_grow_src w t t ty e i z ht hi hz (some p) 0 0 [] (run_firstCells_some w.drew i.size 0 p 0 0 [] (by simp) (fun j v h => by simp at h)) _ n news hs (by omega) (by omega) hc,
    run_append_grow_src w t t ty e i z ht hi hz none 0 0 [] (run_firstCells_none w.drew i.size 0 0 0) _ n news hs (by omega) (by omega) hc]
/-- A new row, written out. -/
theorem goes_bs {W : World} (t e : TypeId) (len : Nat) (parts : Array (Nat × Operand)) (ho : o.op = .buildSlice t len parts) (cells : Array Value) (ie : TypeInfo) (z : Value)
    (hu : P.underlying t = some (.slice e)) (hie : P.info? e = some ie) (hz : ie.zero = some z) (hsmall : ¬ len * ie.size > 2 ^ 24) (hpos : ¬ len * ie.size = 0)
    (hf : Instr.fill (fun i => some (i * ie.size, ie.size)) ((Array.range (len * ie.size)).map (z.cells[· % z.cells.size]!)) (parts.map fun (i, x) => (i, a.eval x)).toList = some cells) :
    Oper.goes P o a W (fun v W' => v = .slice (some ⟨W.heap.size, 0, none⟩) len len ∧ W' = W.alloc (.cells cells e)) := by
  unfold Oper.goes execOp
  simp only [ho, Sem.run_bind, run_buildSlice W t e len _ cells ie z hu hie hz hsmall hpos hf, Result.andThen_ok]
  exact ⟨rfl, rfl⟩
/-- An append, wherever what is added lies. -/
theorem goes_app {W : World} (s x : Operand) (t : TypeId) (ho : o.op = .call { callee := .builtin .append, args := #[s, x], argTypes := #[t, t] })
    (base : Nat) (e : TypeId) (i : TypeInfo) (z : Value) (size bytes : Nat) (ht : P.underlying t = some (.slice e)) (hi : P.info? e = some i) (hz : i.zero = some z)
    (hsize : i.size = size) (hby : i.bytes = bytes) (hzs : z.cells.size = size) (hsz : 0 < size)
    (v : Value) (n : Nat) (xs : List Value) (hs : a.eval s = v) (hown : W.ownsRow base e size v n xs)
    (B : Nat) (A : Option Addr) (m c : Nat) (news : List Value) (hx : a.eval x = .slice A m c) (hl : news.length = m * size) (hr : Rd W B A news) (hA : A = none → m = 0) (h1 : ∀ u ∈ news, u.oneCell' = true)
    (h63 : n + m ≤ maxLen) (hbytes : (n + m) * bytes ≤ 140737488355328) (hbase : base ≤ W.heap.size) :
    Oper.goes P o a W (fun v' W' => W'.ownsRow base e size v' (n + m) (xs ++ news) ∧ W.grownBy W' v.ownBlock) := by
  obtain ⟨v', w', hrun, h2, h3, -⟩ := append_rd_run (P := P) W base t o.type e i z size bytes ht hi hz hsize hby hzs hsz v n xs hown B A m c news hl hr hA h1 h63 hbytes hbase
  have hr : (execOp a.eval o).run P W = .ok (.value v') w' := by
    unfold execOp
    simp only [ho, resolve, invoke, builtin, Sem.run_bind, Sem.run_pure, Result.andThen_ok, List.map_toArray, List.map_cons, List.map_nil, hs, hx, hrun]
  unfold Oper.goes
  rw [hr]
  exact ⟨h2, h3⟩
end
theorem goes_app_ev {W : World} {o : Oper} {a : Act} (s x : Operand) (ho : o.op = .call { callee := .builtin .append, args := #[s, x], argTypes := #[28, 28] }) (base : Nat) (u : Value) (L M : List Ev) (hown : OwnL W base 43 9 u Ev.cells L) (hs : a.eval s = u)
    (B : Nat) (A : Option Addr) (m c : Nat) (hm : m = M.length) (hx : a.eval x = .slice A m c) (hr : Rd W B A (M.flatMap Ev.cells)) (hn : L.length + M.length ≤ 1000000000) (hbase : base ≤ W.heap.size) :
    Oper.goes Try.prog o a W (fun v' W' => OwnL W' base 43 9 v' Ev.cells (L ++ M) ∧ W.grownBy W' u.ownBlock) := by
  subst hm
  obtain ⟨i0, hi0, hz0, hz1, hz2⟩ := info_parts Try.infoEv
  refine goes_mono (goes_app s x 28 ho base 43 i0 _ 9 72 Try.underlying28 hi0 hz0 hz1 hz2 rfl (by decide) u L.length (L.flatMap Ev.cells) hs hown B A M.length c (M.flatMap Ev.cells) hx (length_flatMap_const _ _ Ev.cells_length _) hr (rd_none Ev.cells_length (by decide) hr) (evs_oneCell M) (by unfold maxLen; omega) (by omega) hbase) ?_
  rintro v' W' ⟨h2, h3⟩
  exact ⟨OwnL.app rfl h2, h3⟩
/-- An append onto an empty row, of which nothing is asked. -/
theorem goes_app0_ev {W : World} {o : Oper} {a : Act} (s x : Operand) (ho : o.op = .call { callee := .builtin .append, args := #[s, x], argTypes := #[28, 28] }) (base : Nat) (p : Addr) (M : List Ev) (hs : a.eval s = .slice (some p) 0 0)
    (B : Nat) (A : Option Addr) (m c : Nat) (hm : m = M.length) (hx : a.eval x = .slice A m c) (hr : Rd W B A (M.flatMap Ev.cells)) (hn : M.length ≤ 1000000000) (hbase : base ≤ W.heap.size) :
    Oper.goes Try.prog o a W (fun v' W' => (M = [] → v' = .slice (some p) 0 0) ∧ (M ≠ [] → OwnL W' base 43 9 v' Ev.cells M) ∧ W.grownBy W' none) := by
  subst hm
  obtain ⟨i0, hi0, hz0, hz1, hz2⟩ := info_parts Try.infoEv
  have hl : (M.flatMap Ev.cells).length = M.length * 9 := length_flatMap_const _ _ Ev.cells_length _
  have hrun : ∃ v' w', (Builtin.append_ #[28, 28] o.type #[.slice (some p) 0 0, .slice A M.length c]).run Try.prog W = .ok v' w' ∧ (M = [] → v' = .slice (some p) 0 0) ∧ (M ≠ [] → OwnL w' base 43 9 v' Ev.cells M) ∧ W.grownBy w' none := by
    rcases Nat.eq_zero_or_pos M.length with h0 | h0
    · obtain rfl : M = [] := List.eq_nil_of_length_eq_zero h0
      refine ⟨_, W, ?_, fun _ => rfl, fun h => absurd rfl h, World.grownBy.refl W _⟩
      rcases A with _ | q
      · exact run_append_nothing W 28 28 o.type 43 i0 Try.underlying28 hi0 (some p) 0 0 (Nat.le_refl _) _ (Src.ofNil W Try.underlying28 c)
      · exact run_append_nothing W 28 28 o.type 43 i0 Try.underlying28 hi0 (some p) 0 0 (Nat.le_refl _) _ (Src.ofSlice W Try.underlying28 q 0 c [] (by simp) (fun j u h => by simp at h) (fun u h => by cases h))
    · have hne : M ≠ [] := fun h => by rw [h] at h0; simp at h0
      obtain ⟨v', w', hrun, h2, h3, -⟩ := append_rd_run (P := Try.prog) W base 28 o.type 43 i0 _ 9 72 Try.underlying28 hi0 hz0 hz1 hz2 rfl (by decide) (.slice none 0 0) 0 [] (World.ownsRow_nil W base 43 9) B A M.length c (M.flatMap Ev.cells) hl hr (rd_none Ev.cells_length (by decide) hr) (evs_oneCell M) (by unfold maxLen; omega) (by omega) hbase
      refine ⟨v', w', ?_, fun h => absurd h hne, fun _ => ?_, h3⟩
      · rcases A with _ | q
        · have := rd_none Ev.cells_length (by decide) hr rfl
          omega
        · rw [append_cap0 W 28 o.type 43 i0 _ Try.underlying28 hi0 hz0 p q M.length c (M.flatMap Ev.cells) (by rw [hz1]; exact hl) (fun j u hu => by
            obtain ⟨b, off, h, _, hc⟩ := hr (fun h0 => by rw [h0] at hu; simp at hu)
            injection h with h
            subst h
            rw [Go.WideShapes.add_plain]
            exact hc j u hu) (evs_oneCell M) h0 (by omega) (by rw [hz2]; omega)]
          exact hrun
      · have := OwnL.app (l := ([] : List Ev)) (k := M) (f := Ev.cells) (n := 0 + M.length) (by simp) (by simpa using h2)
        simpa using this
  obtain ⟨v', w', hrun, h2⟩ := hrun
  have hr : (execOp a.eval o).run Try.prog W = .ok (.value v') w' := by
    unfold execOp
    simp only [ho, resolve, invoke, builtin, Sem.run_bind, Sem.run_pure, Result.andThen_ok, List.map_toArray, List.map_cons, List.map_nil, hs, hx, hrun]
  unfold Oper.goes
  rw [hr]
  exact h2
theorem goes_bs0 {W : World} {o : Oper} {a : Act} (ho : o.op = .buildSlice 28 0 #[]) : Oper.goes Try.prog o a W (fun v W' => v = .slice (some ⟨W.heap.size, 0, none⟩) 0 0 ∧ W' = W.alloc (.cells #[] 43)) := by
  obtain ⟨i0, hi0, hz0, hz1, hz2⟩ := info_parts Try.infoEv
  unfold Oper.goes execOp
  simp [ho, go_sem]
theorem infoPg : (Try.prog.info? 30).map (fun i => (i.zero, i.size, i.bytes)) = some (some (.agg #[.int .i64 0, .slice none 0 0]), 2, 32) := by kernel_rfl
theorem goes_bs_pg {W : World} {o : Oper} {a : Act} (y : Operand) (ho : o.op = .buildSlice 50 1 #[(0, y)]) (f : Int) (A : Option Addr) (n c : Nat) (hy : a.eval y = .agg #[.int .i64 f, .slice A n c]) : Oper.goes Try.prog o a W (fun v W' => v = .slice (some ⟨W.heap.size, 0, none⟩) 1 1 ∧ W' = W.alloc (.cells #[.int .i64 f, .slice A n c] 30)) := by
  obtain ⟨i0, hi0, hz0, hz1, hz2⟩ := info_parts infoPg
  refine goes_bs 50 30 1 _ ho _ i0 _ Try.underlying50 hi0 hz0 (by rw [hz1]; decide) (by rw [hz1]; decide) ?_
  rw [hz1]
  simp only [List.map_toArray, List.map_cons, List.map_nil, hy]
  simp [Instr.fill, go_sem]
theorem of_grown0 {w w' : World} (h : w.grownBy w' none) : Below w.heap.size w w' := ⟨h.os, h.tape, h.output, h.size, fun k hk => h.block k hk (by simp)⟩
/-- A new row of events with none in it. -/
def rowTold (w : World) : Told := ⟨fun v => ∃ g, v = .slice (some ⟨g, 0, none⟩) 0 0, fun v W => OwnL W w.heap.size 43 9 v Ev.cells []⟩
theorem rowTold_st {w : World} : ∀ v W U, (rowTold w).R v W → Grown W U → (rowTold w).R v U := fun _ _ _ h k => h.below k
theorem row_makes {w : World} {o : Oper} {a : Act} (ho : o.op = .buildSlice 28 0 #[]) (W : World) (hW : Grown w W) : Oper.goes Try.prog o a W (fun u W' => ((rowTold w).S u ∧ (rowTold w).R u W') ∧ Grown W W') :=
  goes_mono (goes_bs0 ho) (by
    rintro v W' ⟨rfl, rfl⟩
    exact ⟨⟨⟨_, rfl⟩, OwnL.lit (f := Ev.cells) (m := 9) (n := 0) (c := 0) [] #[] hW.size (by simp [maxLen]) Ev.cells_length rfl rfl rfl⟩, bAlloc (Below.refl _ _) _⟩)
theorem runs_app0 {o : Oper} {a : Act} (s x : Operand) (ho : o.op = .call { callee := .builtin .append, args := #[s, x], argTypes := #[28, 28] }) (p : Addr) (A : Option Addr) (c : Nat) (hs : a.eval s = .slice (some p) 0 0) (hx : a.eval x = .slice A 0 c) (W : World) : RunsTo Try.prog o a W (.slice (some p) 0 0) := by
  obtain ⟨i0, hi0, hz0, hz1, hz2⟩ := info_parts Try.infoEv
  have hrun : (Builtin.append_ #[28, 28] o.type #[.slice (some p) 0 0, .slice A 0 c]).run Try.prog W = .ok (.slice (some p) 0 0) W := by
    rcases A with _ | q
    · exact run_append_nothing W 28 28 o.type 43 i0 Try.underlying28 hi0 (some p) 0 0 (Nat.le_refl _) _ (Src.ofNil W Try.underlying28 c)
    · exact run_append_nothing W 28 28 o.type 43 i0 Try.underlying28 hi0 (some p) 0 0 (Nat.le_refl _) _ (Src.ofSlice W Try.underlying28 q 0 c [] (by simp) (fun j u h => by simp at h) (fun u h => by cases h))
  unfold RunsTo execOp
  simp only [ho, resolve, invoke, builtin, Sem.run_bind, Sem.run_pure, Result.andThen_ok, List.map_toArray, List.map_cons, List.map_nil, hs, hx, hrun]
theorem mix_runs0 {ops : Array Oper} {w : World} {kd : Nat → Kd} {sp : Nat → Told} {E : Act → (World → Prop) → Prop} {o : Oper} {rest : List Oper} {k : Nat} {a : Act} {D : World → Prop} {P : Program} (v : Value) (hw : Region.wanted o (yielded ops a.tmps) = true) (hk : kd k = .pure) (hr : ∀ W, RunsTo P o a W v)
    (h : wpMix P ops w kd sp E rest (k + 1) (a.put o.dst v) D) : wpMix P ops w kd sp E (o :: rest) k a D := by
  unfold wpMix mStep
  rw [if_pos hw, hk]
  exact ⟨v, hr, h⟩
/-- 'append(s, p)' of a page. -/
theorem wpList_app_pg {w : World} {ops : Array Oper} {rest : List Oper} {o : Oper} {a : Act} {Q : Exit → Act → World → Prop} (hgd : o.guard = none) (s x : Operand)
    (ho : o.op = .call { callee := .builtin .append, args := #[s, x], argTypes := #[50, 50] })
    (base : Nat) (u : Value) (L : List TEnt) (p : TEnt) (hp : p.2.1.oneCell' = true) (hown : OwnL w base 30 2 u pgC L) (hs : a.eval s = u)
    (B : Nat) (A : Option Addr) (c : Nat) (hx : a.eval x = .slice A 1 c) (hr : Rd w B A ([p].flatMap pgC)) (hn : L.length ≤ 1000000000) (hbase : base ≤ w.heap.size)
    (h : ∀ A' c' n' w', Hid (n' = L.length + 1) → OwnL w' base 30 2 (.slice A' n' c') pgC (L ++ [p]) → w.grownBy w' u.ownBlock → wpList Try.prog ops Q rest (a.put o.dst (.slice A' n' c')) w') : wpList Try.prog ops Q (o :: rest) a w := by
  obtain ⟨i0, hi0, hz0, hz1, hz2⟩ := info_parts infoPg
  refine wpList_append_rd hgd s x 50 ho base 30 i0 _ 2 32 Try.underlying50 hi0 hz0 hz1 hz2 rfl (by decide) u L.length (L.flatMap pgC) hs hown B A 1 c ([p].flatMap pgC) hx rfl hr (rd_none pgC_length (by decide) hr) (fun v hv => by
    simp only [List.flatMap_cons, List.flatMap_nil, List.append_nil, pgC, List.mem_cons, List.not_mem_nil, or_false] at hv
    rcases hv with rfl | rfl
    · rfl
    · exact hp) (by unfold maxLen; omega) (by omega) hbase ?_
  intro v' w' hw hg _
  have ho' : OwnL w' base 30 2 v' pgC (L ++ [p]) := OwnL.app (n := L.length + 1) rfl hw
  obtain ⟨A', c', rfl⟩ := ho'.shape
  refine h A' c' _ w' (Lib.hid (by rw [List.length_append]; rfl)) ?_ hg
  exact ho'
theorem rd_pg1 (w : World) (p : TEnt) : Rd (w.alloc (.cells (pgC p).toArray 30)) (w.heap.size + 1) (some ⟨w.heap.size, 0, none⟩) ([p].flatMap pgC) := by
  have := rd_new w (pgC p).toArray 30 _ rfl _ (Nat.lt_succ_self _)
  simpa using this
end Go.Proofs.Yteccmklacgpodaa

namespace Go.Proofs.Yteccmklacgpodaa
open Go.RowKit
set_option maxRecDepth 100000
set_option linter.unusedSimpArgs false
theorem cm_parts (a : Cm) (w : World) : (part 3 a.cells.toArray 0).run Try.prog w = .ok (.int .i64 a.kind) w ∧ (part 43 a.cells.toArray 1).run Try.prog w = .ok (.agg a.e.cells.toArray) w ∧ (part 3 a.cells.toArray 10).run Try.prog w = .ok (.int .i64 a.late) w ∧ (part 4 a.cells.toArray 11).run Try.prog w = .ok (.bool a.played) w :=
  ⟨by kernel_rfl, by kernel_rfl, by kernel_rfl, by kernel_rfl⟩
theorem cm_eqRun (a b : Cm) (w : World) : (Op.equalIn 10000 57 (.agg a.cells.toArray) (.agg b.cells.toArray)).run Try.prog w = .ok (decide (a = b)) w := by
  have hu := Try.underlying57
  obtain ⟨a0, a1, a2, a3⟩ := cm_parts a w
  obtain ⟨b0, b1, b2, b3⟩ := cm_parts b w
  have e0 := fun (x y : Int) => run_equalIn_int (P := Try.prog) w 9998 3 .i64 .i64 x y Try.underlying3
  have e1 : (Op.equalIn 9999 43 (.agg a.e.cells.toArray) (.agg b.e.cells.toArray)).run Try.prog w = .ok (decide (a.e = b.e)) w := by
    have := equalIn_ints (P := Try.prog) 9899 100 43 k9 ev_kinds (evI a.e) (evI b.e) rfl rfl w
    rw [← ev_ivals, ← ev_ivals, ev_valOf, ev_valOf, evI_dec] at this
    exact this
  have e3 := run_equalIn_bool (P := Try.prog) w 9998 4 a.played b.played Try.underlying4
  rw [show (10000:Nat) = 9999 + 1 from rfl, run_equalIn_struct w 9999 57 _ _ (by kernel_rfl) (by kernel_rfl)]
  simp only [Program.fieldsOf, hu]
  have d1 : decide (a = b) = ((a.kind == b.kind) && (decide (a.e = b.e) && ((a.late == b.late) && (a.played == b.played)))) := by
    rw [Bool.eq_iff_iff]
    cases a; cases b
    simp
  rw [d1]
  have n1 : ("Kind" : String) ≠ "_" := by decide
  have n2 : ("Event" : String) ≠ "_" := by decide
  have n3 : ("Late" : String) ≠ "_" := by decide
  have n4 : ("Played" : String) ≠ "_" := by decide
  simp only [Op.eqFields, n1, n2, n3, n4, ne_eq, not_false_eq_true, if_true, Sem.run_bind, a0, a1, a2, a3, b0, b1, b2, b3, Result.andThen_ok]
  have e0' : ∀ x y : Int, (Op.equalIn 9999 3 (.int .i64 x) (.int .i64 y)).run Try.prog w = .ok (x == y) w := e0
  have e3' : (Op.equalIn 9999 4 (.bool a.played) (.bool b.played)).run Try.prog w = .ok (a.played == b.played) w := e3
  clear e0 e3 d1 n1 n2 n3 n4 hu
  rw [e0' a.kind b.kind, Result.andThen_ok]
  cases (a.kind == b.kind)
  · rfl
  · simp only [Bool.not_true, Bool.false_eq_true, if_false, Sem.run_bind, a1, b1, Result.andThen_ok, e1, Bool.true_and]
    cases decide (a.e = b.e)
    · rfl
    · simp only [Bool.not_true, Bool.false_eq_true, if_false, Sem.run_bind, a2, b2, Result.andThen_ok, e0' a.late b.late, Bool.true_and]
      cases (a.late == b.late)
      · rfl
      · simp only [Bool.not_true, Bool.false_eq_true, if_false, Sem.run_bind, a3, b3, Result.andThen_ok, e3', Bool.true_and]
        cases (a.played == b.played)
        · rfl
        · rfl
theorem cm_neq (a b : Cm) (w : World) : (binOp .neq 57 (.agg a.cells.toArray) (.agg b.cells.toArray)).run Try.prog w = .ok (.bool (!decide (a = b))) w := by
  have := cm_eqRun a b w
  rw [run_neq_struct]
  rw [this]
  rfl
set_option maxHeartbeats 4000000 in
/-- Same commands? -/
theorem r17Same_any (A B : Option Addr) (c d : Nat) (L M : List Cm) (w : World) (hL : L.length ≤ 1000000000) (hl : Rd w w.heap.size A (L.flatMap Cm.cells)) (hm : Rd w w.heap.size B (M.flatMap Cm.cells)) :
    Calls Try.prog 35 #[.slice A L.length c, .slice B M.length d] w fun e w' => e = .returned (.bool (decide (L = M))) ∧ Below w.heap.size w w' := by
  obtain ⟨n, hn⟩ : ∃ n, L.length = n := ⟨_, rfl⟩
  obtain ⟨m, hm'⟩ : ∃ m, M.length = m := ⟨_, rfl⟩
  by_cases hne : n = m
  · subst hne
    rw [hn] at hL ⊢
    rw [hm']
    have HL := Lib.hid hl
    have HM := Lib.hid hm
    have HN := Lib.hid hn
    have HN' := Lib.hid hm'
    clear hl hm hn hm'
    have hnn : (n != n) = false := by simp
    go_enter Try.func35, Try.ntmps35
    go_wp2_with fail
    go_loopw [5] (fun v wr => ∃ k : Nat, k ≤ n ∧ v = .int .i64 k ∧ Hid (L.take k = M.take k) ∧ Hid (Grown w wr)) (fun v _ => n - (intOf v).toNat)
    case atStart => exact ⟨0, Nat.zero_le _, rfl, Lib.hid (by simp), Lib.hid (Grown.refl _)⟩
    case round =>
      obtain ⟨k, hk, rfl, HT, HG⟩ := hrel
      by_cases hlt : k < n
      · have hkL : k < L.length := by rw [HN.out]; exact hlt
        have hkM : k < M.length := by rw [HN'.out]; exact hlt
        obtain ⟨b, off, rfl, hb, r1⟩ := (HL.out.below HG.out (Nat.le_refl _)).at_ Cm.cells_length (by omega) hkL
        obtain ⟨b2, off2, rfl, hb2, r2⟩ := (HM.out.below HG.out (Nat.le_refl _)).at_ Cm.cells_length (by omega) hkM
        have hb := Nat.lt_of_lt_of_le hb (Below.size HG.out)
        have hb2 := Nat.lt_of_lt_of_le hb2 (Below.size HG.out)
        have HXY : Hid (∀ h : L[k] = M[k], L.take (k + 1) = M.take (k + 1)) := Lib.hid (fun h => by rw [List.take_succ_eq_append_getElem hkL, List.take_succ_eq_append_getElem hkM, HT.out, h])
        have HXN : Hid (L[k] ≠ M[k] → decide (L = M) = false) := Lib.hid (fun h => decide_eq_false fun e => h (by simp only [e]))
        have HR1 : Hid (wr.rangeAt b (off + k * 12) L[k].cells) := Lib.hid (fun j v hv => r1 j v hv)
        have HR2 : Hid (wr.rangeAt b2 (off2 + k * 12) M[k].cells) := Lib.hid (fun j v hv => r2 j v hv)
        obtain ⟨x, hx⟩ : ∃ x, L[k] = x := ⟨_, rfl⟩
        obtain ⟨y, hy⟩ : ∃ y, M[k] = y := ⟨_, rfl⟩
        rw [hx] at HR1 HXY HXN
        rw [hy] at HR2 HXY HXN
        have hKp := Keeps.base wr
        clear hx hy r1 r2
        go_upto_region 6 with fail
        refine wp_region_mixed [.pure, .pure, .pure, .held, .pure, .pure, .pure, .held, .pure] (fun _ => ⟨fun _ => True, fun _ _ => True⟩) (by kernel_rfl) (by kernel_rfl) ?_
        repeat (refine mix_pure rfl rfl rfl (fun K hK => ?_); go_big_quiet_op; refine hK _ ?_; clear hK K)
        refine mix_load rfl rfl (by assumption) 57 (.tmp 19) rfl b (off + k * 12) rfl x.cells _ hb HR1.out Try.underlying57 rfl (by kernel_rfl) ?_
        simp only [Act.put, List.setIfInBounds_toArray, List.set_cons_zero, List.set_cons_succ]
        repeat (refine mix_pure rfl rfl rfl (fun K hK => ?_); go_big_quiet_op; refine hK _ ?_; clear hK K)
        refine mix_load rfl rfl (by assumption) 57 (.tmp 23) rfl b2 (off2 + k * 12) rfl y.cells _ hb2 HR2.out Try.underlying57 rfl (by kernel_rfl) ?_
        simp only [Act.put, List.setIfInBounds_toArray, List.set_cons_zero, List.set_cons_succ]
        refine mix_run (.bool (!decide (x = y))) rfl rfl (runs_neq rfl rfl rfl (by kernel_rfl) (cm_neq x y)) ?_
        simp only [Act.put, List.setIfInBounds_toArray, List.set_cons_zero, List.set_cons_succ]
        refine mix_nil ?_
        intro W hW
        have HGW := Lib.hid (HG.out.trans hW)
        by_cases hxy : x = y
        · have hdec : (decide (x = y)) = true := decide_eq_true hxy
          rw [hdec]
          have HNX := Lib.hid (HXY.out hxy)
          clear hxy hdec hKp hW
          go_wp2
          go_roundw
          case rel => exact ⟨k + 1, by omega, by go_num, HNX, HGW⟩
          case measure => simp [intOf]; omega
        · have hdec : (decide (x = y)) = false := decide_eq_false hxy
          rw [hdec]
          have HE := Lib.hid (HXN.out hxy)
          clear hxy hdec hKp hW
          go_wp2
          go_ret
          exact ⟨ret_bool HE.out.symm, HGW.out⟩
      · obtain rfl : k = n := by omega
        have HE : Hid (decide (L = M) = true) := Lib.hid (decide_eq_true (by have := HT.out; rwa [List.take_of_length_le (by rw [HN.out]; exact Nat.le_refl _), List.take_of_length_le (by rw [HN'.out]; exact Nat.le_refl _)] at this))
        go_wp2
        go_ret
        exact ⟨ret_bool HE.out.symm, HG.out⟩
  · have HE : Hid (decide (L = M) = false) := Lib.hid (decide_eq_false fun e => hne (by rw [← hn, ← hm', e]))
    rw [hn] at hL ⊢
    rw [hm']
    have hnn : (n != m) = true := by simpa using hne
    have hni : ((n : Int) != (m : Int)) = true := by simp; omega
    clear hl hm hn hm'
    go_enter Try.func35, Try.ntmps35
    go_wp2
    go_ret
    exact ⟨ret_bool HE.out.symm, Below.refl _ _⟩
end Go.Proofs.Yteccmklacgpodaa
