/-
  The walks of the reel's functions, continued: events, about, join.
-/
import Derived.Test.YtaegekfdbhmcaaaDoorReelWalks
namespace Go.Proofs.YtaegekfdbhmcaaaDoor
open Go.RowKit
set_option maxRecDepth 100000

set_option maxHeartbeats 400000 in
theorem events_any (A : Option Addr) (c : Nat) (l : List Ev) (fr : Int) (w : World) (hn : l.length ≤ 9223372036854775806) (hr : Rd w w.heap.size A (l.flatMap Ev.cells)) :
    Calls Tryd.prog 29 #[.slice A l.length c, .int .i64 fr] w fun e w' => e = .returned (.bool (evsOk fr 0 l)) ∧ Below w.heap.size w w' := by
  have HR := Lib.hid hr
  clear hr
  go_enter Tryd.func29, Tryd.ntmps29
  go_wp2
  go_loopw [5, 7, 10] (fun last _ i wr => ∃ k : Nat, k ≤ l.length ∧ i = .int .i64 k ∧ ∃ z, last = .int .i64 z ∧ Hid (evsOk fr 0 l = evsOk fr z (l.drop k)) ∧ Below w.heap.size w wr) (fun _ _ i _ => l.length - (intOf i).toNat)
  case atStart => exact ⟨0, Nat.zero_le _, rfl, 0, rfl, rfl, Below.refl _ _⟩
  case round =>
    obtain ⟨k, hk, rfl, z, rfl, hz, hb⟩ := hrel
    by_cases hlt : k < l.length
    · obtain ⟨b, off, rfl, hB, h0, h1, h2, h3, h4, h5, h6, h7, h8⟩ := (HR.out.below hb (Nat.le_refl _)).ev hlt
      go_wp2
      · go_ret
        refine ⟨ret_bool ?_, hb.alloc hb.size _⟩
        rw [hz.out, List.drop_eq_getElem_cons hlt, evsOk, if_pos (by omega)]
      · go_roundw
        case rel =>
          refine ⟨k + 1, by omega, by go_num, _, rfl, ?_, hb.alloc hb.size _⟩
          show _ = _
          rw [hz.out, List.drop_eq_getElem_cons hlt, evsOk, if_neg (by omega)]
        case measure => simp [intOf]; omega
      · go_ret
        refine ⟨ret_bool ?_, hb.alloc hb.size _⟩
        rw [hz.out, List.drop_eq_getElem_cons hlt, evsOk, if_pos (by omega)]
    · have e0 : evsOk fr 0 l = true := by rw [hz.out, List.drop_of_length_le (by omega), evsOk]
      have E0 := Lib.hid e0
      clear e0
      go_wp2
      go_ret
      exact ⟨ret_bool E0.out.symm, hb⟩

/-- An event as a value. -/
def Ev.val (e : Ev) : Value := .agg #[.int .i64 e.frame, .int .i64 e.emitter, .int .i64 e.kind, .int .i64 e.ord, .int .i64 e.asset, .int .i64 e.gain, .int .i64 e.pan, .int .i64 e.prio, .int .i64 e.len]
/-- A cut as a value. -/
def Cut.val (c : Cut) : Value := .agg #[.int .i64 c.frm, .int .i64 c.to_, .int .i64 c.weight]

theorem cut_eq {a b c d e f : Int} (h1 : a = d) (h2 : b = e) (h3 : c = f) : Ending.returned (.agg #[.int .i64 a, .int .i64 b, .int .i64 c]) = .returned (.agg #[.int .i64 d, .int .i64 e, .int .i64 f]) := by rw [h1, h2, h3]

set_option maxHeartbeats 400000 in
theorem about_any (e : Ev) (fr ld tr : Int) (w : World) (hw : Weights w) (h0 : 0 ≤ e.frame) (h1 : e.frame ≤ 1073741824) (h2 : 0 ≤ ld) (h3 : ld ≤ 1073741824) (h4 : 0 ≤ tr) (h5 : tr ≤ 1073741824) :
    Calls Tryd.prog 30 #[e.val, .int .i64 fr, .int .i64 ld, .int .i64 tr] w fun x w' => x = .returned (aboutC e fr ld tr).val ∧ Below w.heap.size w w' := by
  unfold Ev.val Cut.val aboutC
  have HW := Lib.hid hw
  clear hw
  go_enter Tryd.func30, Tryd.ntmps30
  go_wp2_with fail
  all_goals
    refine (weight_any _ _ (HW.out.on (by repeat (first | exact Below.refl _ _ | (with_reducible assumption) | apply bAlloc | apply below_drewN | apply Below.drew)))).mono ?_
    rintro x w' ⟨rfl, rfl⟩
    go_wp2
    refine bodyPost_ret (v := .agg #[.int .i64 (max (e.frame - ld) 0), .int .i64 (min (e.frame + tr + 1) fr), .int .i64 (weightOf e.kind)]) ?_ rfl ⟨rfl, (by repeat (first | exact Below.refl _ _ | (with_reducible assumption) | apply bAlloc | apply below_drewN | apply Below.drew))⟩
    simp [results, Tryd.results30, go_sem] <;> omega

theorem Tryd.infoCut : (Tryd.prog.info? 48).map (fun i => (i.zero, i.size, i.bytes)) = some (some (.agg #[.int .i64 0, .int .i64 0, .int .i64 0]), 3, 24) := by kernel_rfl

set_option maxHeartbeats 400000 in
theorem join_nil (c : Cut) (A : Option Addr) (cp : Nat) (base : Nat) (w : World) (hb : base ≤ w.heap.size) (hA : OwnL w base 48 3 (.slice A 0 cp) Cut.cells []) :
    Calls Tryd.prog 31 #[.slice A 0 cp, c.val] w fun x w' => ∃ A' cp', x = .returned (.slice A' 1 cp') ∧ OwnL w' base 48 3 (.slice A' 1 cp') Cut.cells [c] ∧ Below base w w' := by
  unfold Cut.val
  obtain ⟨i0, hi, hz0, hz1, hz2⟩ := info_parts Tryd.infoCut
  go_enter Tryd.func31, Tryd.ntmps31
  go_wp2
  go_quiet (fail)
  go_wp2_with (at_builtin; refine wpList_append_own _ rfl (.tmp 44) (.tmp 46) 22 rfl base 48 i0 _ 3 24 Tryd.underlying22 hi hz0 hz1 hz2 rfl (by decide) (.slice A 0 cp) 0 [] rfl ?c0 ⟨w.heap.size + 1, 0, none⟩ 1 1 c.cells rfl rfl ?c1 ?c2 ?c3 ?c4 ?c5 ?_)
  case c0 => exact ((hA.alloc _).drewN _).alloc _
  case c1 => exact cell_new_row _ #[.int .i64 c.frm, .int .i64 c.to_, .int .i64 c.weight] 48 _ (by simp)
  case c2 => intro u hu; simp only [Cut.cells, List.mem_cons, List.not_mem_nil, or_false] at hu; rcases hu with rfl | rfl | rfl <;> rfl
  case c3 => simp [maxLen]
  case c4 => omega
  case c5 => simp; omega
  intro v' w' hown hg hnil
  go_wp2
  go_ret
  have hw2 : OwnL w' base 48 3 v' Cut.cells [c] := hown
  obtain ⟨A', cp', rfl⟩ := hw2.shape
  exact ⟨A', cp', rfl, hw2, Below.grown (by repeat (first | exact Below.refl _ _ | (with_reducible assumption) | apply below_drewN | apply Below.drew | (refine Below.alloc ?_ (by first | omega | (simp <;> omega)) _) | (refine Below.setCell ?_ (by first | omega | (simp <;> omega)) _))) hg (by simp; omega) hA.base_le⟩

set_option maxHeartbeats 400000 in
theorem join_far (c d : Cut) (g n cp : Nat) (l : List Cut) (base : Nat) (w : World) (hb : base ≤ w.heap.size) (hn : l.length = n) (hA : OwnL w base 48 3 (.slice (some ⟨g, 0, none⟩) (n + 1) cp) Cut.cells (l ++ [d])) (hd : d.to_ < c.frm) (hsm : n ≤ 1000000) :
    Calls Tryd.prog 31 #[.slice (some ⟨g, 0, none⟩) (n + 1) cp, c.val] w fun x w' => ∃ A' cp', x = .returned (.slice A' (n + 2) cp') ∧ OwnL w' base 48 3 (.slice A' (n + 2) cp') Cut.cells (l ++ [d] ++ [c]) ∧ Below base w w' := by
  unfold Cut.val
  obtain ⟨i0, hi, hz0, hz1, hz2⟩ := info_parts Tryd.infoCut
  subst hn
  have h1 : w.cell? ⟨g, l.length * 3 + 1, none⟩ = some (.int .i64 d.to_) := by
    refine OwnL.cell (l := l ++ [d]) (cap := cp) Cut.cells_length (by simpa using hA) (k := l.length) (j := 1) (by simp) ?_
    simp [Cut.cells]
  have hg : g < w.heap.size := hA.block_lt g rfl
  go_enter Tryd.func31, Tryd.ntmps31
  go_wp2
  go_quiet (fail)
  go_wp2_with (at_builtin; refine wpList_append_own _ rfl (.tmp 44) (.tmp 46) 22 rfl base 48 i0 _ 3 24 Tryd.underlying22 hi hz0 hz1 hz2 rfl (by decide) (.slice (some ⟨g, 0, none⟩) (l.length + 1) cp) (l.length + 1) ((l ++ [d]).flatMap Cut.cells) rfl ?c0 ⟨w.heap.size + 1, 0, none⟩ 1 1 c.cells rfl rfl ?c1 ?c2 ?c3 ?c4 ?c5 ?_)
  case c0 =>
    have hA' := ((hA.alloc (.cells #[.int .i64 c.frm, .int .i64 c.to_, .int .i64 c.weight] 48)).drewN nq).alloc (.cells #[.int .i64 c.frm, .int .i64 c.to_, .int .i64 c.weight] 48)
    unfold OwnL at hA'
    simpa using hA'
  case c1 => exact cell_new_row _ #[.int .i64 c.frm, .int .i64 c.to_, .int .i64 c.weight] 48 _ (by simp)
  case c2 => intro u hu; simp only [Cut.cells, List.mem_cons, List.not_mem_nil, or_false] at hu; rcases hu with rfl | rfl | rfl <;> rfl
  case c3 => simp [maxLen]; omega
  case c4 => omega
  case c5 => simp; omega
  intro v' w' hown hgr hnil
  go_wp2
  go_ret
  have hw2 : OwnL w' base 48 3 v' Cut.cells (l ++ [d] ++ [c]) := by
    unfold OwnL
    simpa using hown
  obtain ⟨A', cp', rfl⟩ := hw2.shape
  simp only [List.length_append, List.length_cons, List.length_nil, Nat.zero_add, Nat.add_assoc, Nat.reduceAdd] at hw2 ⊢
  exact ⟨A', cp', rfl, by simpa using hw2, Below.grown (by repeat (first | exact Below.refl _ _ | (with_reducible assumption) | apply below_drewN | apply Below.drew | (refine Below.alloc ?_ (by first | omega | (simp <;> omega)) _) | (refine Below.setCell ?_ (by first | omega | (simp <;> omega)) _))) hgr (by simp; omega) hA.base_le⟩

set_option maxHeartbeats 400000 in
theorem join_near (c d : Cut) (g n cp : Nat) (l : List Cut) (base : Nat) (w : World) (hb : base ≤ w.heap.size) (hn : l.length = n) (hA : OwnL w base 48 3 (.slice (some ⟨g, 0, none⟩) (n + 1) cp) Cut.cells (l ++ [d])) (hd : c.frm ≤ d.to_) (hsm : n ≤ 1000000)
    (b1 : 0 ≤ d.weight) (b2 : d.weight ≤ 1000000000000) (b3 : 0 ≤ c.weight) (b4 : c.weight ≤ 1000000000000) :
    Calls Tryd.prog 31 #[.slice (some ⟨g, 0, none⟩) (n + 1) cp, c.val] w fun x w' => x = .returned (.slice (some ⟨g, 0, none⟩) (n + 1) cp) ∧ OwnL w' base 48 3 (.slice (some ⟨g, 0, none⟩) (n + 1) cp) Cut.cells (l ++ [⟨d.frm, max d.to_ c.to_, d.weight + c.weight⟩]) ∧ Below base w w' := by
  unfold Cut.val
  subst hn
  have h1 : w.cell? ⟨g, l.length * 3 + 1, none⟩ = some (.int .i64 d.to_) := by
    refine OwnL.cell (l := l ++ [d]) (cap := cp) Cut.cells_length (by simpa using hA) (k := l.length) (j := 1) (by simp) ?_
    simp [Cut.cells]
  have h2 : w.cell? ⟨g, l.length * 3 + 2, none⟩ = some (.int .i64 d.weight) := by
    refine OwnL.cell (l := l ++ [d]) (cap := cp) Cut.cells_length (by simpa using hA) (k := l.length) (j := 2) (by simp) ?_
    simp [Cut.cells]
  have hf : ∀ j, w.frozen? ⟨g, j, none⟩ = false := fun j => hA.frozen j
  have f1 := hf (l.length * 3 + 1)
  have f2 := hf (l.length * 3 + 2)
  clear hf
  have hg : g < w.heap.size := hA.block_lt g rfl
  have hfin : ∀ m : Int, max d.to_ c.to_ = m → ∀ w' : World, OwnL w' base 48 3 (.slice (some ⟨g, 0, none⟩) (l.length + 1) cp) Cut.cells (((l ++ [d]).set l.length ⟨d.frm, m, d.weight⟩).set l.length ⟨d.frm, m, d.weight + c.weight⟩) →
      OwnL w' base 48 3 (.slice (some ⟨g, 0, none⟩) (l.length + 1) cp) Cut.cells (l ++ [⟨d.frm, max d.to_ c.to_, d.weight + c.weight⟩]) := fun m hm w' h => by
    rw [hm]
    simpa [List.set_append] using h
  have hset : ∀ (m : Int) (W : World), OwnL W base 48 3 (.slice (some ⟨g, 0, none⟩) (l.length + 1) cp) Cut.cells (l ++ [d]) →
      OwnL ((W.setCell ⟨g, l.length * 3 + 1, none⟩ (.int .i64 m)).setCell ⟨g, l.length * 3 + 2, none⟩ (.int .i64 (d.weight + c.weight))) base 48 3 (.slice (some ⟨g, 0, none⟩) (l.length + 1) cp) Cut.cells (((l ++ [d]).set l.length ⟨d.frm, m, d.weight⟩).set l.length ⟨d.frm, m, d.weight + c.weight⟩) := fun m W h => by
    have h1 := h.set Cut.cells_length (k := l.length) (j := 1) (u := .int .i64 m) (a := ⟨d.frm, m, d.weight⟩) (by simp) (by omega) (by simp [Cut.cells])
    exact h1.set Cut.cells_length (k := l.length) (j := 2) (u := .int .i64 (d.weight + c.weight)) (a := ⟨d.frm, m, d.weight + c.weight⟩) (by simp) (by omega) (by simp [Cut.cells])
  have hbg : base ≤ g := hA.base_le g rfl
  have HF := Lib.hid hfin
  have HS := Lib.hid hset
  clear hfin hset
  by_cases hm : c.to_ ≤ d.to_
  · have HM := Lib.hid (show max d.to_ c.to_ = d.to_ by omega)
    go_enter Tryd.func31, Tryd.ntmps31
    go_wp2
    go_quiet (fail)
    go_wp2
    go_region
    go_wp2
    go_region
    go_wp2
    go_ret
    exact ⟨rfl, HF.out _ HM.out _ (HS.out _ _ ((hA.alloc _).drewN _)).drew, (by repeat (first | exact Below.refl _ _ | (with_reducible assumption) | apply below_drewN | apply Below.drew | (refine Below.alloc ?_ (by first | omega | (simp <;> omega)) _) | (refine Below.setCell ?_ (by first | omega | (simp <;> omega)) _)))⟩
  · have HM := Lib.hid (show max d.to_ c.to_ = c.to_ by omega)
    go_enter Tryd.func31, Tryd.ntmps31
    go_wp2
    go_quiet (fail)
    go_wp2
    go_region
    go_wp2
    go_region
    go_wp2
    go_ret
    exact ⟨rfl, HF.out _ HM.out _ (HS.out _ _ ((hA.alloc _).drewN _)).drew, (by repeat (first | exact Below.refl _ _ | (with_reducible assumption) | apply below_drewN | apply Below.drew | (refine Below.alloc ?_ (by first | omega | (simp <;> omega)) _) | (refine Below.setCell ?_ (by first | omega | (simp <;> omega)) _)))⟩
theorem join_any (c : Cut) (A : Option Addr) (n cp : Nat) (l : List Cut) (base : Nat) (w : World) (hb : base ≤ w.heap.size) (hA : OwnL w base 48 3 (.slice A n cp) Cut.cells l) (hsm : l.length ≤ 1000000)
    (hl : ∀ d ∈ l, 0 ≤ d.weight ∧ d.weight ≤ 1000000000000) (b3 : 0 ≤ c.weight) (b4 : c.weight ≤ 1000000000000) :
    Calls Tryd.prog 31 #[.slice A n cp, c.val] w fun x w' => ∃ A' cp', x = .returned (.slice A' (joinC l c).length cp') ∧ OwnL w' base 48 3 (.slice A' (joinC l c).length cp') Cut.cells (joinC l c) ∧ Below base w w' := by
  obtain rfl := hA.len
  rcases List.eq_nil_or_concat l with rfl | ⟨l', d, rfl⟩
  · exact join_nil c A cp base w hb hA
  · rw [List.concat_eq_append] at hA hl ⊢
    obtain ⟨g, rfl, -, -, -⟩ := hA.formA (by simp)
    rw [joinC_snoc]
    have hd := hl d (by simp)
    have hll : l'.length ≤ 1000000 := by simp at hsm; omega
    have hln : (l' ++ [d]).length = l'.length + 1 := by simp
    rw [hln] at hA ⊢
    by_cases hc : c.frm ≤ d.to_
    · rw [if_pos hc]
      refine (join_near c d g l'.length cp l' base w hb rfl hA hc hll hd.1 hd.2 b3 b4).mono ?_
      rintro e w' ⟨rfl, h1, h2⟩
      have he : (l' ++ [(⟨d.frm, max d.to_ c.to_, d.weight + c.weight⟩ : Cut)]).length = l'.length + 1 := by simp
      rw [he]
      exact ⟨_, _, rfl, h1, h2⟩
    · rw [if_neg hc]
      refine (join_far c d g l'.length cp l' base w hb rfl hA (by omega) hll).mono ?_
      rintro e w' ⟨A', cp', rfl, h1, h2⟩
      have he : (l' ++ [d] ++ [c]).length = l'.length + 2 := by simp
      rw [he]
      exact ⟨_, _, rfl, h1, h2⟩
end Go.Proofs.YtaegekfdbhmcaaaDoor
