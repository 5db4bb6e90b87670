/-
  The walk of the reference's Cuts.
-/
import Derived.Test.YtillajaghkefbaaDoorReelFits
import Derived.Test.YtillajaghkefbaaDoorReelRefPlain
import Derived.Deep.RegionWith
namespace Go.Proofs.YtillajaghkefbaaDoor
open Go.RowKit

def bcell (b : Bool) : List Value := [.bool b]
theorem Tryd.infoBool : (Tryd.prog.info? 4).map (fun i => (i.zero, i.size, i.bytes)) = some (some (.bool false), 1, 1) := by kernel_rfl
theorem Tryd.infoRCut : (Tryd.prog.info? 52).map (fun i => (i.zero, i.size, i.bytes)) = some (some (.agg #[.int .i64 0, .int .i64 0, .int .i64 0]), 3, 24) := by kernel_rfl
def markRow (l : List Ev) (N : Nat) (ld tr : Int) : List Bool := rowOf (N + 1) fun k => decide (k < N) && marks l ld tr k
def markRowTo (l : List Ev) (e : Ev) (N j : Nat) (ld tr : Int) : List Bool := rowOf (N + 1) fun k => decide (k < N) && (marks l ld tr k || decide (k < j) && inSpan e ld tr k)

theorem markRow_skip (l : List Ev) (N : Nat) (ld tr : Int) (n : Nat) (h : n < l.length) (hz : weightOf l[n].kind = 0) : markRow (l.take (n + 1)) N ld tr = markRow (l.take n) N ld tr :=
  rowOf_congr fun j _ => by rw [marks_take l ld tr n j h]; simp [markBy, hz]
theorem markRow_done (l : List Ev) (N : Nat) (ld tr : Int) (n : Nat) (h : n < l.length) (hz : (weightOf l[n].kind == 0) = false) : markRow (l.take (n + 1)) N ld tr = markRowTo (l.take n) l[n] N N ld tr :=
  rowOf_congr fun j _ => by
    rw [marks_take l ld tr n j h]
    by_cases hj : j < N
    · simp [markBy, hz, hj]
    · simp [hj]
theorem markRow_start (l : List Ev) (e : Ev) (N : Nat) (ld tr : Int) : markRowTo l e N 0 ld tr = markRow l N ld tr := rowOf_congr fun j _ => by simp
theorem markRow_in (l : List Ev) (e : Ev) (N j : Nat) (ld tr : Int) (hj : j < N) (hs : inSpan e ld tr j = true) : (markRowTo l e N j ld tr).set j true = markRowTo l e N (j + 1) ld tr := by
  unfold markRowTo
  rw [rowOf_set]
  refine rowOf_congr fun i _ => ?_
  by_cases h : i = j
  · subst h; simp [hj, hs]
  · rw [if_neg h]
    have : decide (i < j + 1) = decide (i < j) := by rw [decide_eq_decide]; omega
    rw [this]
theorem markRow_out (l : List Ev) (e : Ev) (N j : Nat) (ld tr : Int) (hs : inSpan e ld tr j = false) : markRowTo l e N j ld tr = markRowTo l e N (j + 1) ld tr := by
  refine rowOf_congr fun i _ => ?_
  by_cases h : i = j
  · subst h; simp [hs]
  · have : decide (i < j + 1) = decide (i < j) := by rw [decide_eq_decide]; omega
    rw [this]
theorem markRow_length (l : List Ev) (N : Nat) (ld tr : Int) : (markRow l N ld tr).length = N + 1 := rowOf_length _ _
theorem markRowTo_length (l : List Ev) (e : Ev) (N j : Nat) (ld tr : Int) : (markRowTo l e N j ld tr).length = N + 1 := rowOf_length _ _

set_option maxRecDepth 100000 in
set_option maxHeartbeats 4000000 in
theorem refCuts_any (A : Option Addr) (c : Nat) (l : List Ev) (N : Nat) (ld tr : Int) (w : World) (hn : l.length ≤ 60) (hr : Rd w w.heap.size A (l.flatMap Ev.cells)) (b1 : N ≤ 400) (b2 : 0 ≤ ld) (b2' : ld ≤ 1073741824) (b3 : 0 ≤ tr) (b3' : tr ≤ 1073741824)
    (hev : ∀ e ∈ l, 0 ≤ e.frame ∧ e.frame < N) :
    Calls Tryd.prog 11 #[.slice A l.length c, .int .i64 N, .int .i64 ld, .int .i64 tr] w fun e w' => ∃ A' cp, e = .returned (.slice A' (refCuts l N ld tr).length cp) ∧
      OwnL w' w.heap.size 52 3 (.slice A' (refCuts l N ld tr).length cp) Cut.cells (refCuts l N ld tr) ∧ Below w.heap.size w w' := by
  have HR := Lib.hid hr
  have HE := Lib.hid hev
  clear hr hev
  obtain ⟨ib, hib, hbz, hb1, hb2⟩ := info_parts Tryd.infoBool
  obtain ⟨ic, hic, hcz, hc1, hc2⟩ := info_parts Tryd.infoRCut
  go_enter Tryd.func11, Tryd.ntmps11
  go_wp2_with (refine wpList_make_full _ rfl (.tmp 18) (.tmp 18) 53 rfl w.heap.size 4 ib _ 1 Tryd.underlying53 hib hbz hb1 .i64 .i64 _ _ (N + 1) rfl rfl (by omega) (by omega) ?m1 ?m2 ?m3 ?_)
  case m1 => rw [hb2]; omega
  case m2 => simp [maxLen]; omega
  case m3 => exact Nat.le_refl _
  intro w1 hown1 hg1
  have hin : OwnL w1 w.heap.size 4 1 (.slice (some ⟨w.heap.size, 0, none⟩) (N + 1) (N + 1)) bcell (markRow (l.take 0) N ld tr) := by
    have e1 : (markRow (l.take 0) N ld tr) = List.replicate (N + 1) false := by
      rw [← rowOf_const]; exact rowOf_congr fun j _ => by simp [marks]
    unfold OwnL
    rw [e1, List.length_replicate]
    have e2 : (List.replicate (N + 1) false).flatMap bcell = List.replicate (N + 1) (Value.bool false) := by
      rw [List.flatMap_def, List.map_replicate]; simp [bcell, List.flatten_replicate_singleton]
    rw [e2]
    simpa [toList_madeCells_one, Value.cells] using hown1
  have hbw1 : Below w.heap.size w w1 := (Below.refl _ _).grown hg1 (Nat.le_refl _) (by simp)
  have HI := Lib.hid hin
  clear hin hown1 hg1
  go_wp2
  go_loopw [10] (fun i wr => ∃ n : Nat, n ≤ l.length ∧ i = .int .i64 n ∧ OwnL wr w.heap.size 4 1 (.slice (some ⟨w.heap.size, 0, none⟩) (N + 1) (N + 1)) bcell (markRow (l.take n) N ld tr) ∧ Below w.heap.size w wr) (fun i _ => l.length - (intOf i).toNat)
  case atStart => exact ⟨0, Nat.zero_le _, rfl, HI.out, hbw1⟩
  case round =>
    clear HI hbw1
    obtain ⟨n, hnl, rfl, hown, hb⟩ := hrel
    have HO := Lib.hid hown
    clear hown
    by_cases hlt : n < l.length
    · obtain ⟨b, off, rfl, hB, h0, -, h2, -, -, -, -, -, -⟩ := (HR.out.below hb (Nat.le_refl _)).ev hlt
      obtain ⟨e1, e2⟩ := HE.out l[n] (List.getElem_mem hlt)
      go_wp2_with fail
      refine (refWeight_any _ _).mono ?_
      rintro e w' ⟨rfl, rfl⟩
      by_cases hz : (weightOf l[n].kind == 0) = true
      · go_wp2
        go_roundw
        case rel => exact ⟨n + 1, by omega, by go_num, by rw [markRow_skip l N ld tr n hlt (by simpa using hz)]; exact HO.out, hb⟩
        case measure => simp [intOf]; omega
      · have hz' : (weightOf l[n].kind == 0) = false := by simpa using hz
        clear hz
        obtain ⟨wo, rfl⟩ : ∃ wo : World, wo = wr := ⟨_, rfl⟩
        go_wp2
        go_loopw [12] (fun k wr => ∃ j : Nat, j ≤ N ∧ k = .int .i64 j ∧ OwnL wr w.heap.size 4 1 (.slice (some ⟨w.heap.size, 0, none⟩) (N + 1) (N + 1)) bcell (markRowTo (l.take n) l[n] N j ld tr) ∧ Below w.heap.size w wr) (fun k _ => N - (intOf k).toNat)
        case atStart => exact ⟨0, Nat.zero_le _, rfl, by rw [markRow_start]; exact HO.out, hb⟩
        case round =>
          clear HO h0 h2 hb
          obtain ⟨j, hj, rfl, hown, hb⟩ := hrel
          by_cases hjN : j < N
          · have hc := hown.one (h := Value.bool) (fun _ => rfl) (k := j) (by rw [markRowTo_length]; omega)
            have hf := hown.frozen j
            have hlen : j < (markRowTo (l.take n) l[n] N j ld tr).length := by rw [markRowTo_length]; omega
            have HO := Lib.hid hown
            clear hown
            obtain ⟨v0, hv0⟩ : ∃ v0, v0 = Value.bool (markRowTo (l.take n) l[n] N j ld tr)[j] := ⟨_, rfl⟩
            rw [← hv0] at hc
            clear hv0
            go_wp2
            · go_roundw
              case rel =>
                refine ⟨j + 1, by omega, by go_num, ?_, bSet hb (Nat.le_refl _) _⟩
                rw [← markRow_in _ _ _ _ _ _ hjN (by simp only [inSpan, decide_eq_true_eq]; exact ⟨by assumption, by assumption⟩)]
                exact HO.out.set1 (h := Value.bool) (fun _ => rfl) hlen true
              case measure => simp [intOf]; omega
            all_goals
              go_roundw
              case rel =>
                refine ⟨j + 1, by omega, by go_num, ?_, hb⟩
                rw [← markRow_out _ _ _ _ _ _ (by simp only [inSpan, decide_eq_false_iff_not]; omega)]
                exact HO.out
              case measure => simp [intOf]; omega
          · obtain rfl : j = N := by omega
            have HO := Lib.hid hown
            clear hown
            go_wp2
            go_roundw
            case rel => exact ⟨n + 1, by omega, by go_num, by rw [markRow_done l j ld tr n hlt hz']; exact HO.out, hb⟩
            case measure => simp [intOf]; omega
    · have hkl : l.take n = l := List.take_of_length_le (by omega)
      rw [hkl] at HO
      clear hkl hnl
      go_wp2
      generalize hm : marks l ld tr = m
      go_loopw [13, 14] (fun v i wr => ∃ k : Nat, k ≤ N ∧ i = .int .i64 k ∧ ∃ A' cp, v = .slice A' (runsTo m k).length cp ∧ OwnL wr w.heap.size 52 3 (.slice A' (runsTo m k).length cp) Cut.cells (runsTo m k) ∧
        OwnL wr w.heap.size 4 1 (.slice (some ⟨w.heap.size, 0, none⟩) (N + 1) (N + 1)) bcell (markRow l N ld tr) ∧ Below w.heap.size w wr) (fun _ i _ => N - (intOf i).toNat)
      case atStart =>
        refine ⟨0, Nat.zero_le _, rfl, some ⟨wr.heap.size, 0, none⟩, 0, rfl, OwnL.lit [] #[] hb.size (by simp) Cut.cells_length rfl rfl rfl, HO.out.alloc _, bAlloc hb _⟩
      case round =>
        clear HO hb
        obtain ⟨k, hkN, rfl, A', cp, rfl, hout, hin, hb⟩ := hrel
        have hrl := runsTo_length m k
        by_cases hlt : k < N
        · have hc0 := hin.one (h := Value.bool) (fun _ => rfl) (k := k) (by rw [markRow_length]; omega)
          have hg0 : (markRow l N ld tr)[k]'(by rw [markRow_length]; omega) = m k := by
            simp only [markRow]
            rw [rowOf_get, hm]; simp [hlt]
          rw [hg0] at hc0
          by_cases hmk : m k = true
          · rw [hmk] at hc0
            by_cases hpr : k = 0 ∨ m (k - 1) = false
            · have HO := Lib.hid hout
              have HI := Lib.hid hin
              have hm := Lib.hid hm
              clear hout hin
              by_cases hk0 : k = 0
              · subst hk0
                go_wp2_with (at_builtin; refine wpList_append_own _ rfl (.tmp 82) (.tmp 86) 31 rfl w.heap.size 52 ic _ 3 24 Tryd.underlying31 hic hcz hc1 hc2 rfl (by decide) (.slice A' (runsTo m 0).length cp) (runsTo m 0).length ((runsTo m 0).flatMap Cut.cells) rfl ?c0 ⟨wr.heap.size, 0, none⟩ 1 1 (Cut.cells (⟨0, 0, 0⟩ : Cut)) rfl rfl ?c1 ?c2 ?c3 ?c4 ?c5 ?_)
                case c0 => exact HO.out.alloc _
                case c1 => exact fun j u hu => hu
                case c2 => intro u hu; simp only [Cut.cells, List.mem_cons, List.not_mem_nil, or_false] at hu; rcases hu with rfl | rfl | rfl <;> rfl
                case c3 => simp [maxLen]; omega
                case c4 => omega
                case c5 => have := hb.size; simp; omega
                intro v' w' hown' hgr hnil
                have hw2 : OwnL w' w.heap.size 52 3 v' Cut.cells (runsTo m 0 ++ [(⟨0, 0, 0⟩ : Cut)]) := by
                  unfold OwnL
                  simpa using hown'
                have hin2 : OwnL w' w.heap.size 4 1 (.slice (some ⟨w.heap.size, 0, none⟩) (N + 1) (N + 1)) bcell (markRow l N ld tr) := by
                  refine (HI.out.alloc _).kept hgr (.inr ?_)
                  intro e
                  exact absurd e.symm (HO.out.apart HI.out (by decide) rfl)
                have hb2 : Below w.heap.size w w' := Below.grown (bAlloc hb _) hgr (by have := hb.size; simp; omega) HO.out.base_le
                clear hown' hgr hnil
                obtain ⟨g', cap', rfl, hbg, hlg⟩ := hw2.form (by simp)
                have hst : runsTo m (0 + 1) = (runsTo m 0 ++ [(⟨0, 0, 0⟩ : Cut)]).set (runsTo m 0).length (⟨0, 0 + 1, 0⟩ : Cut) := by
                  simp [runsTo, hmk]
                have hc3 := hw2.cell Cut.cells_length (k := (runsTo m 0).length) (j := 1) (u := .int .i64 0) (by simp) (by simp [Cut.cells])
                have hf3 := hw2.frozen ((runsTo m 0).length * 3 + 1)
                have hcc := hin2.one (h := Value.bool) (fun _ => rfl) (k := 0) (by rw [markRow_length]; omega)
                rw [hg0, hmk] at hcc
                have HS := Lib.hid hst
                have HW := Lib.hid hw2
                have HI2 := Lib.hid hin2
                clear hst hw2 hin2
                simp only [List.length_append, List.length_cons, List.length_nil, Nat.zero_add] at *
                go_wp2
                go_roundw
                case rel =>
                  refine ⟨1, by omega, rfl, some ⟨g', 0, none⟩, cap', by rw [HS.out]; simp, ?_, ?_, ?_⟩
                  · have h5 := HW.out.set Cut.cells_length (k := (runsTo m 0).length) (j := 1) (u := .int .i64 (0 + 1)) (a := (⟨0, 0 + 1, 0⟩ : Cut)) (by simp) (by omega) (by simp [Cut.cells])
                    rw [HS.out]
                    simpa using h5
                  · exact HI2.out.farG (HI2.out.apart HW.out (by decide) rfl) _ _
                  · exact bSetG hb2 hbg _ _
                case measure => simp [intOf]; omega
              · have hk0' : ((k : Int) == 0) = false := by simpa using hk0
                have hk1 : 1 ≤ k := by omega
                have hcp := HI.out.one (h := Value.bool) (fun _ => rfl) (k := k - 1) (by rw [markRow_length]; omega)
                have hgp : (markRow l N ld tr)[k - 1]'(by rw [markRow_length]; omega) = false := by
                  simp only [markRow]
                  rw [rowOf_get, hm.out]
                  have h6 : m (k - 1) = false := by rcases hpr with h | h; exact absurd h hk0; exact h
                  simp [h6]
                rw [hgp] at hcp
                go_wp2_with (at_builtin; refine wpList_append_own _ rfl (.tmp 82) (.tmp 86) 31 rfl w.heap.size 52 ic _ 3 24 Tryd.underlying31 hic hcz hc1 hc2 rfl (by decide) (.slice A' (runsTo m k).length cp) (runsTo m k).length ((runsTo m k).flatMap Cut.cells) rfl ?c0 ⟨wr.heap.size, 0, none⟩ 1 1 (Cut.cells (⟨(k : Int), (k : Int), 0⟩ : Cut)) rfl rfl ?c1 ?c2 ?c3 ?c4 ?c5 ?_)
                case c0 => exact HO.out.alloc _
                case c1 => exact cell_new_row _ #[.int .i64 (k : Int), .int .i64 (k : Int), .int .i64 0] 52 _ rfl
                case c2 => intro u hu; simp only [Cut.cells, List.mem_cons, List.not_mem_nil, or_false] at hu; rcases hu with rfl | rfl | rfl <;> rfl
                case c3 => simp [maxLen]; omega
                case c4 => omega
                case c5 => have := hb.size; simp; omega
                intro v' w' hown' hgr hnil
                have hw2 : OwnL w' w.heap.size 52 3 v' Cut.cells (runsTo m k ++ [(⟨(k : Int), (k : Int), 0⟩ : Cut)]) := by
                  unfold OwnL
                  simpa using hown'
                have hin2 : OwnL w' w.heap.size 4 1 (.slice (some ⟨w.heap.size, 0, none⟩) (N + 1) (N + 1)) bcell (markRow l N ld tr) := by
                  refine (HI.out.alloc _).kept hgr (.inr ?_)
                  intro e
                  exact absurd e.symm (HO.out.apart HI.out (by decide) rfl)
                have hb2 : Below w.heap.size w w' := Below.grown (bAlloc hb _) hgr (by have := hb.size; simp; omega) HO.out.base_le
                clear hown' hgr hnil
                obtain ⟨g', cap', rfl, hbg, hlg⟩ := hw2.form (by simp)
                have hst : runsTo m (k + 1) = (runsTo m k ++ [(⟨(k : Int), (k : Int), 0⟩ : Cut)]).set (runsTo m k).length (⟨(k : Int), (k : Int) + 1, 0⟩ : Cut) := by
                  rw [runsTo, if_pos hmk, if_pos hpr]; simp
                have hc3 := hw2.cell Cut.cells_length (k := (runsTo m k).length) (j := 1) (u := .int .i64 (k : Int)) (by simp) (by simp [Cut.cells])
                have hf3 := hw2.frozen ((runsTo m k).length * 3 + 1)
                have hcc := hin2.one (h := Value.bool) (fun _ => rfl) (k := k) (by rw [markRow_length]; omega)
                rw [hg0, hmk] at hcc
                have HS := Lib.hid hst
                have HW := Lib.hid hw2
                have HI2 := Lib.hid hin2
                clear hst hw2 hin2
                simp only [List.length_append, List.length_cons, List.length_nil, Nat.zero_add] at *
                go_wp2
                go_roundw
                case rel =>
                  refine ⟨k + 1, by omega, by go_num, some ⟨g', 0, none⟩, cap', by rw [HS.out]; simp, ?_, ?_, ?_⟩
                  · have h5 := HW.out.set Cut.cells_length (k := (runsTo m k).length) (j := 1) (u := .int .i64 ((k : Int) + 1)) (a := (⟨(k : Int), (k : Int) + 1, 0⟩ : Cut)) (by simp) (by omega) (by simp [Cut.cells])
                    rw [HS.out]
                    simpa using h5
                  · exact HI2.out.farG (HI2.out.apart HW.out (by decide) rfl) _ _
                  · exact bSetG hb2 hbg _ _
                case measure => simp [intOf]; omega
            · rw [not_or] at hpr
              obtain ⟨hk0, hmp⟩ := hpr
              have hmp : m (k - 1) = true := by simpa using hmp
              have hk0' : ((k : Int) == 0) = false := by simpa using hk0
              have hk1 : 1 ≤ k := by omega
              have hcp := hin.one (h := Value.bool) (fun _ => rfl) (k := k - 1) (by rw [markRow_length]; omega)
              have hgp : (markRow l N ld tr)[k - 1]'(by rw [markRow_length]; omega) = true := by
                simp only [markRow]
                rw [rowOf_get, hm]
                simp [hmp]; omega
              rw [hgp] at hcp
              have hne := runsTo_ne m k hk1 hmp
              obtain ⟨R, d, hRd⟩ : ∃ R d, runsTo m k = R ++ [d] := by
                rcases List.eq_nil_or_concat (runsTo m k) with e | ⟨R, d, e⟩
                · exact absurd e hne
                · exact ⟨R, d, by rw [e, List.concat_eq_append]⟩
              have hst : runsTo m (k + 1) = (R ++ [d]).set R.length ⟨d.frm, (k : Int) + 1, d.weight⟩ := by
                rw [runsTo, if_pos hmk, if_neg (by rw [not_or]; exact ⟨hk0, by simpa using hmp⟩), hRd, setTo_snoc]; simp
              rw [hRd] at hout hrl
              rw [hRd]
              obtain ⟨g', rfl, -, hbg, hlg⟩ := hout.formA (by simp)
              have hc3 := hout.cell Cut.cells_length (k := R.length) (j := 1) (u := .int .i64 d.to_) (by simp) (by simp [Cut.cells])
              have hf3 := hout.frozen (R.length * 3 + 1)
              have HS := Lib.hid hst
              have HO := Lib.hid hout
              have HI := Lib.hid hin
              clear hst hout hin hm hne hRd
              simp only [List.length_append, List.length_cons, List.length_nil, Nat.zero_add] at *
              go_wp2
              go_roundw
              case rel =>
                refine ⟨k + 1, by omega, by go_num, some ⟨g', 0, none⟩, cp, by rw [HS.out]; simp, ?_, ?_, ?_⟩
                · have h5 := HO.out.set Cut.cells_length (k := R.length) (j := 1) (u := .int .i64 ((k : Int) + 1)) (a := (⟨d.frm, (k : Int) + 1, d.weight⟩ : Cut)) (by simp) (by omega) (by simp [Cut.cells])
                  rw [HS.out]
                  simpa using h5
                · exact HI.out.farG (HI.out.apart HO.out (by decide) rfl) _ _
                · exact bSetG hb hbg _ _
              case measure => simp [intOf]; omega
          · have hmk' : m k = false := by simpa using hmk
            rw [hmk'] at hc0
            have hst : runsTo m (k + 1) = runsTo m k := by rw [runsTo, if_neg hmk]
            have HS := Lib.hid hst
            have HO := Lib.hid hout
            have HI := Lib.hid hin
            clear hst hout hin hg0 hm
            go_wp2
            go_roundw
            case rel => exact ⟨k + 1, by omega, by go_num, A', cp, by rw [HS.out], by rw [HS.out]; exact HO.out, HI.out, hb⟩
            case measure => simp [intOf]; omega
        · obtain rfl : k = N := by omega
          obtain ⟨R, hR⟩ : ∃ R, R = runsTo m k := ⟨_, rfl⟩
          have hRw : ∀ d ∈ R, d.weight = 0 := by rw [hR]; exact runsTo_weight m k
          have hRef : refCuts l k ld tr = R.map (weigh l) := by rw [refCuts, hm, hR]
          have HRef := Lib.hid hRef
          have HRw := Lib.hid hRw
          rw [← hR] at hout hrl
          rw [← hR]
          have hst : OwnL wr w.heap.size 52 3 (.slice A' R.length cp) Cut.cells (R.map (weigh (l.take 0))) := by
            have e1 : R.map (weigh (l.take 0)) = R := by
              conv => rhs; rw [← List.map_id R]
              refine List.map_congr_left fun d hd => ?_
              simp [weigh, wsum]
            rw [e1]; exact hout
          have HS := Lib.hid hst
          clear hst hout hin hR hRw hRef hm
          go_wp2
          go_loopw [15] (fun i wr => ∃ n : Nat, n ≤ l.length ∧ i = .int .i64 n ∧ OwnL wr w.heap.size 52 3 (.slice A' R.length cp) Cut.cells (R.map (weigh (l.take n))) ∧ Below w.heap.size w wr) (fun i _ => l.length - (intOf i).toNat)
          case atStart => exact ⟨0, Nat.zero_le _, rfl, HS.out, hb⟩
          case round =>
            clear HS hb
            obtain ⟨n, hnl, rfl, hown, hb⟩ := hrel
            have HO := Lib.hid hown
            clear hown
            by_cases hlt : n < l.length
            · obtain ⟨wo, rfl⟩ : ∃ wo : World, wo = wr := ⟨_, rfl⟩
              go_wp2
              go_loopw [16] (fun i wr => ∃ j : Nat, j ≤ R.length ∧ i = .int .i64 j ∧ OwnL wr w.heap.size 52 3 (.slice A' R.length cp) Cut.cells (mixed (weigh (l.take (n + 1))) (weigh (l.take n)) R j) ∧ Below w.heap.size w wr) (fun i _ => R.length - (intOf i).toNat)
              case atStart => exact ⟨0, Nat.zero_le _, rfl, by rw [mixed_zero]; exact HO.out, hb⟩
              case round =>
                clear HO hb
                obtain ⟨j, hjl, rfl, hown, hb⟩ := hrel
                by_cases hjR : j < R.length
                · obtain ⟨b, off, rfl, hB, h0, -, h2, -, -, -, -, -, -⟩ := (HR.out.below hb (Nat.le_refl _)).ev hlt
                  have hml : (mixed (weigh (l.take (n + 1))) (weigh (l.take n)) R j).length = R.length := mixed_length _ _ _ _
                  obtain ⟨g', rfl, -, hbg, hlg⟩ := hown.formA (by omega)
                  have hgt := mixed_get (weigh (l.take (n + 1))) (weigh (l.take n)) R j hjR (by omega)
                  have k0 := hown.cell Cut.cells_length (k := j) (j := 0) (u := .int .i64 R[j].frm) (by omega) (by rw [hgt]; simp [Cut.cells, weigh])
                  have k1 := hown.cell Cut.cells_length (k := j) (j := 1) (u := .int .i64 R[j].to_) (by omega) (by rw [hgt]; simp [Cut.cells, weigh])
                  have k2 := hown.cell Cut.cells_length (k := j) (j := 2) (u := .int .i64 (R[j].weight + wsum R[j] (l.take n))) (by omega) (by rw [hgt]; simp [Cut.cells, weigh])
                  have f2 := hown.frozen (j * 3 + 2)
                  rw [Nat.add_zero] at k0
                  have hws := wsum_take R[j] l n hlt
                  have hwb := wsum_bd R[j] (l.take n)
                  have hwl : (l.take n).length ≤ 60 := by simp; omega
                  have hr0 := HRw.out R[j] (List.getElem_mem hjR)
                  rw [hr0, Int.zero_add] at k2
                  have hin0 : 0 ≤ wsum R[j] (l.take n) := hwb.1
                  have hin1 : wsum R[j] (l.take n) ≤ 600 := by omega
                  have HO := Lib.hid hown
                  have HG := Lib.hid hgt
                  have HWS := Lib.hid hws
                  have HR0 := Lib.hid hr0
                  clear hown hgt hws hr0 hwb hwl
                  obtain ⟨q1, q2⟩ := weightOf_bd l[n].kind
                  by_cases hc : R[j].frm ≤ l[n].frame
                  · by_cases hd : l[n].frame < R[j].to_
                    · go_wp2
                      go_quiet (fail)
                      go_wp2
                      go_region_with ((go_at_call 8; refine (refWeight_any _ _).mono ?_; rintro e w' ⟨rfl, rfl⟩))
                      all_goals
                        go_wp2
                        go_roundw
                        case rel =>
                          refine ⟨j + 1, by omega, by go_num, ?_, ?_⟩
                          · rw [← mixed_set _ _ R j hjR]
                            have h5 := HO.out.set Cut.cells_length (k := j) (j := 2) (u := .int .i64 (wsum R[j] (l.take n) + weightOf l[n].kind)) (a := weigh (l.take (n + 1)) R[j]) (by omega) (by omega)
                              (by rw [HG.out]; simp [Cut.cells, weigh, HWS.out, HR0.out, hc, hd])
                            exact h5
                          · exact bSetG (below_drewN hb _) hbg _ _
                        case measure => simp [intOf]; omega
                    · go_wp2
                      go_quiet (fail)
                      go_wp2
                      go_roundw
                      case rel =>
                        refine ⟨j + 1, by omega, by go_num, ?_, below_drewN hb _⟩
                        rw [← mixed_same _ _ R j hjR (by simp only [weigh, HWS.out]; rw [if_neg (by omega), Int.add_zero])]
                        exact HO.out
                      case measure => simp [intOf]; omega
                  · have hc' : decide (R[j].frm ≤ l[n].frame) = false := by simpa using hc
                    go_wp2
                    go_quiet (fail)
                    go_wp2
                    go_roundw
                    case rel =>
                      refine ⟨j + 1, by omega, by go_num, ?_, below_drewN hb _⟩
                      rw [← mixed_same _ _ R j hjR (by simp only [weigh, HWS.out]; rw [if_neg (by omega), Int.add_zero])]
                      exact HO.out
                    case measure => simp [intOf]; omega
                · have HO := Lib.hid hown
                  clear hown
                  go_wp2
                  go_roundw
                  case rel =>
                    refine ⟨n + 1, by omega, by go_num, ?_, hb⟩
                    have := HO.out
                    rwa [mixed_all _ _ R j (by omega)] at this
                  case measure => simp [intOf]; omega
            · have hkl : l.take n = l := List.take_of_length_le (by omega)
              rw [hkl] at HO
              clear hkl
              go_wp2
              go_ret
              rw [HRef.out, List.length_map]
              exact ⟨A', cp, rfl, HO.out, hb⟩
end Go.Proofs.YtillajaghkefbaaDoor
