/-
  The walks of the law's own functions: same, awake (for a seat of ReelBest's).
-/
import Derived.Test.YtaegekfdbhmcaaaDoorReelCuts
namespace Go.Proofs.YtaegekfdbhmcaaaDoor
open Go.RowKit

set_option maxRecDepth 100000 in
set_option maxHeartbeats 1000000 in
theorem same_yes (A A2 : Option Addr) (c c2 : Nat) (L : List Cut) (w : World) (hn : L.length ≤ 1000) (h1 : Rd w w.heap.size A (L.flatMap Cut.cells)) (h2 : Rd w w.heap.size A2 (L.flatMap Cut.cells)) :
    Calls Tryd.prog 10 #[.slice A L.length c, .slice A2 L.length c2] w fun e w' => e = .returned (.bool true) ∧ Below w.heap.size w w' := by
  have H1 := Lib.hid h1
  have H2 := Lib.hid h2
  clear h1 h2
  go_enter Tryd.func10, Tryd.ntmps10
  go_wp2
  go_loopw [5] (fun i wr => ∃ k : Nat, k ≤ L.length ∧ i = .int .i64 k ∧ Below w.heap.size w wr) (fun i _ => L.length - (intOf i).toNat)
  case atStart => exact ⟨0, Nat.zero_le _, rfl, Below.refl _ _⟩
  case round =>
    obtain ⟨k, hk, rfl, hb⟩ := hrel
    by_cases hlt : k < L.length
    · obtain ⟨b, off, rfl, hB, hc⟩ := (H1.out.below hb (Nat.le_refl _)).at_ Cut.cells_length (by omega) hlt
      obtain ⟨b2, off2, rfl, hB2, hd⟩ := (H2.out.below hb (Nat.le_refl _)).at_ Cut.cells_length (by omega) hlt
      have c0 := hc 0 _ rfl
      have c1 := hc 1 _ rfl
      have c2 := hc 2 _ rfl
      have d0 := hd 0 _ rfl
      have d1 := hd 1 _ rfl
      have d2 := hd 2 _ rfl
      rw [Nat.add_zero] at c0 d0
      clear hc hd
      go_wp2
      go_quiet (fail)
      go_wp2
      go_roundw
      case rel => exact ⟨k + 1, by omega, by go_num, below_drewN hb _⟩
      case measure => simp [intOf]; omega
    · go_wp2
      go_ret
      exact ⟨rfl, hb⟩

def ev50 : Ev := ⟨50, 0, 5, 0, 0, 0, 0, 0, 0⟩
set_option maxRecDepth 100000 in
set_option maxHeartbeats 1000000 in
theorem awake_any (w : World) (hw : Weights w) :
    Calls Tryd.prog 4 #[] w fun e w' => e = .returned (.bool true) ∧ Below w.heap.size w w' := by
  go_enter Tryd.func4, Tryd.ntmps4
  go_wp2_with fail
  refine (Cuts_yes _ _ [ev50] 100 20 10 _ (hw.on (by repeat (first | exact Below.refl _ _ | (with_reducible assumption) | apply bAlloc | apply below_drewN | apply Below.drew))) (by simp) ?_ (by decide)).mono ?_
  · have := (OwnL.lit (w := w) (base := 0) (E := 45) (m := 9) (f := Ev.cells) [ev50] #[.int .i64 50, .int .i64 0, .int .i64 5, .int .i64 0, .int .i64 0, .int .i64 0, .int .i64 0, .int .i64 0, .int .i64 0] (Nat.zero_le _) (by simp [maxLen]) Ev.cells_length rfl (n := 1) (c := 1) rfl rfl).rd
    exact this
  have hv : cutsOf [ev50] 100 20 10 = [⟨30, 61, 10⟩] := rfl
  rw [hv]
  rintro e w1 ⟨A', cp, rfl, hown, hb⟩
  obtain ⟨g, rfl, -, -, -⟩ := hown.formA (by simp)
  have c0 := hown.cell Cut.cells_length (k := 0) (j := 0) (u := .int .i64 30) (by simp) rfl
  have c1 := hown.cell Cut.cells_length (k := 0) (j := 1) (u := .int .i64 61) (by simp) rfl
  have c2 := hown.cell Cut.cells_length (k := 0) (j := 2) (u := .int .i64 10) (by simp) rfl
  simp only [Nat.zero_mul, Nat.zero_add, List.length_cons, List.length_nil] at c0 c1 c2 ⊢
  clear hv hown
  go_wp2
  go_ret
  exact ⟨rfl, (by repeat (first | exact Below.refl _ _ | (with_reducible assumption) | apply bAlloc | apply below_drewN | apply Below.drew | (refine bTrans ?_ (by with_reducible assumption))))⟩

end Go.Proofs.YtaegekfdbhmcaaaDoor
