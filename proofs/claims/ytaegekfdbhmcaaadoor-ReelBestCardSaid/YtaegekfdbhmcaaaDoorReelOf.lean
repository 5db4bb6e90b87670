/-
  The walk of the law's 'of': the reel's cuts as the document's.
-/
import Derived.Test.YtaegekfdbhmcaaaDoorReelCut
import Derived.Deep.RegionHeld3
import Derived.StillTactics
namespace Go.Proofs.YtaegekfdbhmcaaaDoor
open Go.RowKit

theorem Tryd.infoRCut2 : (Tryd.prog.info? 32).map (fun i => (i.zero, i.size, i.bytes)) = some (some (.agg #[.int .i64 0, .int .i64 0, .int .i64 0]), 3, 24) := by kernel_rfl

set_option maxRecDepth 100000 in
set_option maxHeartbeats 1600000 in
theorem of_any (A : Option Addr) (c : Nat) (L : List Cut) (w : World) (hn : L.length ≤ 1000) (hr : Rd w w.heap.size A (L.flatMap Cut.cells)) :
    Calls Tryd.prog 5 #[.slice A L.length c] w fun e w' => ∃ A' cp, e = .returned (.slice A' L.length cp) ∧ OwnL w' w.heap.size 32 3 (.slice A' L.length cp) Cut.cells L ∧ Below w.heap.size w w' := by
  have HR := Lib.hid hr
  clear hr
  obtain ⟨i0, hi0, hz0, hz1, hz2⟩ := info_parts Tryd.infoRCut2
  go_enter Tryd.func5, Tryd.ntmps5
  go_wp2
  go_loopw [3, 4] (fun v i wr => ∃ k : Nat, k ≤ L.length ∧ i = .int .i64 k ∧ ∃ A' cp, v = .slice A' k cp ∧ OwnL wr w.heap.size 32 3 (.slice A' k cp) Cut.cells (L.take k) ∧ Below w.heap.size w wr) (fun _ i _ => L.length - (intOf i).toNat)
  case atStart => exact ⟨0, Nat.zero_le _, rfl, _, 0, rfl, OwnL.lit [] #[] (Nat.le_refl _) (by simp) Cut.cells_length rfl rfl rfl, bAlloc (Below.refl _ _) _⟩
  case round =>
    obtain ⟨k, hk, rfl, A', cp, rfl, hown, hb⟩ := hrel
    have hown0 : wr.ownsRow w.heap.size 32 3 (.slice A' k cp) k ((L.take k).flatMap Cut.cells) := by
      have h := hown
      unfold OwnL at h
      rwa [← hown.len] at h
    have HO := Lib.hid hown0
    have hbase := hown.base_le
    clear hown hown0
    by_cases hlt : k < L.length
    · obtain ⟨b, off, rfl, hB, hc⟩ := (HR.out.below hb (Nat.le_refl _)).at_ Cut.cells_length (by omega) hlt
      have c0 := hc 0 _ rfl
      have c1 := hc 1 _ rfl
      have c2 := hc 2 _ rfl
      rw [Nat.add_zero] at c0
      clear hc
      have hab : (Value.slice A' k cp).ownBlock ≠ some b := fun e => by have := hbase b e; omega
      have hBr : b < wr.heap.size := Nat.lt_of_lt_of_le hB hb.size
      have hbs := hb.size
      have hk0 : (0 : Int) ≤ (k : Int) := Int.natCast_nonneg _
      have hk1 : (k : Int) < (L.length : Int) := by omega
      have HBS := Lib.hid hbase
      clear hbase
      go_wp2
      go_region_held3 (fun w' => w'.cell? ⟨b, off + k * 3, none⟩ = some (.int .i64 L[k].frm) ∧ w'.cell? ⟨b, off + k * 3 + 1, none⟩ = some (.int .i64 L[k].to_) ∧ w'.cell? ⟨b, off + k * 3 + 2, none⟩ = some (.int .i64 L[k].weight))
        (first
          | go_keep
          | (go_split_ands
             refine ⟨?_, ?_, ?_⟩
             · (rw [hgrow.cell_far _ (by simp; omega) (Ne.symm hab)]; assumption)
             · (rw [hgrow.cell_far _ (by simp; omega) (Ne.symm hab)]; assumption)
             · (rw [hgrow.cell_far _ (by simp; omega) (Ne.symm hab)]; assumption)))
        ((refine step_append_lies _ (by rfl) _ _ _ (by rfl) w.heap.size 32 i0 _ 3 24 Tryd.underlying24 hi0 hz0 hz1 hz2 rfl (by omega) (.slice A' k cp) k ((L.take k).flatMap Cut.cells) (by rfl) ((HO.out.alloc _).drew)
            ⟨wr.heap.size, 0, none⟩ 1 1 [.int .i64 L[k].frm, .int .i64 L[k].to_, .int .i64 L[k].weight] (by rfl) (by rfl) (World.news_of_block (cs := #[.int .i64 L[k].frm, .int .i64 L[k].to_, .int .i64 L[k].weight]) (t := 32) (fr := (0, 0)) (heap_alloc_new wr _)) (by simp [Value.oneCell'])
            (by omega) (by simp [maxLen]; omega) (by omega) (by simp; omega) (wr.heap.size + 1) (by simp) ?_; intro gg cap w1 hown1 hgrow hat hlt1))
      go_wp2
      go_roundw
      case rel =>
        refine ⟨k + 1, by omega, by go_num, some ⟨gg, 0, none⟩, cap, rfl, ?_, ?_⟩
        · unfold OwnL
          rw [List.take_succ_eq_append_getElem hlt, List.flatMap_append, List.length_append, List.length_take, Nat.min_eq_left hk]
          simpa [Cut.cells] using hown1
        · refine Below.grown (bAlloc hb _).drew hgrow (by simp; omega) HBS.out
      case measure => simp [intOf]; omega
    · obtain rfl : k = L.length := by omega
      have hl : L.take L.length = L := List.take_length
      rw [hl] at HO
      clear hl
      go_wp2
      go_ret
      exact ⟨A', cp, rfl, HO.out, hb⟩
end Go.Proofs.YtaegekfdbhmcaaaDoor
