/-
  strings.Builder's WriteByte.
-/
import Derived.Test.YtlonefjbcooaaaaDoorBuild
import Derived.Test.YtlonefjbcooaaaaDoorAppAny
import Derived.Test.YtlonefjbcooaaaaDoorMix
namespace Go.Proofs.YtlonefjbcooaaaaDoor
open Go.RowKit
set_option maxHeartbeats 2000000 in
set_option maxRecDepth 100000 in
theorem writeB_any (B b : Nat) (bs : List Value) (x : Int) (w : World) (h : Lib.IsBuilder 63 5 B b bs w) (hlen : bs.length ≤ 1000000000) (hBw : B ≤ w.heap.size) :
    Calls Tryd.prog 44 #[.pointer (some ⟨b, 0, none⟩), .int .u8 x] w fun e w' => e = .returned .nilIface ∧ (Lib.BuilderAt 63 5 B b (.pointer (some ⟨b, 0, none⟩)) (bs ++ [.int .u8 x]) w' ∧ Below B w w' ∧ ∀ g cs T fr, w.heap[g]? = some (.cells cs T fr) → T ≠ 5 → g ≠ b → w'.heap[g]? = w.heap[g]?) := by
  obtain ⟨i0, hi, hz0, hz1, hz2⟩ := info_parts Tryd.infoByte
  have HH := Lib.hid h
  clear h
  go_enter Tryd.func44, Tryd.ntmps44
  go_wp2_with (go_at_call 42; refine (copy_any B b bs _ HH.out).mono ?_)
  rintro e w1 ⟨rfl, h1, hb1, hk1⟩
  obtain ⟨hB, v, hbk, hown, hne⟩ := h1
  have c0 : w1.cell? ⟨b, 0, none⟩ = some (.pointer (some ⟨b, 0, none⟩)) := by rw [Lib.cell_of_heap hbk]; rfl
  have c1 : w1.cell? ⟨b, 1, none⟩ = some v := by rw [Lib.cell_of_heap hbk]; rfl
  have hlt : b < w1.heap.size := by
    rcases Nat.lt_or_ge b w1.heap.size with h' | h'
    · exact h'
    · simp [Array.getElem?_eq_none h'] at hbk
  have HOW := Lib.hid (World.ownsRow.alloc hown (.cells #[.int .u8 x] 5))
  have HRD := Lib.hid (rd_new w1 #[.int .u8 x] 5 _ rfl (w1.heap.size + 1) (Nat.lt_succ_self _))
  have HBK := Lib.hid hbk
  have hbz := hb1.size
  go_wp2_with (at_builtin; refine wpList_append_rd rfl (.tmp 11) (.tmp 13) 61 rfl B 5 i0 _ 1 1 Tryd.underlying61 hi hz0 hz1 hz2 rfl (by decide) v bs.length bs rfl HOW.out (w1.heap.size + 1) _ 1 1 [.int .u8 x] rfl rfl HRD.out (fun e => by cases e) (fun u hu => by rw [List.mem_singleton.1 hu]; rfl) (by unfold maxLen; omega) (by omega) (by simp; omega) ?_)
  intro v' w2 hown' hgrow _
  have hbz1 : (w1.alloc (.cells #[.int .u8 x] 5)).heap[b]? = w1.heap[b]? := Lib.alloc_old w1 _ b hlt
  have hb2 : w2.heap[b]? = some (.cells #[.pointer (some ⟨b, 0, none⟩), v] 63 (0, 0)) := by
    rw [hgrow.block b (by simp; omega) (fun e => hne e.symm), hbz1]
    exact HBK.out
  have d0 : w2.cell? ⟨b, 0, none⟩ = some (.pointer (some ⟨b, 0, none⟩)) := by rw [Lib.cell_of_heap hb2]; rfl
  have d1 : w2.cell? ⟨b, 1, none⟩ = some v := by rw [Lib.cell_of_heap hb2]; rfl
  have f1 : w2.frozen? ⟨b, 1, none⟩ = false := Lib.frozen_of_heap hb2 1
  obtain ⟨ao, n', cap, rfl⟩ : ∃ ao n' cap, v' = .slice ao n' cap := by
    rcases hown'.2 with ⟨hv, _⟩ | ⟨g, cap, cur, hv, _⟩
    · exact ⟨_, _, _, hv⟩
    · exact ⟨_, _, _, hv⟩
  have HK := Lib.hid hk1
  have HG := Lib.hid hgrow
  have HO' := Lib.hid hown'
  have HB2' := Lib.hid hb2
  clear hk1 c0 c1 hbk hb2 hown' hgrow hbz1 hown
  go_wp2
  go_ret
  refine ⟨rfl, ?_, ?_, ?_⟩
  · exact Lib.BuilderAt.put (T := 63) (e := 5) hB HB2'.out (bs' := bs ++ [.int .u8 x]) (by simpa using HO'.out) (by decide)
  · exact (((Below.alloc hb1 (by omega) _).grown HG.out (by simp; omega) (fun k hk => (HOW.out.lt k hk).1))).setCell (p := ⟨b, 1, none⟩) hB _
  · intro g cs T fr hg hT hgb
    have h1 : w1.heap[g]? = w.heap[g]? := HK.out g hgb
    have hlt1 : g < w1.heap.size := by
      rcases Nat.lt_or_ge g w1.heap.size with h | h
      · exact h
      · rw [hg, Array.getElem?_eq_none h] at h1; cases h1
    rw [Below.heap_setCell w2 ⟨b, 1, none⟩ _ g hgb, HG.out.block g (by simp; omega) ?_, Lib.alloc_old w1 _ g hlt1, h1]
    intro e
    rcases HOW.out.2 with ⟨rfl, _⟩ | ⟨g', cap', cur, rfl, _, hr, _⟩
    · simp [Value.ownBlock] at e
    · simp only [Value.ownBlock, Option.some.injEq] at e
      subst e
      rw [Lib.alloc_old w1 _ g hlt1, h1] at hr
      rw [hg] at hr
      injection hr with hr
      injection hr with _ ht
      exact hT ht
end Go.Proofs.YtlonefjbcooaaaaDoor
