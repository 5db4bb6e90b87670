/-
  The walk of the reference's Write.
-/
import Derived.Test.YtmggnadhjgadnaaWaveRef
import Derived.Test.YtmggnadhjgadnaaMark
namespace Go.Proofs.Ytmggnadhjgadnaa
open Go.RowKit

theorem low_of (n : Int) (size : Nat) (w : World) (h0 : 0 ≤ n) (h1 : n ≤ 1000000000000) (hs1 : 1 ≤ size) (h8 : size ≤ 8) :
    Calls Try.prog 24 #[.int .i64 n, .int .i64 size] w fun e w' => e = .returned (str (le n size)) ∧ Below w.heap.size w w' := low_any n n size w (.inl ⟨h0, rfl⟩) h0 h1 hs1 h8
theorem low_samp (n : Int) (w : World) (h0 : -32768 ≤ n) (h1 : n ≤ 32767) :
    Calls Try.prog 24 #[.int .i64 n, .int .i64 2] w fun e w' => e = .returned (str (le n 2)) ∧ Below w.heap.size w w' := by
  by_cases h : 0 ≤ n
  · exact low_of n 2 w h (by omega) (by decide) (by decide)
  · have := low_any n (n + 65536) 2 w (.inr ⟨by omega, rfl⟩) (by omega) (by omega) (by decide) (by decide)
    rwa [le2_wrap] at this

set_option maxRecDepth 100000 in
set_option maxHeartbeats 1000000 in
theorem rwrite_any (A : Option Addr) (c : Nat) (L : List Pr) (r : Int) (w : World) (hn : L.length ≤ 200000) (hr : Rd w w.heap.size A (L.flatMap Pr.cells)) (h0 : 0 ≤ r) (h1 : r ≤ 1000000) (hs : L.all sampB = true) :
    Calls Try.prog 12 #[.slice A L.length c, .int .i64 r] w fun e w' => e = .returned (str (fileL L r)) ∧ Below w.heap.size w w' := by
  have HR := Lib.hid hr
  have HS := Lib.hid hs
  have HL := Lib.hid (headL_length L.length r)
  clear hr hs
  obtain ⟨ib, hib, hbz, hb1, hb2⟩ := info_parts Try.infoByte
  have l4 := fun n => le_length n 4
  have l2 := fun n => le_length n 2
  go_enter Try.func12, Try.ntmps12
  go_wp2_with fail
  refine (low_of _ 4 _ (by omega) (by omega) (by decide) (by decide)).mono ?_
  rintro e w1 ⟨rfl, hb1⟩
  unfold str
  go_wp2_with fail
  refine (low_of _ 4 _ (by omega) (by omega) (by decide) (by decide)).mono ?_
  rintro e w2 ⟨rfl, hb2⟩
  unfold str
  go_wp2_with fail
  refine (low_of _ 2 _ (by omega) (by omega) (by decide) (by decide)).mono ?_
  rintro e w3 ⟨rfl, hb3⟩
  unfold str
  go_wp2_with fail
  refine (low_of _ 2 _ (by omega) (by omega) (by decide) (by decide)).mono ?_
  rintro e w4 ⟨rfl, hb4⟩
  unfold str
  go_wp2_with fail
  refine (low_of _ 4 _ (by omega) (by omega) (by decide) (by decide)).mono ?_
  rintro e w5 ⟨rfl, hb5⟩
  unfold str
  go_wp2_with fail
  refine (low_of _ 4 _ (by omega) (by omega) (by decide) (by decide)).mono ?_
  rintro e w6 ⟨rfl, hb6⟩
  unfold str
  go_wp2_with fail
  refine (low_of _ 2 _ (by omega) (by omega) (by decide) (by decide)).mono ?_
  rintro e w7 ⟨rfl, hb7⟩
  unfold str
  go_wp2_with fail
  refine (low_of _ 2 _ (by omega) (by omega) (by decide) (by decide)).mono ?_
  rintro e w8 ⟨rfl, hb8⟩
  unfold str
  go_wp2_with fail
  refine (low_of _ 4 _ (by omega) (by omega) (by decide) (by decide)).mono ?_
  rintro e w9 ⟨rfl, hb9⟩
  have hbw : Below w.heap.size w w9 := bTrans (bTrans (bTrans (bTrans (bTrans (bTrans (bTrans (bTrans hb1 hb2) hb3) hb4) hb5) hb6) hb7) hb8) hb9
  clear hb1 hb2 hb3 hb4 hb5 hb6 hb7 hb8 hb9
  obtain ⟨ib, hib, hbz, hb1, hb2⟩ := info_parts Try.infoByte
  unfold str
  have e : ((⟨#[82, 73, 70, 70]⟩ : ByteArray) ++ ⟨(le (36 + 4 * (L.length : Int)) 4).toArray⟩ ++ ⟨#[87, 65, 86, 69, 102, 109, 116, 32]⟩ ++ ⟨(le 16 4).toArray⟩ ++ ⟨(le 1 2).toArray⟩ ++ ⟨(le 2 2).toArray⟩ ++ ⟨(le r 4).toArray⟩ ++ ⟨(le (4 * r) 4).toArray⟩ ++ ⟨(le 4 2).toArray⟩ ++ ⟨(le 16 2).toArray⟩ ++ ⟨#[100, 97, 116, 97]⟩ ++ ⟨(le (4 * (L.length : Int)) 4).toArray⟩) = ⟨(headL L.length r).toArray⟩ := by
    simp only [str_append, headL]
  obtain ⟨v9, wx, hcv, hob, hbx⟩ : ∃ v9 wx, (convert 9 40 (.string ((⟨#[82, 73, 70, 70]⟩ : ByteArray) ++ ⟨(le (36 + 4 * (L.length : Int)) 4).toArray⟩ ++ ⟨#[87, 65, 86, 69, 102, 109, 116, 32]⟩ ++ ⟨(le 16 4).toArray⟩ ++ ⟨(le 1 2).toArray⟩ ++ ⟨(le 2 2).toArray⟩ ++ ⟨(le r 4).toArray⟩ ++ ⟨(le (4 * r) 4).toArray⟩ ++ ⟨(le 4 2).toArray⟩ ++ ⟨(le 16 2).toArray⟩ ++ ⟨#[100, 97, 116, 97]⟩ ++ ⟨(le (4 * (L.length : Int)) 4).toArray⟩))).run Try.prog w9 = .ok v9 wx ∧ OwnB wx w.heap.size 5 v9 (headL L.length r) ∧ Below w.heap.size w wx := by
    rw [e]
    have hob := OwnB.of_string (w := w9) (base := w.heap.size) (e := 5) ⟨(headL L.length r).toArray⟩ hbw.size (by simp [ByteArray.size, HL.out, maxLen])
    refine ⟨_, _, run_bytes_of_string (P := Try.prog) w9 9 40 5 _ Try.underlying9 Try.underlying40 Try.underlying5, ?_, (hbw.drew).alloc hbw.size _⟩
    simpa using hob
  have HOB := Lib.hid hob
  obtain ⟨A9, n9, c9, rfl⟩ : ∃ A n c, v9 = .slice A n c := by
    obtain ⟨g, cap, cur, fr, hv, -⟩ := hob
    exact ⟨_, _, _, hv⟩
  clear e hob hbw
  go_wp2
  go_loopw [5, 6] (fun v i wr => ∃ k : Nat, k ≤ L.length ∧ i = .int .i64 k ∧ ∃ A' n' cp, v = .slice A' n' cp ∧ OwnB wr w.heap.size 5 (.slice A' n' cp) (headL L.length r ++ bodyL (L.take k)) ∧ Below w.heap.size w wr) (fun _ i _ => L.length - (intOf i).toNat)
  case atStart => exact ⟨0, Nat.zero_le _, rfl, _, _, _, rfl, by simpa [bodyL] using HOB.out, hbx⟩
  case round =>
    clear hcv HOB hbx
    obtain ⟨k, hk, rfl, A', n', cp, rfl, hown, hb⟩ := hrel
    have HO := Lib.hid hown
    clear hown
    by_cases hlt : k < L.length
    · obtain ⟨b, off, rfl, hB, hc⟩ := (HR.out.below hb (Nat.le_refl _)).at_ Pr.cells_length (by omega) hlt
      have c0 := hc 0 _ rfl
      have c1 := hc 1 _ rfl
      rw [Nat.add_zero] at c0
      have hsn := bodyL_snoc L k hlt
      have HSN := Lib.hid hsn
      have hlen : (headL L.length r ++ bodyL (L.take k)).length ≤ 900000 := by
        rw [List.length_append, HL.out, bodyL_length, List.length_take]; omega
      have hsm : -32768 ≤ L[k].x ∧ L[k].x ≤ 32767 ∧ -32768 ≤ L[k].y ∧ L[k].y ≤ 32767 := by
        have := List.all_eq_true.1 HS.out L[k] (List.getElem_mem hlt)
        simpa [sampB] using this
      obtain ⟨s1, s2, s3, s4⟩ := hsm
      clear hc hsn
      go_wp2_with fail
      refine (low_samp _ _ s1 s2).mono ?_
      rintro e w1 ⟨rfl, hbq1⟩
      unfold str
      go_wp2_with (at_builtin; refine wpList_append_ownB (v := .slice A' n' cp) (l := headL L.length r ++ bodyL (L.take k)) (base := w.heap.size) rfl (.tmp 44) (.tmp 50) 40 9 rfl ib Try.underlying40 Try.underlying9 hib hbz hb1 hb2 rfl ?c0 (le L[k].x 2) rfl ?c1 ?c2 ?_)
      case c0 => exact HO.out.below hbq1
      case c1 => rw [l2]; omega
      case c2 => exact Nat.le_trans hb.size hbq1.size
      intro v2 w2 hown2 hgr2
      have hbl2 : Below w.heap.size w w2 := Below.grown (bTrans hb hbq1) hgr2 (Nat.le_trans hb.size hbq1.size) HO.out.base_le
      obtain ⟨A2, n2, cp2, rfl⟩ : ∃ A n c, v2 = .slice A n c := by
        obtain ⟨g, cap, cur, fr, hv, -⟩ := hown2
        exact ⟨_, _, _, hv⟩
      have HO2 := Lib.hid hown2
      have d0 : w2.cell? ⟨b, off + k * 2, none⟩ = some (.int .i64 L[k].x) := by
        obtain ⟨b', off', e, hB', hc'⟩ := (HR.out.below hbl2 (Nat.le_refl _)).at_ Pr.cells_length (by omega) hlt
        simp only [Option.some.injEq, Addr.mk.injEq, and_true] at e
        obtain ⟨rfl, rfl⟩ := e
        exact hc' 0 _ rfl
      have d1 : w2.cell? ⟨b, off + k * 2 + 1, none⟩ = some (.int .i64 L[k].y) := by
        obtain ⟨b', off', e, hB', hc'⟩ := (HR.out.below hbl2 (Nat.le_refl _)).at_ Pr.cells_length (by omega) hlt
        simp only [Option.some.injEq, Addr.mk.injEq, and_true] at e
        obtain ⟨rfl, rfl⟩ := e
        exact hc' 1 _ rfl
      clear hown2 hgr2 hbq1 c0 c1
      go_wp2_with fail
      refine (low_samp _ _ s3 s4).mono ?_
      rintro e w3 ⟨rfl, hbq3⟩
      unfold str
      go_wp2_with (at_builtin; refine wpList_append_ownB (v := .slice A2 n2 cp2) (l := headL L.length r ++ bodyL (L.take k) ++ le L[k].x 2) (base := w.heap.size) rfl (.tmp 52) (.tmp 58) 40 9 rfl ib Try.underlying40 Try.underlying9 hib hbz hb1 hb2 rfl ?e0 (le L[k].y 2) rfl ?e1 ?e2 ?_)
      case e0 => exact (by simpa [List.append_assoc] using HO2.out.below hbq3)
      case e1 => rw [List.length_append, l2, l2]; omega
      case e2 => exact Nat.le_trans hbl2.size hbq3.size
      intro v4 w4 hown4 hgr4
      have hbl4 : Below w.heap.size w w4 := Below.grown (bTrans hbl2 hbq3) hgr4 (Nat.le_trans hbl2.size hbq3.size) HO2.out.base_le
      obtain ⟨A4, n4, cp4, rfl⟩ : ∃ A n c, v4 = .slice A n c := by
        obtain ⟨g, cap, cur, fr, hv, -⟩ := hown4
        exact ⟨_, _, _, hv⟩
      have HO4 : Hid (OwnB w4 w.heap.size 5 (.slice A4 n4 cp4) (headL L.length r ++ bodyL (L.take (k + 1)))) := by
        refine Lib.hid ?_
        rw [HSN.out]
        simpa [List.append_assoc] using hown4
      clear hown4 hgr4 hbq3 d0 d1
      go_wp2
      go_roundw
      case rel => exact ⟨k + 1, by omega, by go_num, A4, n4, cp4, rfl, HO4.out, hbl4⟩
      case measure => simp [intOf]; omega
    · have hkl : L.take k = L := List.take_of_length_le (by omega)
      have hcv : (convert 40 9 (.slice A' n' cp)).run Try.prog wr = .ok (str (fileL L r)) wr := by
        have h2 := HO.out
        rw [hkl] at h2
        obtain ⟨g, rfl, rfl, -, -, hcell⟩ := h2.cell
        exact run_convert_bytes_back (P := Try.prog) wr 40 9 5 ⟨g, 0, none⟩ cp (headL L.length r ++ bodyL L) Try.underlying40 Try.underlying5 Try.underlying9 (fun j hj => by
          rw [Go.WideShapes.add_plain, Nat.zero_add]
          exact hcell j hj)
      clear hkl
      go_wp2
      go_ret
      exact ⟨rfl, hb⟩
end Go.Proofs.Ytmggnadhjgadnaa
