/-
  The walk of wave.Write where it writes.
-/
import Derived.Test.YtmggnadhjgadnaaWaveWalk
import Derived.Deep.RegionHeld3
namespace Go.Proofs.Ytmggnadhjgadnaa
open Go.RowKit

theorem half_str (n : Int) (w : World) : Calls Try.prog 20 #[.int .i64 n] w fun e w' => e = .returned (.string ⟨(le n 2).toArray⟩) ∧ Below w.heap.size w w' := half_any n w
theorem IsB_below {T e : TypeId} {B b : Nat} {bs : List Value} {w w' : World} (h : Lib.IsBuilder T e B b bs w) (hb : Below w.heap.size w w') : Lib.IsBuilder T e B b bs w' := by
  have key : ∀ p, Lib.BuilderAt T e B b p bs w → Lib.BuilderAt T e B b p bs w' := by
    rintro p ⟨h1, v, h2, h3, h4⟩
    have hlt : b < w.heap.size := by
      rcases Nat.lt_or_ge b w.heap.size with h | h
      · exact h
      · rw [Array.getElem?_eq_none h] at h2; cases h2
    refine ⟨h1, v, (hb.block b hlt).trans h2, ?_, h4⟩
    refine World.ownsRow.kept h3 (row := none) ⟨hb.os, hb.tape, hb.output, hb.size, fun k hk _ => hb.block k hk⟩ ?_
    cases hv : v.ownBlock with
    | none => exact .inl rfl
    | some g => exact .inr (by simp)
  rcases h with h | h
  · exact .inl (key _ h)
  · exact .inr (key _ h)

theorem IsB_lt {T e : TypeId} {B b : Nat} {bs : List Value} {w : World} (h : Lib.IsBuilder T e B b bs w) : b < w.heap.size := by
  rcases h with h | h
  · exact h.lt
  · exact h.lt
theorem IsB_alloc {T e : TypeId} {B b : Nat} {bs : List Value} {w : World} (h : Lib.IsBuilder T e B b bs w) (o : Obj) : Lib.IsBuilder T e B b bs (w.alloc o) := IsB_below h (bAlloc (Below.refl _ _) o)
theorem IsB_drew {T e : TypeId} {B b : Nat} {bs : List Value} {w : World} (h : Lib.IsBuilder T e B b bs w) : Lib.IsBuilder T e B b bs w.drew := IsB_below h (Below.refl _ _).drew

set_option maxRecDepth 100000 in
set_option maxHeartbeats 2000000 in
theorem write_ok (A : Option Addr) (c : Nat) (L : List Pr) (r : Int) (w : World) (hn : L.length ≤ 200000) (hr : Rd w w.heap.size A (L.flatMap Pr.cells)) (hok : fitB L r = true) :
    Calls Try.prog 9 #[.slice A L.length c, .int .i64 r] w fun e w' => e = .returned (.tuple #[str (fileL L r), .int .i64 0]) ∧ Below w.heap.size w w' := by
  have HR := Lib.hid hr
  have hrt : 1 ≤ r ∧ r ≤ 192000 := by
    rw [fitB, Bool.and_eq_true] at hok
    simpa [rateB] using hok.1
  have hany : (L.any fun p => !sampB p) = false := by
    rw [fitB, Bool.and_eq_true] at hok
    have := hok.2
    rw [← Bool.not_eq_true, List.any_eq_true]
    rintro ⟨p, hp, h⟩
    rw [List.all_eq_true] at this
    simp [this p hp] at h
  obtain ⟨r1, r2⟩ := hrt
  have HA := Lib.hid hany
  have HL := Lib.hid (headL_length L.length r)
  clear hr hok hany
  go_enter Try.func9, Try.ntmps9
  go_wp2_with fail
  refine (CFsamp_any A c L _ (by omega) HR.out).mono ?_
  rintro e w1 ⟨rfl, hb1⟩
  rw [HA.out]
  go_wp2_with fail
  refine (head_any _ _ _ (by omega) (by omega) (by omega) (by omega)).mono ?_
  rintro e w2 ⟨rfl, hb2⟩
  have hb02 : Below w.heap.size w w2 := (bAlloc hb1 _).trans (hb2.mono (by have := hb1.size; simp; omega))
  have HB2 : Hid (Lib.IsBuilder 42 5 w.heap.size w1.heap.size [] w2) := by
    have h := Lib.fresh_isBuilder 42 5 w1
    have h' : Lib.IsBuilder 42 5 w.heap.size w1.heap.size [] (w1.alloc (.cells #[.pointer none, .slice none 0 0] 42)) := by
      rcases h with ⟨h1, v, h2, h3, h4⟩ | ⟨h1, v, h2, h3, h4⟩
      · exact .inl ⟨hb1.size, v, h2, ⟨h3.1, by
          rcases h3.2 with h | ⟨g, cap, cur, hv, hg, hr⟩
          · exact .inl h
          · exact .inr ⟨g, cap, cur, hv, Nat.le_trans hb1.size hg, hr⟩⟩, h4⟩
      · exact .inr ⟨hb1.size, v, h2, ⟨h3.1, by
          rcases h3.2 with h | ⟨g, cap, cur, hv, hg, hr⟩
          · exact .inl h
          · exact .inr ⟨g, cap, cur, hv, Nat.le_trans hb1.size hg, hr⟩⟩, h4⟩
    exact IsB_below h' hb2
  clear hb2
  unfold str
  go_wp2_with fail
  refine (write_any w.heap.size w1.heap.size [] ⟨(headL L.length r).toArray⟩ _ HB2.out (by simp [ByteArray.size, HL.out]) hb02.size).mono ?_
  rintro e w3 ⟨rfl, hbd, hb3, -⟩
  have HB3 : Hid (Lib.IsBuilder 42 5 w.heap.size w1.heap.size (Lib.byteCells (headL L.length r ++ bodyL (L.take 0))) w3) := by
    refine Lib.hid (.inr ?_)
    simpa [bodyL, Lib.strCells_eq] using hbd
  have hb03 : Below w.heap.size w w3 := hb02.trans hb3
  clear hbd hb3 hb02 HB2 hb1
  go_wp2
  go_loopw [33] (fun i wr => ∃ k : Nat, k ≤ L.length ∧ i = .int .i64 k ∧ w1.heap.size < wr.heap.size ∧ Hid (Lib.IsBuilder 42 5 w.heap.size w1.heap.size (Lib.byteCells (headL L.length r ++ bodyL (L.take k))) wr) ∧ Below w.heap.size w wr) (fun i _ => L.length - (intOf i).toNat)
  case atStart => exact ⟨0, Nat.zero_le _, rfl, IsB_lt HB3.out, HB3, hb03⟩
  case round =>
    clear HB3 hb03
    obtain ⟨k, hk, rfl, hw1, hbl, hb⟩ := hrel
    by_cases hlt : k < L.length
    · obtain ⟨b, off, rfl, hB, hc⟩ := (HR.out.below hb (Nat.le_refl _)).at_ Pr.cells_length (by omega) hlt
      have c0 := hc 0 _ rfl
      have c1 := hc 1 _ rfl
      rw [Nat.add_zero] at c0
      clear hc
      have l2 := fun n => le_length n 2
      have HBL := Lib.hid (IsB_alloc hbl.out (.cells #[.int .i64 L[k].x, .int .i64 L[k].y] 24))
      have hzz := hb.size
      have hsn := bodyL_snoc L k hlt
      have HSN := Lib.hid hsn
      have hbl1 : (headL L.length r ++ bodyL (L.take k)).length ≤ 1000000 := by
        rw [List.length_append, HL.out, bodyL_length, List.length_take]; omega
      clear hsn
      go_wp2
      obtain ⟨W0, hW0⟩ : ∃ W0, W0 = (wr.alloc (.cells #[.int .i64 L[k].x, .int .i64 L[k].y] 24)) := ⟨_, rfl⟩
      have f5 : Blk W0 wr.heap.size 24 #[.int .i64 L[k].x, .int .i64 L[k].y] := by rw [hW0]; exact Blk.new _ _ _
      have f0 := f5.cell 0
      have f1 := f5.cell 1
      simp only [List.getElem?_toArray, List.getElem?_cons_succ, List.getElem?_cons_zero] at f0 f1
      have F5 := Lib.hid f5
      clear f5
      have f2 : Hid (Lib.IsBuilder 42 5 w.heap.size w1.heap.size (Lib.byteCells (headL L.length r ++ bodyL (L.take k))) W0) := by rw [hW0]; exact HBL
      have f3 : Hid (Below w.heap.size w W0) := by rw [hW0]; exact Lib.hid (bAlloc hb _)
      have f4 : wr.heap.size < W0.heap.size := by rw [hW0]; simp
      rw [← hW0]
      clear hW0
      have hw : ∀ W', Hid (Lib.IsBuilder 42 5 w.heap.size w1.heap.size (Lib.byteCells (headL L.length r ++ bodyL (L.take k))) W') → Hid (Below w.heap.size w W') →
          Calls Try.prog 18 #[.pointer (some ⟨w1.heap.size, 0, none⟩), .string (⟨(le L[k].x 2).toArray⟩ ++ ⟨(le L[k].y 2).toArray⟩)] W' fun e W'' => (∃ n : Int, e = .returned (.tuple #[.int .i64 n, .nilIface])) ∧ Hid (Lib.IsBuilder 42 5 w.heap.size w1.heap.size (Lib.byteCells (headL L.length r ++ bodyL (L.take (k + 1)))) W'') ∧ Hid (Below w.heap.size w W'') ∧ Hid (∀ g cs T fr, W'.heap[g]? = some (.cells cs T fr) → T ≠ 5 → g ≠ w1.heap.size → W''.heap[g]? = W'.heap[g]?) := fun W' h1 h2 => by
        rw [str_append]
        refine (write_any w.heap.size w1.heap.size _ _ _ h1.out (by rw [Lib.byteCells_length]; simp [ByteArray.size, l2]; simp at hbl1; omega) h2.out.size).mono ?_
        rintro e W'' ⟨rfl, h3, h4, h5⟩
        refine ⟨⟨_, rfl⟩, Lib.hid (.inr ?_), Lib.hid (h2.out.trans h4), Lib.hid h5⟩
        rw [HSN.out, ← List.append_assoc, Lib.byteCells_append]
        exact h3
      have HW := Lib.hid hw
      clear hw
      go_region_held3 (fun w' => w'.cell? ⟨wr.heap.size, 0, none⟩ = some (.int .i64 L[k].x) ∧ w'.cell? ⟨wr.heap.size, 1, none⟩ = some (.int .i64 L[k].y))
        (first | exact ⟨f0, f1⟩ | exact ⟨(F5.out.drew.on hb4).cell 0, (F5.out.drew.on hb4).cell 1⟩ | exact ⟨((F5.out.drew.on hb4).on hb5).cell 0, ((F5.out.drew.on hb4).on hb5).cell 1⟩ | exact ⟨f6.cell 0, f6.cell 1⟩)
        (first
          | (go_at_call 20; (with_reducible refine (half_str L[k].x _).mono ?_); rintro e w4 ⟨rfl, hb4⟩)
          | (go_at_call 20; (with_reducible refine (half_str L[k].y _).mono ?_); rintro e w5 ⟨rfl, hb5⟩)
          | (go_at_call 18; refine (HW.out _ (Lib.hid (IsB_below (IsB_below (IsB_drew f2.out) hb4) hb5)) (Lib.hid (bTrans (bTrans f3.out.drew hb4) hb5))).mono ?_; rintro e w6 ⟨⟨nn, rfl⟩, hbd, hb6, hk6⟩; have f6 : Blk w6 wr.heap.size 24 #[.int .i64 L[k].x, .int .i64 L[k].y] := (hk6.out _ _ _ _ ((F5.out.drew.on hb4).on hb5) (by decide) (by omega)).trans ((F5.out.drew.on hb4).on hb5)))
      go_wp2
      go_roundw
      case rel => exact ⟨k + 1, by omega, by go_num, IsB_lt hbd.out, hbd, hb6.out⟩
      case measure => simp [intOf]; omega
    · have hkl : L.take k = L := List.take_of_length_le (by omega)
      rw [hkl] at hbl
      have HKL := Lib.hid hkl
      clear hkl
      go_wp2_with fail
      refine (Try.Builder_String_any w.heap.size w1.heap.size (headL L.length r ++ bodyL L) _ hbl.out hb.size).mono ?_
      rintro e w4 ⟨rfl, hb4⟩
      go_wp2
      go_ret2
      exact ⟨rfl, hb.trans hb4⟩
end Go.Proofs.Ytmggnadhjgadnaa
