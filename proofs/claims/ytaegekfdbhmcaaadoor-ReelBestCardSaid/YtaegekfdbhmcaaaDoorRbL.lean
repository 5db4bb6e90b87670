/-
  The lines of cuts: the program's and the document's.
-/
import Derived.Test.YtaegekfdbhmcaaaDoorRbP
import Derived.Test.YtaegekfdbhmcaaaDoorDigits
import Derived.Test.YtaegekfdbhmcaaaDoorBuild
import Derived.Test.YtaegekfdbhmcaaaDoorMix
import Derived.Deep.Cut
namespace Go.Proofs.YtaegekfdbhmcaaaDoor
open Go.RowKit
set_option maxRecDepth 100000
set_option linter.unusedSimpArgs false
theorem gPow : Tryd.prog.globalNamed "internal/strconv.uint64pow10" = some 1 := by kernel_rfl
/-- The library's table of powers lies there. -/
def Tab (w : World) (B : Nat) : Prop := Lib.TabIs Tryd.prog w "internal/strconv.uint64pow10" .u64 Lib.pow10Tab ∧ 1 < B
theorem Tab.below {w w' : World} {B B' : Nat} (h : Tab w B) (hb : Below B' w w') (hB : B ≤ B') : Tab w' B := ⟨var?_below hb gPow (Nat.lt_of_lt_of_le h.2 hB) h.1, h.2⟩
def decZ (n : Int) : List UInt8 := Lib.decDigits n.toNat
def lineC (r : Cut) : List UInt8 := decZ r.frm ++ ([32] ++ (decZ r.to_ ++ ([32] ++ (decZ r.weight ++ [10]))))
def linesC (l : List Cut) : List UInt8 := l.flatMap lineC
def OkN (r : Cut) : Prop := (0 ≤ r.frm ∧ r.frm ≤ 1099511627776) ∧ (0 ≤ r.to_ ∧ r.to_ ≤ 1099511627776) ∧ (0 ≤ r.weight ∧ r.weight ≤ 1099511627776)
theorem decZ_len {n : Int} (h0 : 0 ≤ n) (h1 : n ≤ 1099511627776) : (decZ n).length ≤ 21 := dec_len _ (by omega)
theorem lineC_len {r : Cut} (h : OkN r) : (lineC r).length ≤ 100 := by
  unfold lineC
  have h0 := decZ_len h.1.1 h.1.2
  have h1 := decZ_len h.2.1.1 h.2.1.2
  have h2 := decZ_len h.2.2.1 h.2.2.2
  simp only [List.length_append, List.length_cons, List.length_nil]
  omega
theorem linesC_len : ∀ (l : List Cut), (∀ r ∈ l, OkN r) → (linesC l).length ≤ 100 * l.length
  | [], _ => by simp [linesC]
  | r :: l, h => by
    have h1 := lineC_len (h r (by simp))
    have h2 := linesC_len l (fun x hx => h x (by simp [hx]))
    unfold linesC at *
    rw [List.flatMap_cons, List.length_append, List.length_cons]
    omega
theorem linesC_snoc (l : List Cut) (k : Nat) (hk : k < l.length) : linesC (l.take (k + 1)) = linesC (l.take k) ++ lineC l[k] := by
  unfold linesC
  rw [List.take_succ_eq_append_getElem hk, List.flatMap_append]
  simp
theorem itoaZ (n : Int) (h0 : 0 ≤ n) (h1 : n ≤ 1099511627776) (w : World) (ht : Tab w w.heap.size) : Calls Tryd.prog 26 #[.int .i64 n] w fun e w' => e = .returned (.string ⟨(decZ n).toArray⟩) ∧ Below w.heap.size w w' := by
  have h := itoa_any n.toNat w (by omega) ht.1
  rw [Int.toNat_of_nonneg h0] at h
  exact h
theorem digZ (n : Int) (h0 : 0 ≤ n) (h1 : n ≤ 1099511627776) (w : World) : Calls Tryd.prog 28 #[.int .i64 n] w fun e w' => e = .returned (.string ⟨(decZ n).toArray⟩) ∧ Below w.heap.size w w' := by
  have h := digits_any n.toNat w (by omega)
  rw [Int.toNat_of_nonneg h0] at h
  exact h
theorem IsB_below {T e : TypeId} {B b : Nat} {bs : List Value} {w w' : World} (h : Lib.IsBuilder T e B b bs w) (hb : Below w.heap.size w w') : Lib.IsBuilder T e B b bs w' := by
  have key : ∀ p, Lib.BuilderAt T e B b p bs w → Lib.BuilderAt T e B b p bs w' := by
    rintro p ⟨h1, v, h2, h3, h4⟩
    have hlt : b < w.heap.size := by
      rcases Nat.lt_or_ge b w.heap.size with h | h
      · exact h
      · rw [Array.getElem?_eq_none h] at h2; cases h2
    refine ⟨h1, v, (hb.block b hlt).trans h2, ?_, h4⟩
    refine World.ownsRow.kept h3 (row := none) ⟨hb.os, hb.tape, hb.output, hb.size, fun k hk _ => hb.block k hk⟩ ?_
    cases hv : v.ownBlock with
    | none => exact .inl rfl
    | some g => exact .inr (by simp)
  rcases h with h | h
  · exact .inl (key _ h)
  · exact .inr (key _ h)
set_option maxHeartbeats 8000000 in
theorem rlines_any (A : Option Addr) (c : Nat) (l : List Cut) (w : World) (hl : l.length ≤ 1000) (hr : Rd w w.heap.size A (l.flatMap Cut.cells)) (hok : ∀ r ∈ l, OkN r) :
    Calls Tryd.prog 14 #[.slice A l.length c] w fun e w' => e = .returned (.string ⟨(linesC l).toArray⟩) ∧ Below w.heap.size w w' := by
  have HR := Lib.hid hr
  have HOK := Lib.hid hok
  have HS := Lib.hid (fun k hk => linesC_snoc l k hk)
  have HL := Lib.hid (fun k => linesC_len (l.take k) (fun r hr => hok r (List.mem_of_mem_take hr)))
  obtain ⟨m, hm⟩ : ∃ m, l.length = m := ⟨_, rfl⟩
  rw [hm] at hl ⊢
  have HM := Lib.hid hm
  clear hr hm hok
  go_enter Tryd.func14, Tryd.ntmps14
  go_wp2_with fail
  go_loopw [3, 4] (fun s v wr => ∃ k : Nat, k ≤ m ∧ v = .int .i64 k ∧ s = .string ⟨(linesC (l.take k)).toArray⟩ ∧ Below w.heap.size w wr) (fun _ v _ => m - (intOf v).toNat)
  case atStart => exact ⟨0, Nat.zero_le _, rfl, by simp [linesC], Below.refl _ _⟩
  case round =>
    obtain ⟨k, hk, rfl, rfl, hb⟩ := hrel
    by_cases hlt : k < m
    · have hkL : k < l.length := by rw [HM.out]; exact hlt
      obtain ⟨b0, off, rfl, hB, hc⟩ := (HR.out.below hb (Nat.le_refl _)).at_ Cut.cells_length (by omega) hkL
      have x0 := hc 0 _ rfl
      have x1 := hc 1 _ rfl
      have x2 := hc 2 _ rfl
      rw [Nat.add_zero] at x0
      clear hc
      have hblw := Nat.lt_of_lt_of_le hB hb.size
      have hst := HS.out k hkL
      have hln := HL.out k
      have hokx := HOK.out l[k] (List.getElem_mem hkL)
      obtain ⟨x, hx⟩ : ∃ x, l[k] = x := ⟨_, rfl⟩
      rw [hx] at x0 x1 x2 hst hokx
      obtain ⟨P, hP⟩ : ∃ P, linesC (l.take k) = P := ⟨_, rfl⟩
      rw [hP] at hst hln ⊢
      rw [List.length_take] at hln
      have hpl : P.length ≤ 100000 := by omega
      have HST := Lib.hid hst
      obtain ⟨⟨f0, f1⟩, ⟨a0, a1⟩, ⟨b1, b2⟩⟩ := hokx
      have HD0 := Lib.hid (fun V => digZ x.frm f0 f1 V)
      have HD1 := Lib.hid (fun V => digZ x.to_ a0 a1 V)
      have HD2 := Lib.hid (fun V => digZ x.weight b1 b2 V)
      have l0 := decZ_len f0 f1
      have l1 := decZ_len a0 a1
      have l2 := decZ_len b1 b2
      have HLZ := Lib.hid (show lineC x = decZ x.frm ++ ([32] ++ (decZ x.to_ ++ ([32] ++ (decZ x.weight ++ [10])))) from rfl)
      have HB1 := Lib.hid hb
      have e0 : (0 : Int) ≤ (k : Int) := Int.natCast_nonneg _
      have e1 : (k : Int) < (m : Int) := by omega
      clear hst hx hP hln hb
      go_wp2_with fail
      refine wp_region_mild (by kernel_rfl) (by kernel_rfl) ?_
      repeat (go_big_quiet_step ((go_at_call 28; first | (with_reducible exact mild_of (HD0.out _)) | (with_reducible exact mild_of (HD1.out _)) | (with_reducible exact mild_of (HD2.out _)))))
      refine wpQuiet_nil ?_
      intro w7 hw'
      obtain ⟨⟨wq, k7⟩, hw''⟩ := hw'
      subst hw''
      go_wp2
      go_roundw
      case rel => exact ⟨k + 1, by omega, by go_num, by rw [HST.out, HLZ.out]; simp only [str_append, ← List.append_assoc], bTrans HB1.out k7⟩
      case measure => simp [intOf]; omega
    · obtain rfl : k = m := by omega
      rw [List.take_of_length_le (by rw [HM.out]; exact Nat.le_refl _)]
      go_wp2
      go_ret
      exact ⟨rfl, hb⟩
set_option maxHeartbeats 16000000 in
theorem lines_any (A : Option Addr) (c : Nat) (l : List Cut) (w : World) (hl : l.length ≤ 1000) (hr : Rd w w.heap.size A (l.flatMap Cut.cells)) (hok : ∀ r ∈ l, OkN r) (ht : Tab w w.heap.size) :
    Calls Tryd.prog 13 #[.slice A l.length c] w fun e w' => e = .returned (.string ⟨(linesC l).toArray⟩) ∧ Below w.heap.size w w' := by
  have HR := Lib.hid hr
  have HOK := Lib.hid hok
  have HS := Lib.hid (fun k hk => linesC_snoc l k hk)
  have HL := Lib.hid (fun k => linesC_len (l.take k) (fun r hr => hok r (List.mem_of_mem_take hr)))
  have HTB := Lib.hid ht
  obtain ⟨m, hm⟩ : ∃ m, l.length = m := ⟨_, rfl⟩
  rw [hm] at hl ⊢
  have HM := Lib.hid hm
  clear hr hm hok ht
  go_enter Tryd.func13, Tryd.ntmps13
  go_upto_region 2 with fail
  obtain ⟨W, hW⟩ : ∃ W, W = w.alloc (.cells #[.pointer none, .slice none 0 0] 63) := ⟨_, rfl⟩
  have HQ0 : Hid (Lib.IsBuilder 63 5 w.heap.size w.heap.size (Lib.byteCells (linesC (l.take 0))) W) := Lib.hid (by rw [hW]; exact Lib.fresh_isBuilder 63 5 w)
  have HB0 : Hid (Below w.heap.size w W) := Lib.hid (by rw [hW]; exact bAlloc (Below.refl _ _) _)
  rw [← hW]
  clear hW
  go_wp2_with fail
  go_loopw [8] (fun v wr => ∃ k : Nat, k ≤ m ∧ v = .int .i64 k ∧ Hid (Lib.IsBuilder 63 5 w.heap.size w.heap.size (Lib.byteCells (linesC (l.take k))) wr) ∧ Hid (Below w.heap.size w wr)) (fun v _ => m - (intOf v).toNat)
  case atStart => exact ⟨0, Nat.zero_le _, rfl, HQ0, HB0⟩
  case round =>
    clear HQ0 HB0
    obtain ⟨k, hk, rfl, HQ, HB⟩ := hrel
    by_cases hlt : k < m
    · have hkL : k < l.length := by rw [HM.out]; exact hlt
      obtain ⟨b0, off, rfl, hB, hc⟩ := (HR.out.below HB.out (Nat.le_refl _)).at_ Cut.cells_length (by omega) hkL
      have x0 := hc 0 _ rfl
      have x1 := hc 1 _ rfl
      have x2 := hc 2 _ rfl
      rw [Nat.add_zero] at x0
      clear hc
      have hblw := Nat.lt_of_lt_of_le hB HB.out.size
      have hst := HS.out k hkL
      have hln := HL.out k
      have hokx := HOK.out l[k] (List.getElem_mem hkL)
      obtain ⟨x, hx⟩ : ∃ x, l[k] = x := ⟨_, rfl⟩
      rw [hx] at x0 x1 x2 hst hokx
      obtain ⟨P, hP⟩ : ∃ P, linesC (l.take k) = P := ⟨_, rfl⟩
      rw [hP] at hst hln HQ
      rw [List.length_take] at hln
      have hpl : P.length ≤ 100000 := by omega
      have HST := Lib.hid hst
      have hlz := lineC_len hokx
      obtain ⟨⟨f0, f1⟩, ⟨a0, a1⟩, ⟨b1, b2⟩⟩ := hokx
      have HD0 := Lib.hid (fun V (hV : Below w.heap.size w V) => itoaZ x.frm f0 f1 V (HTB.out.below hV (Nat.le_refl _) |> fun t => ⟨t.1, Nat.lt_of_lt_of_le t.2 hV.size⟩))
      have HD1 := Lib.hid (fun V (hV : Below w.heap.size w V) => itoaZ x.to_ a0 a1 V (HTB.out.below hV (Nat.le_refl _) |> fun t => ⟨t.1, Nat.lt_of_lt_of_le t.2 hV.size⟩))
      have HD2 := Lib.hid (fun V (hV : Below w.heap.size w V) => itoaZ x.weight b1 b2 V (HTB.out.below hV (Nat.le_refl _) |> fun t => ⟨t.1, Nat.lt_of_lt_of_le t.2 hV.size⟩))
      have l0 := decZ_len f0 f1
      have l1 := decZ_len a0 a1
      have l2 := decZ_len b1 b2
      have HLZ := Lib.hid (show lineC x = decZ x.frm ++ ([32] ++ (decZ x.to_ ++ ([32] ++ (decZ x.weight ++ [10])))) from rfl)
      clear hst hx hP hln
      go_upto_region 5 with fail
      obtain ⟨W2, hW2⟩ : ∃ W2, W2 = wr.alloc (.cells #[.int .i64 x.frm, .int .i64 x.to_, .int .i64 x.weight] 48) := ⟨_, rfl⟩
      have HE : Hid (Blk W2 wr.heap.size 48 #[.int .i64 x.frm, .int .i64 x.to_, .int .i64 x.weight]) := Lib.hid (by rw [hW2]; exact Blk.new _ _ _)
      have HB2 : Hid (Below w.heap.size w W2) := Lib.hid (by rw [hW2]; exact bAlloc HB.out _)
      have HQ2 := Lib.hid (show Lib.IsBuilder 63 5 w.heap.size w.heap.size (Lib.byteCells P) W2 by rw [hW2]; exact IsB_below HQ.out (bAlloc (Below.refl wr.heap.size wr) _))
      rw [← hW2]
      clear hW2 HB HQ x0 x1 x2 hblw
      have e0 := HE.out.cell 0
      have e1 := HE.out.cell 1
      have e2 := HE.out.cell 2
      simp only [List.getElem?_toArray, List.getElem?_cons_zero, List.getElem?_cons_succ] at e0 e1 e2
      have el := HE.out.lt
      refine wp_region_mild_tail 14 (by kernel_rfl) (by kernel_rfl) ?_
      simp only [List.take_succ_cons, List.take_zero, List.drop_succ_cons, List.drop_zero]
      repeat (go_big_quiet_step ((go_at_call 26; first | (with_reducible exact mild_of (HD0.out _ (bTrans HB2.out (Ext.below _)))) | (with_reducible exact mild_of (HD1.out _ (bTrans HB2.out (Ext.below _)))) | (with_reducible exact mild_of (HD2.out _ (bTrans HB2.out (Ext.below _)))))))
      refine wpQuiet_nil ?_
      intro w7 hw'
      obtain ⟨⟨wq, k7⟩, hw''⟩ := hw'
      subst hw''
      have HB7 := Lib.hid (bTrans HB2.out k7)
      have HQ7 := Lib.hid (IsB_below HQ2.out k7)
      clear k7
      have hllen : (lineC x).length ≤ 100 := hlz
      rw [HLZ.out] at hllen
      simp only [List.length_append, List.length_cons, List.length_nil] at hllen
      go_wp2_with (first
        | (go_at_call 25; refine (write_any w.heap.size w.heap.size _ _ _ HQ7.out (by rw [Lib.byteCells_length]; simp [ByteArray.size]; omega) HB7.out.size).mono ?_; rintro e w10 ⟨rfl, hbd, hb10, -⟩; have HB10 := Lib.hid (HB7.out.trans hb10); have HQ10 := Lib.hid hbd; clear hb10 hbd))
      have HQN : Hid (Lib.IsBuilder 63 5 w.heap.size w.heap.size (Lib.byteCells (linesC (l.take (k + 1)))) w10) := Lib.hid (.inr (by rw [HST.out, HLZ.out, Lib.byteCells_append]; simpa [Lib.strCells_eq, str_append] using HQ10.out))
      go_roundw
      case rel => exact ⟨k + 1, by omega, by go_num, HQN, HB10⟩
      case measure => simp [intOf]; omega
    · obtain rfl : k = m := by omega
      rw [List.take_of_length_le (by rw [HM.out]; exact Nat.le_refl _)] at HQ
      have HST := Lib.hid (Tryd.Builder_String_any w.heap.size w.heap.size (linesC l) wr HQ.out HB.out.size)
      go_wp2_with (first | (go_at_call 27; refine HST.out.mono ?_; rintro e w4 ⟨rfl, hb4⟩))
      go_ret
      exact ⟨rfl, HB.out.trans hb4⟩
end Go.Proofs.YtaegekfdbhmcaaaDoor
