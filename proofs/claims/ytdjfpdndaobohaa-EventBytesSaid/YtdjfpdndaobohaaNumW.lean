/-
  A number's bytes: the walks of pack's Number and Signed, and of the document's.
-/
import Derived.Test.YtdjfpdndaobohaaNumP
import Derived.Test.YtdjfpdndaobohaaOwn
import Derived.Laws.IdiomStrings
import Derived.Laws.Bits128
import Derived.Laws.BitsAllLaws
import Derived.Maps.OwnIn
import Derived.Maps.AppendAt
namespace Go.Proofs.Ytdjfpdndaobohaa
open Go.RowKit
set_option maxRecDepth 100000
def strN (l : List UInt8) : Value := .string ⟨l.toArray⟩
def bcN (b : UInt8) : List Value := [.int .u8 (b.toNat : Int)]
theorem strN_append (a b : List UInt8) : (⟨a.toArray⟩ : ByteArray) ++ ⟨b.toArray⟩ = ⟨(a ++ b).toArray⟩ := by
  apply ByteArray.ext; simp
theorem Try.infoU8 : (Try.prog.info? 5).map (fun i => (i.zero, i.size, i.bytes)) = some (some (.int .u8 0), 1, 1) := by kernel_rfl
theorem u8_val {n : Nat} (h : n < 256) : ((UInt8.ofNat n).toNat : Int) = n := by rw [u8_nat h]
set_option maxHeartbeats 2000000 in
theorem num_any (N : Nat) (hN : N < 18446744073709551616) (w : World) : Calls Try.prog 41 #[.int .u64 N] w fun e w' => e = .returned (strN (numB N)) ∧ Below w.heap.size w w' := by
  obtain ⟨ib, hib, hbz, hb1, hb2⟩ := info_parts Try.infoU8
  have HL := Lib.hid (numB_le hN)
  go_enter Try.func41, Try.ntmps41
  go_wp2
  go_loopw [0, 3] (fun q v wr => ∃ (n : Nat) (pre : List UInt8), q = .int .u64 n ∧ n ≤ N ∧ Hid (pre ++ numB n = numB N) ∧ ∃ A c, v = .slice A pre.length c ∧ Hid (OwnL wr w.heap.size 5 1 (.slice A pre.length c) bcN pre) ∧ Below w.heap.size w wr) (fun q _ _ => (intOf q).toNat)
  case atStart => exact ⟨N, [], rfl, Nat.le_refl _, Lib.hid rfl, none, 0, rfl, Lib.hid OwnL.nil, Below.refl _ _⟩
  case round =>
    obtain ⟨n, pre, rfl, hn, HP, A, c, rfl, HO, hb⟩ := hrel
    have hlen : pre.length ≤ 10 := by
      have h1 := HL.out
      rw [← HP.out, List.length_append] at h1
      omega
    by_cases h : n < 128
    · have hP := HP.out
      rw [numB_small h] at hP
      have HP2 := Lib.hid hP
      have hv : ((UInt8.ofNat n).toNat : Int) = n := u8_val (by omega)
      have HV := Lib.hid hv
      clear hP hv HP
      go_wp2_with (at_builtin; refine wpList_append_own _ rfl (.tmp 15) (.tmp 18) 91 rfl w.heap.size 5 ib _ 1 1 Try.underlying91 hib hbz hb1 hb2 rfl (by decide) (.slice A pre.length c) pre.length (pre.flatMap bcN) rfl ?c0 ⟨wr.heap.size, 0, none⟩ 1 1 [.int .u8 (UInt8.ofNat n).toNat] rfl rfl ?c1 ?c2 ?c3 ?c4 ?c5 ?_)
      case c0 => exact World.ownsRow.alloc HO.out _
      case c1 => rw [HV.out]; exact cell_new_row wr #[.int .u8 n] 5 _ rfl
      case c2 => simp [Value.oneCell']
      case c3 => simp [maxLen]; omega
      case c4 => omega
      case c5 => have := hb.size; simp; omega
      intro v' w' hown' hgr hnil
      have hb3 : Below w.heap.size w w' := Below.grown (bAlloc hb _) hgr (by have := hb.size; simp; omega) HO.out.base_le
      have hw2 : OwnL w' w.heap.size 5 1 v' bcN (numB N) := by
        unfold OwnL
        rw [← HP2.out, List.length_append, List.flatMap_append]
        simpa [bcN] using hown'
      obtain ⟨A2, c2, hv2⟩ := hw2.shape
      subst hv2
      have hpos : 0 < (numB N).length := by rw [← HP2.out]; simp
      have hcv : (convert 91 9 (.slice A2 (numB N).length c2)).run Try.prog w' = .ok (strN (numB N)) w' := by
        obtain ⟨g, rfl, -, -, -⟩ := hw2.formA hpos
        exact run_convert_bytes_back (P := Try.prog) w' 91 9 5 ⟨g, 0, none⟩ c2 (numB N) Try.underlying91 Try.underlying5 Try.underlying9 (fun k hk => by
          rw [Go.WideShapes.add_plain, Nat.zero_add]
          exact hw2.one (h := fun b : UInt8 => Value.int .u8 (b.toNat : Int)) (fun _ => rfl) hk)
      clear hown' hgr hnil hw2
      go_wp2
      go_ret
      exact ⟨rfl, hb3⟩
    · have hP := HP.out
      rw [numB_big h] at hP
      have HP2 := Lib.hid hP
      have hv : ((UInt8.ofNat (128 + n % 128)).toNat : Int) = (n : Int) % 128 + 128 := by rw [u8_val (by omega)]; omega
      have HV := Lib.hid hv
      have hor : bits .or .u8 ((n : Int) % 128) 128 = (n : Int) % 128 + 128 := u8_or128_right _ (by omega) (by omega)
      clear hP hv HP
      go_wp2_with (at_builtin; refine wpList_append_own _ rfl (.tmp 8) (.tmp 13) 91 rfl w.heap.size 5 ib _ 1 1 Try.underlying91 hib hbz hb1 hb2 rfl (by decide) (.slice A pre.length c) pre.length (pre.flatMap bcN) rfl ?c0 ⟨wr.heap.size, 0, none⟩ 1 1 [.int .u8 (UInt8.ofNat (128 + n % 128)).toNat] rfl rfl ?c1 ?c2 ?c3 ?c4 ?c5 ?_)
      case c0 => exact World.ownsRow.alloc HO.out _
      case c1 => rw [HV.out]; exact cell_new_row wr #[.int .u8 ((n : Int) % 128 + 128)] 5 _ rfl
      case c2 => simp [Value.oneCell']
      case c3 => simp [maxLen]; omega
      case c4 => omega
      case c5 => have := hb.size; simp; omega
      intro v' w' hown' hgr hnil
      have hb3 : Below w.heap.size w w' := Below.grown (bAlloc hb _) hgr (by have := hb.size; simp; omega) HO.out.base_le
      have hw2 : OwnL w' w.heap.size 5 1 v' bcN (pre ++ [UInt8.ofNat (128 + n % 128)]) := by
        unfold OwnL
        rw [List.length_append, List.flatMap_append]
        simpa [bcN] using hown'
      obtain ⟨A2, c2, hv2⟩ := hw2.shape
      subst hv2
      have HW2 := Lib.hid hw2
      have HP3 : Hid ((pre ++ [UInt8.ofNat (128 + n % 128)]) ++ numB (n / 128) = numB N) := Lib.hid (by rw [← HP2.out]; simp)
      clear hown' hgr hnil hw2
      go_wp2
      go_roundw
      case rel => exact ⟨n / 128, pre ++ [UInt8.ofNat (128 + n % 128)], by go_num, by omega, HP3, A2, c2, rfl, HW2, hb3⟩
      case measure => simp [intOf]; omega
set_option maxHeartbeats 2000000 in
theorem rnum_any (N : Nat) (hN : N < 18446744073709551616) (w : World) : Calls Try.prog 43 #[.int .u64 N] w fun e w' => e = .returned (strN (numB N)) ∧ Below w.heap.size w w' := by
  obtain ⟨ib, hib, hbz, hb1, hb2⟩ := info_parts Try.infoU8
  have HL := Lib.hid (numB_le hN)
  go_enter Try.func43, Try.ntmps43
  go_wp2
  go_loopw [0, 3] (fun q v wr => ∃ (n : Nat) (pre : List UInt8), q = .int .u64 n ∧ n ≤ N ∧ Hid (pre ++ numB n = numB N) ∧ v = .string ⟨pre.toArray⟩ ∧ Below w.heap.size w wr) (fun q _ _ => (intOf q).toNat)
  case atStart => exact ⟨N, [], rfl, Nat.le_refl _, Lib.hid rfl, rfl, Below.refl _ _⟩
  case round =>
    obtain ⟨n, pre, rfl, hn, HP, rfl, hb⟩ := hrel
    have hlen : pre.length ≤ 10 := by
      have h1 := HL.out
      rw [← HP.out, List.length_append] at h1
      omega
    by_cases h : n < 128
    · have hP := HP.out
      rw [numB_small h] at hP
      have HP2 := Lib.hid hP
      have hcv : (convert 91 9 (.slice (some ⟨wr.heap.size, 0, none⟩) 1 1)).run Try.prog (wr.alloc (.cells #[.int .u8 n] 5)) = .ok (.string ⟨[UInt8.ofNat n].toArray⟩) (wr.alloc (.cells #[.int .u8 n] 5)) :=
        run_convert_bytes_back (P := Try.prog) _ 91 9 5 ⟨wr.heap.size, 0, none⟩ 1 [UInt8.ofNat n] Try.underlying91 Try.underlying5 Try.underlying9 (fun k hk => by
          simp at hk; subst hk
          rw [Go.WideShapes.add_plain]
          exact cell_new_row2 wr #[.int .u8 n] 5 _ rfl 0 _ (by simp; omega))
      clear hP HP
      go_wp2
      go_ret
      exact ⟨by rw [strN_append, HP2.out]; rfl, (by repeat (first | exact Below.refl _ _ | (with_reducible assumption) | apply bAlloc | apply below_drewN | apply Below.drew | (refine bSetG ?_ (by first | omega | (simp; omega)) _ _) | (refine bTrans ?_ (by with_reducible assumption))))⟩
    · have hP := HP.out
      rw [numB_big h] at hP
      have HP2 := Lib.hid hP
      have hcv : (convert 91 9 (.slice (some ⟨wr.heap.size, 0, none⟩) 1 1)).run Try.prog (wr.alloc (.cells #[.int .u8 (128 + (n : Int) % 128)] 5)) = .ok (.string ⟨[UInt8.ofNat (128 + n % 128)].toArray⟩) (wr.alloc (.cells #[.int .u8 (128 + (n : Int) % 128)] 5)) :=
        run_convert_bytes_back (P := Try.prog) _ 91 9 5 ⟨wr.heap.size, 0, none⟩ 1 [UInt8.ofNat (128 + n % 128)] Try.underlying91 Try.underlying5 Try.underlying9 (fun k hk => by
          simp at hk; subst hk
          rw [Go.WideShapes.add_plain]
          refine cell_new_row2 wr #[.int .u8 (128 + (n : Int) % 128)] 5 _ rfl 0 _ ?_
          simp; omega)
      obtain ⟨y, hy⟩ : ∃ y, UInt8.ofNat (128 + n % 128) = y := ⟨_, rfl⟩
      rw [hy] at hcv HP2
      have HP3 : Hid ((pre ++ [y]) ++ numB (n / 128) = numB N) := Lib.hid (by rw [← HP2.out]; simp)
      clear hP HP hy
      go_wp2
      go_roundw
      case rel => exact ⟨n / 128, pre ++ [y], by go_num, by omega, HP3, by rw [strN_append], (by repeat (first | exact Below.refl _ _ | (with_reducible assumption) | apply bAlloc | apply below_drewN | apply Below.drew | (refine bSetG ?_ (by first | omega | (simp; omega)) _ _) | (refine bTrans ?_ (by with_reducible assumption))))⟩
      case measure => simp [intOf]; omega
end Go.Proofs.Ytdjfpdndaobohaa
