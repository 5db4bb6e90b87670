/-
  script.line: words and numbers.
-/
import Derived.Test.YtlonefjbcooaaaaDoorScPp
import Derived.Lib.JoinSame
namespace Go.Proofs.YtlonefjbcooaaaaDoor
open Go.RowKit
set_option maxRecDepth 100000
set_option linter.unusedSimpArgs false
def zF (n : Int) : List Value := [.int .i64 n]
theorem zF_length (n : Int) : (zF n).length = 1 := rfl
theorem appZ : AppT 49 3 1 zF := ⟨Tryd.underlying49, infoI, zF_length, fun a u hu => by simp only [zF, List.mem_singleton] at hu; subst hu; rfl⟩
theorem itoa_int (n : Int) (w : World) (h : IL64 n) (htab : Lib.TabIs Tryd.prog w "internal/strconv.uint64pow10" .u64 Lib.pow10Tab) : Calls Tryd.prog 39 #[.int .i64 n] w fun e w' => e = .returned (.string ⟨(Lib.itoa n).toArray⟩) ∧ Below w.heap.size w w' := by
  refine (Tryd.strconv_Itoa n h.1 h.2 w htab).mono ?_
  rintro e w' ⟨rfl, k, os, rfl⟩
  exact ⟨rfl, grow_below k os⟩
theorem itoa_len (n : Int) (h : IL64 n) : (Lib.itoa n).length ≤ 21 := Lib.itoa_length_le n h.1 h.2
theorem join_len (L : List (List UInt8)) (M : Nat) (h : ∀ l ∈ L, l.length ≤ M) : (Lib.join L [32]).length ≤ (M + 1) * L.length := by
  match L with
  | [] => simp [Lib.join_nil]
  | a :: r =>
    rw [Lib.join_cons, List.length_append]
    have h1 := h a (by simp)
    have h2 : ∀ r : List (List UInt8), (∀ l ∈ r, l.length ≤ M) → (Lib.joinTail [32] r).length ≤ (M + 1) * r.length := by
      intro r
      induction r with
      | nil => simp [Lib.joinTail]
      | cons b t ih =>
        intro hr
        have a1 := hr b (by simp)
        have a2 := ih fun l hl => hr l (List.mem_cons_of_mem _ hl)
        have : Lib.joinTail [32] (b :: t) = 32 :: b ++ Lib.joinTail [32] t := by simp [Lib.joinTail]
        rw [this, List.length_append, List.length_cons, List.length_cons, Nat.mul_add]
        omega
    have := h2 r fun l hl => h l (List.mem_cons_of_mem _ hl)
    rw [List.length_cons, Nat.mul_add]
    omega
theorem lineL_len (name : List UInt8) (ns : List Int) (hm : name.length ≤ 21) (hn : ∀ n ∈ ns, IL64 n) : (lineL name ns).length ≤ 22 * (ns.length + 1) := by
  have := join_len (name :: ns.map Lib.itoa) 21 (fun l hl => by
    rcases List.mem_cons.1 hl with rfl | hl
    · exact hm
    · obtain ⟨n, hn', rfl⟩ := List.mem_map.1 hl
      exact itoa_len n (hn n hn'))
  simpa [lineL] using this
set_option maxHeartbeats 8000000 in
theorem line_any (name : List UInt8) (A : Option Addr) (c : Nat) (ns : List Int) (w : World) (hn : ns.length ≤ 1000) (hm : name.length ≤ 21) (hi : ∀ n ∈ ns, IL64 n) (hr : Rd w w.heap.size A (ns.flatMap zF)) (h : ScW w w.heap.size) :
    Calls Tryd.prog 21 #[.string ⟨name.toArray⟩, .slice A ns.length c] w fun e w' => e = .returned (.string ⟨(lineL name ns).toArray⟩) ∧ Below w.heap.size w w' := by
  have HR := Lib.hid hr
  have HW := Lib.hid h
  have HI := Lib.hid hi
  have HJ := Lib.hid (join_len (name :: ns.map Lib.itoa) 21 (fun l hl => by
    rcases List.mem_cons.1 hl with rfl | hl
    · exact hm
    · obtain ⟨n, hn', rfl⟩ := List.mem_map.1 hl
      exact itoa_len n (hi n hn')))
  obtain ⟨m, hme⟩ : ∃ m, ns.length = m := ⟨_, rfl⟩
  have HM := Lib.hid hme
  rw [hme] at hn ⊢
  clear hr h hi hme hm
  go_enter Tryd.func21, Tryd.ntmps21
  go_wp2_with fail
  go_loopw [5, 12] (fun out i wr => ∃ k : Nat, k ≤ m ∧ i = .int .i64 k ∧ ∃ A' n' c', out = .slice A' n' c' ∧ Hid (OwnL wr w.heap.size 9 1 (.slice A' n' c') sF (name :: (ns.take k).map Lib.itoa)) ∧ Hid (Below w.heap.size w wr)) (fun _ i _ => m - (intOf i).toNat)
  case atStart =>
    exact ⟨0, Nat.zero_le _, rfl, some ⟨w.heap.size, 0, none⟩, 1, 1, rfl, Lib.hid (OwnL.lit [name] _ (Nat.le_refl _) (by simp [maxLen]) sF_length rfl rfl rfl), Lib.hid (bAlloc (Below.refl _ _) _)⟩
  case round =>
    obtain ⟨k, hk, rfl, A', n', c', rfl, HO, HB⟩ := hrel
    by_cases hlt : k < m
    · have hkL : k < ns.length := by rw [HM.out]; exact hlt
      obtain ⟨b, off, rfl, hBb, hc⟩ := (HR.out.below HB.out (Nat.le_refl _)).at_ zF_length (by decide) hkL
      have x0 := hc 0 _ rfl
      rw [Nat.add_zero, Nat.mul_one] at x0
      have htk : ns.take (k + 1) = ns.take k ++ [ns[k]] := List.take_succ_eq_append_getElem hkL
      have hix := HI.out ns[k] (List.getElem_mem hkL)
      obtain ⟨x, hx⟩ : ∃ x, ns[k] = x := ⟨_, rfl⟩
      rw [hx] at x0 htk hix
      have HTK := Lib.hid htk
      have HWr := Lib.hid (HW.out.on HB.out)
      have HC := Lib.hid (itoa_int x wr hix HWr.out.pow)
      have hblw := Nat.lt_of_lt_of_le hBb HB.out.size
      have e0 : (0 : Int) ≤ (k : Int) := Int.natCast_nonneg _
      have e1 : (k : Int) < (m : Int) := by omega
      have hlen := HO.out.len
      simp only [List.length_cons, List.length_map, List.length_take] at hlen
      have HLEN := Lib.hid hlen
      clear hc hx htk hix hlen
      go_wp2_with (first
        | (go_at_call 39; refine HC.out.mono ?_; rintro e w3 ⟨rfl, hb3⟩; have HB3 := Lib.hid hb3; clear hb3; have HO3 := Lib.hid (HO.out.below HB3.out))
        | (at_builtin; refine wpList_app appS rfl (.tmp 16) (.tmp 19) rfl w.heap.size _ (name :: (ns.take k).map Lib.itoa) [Lib.itoa x] (HO3.out.alloc _) rfl _ _ 1 1 rfl rfl (rd_one _ _ _ _ rfl) (by simp; omega) (by have := HB.out.size; have := HB3.out.size; simp; omega) ?_
           intro A8 c8 n8 w8 hn8 ho8 hg8
           have HO8 := Lib.hid ho8
           have HG8 := Lib.hid hg8
           clear ho8 hg8))
      go_roundw
      case rel =>
        refine ⟨k + 1, by omega, by go_num, A8, n8, c8, rfl, Lib.hid ?_, Lib.hid ?_⟩
        · have := HO8.out
          rw [HTK.out, List.map_append, ← List.cons_append]; exact this
        · exact (bAlloc (bTrans HB.out HB3.out) _).grown HG8.out (by have := HB.out.size; have := HB3.out.size; simp; omega) (fun q e => HO.out.base_le q e)
      case measure => simp [intOf]; omega
    · obtain rfl : k = m := by omega
      have ho := HO.out
      rw [List.take_of_length_le (by rw [HM.out]; exact Nat.le_refl _)] at ho
      obtain ⟨g, rfl, hn', hg0, hg⟩ := ho.formA (by simp)
      have hcp := ho.len
      have hcc : n' ≤ c' := by
        rcases ho.2 with ⟨hv, h0⟩ | ⟨g', cap, cur, hv, -, -, hc, -⟩
        · simp at h0
        · simp only [Value.slice.injEq] at hv
          omega
      have hcells : ∀ (j : Nat) x, ((name :: ns.map Lib.itoa).map (fun l => (⟨l.toArray⟩ : ByteArray)))[j]? = some x → wr.cell? ⟨g, 0 + j, none⟩ = some (.string x) := by
        intro j x hx
        rw [Nat.zero_add]
        rw [List.getElem?_map, Option.map_eq_some_iff] at hx
        obtain ⟨l, hl, rfl⟩ := hx
        obtain ⟨hj, rfl⟩ := List.getElem?_eq_some_iff.1 hl
        exact ho.one (h := fun l : List UInt8 => Value.string ⟨l.toArray⟩) (fun _ => rfl) hj
      have hid : ((name :: ns.map Lib.itoa).map (fun l => (⟨l.toArray⟩ : ByteArray))).map (·.data.toList) = name :: ns.map Lib.itoa := by
        rw [List.map_map]; conv => rhs; rw [← List.map_id (name :: ns.map Lib.itoa)]
        apply List.map_congr_left; intro a _; simp
      have hjn := HJ.out
      simp only [List.length_cons, List.length_map, HM.out] at hjn
      have hC := Tryd.strings_Join g 0 c' ((name :: ns.map Lib.itoa).map (fun l => (⟨l.toArray⟩ : ByteArray))) ⟨#[32]⟩ wr hcells hg (by simp [HM.out]; omega) (by rw [List.length_map, ← hcp]; exact hcc) (by rw [hid]; simp; omega)
      rw [hid, List.length_map, ← hcp] at hC
      have HC : Hid (Calls Tryd.prog 40 #[.slice (some ⟨g, 0, none⟩) n' c', .string ⟨#[32]⟩] wr fun e w' => e = .returned (.string ⟨(lineL name ns).toArray⟩) ∧ Below wr.heap.size wr w') := Lib.hid hC
      clear hC hcells hid hjn ho hcc hcp hn'
      go_wp2_with (go_at_call 40; refine HC.out.mono ?_; rintro e w3 ⟨rfl, hb3⟩; have HB3 := Lib.hid hb3; clear hb3)
      go_ret
      exact ⟨rfl, bTrans HB.out HB3.out⟩
end Go.Proofs.YtlonefjbcooaaaaDoor
