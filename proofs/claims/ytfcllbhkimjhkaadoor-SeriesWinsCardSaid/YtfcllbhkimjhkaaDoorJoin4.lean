/-
  strings.Join of four texts, a blank between.
-/
import Derived.Test.YtfcllbhkimjhkaaDoorDigits
import Derived.Test.YtfcllbhkimjhkaaDoorBuild
namespace Go.Proofs.YtfcllbhkimjhkaaDoor
open Go.RowKit
set_option maxRecDepth 100000

def joinL : List (List UInt8) → List UInt8
  | [] => []
  | s :: l => s ++ l.flatMap fun t => [32] ++ t
theorem joinL_take (L : List (List UInt8)) (k : Nat) (h : k + 1 < L.length) : joinL (L.take (k + 2)) = joinL (L.take (k + 1)) ++ ([32] ++ L[k + 1]) := by
  match L, h with
  | s :: l, h =>
    have hk : k < l.length := by simpa using h
    have e : l.take (k + 1) = l.take k ++ [l[k]] := List.take_succ_eq_append_getElem hk
    rw [List.take_succ_cons, e, List.take_succ_cons]
    simp only [List.cons_append, joinL, List.getElem_cons_succ, List.flatMap_append, List.flatMap_cons, List.flatMap_nil, List.append_nil, List.append_assoc]
theorem joinL_len (L : List (List UInt8)) (h : ∀ s ∈ L, s.length ≤ 1000) : (joinL L).length ≤ 1001 * L.length := by
  match L with
  | [] => simp [joinL]
  | s :: l =>
    have h1 := h s (by simp)
    have h2 : ∀ m : List (List UInt8), (∀ s ∈ m, s.length ≤ 1000) → (m.flatMap fun t => [32] ++ t).length ≤ 1001 * m.length := fun m => by
      induction m with
      | nil => simp
      | cons t m ih =>
        intro hm
        have a := hm t (by simp)
        have b := ih fun x hx => hm x (by simp [hx])
        rw [List.flatMap_cons, List.length_append, List.length_append, List.length_singleton, List.length_cons (a := t)]
        omega
    have := h2 l fun x hx => h x (by simp [hx])
    rw [joinL, List.length_append, List.length_cons]
    omega
theorem IsB_below {T e : TypeId} {B b : Nat} {bs : List Value} {w w' : World} (h : Lib.IsBuilder T e B b bs w) (hb : Below w.heap.size w w') : Lib.IsBuilder T e B b bs w' := by
  have key : ∀ p, Lib.BuilderAt T e B b p bs w → Lib.BuilderAt T e B b p bs w' := by
    rintro p ⟨h1, v, h2, h3, h4⟩
    have hlt : b < w.heap.size := by
      rcases Nat.lt_or_ge b w.heap.size with h | h
      · exact h
      · rw [Array.getElem?_eq_none h] at h2; cases h2
    refine ⟨h1, v, (hb.block b hlt).trans h2, ?_, h4⟩
    refine World.ownsRow.kept h3 (row := none) ⟨hb.os, hb.tape, hb.output, hb.size, fun k hk _ => hb.block k hk⟩ ?_
    cases hv : v.ownBlock with
    | none => exact .inl rfl
    | some g => exact .inr (by simp)
  rcases h with h | h
  · exact .inl (key _ h)
  · exact .inr (key _ h)

set_option maxHeartbeats 2000000 in
theorem join_any (A : Option Addr) (c : Nat) (L : List (List UInt8)) (w : World) (hn : L.length = 4) (hc : 4 ≤ c) (hcm : c ≤ 9223372036854775807) (hr : Rd w w.heap.size A (L.map str)) (hs : ∀ s ∈ L, s.length ≤ 1000) :
    Calls Tryd.prog 16 #[.slice A 4 c, .string ⟨#[32]⟩] w fun e w' => e = .returned (str (joinL L)) ∧ Below w.heap.size w w' := by
  have hbs : ∀ k (hk : k < L.length), L[k].length ≤ 1000 := fun k hk => hs _ (List.getElem_mem hk)
  have HBS := Lib.hid hbs
  have HS := Lib.hid hs
  have HR := Lib.hid hr
  have HN := Lib.hid hn
  obtain ⟨b, off, rfl, hB, h0⟩ := hr.one (k := 0) (by simp [hn])
  simp only [List.getElem_map] at h0
  have hl0 := hbs 0 (by omega)
  obtain ⟨T0, hT0⟩ : ∃ T0, L[0]'(by omega) = T0 := ⟨_, rfl⟩
  rw [hT0] at h0 hl0
  have htk : L.take 1 = [T0] := by
    have := List.take_succ_eq_append_getElem (l := L) (i := 0) (by omega)
    rw [this, hT0]; rfl
  have HTK := Lib.hid htk
  clear hT0 htk
  clear hr hs hbs hn
  go_enter Tryd.func16, Tryd.ntmps16
  go_wp2
  go_loop [5, 41] (fun n i => ∃ k t : Nat, k ≤ 4 ∧ i = .int .i64 k ∧ n = .int .i64 t ∧ t ≤ 3 + 1000 * k) (fun _ i => 4 - (intOf i).toNat)
  case atStart => exact ⟨0, 3, by decide, rfl, rfl, by decide⟩
  case round =>
    obtain ⟨k, t, hk, rfl, rfl, ht⟩ := hrel
    by_cases hlt : k < 4
    · have hkl : k < L.length := by rw [HN.out]; exact hlt
      obtain ⟨b', off', e, hB', hk0⟩ := HR.out.one (k := k) (by simpa using hkl)
      simp only [Option.some.injEq, Addr.mk.injEq, and_true] at e
      obtain ⟨rfl, rfl⟩ := e
      simp only [List.getElem_map] at hk0
      have hlk := HBS.out k hkl
      obtain ⟨T, hT⟩ : ∃ T, L[k] = T := ⟨_, rfl⟩
      rw [hT] at hk0 hlk
      unfold str at hk0
      clear hT
      go_wp2
      go_round
      case rel => exact ⟨k + 1, t + T.length, by omega, by go_num, by go_num, by omega⟩
      case measure => simp [intOf]; omega
    · obtain rfl : k = 4 := by omega
      have hfresh := Lib.fresh_isBuilder 52 5 w
      have hbk : (w.alloc (.cells #[.pointer none, .slice none 0 0] 52)).heap[w.heap.size]? = some (.cells #[.pointer none, .slice none 0 0] 52 (0, 0)) := heap_alloc_new w _
      have HBK := Lib.hid hbk
      clear hfresh hbk
      go_wp2_with fail
      refine (Tryd.Builder_Grow_fresh w.heap.size w.heap.size t _ (Nat.le_refl _) HBK.out (by simp) (by omega)).mono ?_
      rintro e w2 ⟨rfl, hb2, hbl2⟩
      have hbw2 : Below w.heap.size w w2 := (bAlloc (Below.refl _ _) _).trans hbl2
      have HB2 : Hid (Lib.IsBuilder 52 5 w.heap.size w.heap.size (Lib.byteCells []) w2) := Lib.hid (.inr hb2)
      have h02 : w2.cell? ⟨b, off + 0, none⟩ = some (str T0) := (hbw2.cell (p := ⟨b, off + 0, none⟩) hB).trans h0
      rw [Nat.add_zero] at h02
      unfold str at h02
      clear hb2 hbl2 h0
      go_wp2_with fail
      refine (write_any w.heap.size w.heap.size _ ⟨T0.toArray⟩ _ HB2.out (by simp [ByteArray.size, Lib.byteCells]; omega) hbw2.size).mono ?_
      rintro e w3 ⟨rfl, hb3, hbl3, -⟩
      have hbw3 := hbw2.trans hbl3
      have HB3 : Hid (Lib.IsBuilder 52 5 w.heap.size w.heap.size (Lib.byteCells (joinL (L.take 1))) w3) := by
        refine Lib.hid (.inr ?_)
        rw [HTK.out]
        simpa [joinL, Lib.byteCells, Lib.strCells_eq] using hb3
      clear hb3 hbl3 hbw2 HB2 h02
      go_wp2
      go_loopw [65] (fun i wr => ∃ q : Nat, q ≤ 3 ∧ i = .int .i64 q ∧ Hid (Lib.IsBuilder 52 5 w.heap.size w.heap.size (Lib.byteCells (joinL (L.take (q + 1)))) wr) ∧ Below w.heap.size w wr) (fun i _ => 3 - (intOf i).toNat)
      case atStart => exact ⟨0, by decide, rfl, HB3, hbw3⟩
      case round =>
        clear HB3 hbw3 HBK
        obtain ⟨q, hq, rfl, hbd, hb⟩ := hrel
        have hlj := joinL_len (L.take (q + 1)) fun s hs => HS.out s (List.mem_of_mem_take hs)
        rw [List.length_take, HN.out] at hlj
        by_cases hlt : q < 3
        · have hkl : q + 1 < L.length := by rw [HN.out]; omega
          obtain ⟨b', off', e, hB', hk0⟩ := HR.out.one (k := q + 1) (by simpa using hkl)
          simp only [Option.some.injEq, Addr.mk.injEq, and_true] at e
          obtain ⟨rfl, rfl⟩ := e
          simp only [List.getElem_map] at hk0
          have hlk := HBS.out (q + 1) hkl
          have hjt := joinL_take L q hkl
          obtain ⟨T, hT⟩ : ∃ T, L[q + 1] = T := ⟨_, rfl⟩
          rw [hT] at hk0 hlk hjt
          have HJT := Lib.hid hjt
          unfold str at hk0
          have hc1 : wr.cell? ⟨b, off + 1 + q, none⟩ = some (.string ⟨T.toArray⟩) := by
            rw [show off + 1 + q = off + (q + 1) by omega]
            exact (hb.cell (p := ⟨b, off + (q + 1), none⟩) hB).trans hk0
          clear hT hjt hk0
          go_wp2_with fail
          refine (write_any w.heap.size w.heap.size _ ⟨#[32]⟩ _ hbd.out (by rw [Lib.byteCells_length]; simp [ByteArray.size]; omega) hb.size).mono ?_
          rintro e w4 ⟨rfl, hb4, hbl4, -⟩
          have HB4 : Hid (Lib.IsBuilder 52 5 w.heap.size w.heap.size (Lib.byteCells (joinL (L.take (q + 1)) ++ [32])) w4) := by
            refine Lib.hid (.inr ?_)
            rw [Lib.byteCells_append]
            simpa [Lib.strCells_eq] using hb4
          have hbw4 := hb.trans hbl4
          clear hb4 hbl4
          go_wp2_with fail
          refine (write_any w.heap.size w.heap.size _ ⟨T.toArray⟩ _ HB4.out (by rw [Lib.byteCells_length]; simp [ByteArray.size]; omega) hbw4.size).mono ?_
          rintro e w5 ⟨rfl, hb5, hbl5, -⟩
          have HB5 : Hid (Lib.IsBuilder 52 5 w.heap.size w.heap.size (Lib.byteCells (joinL (L.take (q + 1 + 1)))) w5) := by
            refine Lib.hid (.inr ?_)
            rw [HJT.out, ← List.append_assoc, Lib.byteCells_append]
            simpa [Lib.strCells_eq] using hb5
          have hbw5 := hbw4.trans hbl5
          clear hb5 hbl5
          go_wp2
          go_roundw
          case rel => exact ⟨q + 1, by omega, by go_num, HB5, hbw5⟩
          case measure => simp [intOf]; omega
        · obtain rfl : q = 3 := by omega
          have hfull : L.take (3 + 1) = L := List.take_of_length_le (by rw [HN.out]; decide)
          rw [hfull] at hbd
          clear hfull
          go_wp2_with fail
          refine (Tryd.Builder_String_any w.heap.size w.heap.size (joinL L) _ hbd.out hb.size).mono ?_
          rintro e w4 ⟨rfl, hb4⟩
          go_wp2
          go_ret
          exact ⟨rfl, hb.trans hb4⟩
end Go.Proofs.YtfcllbhkimjhkaaDoor
