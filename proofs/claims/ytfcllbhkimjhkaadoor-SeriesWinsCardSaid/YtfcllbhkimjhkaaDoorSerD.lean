/-
  Who decides a series of one: the first round that somebody won.
-/
import Derived.Test.YtfcllbhkimjhkaaDoorSerT
namespace Go.Proofs.YtfcllbhkimjhkaaDoor.Ser
open Go.RowKit
set_option maxRecDepth 100000
def placeZ (n : Int) : Int := if n = 0 ∨ n = 1 then n else 2
theorem place_any (n : Int) (w : World) : Calls Tryd.prog 13 #[.int .i64 n] w fun e w' => e = .returned (.int .i64 (placeZ n)) ∧ w = w' := by
  by_cases h0 : n = 0
  · subst h0
    go_enter Tryd.func13, Tryd.ntmps13
    go_wp2
    go_ret
    exact ⟨rfl, rfl⟩
  · by_cases h1 : n = 1
    · subst h1
      go_enter Tryd.func13, Tryd.ntmps13
      go_wp2
      go_ret
      exact ⟨rfl, rfl⟩
    · have HZ := Lib.hid (show placeZ n = 2 by unfold placeZ; rw [if_neg (by omega)])
      have k0 : (n == 0) = false := by simpa using h0
      have k1 : (n == 1) = false := by simpa using h1
      clear h0 h1
      go_enter Tryd.func13, Tryd.ntmps13
      go_wp2
      go_ret
      exact ⟨ret_int HZ.out.symm, rfl⟩
/-- The first round that somebody won. -/
def firstW : List Rnd → Option Nat
  | [] => none
  | r :: l => if 0 ≤ r.win then some 0 else (firstW l).map (· + 1)
theorem firstW_none : ∀ {l : List Rnd}, firstW l = none → ∀ r ∈ l, r.win < 0
  | [], _, _, h => by simp at h
  | r :: l, h, x, hx => by
    unfold firstW at h
    split at h
    · cases h
    · rcases List.mem_cons.1 hx with rfl | hx
      · omega
      · exact firstW_none (by simpa using h) x hx
theorem firstW_some : ∀ {l : List Rnd} {i : Nat}, firstW l = some i → ∃ h : i < l.length, 0 ≤ (l[i]).win ∧ ∀ j (hj : j < l.length), j < i → (l[j]).win < 0
  | [], _, h => by simp [firstW] at h
  | r :: l, i, h => by
    unfold firstW at h
    split at h
    · cases h
      exact ⟨by simp, by simpa, fun j _ hj => absurd hj (by omega)⟩
    · rename_i hn
      obtain ⟨k, hk, rfl⟩ := Option.map_eq_some_iff.1 h
      obtain ⟨h1, h2, h3⟩ := firstW_some hk
      refine ⟨by simpa using h1, by simpa using h2, fun j hj hji => ?_⟩
      cases j with
      | zero => simpa using hn
      | succ j => simpa using h3 j (by simpa using hj) (by omega)
theorem firstW_snoc : ∀ (l : List Rnd) (x : Rnd), firstW (l ++ [x]) = (firstW l).or (if 0 ≤ x.win then some l.length else none)
  | [], x => by
    show (if 0 ≤ x.win then some 0 else (firstW []).map (· + 1)) = _
    unfold firstW
    simp
  | r :: l, x => by
    rw [List.cons_append, firstW, firstW, firstW_snoc l x]
    split
    · rfl
    · cases h : firstW l with
      | some k => simp
      | none => by_cases hx : 0 ≤ x.win <;> simp [hx]
theorem firstW_take (l : List Rnd) (k : Nat) (h : k < l.length) : firstW (l.take (k + 1)) = (firstW (l.take k)).or (if 0 ≤ (l[k]).win then some k else none) := by
  rw [List.take_succ_eq_append_getElem h, firstW_snoc, List.length_take, Nat.min_eq_left (by omega)]
theorem firstW_append_some : ∀ {l m : List Rnd} {k : Nat}, firstW l = some k → firstW (l ++ m) = some k
  | [], _, _, h => by simp [firstW] at h
  | r :: l, m, k, h => by
    rw [List.cons_append]
    unfold firstW at h ⊢
    split
    · rename_i h0; rwa [if_pos h0] at h
    · rename_i h0
      rw [if_neg h0] at h
      obtain ⟨j, hj, rfl⟩ := Option.map_eq_some_iff.1 h
      rw [firstW_append_some hj]; rfl
def RndAt (w : World) (b o : Nat) (r : Rnd) : Prop := w.cell? ⟨b, o, none⟩ = some (.int .i64 r.frame) ∧ w.cell? ⟨b, o + 1, none⟩ = some (.int .i64 r.a) ∧ w.cell? ⟨b, o + 2, none⟩ = some (.int .i64 r.b) ∧ w.cell? ⟨b, o + 3, none⟩ = some (.int .i64 r.win)
theorem Rd.rnd {w : World} {B : Nat} {A : Option Addr} {l : List Rnd} (h : Rd w B A (l.flatMap Rnd.cells)) {k : Nat} (hk : k < l.length) :
    ∃ b off, A = some ⟨b, off, none⟩ ∧ b < B ∧ RndAt w b (off + k * 4) l[k] := by
  obtain ⟨b, off, hA, hb, hat⟩ := h.at_ Rnd.cells_length (by omega) hk
  exact ⟨b, off, hA, hb, hat 0 _ rfl, hat 1 _ rfl, hat 2 _ rfl, hat 3 _ rfl⟩
/-- What Decided answers at a series of one. -/
def decV (l : List Rnd) : Int × Int × Int := match firstW l with
  | none => (0, 0, 6)
  | some k => ((l.getD k ⟨0, 0, 0, 0⟩).win, (k : Int), 0)
set_option maxHeartbeats 1000000 in
theorem decided_any (A : Option Addr) (c : Nat) (l : List Rnd) (w : World) (hn : l.length ≤ 1000000) (hw : ∀ r ∈ l, r.win = -1 ∨ r.win = 0 ∨ r.win = 1) (hr : Rd w w.heap.size A (l.flatMap Rnd.cells)) :
    Calls Tryd.prog 11 #[.slice A l.length c, .int .i64 1] w fun e w' => e = .returned (.tuple #[.int .i64 (decV l).1, .int .i64 (decV l).2.1, .int .i64 (decV l).2.2]) ∧ Below w.heap.size w w' := by
  have HR := Lib.hid hr
  have HW := Lib.hid hw
  have HP := Lib.hid (fun n V => place_any n V)
  clear hr hw
  go_enter Tryd.func11, Tryd.ntmps11
  go_wp2
  go_loopw [24] (fun i wr => ∃ k : Nat, k ≤ l.length ∧ i = .int .i64 k ∧ Hid (firstW (l.take k) = none) ∧ Hid (Blk wr w.heap.size 30 #[.int .i64 0, .int .i64 0, .int .i64 k]) ∧ Below w.heap.size w wr) (fun i _ => l.length - (intOf i).toNat)
  case atStart => exact ⟨0, Nat.zero_le _, rfl, rfl, Blk.new _ _ _, (by repeat (first | exact Below.refl _ _ | (with_reducible assumption) | apply bAlloc | apply below_drewN | apply Below.drew))⟩
  case round =>
    obtain ⟨k, hk, rfl, HF, HB, hb⟩ := hrel
    by_cases hlt : k < l.length
    · obtain ⟨b, off, rfl, hB, h0, h1, h2, h3⟩ := Rd.rnd (HR.out.below hb (Nat.le_refl _)) hlt
      have hbk := block_lt_of_cell h0
      have hs0 := hb.size
      simp only at hbk
      have hwin := HW.out l[k] (List.getElem_mem hlt)
      have hft := firstW_take l k hlt
      rw [HF.out] at hft
      have HFT := Lib.hid hft
      have HDV : ∀ _ : 0 ≤ (l[k]).win, Hid (decV l = ((l[k]).win, (k : Int), 0)) := fun h => Lib.hid (by
        have e1 : firstW l = some k := by
          have e2 : firstW (l.take (k + 1) ++ l.drop (k + 1)) = some k := firstW_append_some (by rw [hft, if_pos h]; rfl)
          rwa [List.take_append_drop] at e2
        unfold decV
        rw [e1]
        simp only [List.getD_eq_getElem?_getD, List.getElem?_eq_getElem hlt, Option.getD_some])
      clear hft
      have c0 := HB.out.cell 0
      have c1 := HB.out.cell 1
      have c2 := HB.out.cell 2
      have f0 := HB.out.frozen 0
      have f1 := HB.out.frozen 1
      have f2 := HB.out.frozen 2
      simp only [List.getElem?_toArray, List.getElem?_cons_zero, List.getElem?_cons_succ] at c0 c1 c2
      have hl := HB.out.lt
      obtain ⟨x, hx⟩ : ∃ x, x = (l[k]).win := ⟨_, rfl⟩
      rw [← hx] at h3 hwin HDV
      have HX := Lib.hid hx
      clear hx
      rcases hwin with rfl | rfl | rfl
      · go_wp2_with (first | (go_at_call 13; refine (HP.out (-1) _).mono ?_; rintro e w4 ⟨rfl, rfl⟩; rw [show placeZ (-1) = 2 from rfl]))
        go_roundw
        case rel => exact ⟨k + 1, by omega, by go_num, (show _ = _ by rw [HFT.out, ← HX.out]; rfl), (show Blk _ _ _ _ from by have := (HB.out.set 2 (.int .i64 ((k : Int) + 1))).alloc (.cells #[.int .i64 (l[k]).frame, .int .i64 (l[k]).a, .int .i64 (l[k]).b, .int .i64 (-1)] 27); simpa using this), bAlloc (bSetG hb (Nat.le_refl _) _ _) _⟩
        case measure => simp [intOf]; omega
      · have HD := HDV (by decide)
        go_wp2_with (first | (go_at_call 13; refine (HP.out 0 _).mono ?_; rintro e w4 ⟨rfl, rfl⟩; rw [show placeZ 0 = 0 from rfl]))
        refine bodyPost_ret (v := .tuple #[.int .i64 0, .int .i64 k, .int .i64 0]) (by simp [results, Tryd.results11, go_sem]) rfl ⟨by rw [HD.out], ?_⟩
        exact bAlloc (bSetG hb (Nat.le_refl _) _ _) _
      · have HD := HDV (by decide)
        go_wp2_with (first | (go_at_call 13; refine (HP.out 1 _).mono ?_; rintro e w4 ⟨rfl, rfl⟩; rw [show placeZ 1 = 1 from rfl]))
        refine bodyPost_ret (v := .tuple #[.int .i64 1, .int .i64 k, .int .i64 0]) (by simp [results, Tryd.results11, go_sem]) rfl ⟨by rw [HD.out], ?_⟩
        exact bAlloc (bSetG hb (Nat.le_refl _) _ _) _
    · have e0 : decV l = (0, 0, 6) := by
        have := HF.out
        rw [List.take_of_length_le (by omega)] at this
        unfold decV
        rw [this]
      have E0 := Lib.hid e0
      clear e0
      go_wp2
      exact bodyPost_ret (v := .tuple #[.int .i64 0, .int .i64 0, .int .i64 6]) (by simp [results, Tryd.results11, go_sem]) rfl ⟨by rw [E0.out], hb⟩
end Go.Proofs.YtfcllbhkimjhkaaDoor.Ser
