/-
  PROVED HERE: promptbooklaw29.MeterShares answers true for every input, and leaves its arguments as they were.
  CONDITIONS: none beyond the row's own.
-/
import Derived.Test.YtnepjdpifbjiiaaMeterLaw
import Derived.Deep.DeepHandedRow
import Derived.Lib.LaidTab
import Derived.SevenTiedAt
namespace Go.Proofs.Ytnepjdpifbjiiaa
open Go.RowKit Go.WideShapes Go.ChangeShapes Go.ChangeAt
set_option maxRecDepth 100000

/-! The plain law. -/
theorem psum_mono (f : Nat → Int) (B : Int) (h : Sm f B) (j k : Nat) (hjk : j ≤ k) : psum f j ≤ psum f k := by
  induction k with
  | zero => obtain rfl : j = 0 := by omega
            exact Int.le_refl _
  | succ k ih =>
    by_cases hk : j = k + 1
    · subst hk; exact Int.le_refl _
    · have := h (10 + k) (by omega)
      rw [psum]
      have := ih (by omega)
      omega
theorem find_lt (q : Nat → Bool) (k : Nat) (h : (List.range 64).find? q = some k) : k < 64 ∧ q k = true ∧ ∀ j, j < k → q j = false := by
  have h1 := List.mem_of_find?_eq_some h
  rw [List.mem_range] at h1
  refine ⟨h1, List.find?_some h, fun j hj => ?_⟩
  rw [List.find?_eq_some_iff_append] at h
  obtain ⟨-, xs, bs, he, ha⟩ := h
  have hl : xs.length = k := by
    have h2 : (List.range 64)[xs.length]? = some k := by rw [he, List.getElem?_append_right (Nat.le_refl _)]; simp
    rw [List.getElem?_range (by
      have := (List.getElem?_eq_some_iff.1 h2).1
      simpa using this)] at h2
    simpa using h2
  have h3 : j ∈ xs := by
    have h4 : (List.range 64)[j]? = some j := List.getElem?_range (by omega)
    rw [he, List.getElem?_append_left (by omega)] at h4
    exact List.mem_of_getElem? h4
  have := ha j h3
  simpa using this
theorem share_le (f : Nat → Int) (p : Int) : shareF f p ≤ 63 := by
  unfold shareF
  split
  · decide
  · cases h : (List.range 64).find? fun n => decide (clampP p * f 6 ≤ psum f (n + 1) * 100) with
    | none => decide
    | some k =>
      have := (find_lt _ _ h).1
      simp; omega
theorem share_mono (f : Nat → Int) (hs : 0 ≤ f 6) (p q : Int) (h : p ≤ q) : shareF f p ≤ shareF f q := by
  by_cases h6 : f 6 = 0
  · unfold shareF; rw [if_pos h6, if_pos h6]; exact Int.le_refl _
  · have hc : clampP p ≤ clampP q := by unfold clampP; omega
    have hm : clampP p * f 6 ≤ clampP q * f 6 := Int.mul_le_mul_of_nonneg_right hc hs
    cases hq : (List.range 64).find? fun n => decide (clampP q * f 6 ≤ psum f (n + 1) * 100) with
    | none =>
      have : shareF f q = 63 := by unfold shareF; rw [if_neg h6, hq]; rfl
      rw [this]
      exact share_le f p
    | some k =>
      obtain ⟨k1, k2, -⟩ := find_lt _ _ hq
      have e : shareF f q = k := by unfold shareF; rw [if_neg h6, hq]; rfl
      have hk : clampP p * f 6 ≤ psum f (k + 1) * 100 := Int.le_trans hm (by simpa using k2)
      cases hp : (List.range 64).find? fun n => decide (clampP p * f 6 ≤ psum f (n + 1) * 100) with
      | none =>
        rw [List.find?_eq_none] at hp
        have := hp k (List.mem_range.2 k1)
        simp at this
        omega
      | some j =>
        obtain ⟨-, -, j3⟩ := find_lt _ _ hp
        have e2 : shareF f p = j := by unfold shareF; rw [if_neg h6, hp]; rfl
        rw [e, e2]
        by_cases hjk : j ≤ k
        · omega
        · have := j3 k (by omega)
          simp at this
          omega
def mostN (f : Nat → Int) : Nat → Int
  | 0 => 0
  | n + 1 => if 0 < f (10 + n) then n else mostN f n
theorem mostN_bd (f : Nat → Int) : ∀ n : Nat, 0 ≤ mostN f n ∧ mostN f n ≤ n
  | 0 => by simp [mostN]
  | n + 1 => by
    have := mostN_bd f n
    rw [mostN]
    split <;> omega
theorem mostN_at (f : Nat → Int) (B : Int) (hs : Sm f B) : ∀ n : Nat, 0 < psum f n → ∃ m : Nat, mostN f n = m ∧ m < n ∧ psum f (m + 1) = psum f n ∧ 0 < f (10 + m)
  | 0, h => by simp [psum] at h
  | n + 1, h => by
    rw [mostN]
    by_cases hf : 0 < f (10 + n)
    · rw [if_pos hf]
      exact ⟨n, rfl, by omega, rfl, hf⟩
    · rw [if_neg hf]
      have h0 : f (10 + n) = 0 := by have := hs (10 + n) (by omega); omega
      rw [psum, h0, Int.add_zero] at h ⊢
      obtain ⟨m, h1, h2, h3, h4⟩ := mostN_at f B hs n h
      exact ⟨m, h1, by omega, h3, h4⟩
theorem mostN_zero (f : Nat → Int) (B : Int) (hs : Sm f B) : ∀ n : Nat, psum f n = 0 → mostN f n = 0
  | 0, _ => rfl
  | n + 1, h => by
    have h1 := psum_bd f B hs n
    have h2 := hs (10 + n) (by omega)
    rw [psum] at h
    rw [mostN, if_neg (by omega)]
    exact mostN_zero f B hs n (by omega)
theorem share_100 (f : Nat → Int) (B : Int) (hs : Sm f B) (hi : psum f 64 = f 6) : shareF f 100 = mostN f 64 := by
  by_cases h6 : f 6 = 0
  · rw [mostN_zero f B hs 64 (by omega)]
    unfold shareF; rw [if_pos h6]
  · have h0 := hs 6 (by decide)
    obtain ⟨m, h1, h2, h3, h4⟩ := mostN_at f B hs 64 (by omega)
    have hc : clampP 100 = 100 := by decide
    have hfind := find_at (fun n => decide (clampP 100 * f 6 ≤ psum f (n + 1) * 100)) m h2 (fun j hj => by
      have e1 := psum_mono f B hs (j + 1) m (by omega)
      have e2 : psum f (m + 1) = psum f m + f (10 + m) := rfl
      exact decide_eq_false (by rw [hc]; omega)) (decide_eq_true (by rw [hc]; omega))
    rw [h1]
    unfold shareF
    rw [if_neg h6, hfind]; rfl
/-- The starts are those of all latenesses together. -/
theorem psum_upd (f : Nat → Int) (i : Nat) (v : Int) (hi : i < 10) : ∀ n, psum (upd f i v) n = psum f n
  | 0 => rfl
  | n + 1 => by rw [psum, psum, psum_upd f i v hi n, upd_other _ _ _ _ (by omega)]
theorem psum_upd_at (f : Nat → Int) (k : Nat) (v : Int) : ∀ n, psum (upd f (10 + k) v) n = if k < n then psum f n + (v - f (10 + k)) else psum f n
  | 0 => by simp [psum]
  | n + 1 => by
    rw [psum, psum, psum_upd_at f k v n]
    by_cases h : k = n
    · subst h
      rw [if_neg (by omega), if_pos (by omega), upd_same]; omega
    · rw [upd_other _ _ _ _ (by omega)]
      by_cases h2 : k < n
      · rw [if_pos h2, if_pos (by omega)]; omega
      · rw [if_neg h2, if_neg (by omega)]
def Inv (f : Nat → Int) : Prop := psum f 64 = f 6
theorem Inv.upd {f : Nat → Int} (h : Inv f) (i : Nat) (v : Int) (hi : i < 10) (h6 : i ≠ 6) : Inv (upd f i v) := by
  unfold Inv
  rw [psum_upd f i v hi, upd_other _ _ _ _ (fun e => h6 e.symm)]
  exact h
theorem Inv.cmd {f : Nat → Int} (h : Inv f) (c : CmdP) : Inv (cmdF f c) := by
  have hl := clamp_le c.late
  unfold cmdF
  split
  · unfold Inv
    rw [psum_upd_at, if_pos (by omega), psum_upd _ _ _ (by decide), upd_other _ _ _ _ (by omega), upd_other _ _ _ _ (by omega), upd_same, h]
    omega
  · split
    · exact h.upd _ _ (by decide) (by decide)
    · split
      · exact h.upd _ _ (by decide) (by decide)
      · split
        · split
          · exact (h.upd _ _ (by decide) (by decide)).upd _ _ (by decide) (by decide)
          · exact h.upd _ _ (by decide) (by decide)
        · exact h
theorem Inv.note {f : Nat → Int} (h : Inv f) (o : OutP) : Inv (noteF f o) := by
  have h1 : Inv (movF f o) := by
    unfold movF
    split
    · exact (h.upd _ _ (by decide) (by decide)).upd _ _ (by decide) (by decide)
    · exact h.upd _ _ (by decide) (by decide)
  have h2 : ∀ (l : List ByteArray) (f : Nat → Int), Inv f → Inv (l.foldl sendF f) := fun l => by
    induction l with
    | nil => exact fun f h => h
    | cons s l ih => exact fun f h => ih _ ((h.upd _ _ (by decide) (by decide)).upd _ _ (by decide) (by decide))
  have h3 : ∀ (l : List CmdP) (f : Nat → Int), Inv f → Inv (l.foldl cmdF f) := fun l => by
    induction l with
    | nil => exact fun f h => h
    | cons s l ih => exact fun f h => ih _ (h.cmd s)
  exact h3 _ _ (h2 _ _ h1)
theorem Sm.note {f : Nat → Int} {B : Int} (h : Sm f B) (o : OutP) (hc : o.cmds.length ≤ 60) (hn : o.sends.length ≤ 60) : Sm (noteF f o) (B + 200) :=
  (((h.mov o).sends o.sends).cmds o.cmds).more (by omega)

/-! The walk. -/
def mF (l : List OutP) : Nat → Int := l.foldl noteF fun _ => 0
theorem mF_take (l : List OutP) (k : Nat) (h : k < l.length) : mF (l.take (k + 1)) = noteF (mF (l.take k)) l[k] := foldl_take noteF _ l k h
theorem mF_sm (l : List OutP) (h : ∀ o ∈ l, o.cmds.length ≤ 60 ∧ o.sends.length ≤ 60) : ∀ k, k ≤ l.length → Sm (mF (l.take k)) (200 * k) ∧ Inv (mF (l.take k)) := fun k => by
  induction k with
  | zero => exact fun _ => ⟨fun j _ => by simp [mF], by simp [Inv, mF]; decide⟩
  | succ k ih =>
    intro hk
    obtain ⟨h1, h2⟩ := ih (by omega)
    rw [mF_take l k (by omega)]
    obtain ⟨h3, h4⟩ := h l[k] (List.getElem_mem _)
    exact ⟨(h1.note _ h3 h4).more (by omega), h2.note _⟩

set_option maxHeartbeats 1000000 in
theorem walk_far (A : Option Addr) (c : Nat) (l : List OutP) (p q : Int) (w : World) (hr : Rd w w.heap.size A (l.flatMap OutP.cells)) (hf : farB l = true) :
    Calls Try.prog 3 #[.slice A l.length c, .int .i64 p, .int .i64 q] w fun e w' => e = .returned (.bool true) ∧ Below w.heap.size w w' := by
  have HR := Lib.hid hr
  have HF := Lib.hid hf
  clear hr hf
  go_enter Try.func3, Try.ntmps3
  go_wp2_with fail
  refine (awake_any _).mono ?_
  rintro e w1 ⟨rfl, hb1⟩
  go_wp2_with fail
  refine (far_any A c l _ ((HR.out.below hb1 (Nat.le_refl _)).more hb1.size)).mono ?_
  rw [HF.out]
  rintro e w2 ⟨rfl, rfl⟩
  go_wp2
  go_ret
  exact ⟨rfl, hb1⟩

set_option maxHeartbeats 2000000 in
theorem walk_near (A : Option Addr) (c : Nat) (l : List OutP) (p q : Int) (w : World) (hr : Rd w w.heap.size A (l.flatMap OutP.cells)) (hin : ∀ o ∈ l, o.In w w.heap.size) (hf : farB l = false) :
    Calls Try.prog 3 #[.slice A l.length c, .int .i64 p, .int .i64 q] w fun e w' => e = .returned (.bool true) ∧ Below w.heap.size w w' := by
  have HR := Lib.hid hr
  have HIN := Lib.hid hin
  have HF := Lib.hid hf
  obtain ⟨hl, ho⟩ := far_no l hf
  have HO := Lib.hid ho
  have HS := Lib.hid (mF_sm l ho)
  clear hr hin hf ho
  go_enter Try.func3, Try.ntmps3
  go_wp2_with fail
  refine (awake_any _).mono ?_
  rintro e w1 ⟨rfl, hb1⟩
  go_wp2_with fail
  refine (far_any A c l _ ((HR.out.below hb1 (Nat.le_refl _)).more hb1.size)).mono ?_
  rw [HF.out]
  rintro e w2 ⟨rfl, rfl⟩
  go_wp2_with fail
  refine (new_any _).mono ?_
  rintro e w2 ⟨rfl, hf2, hb2⟩
  have hb02 := bTrans hb1 hb2
  have HF2 := Lib.hid hf2
  have hg : w.heap.size ≤ w1.heap.size := hb1.size
  clear hf2 hb2
  go_wp2
  go_loopw [8] (fun i wr => ∃ k : Nat, k ≤ l.length ∧ i = .int .i64 k ∧ IBlk wr w1.heap.size 45 74 (mF (l.take k)) ∧ Below w.heap.size w wr) (fun i _ => l.length - (intOf i).toNat)
  case atStart => exact ⟨0, Nat.zero_le _, rfl, HF2.out, hb02⟩
  case round =>
    clear HF2 hb02
    obtain ⟨k, hk, rfl, hf, hb⟩ := hrel
    have HFK := Lib.hid hf
    have hlt1 := hf.lt
    clear hf
    by_cases hlt : k < l.length
    · obtain ⟨b, off, rfl, hB, hc⟩ := (HR.out.below hb (Nat.le_refl _)).at_ OutP.cells_length (by decide) hlt
      have c0 := hc 0 _ rfl
      have c1 := hc 1 _ rfl
      have c2 := hc 2 _ rfl
      rw [Nat.add_zero] at c0
      have hst := mF_take l k hlt
      have HST := Lib.hid hst
      have hsk := (HS.out k hk).1
      have hok := HO.out l[k] (List.getElem_mem hlt)
      have hik := HIN.out l[k] (List.getElem_mem hlt)
      have hat : (l[k]).At wr w1.heap.size := ⟨RdN.of_rd (hik.1.below hb (Nat.le_refl _)) hg hb.size, RdN.of_rd (hik.2.below hb (Nat.le_refl _)) hg hb.size⟩
      have hN := note_any w1.heap.size (mF (l.take k)) l[k] wr HFK.out (hsk.more (by omega)) hat hok.1 hok.2
      rw [← HST.out] at hN
      have HN := Lib.hid hN
      clear hc hst hsk hok hik hat hN
      go_wp2_with fail
      refine HN.out.mono ?_
      rintro e w3 ⟨rfl, hf3, hg3⟩
      have HF3 := Lib.hid hf3
      clear hf3
      go_wp2
      go_roundw
      case rel => exact ⟨k + 1, by omega, by go_num, HF3.out, hb.trans (bOnly hg3 hb.size (fun j e => by cases e; exact hg))⟩
      case measure => simp [intOf]; omega
    · have hkl : l.take k = l := List.take_of_length_le (by omega)
      rw [hkl] at HFK
      have hsm := HS.out l.length (Nat.le_refl _)
      rw [List.take_length] at hsm
      obtain ⟨hs1, hi1⟩ := hsm
      have hs2 : Sm (mF l) 1000000 := hs1.more (by omega)
      have h6 := hs2 6 (by decide)
      have hs100 := share_100 (mF l) _ hs2 hi1
      obtain ⟨f, hf⟩ : ∃ f, mF l = f := ⟨_, rfl⟩
      rw [hf] at HFK hs2 h6 hs100
      have HS2 := Lib.hid hs2
      have H100 := Lib.hid hs100
      clear hkl hs1 hi1 hs2 hf hs100
      by_cases hpq : p ≤ q
      · have hmono := share_mono f h6.1 p q hpq
        have hnot : ¬ shareF f q < shareF f p := by omega
        clear hmono
        go_wp2_with fail
        refine (share_any w1.heap.size f p _ HFK.out HS2.out).mono ?_
        rintro e w3 ⟨rfl, hb3⟩
        go_wp2_with fail
        refine (share_any w1.heap.size f q _ (HFK.out.on hb3) HS2.out).mono ?_
        rintro e w4 ⟨rfl, hb4⟩
        have HF4 := Lib.hid ((HFK.out.on hb3).on hb4)
        have hb04 := bTrans (bTrans hb hb3) hb4
        clear hb3 hb4
        go_wp2
        go_loop [9, 10] (fun m i => ∃ n : Nat, n ≤ 64 ∧ i = .int .i64 n ∧ m = .int .i64 (mostN f n)) (fun _ i => 64 - (intOf i).toNat)
        case atStart => exact ⟨0, by decide, rfl, rfl⟩
        case round =>
          obtain ⟨n, hn, rfl, rfl⟩ := hrel
          by_cases hn64 : n < 64
          · have hlf : lateF f n = f (10 + n) := by unfold lateF; rw [if_pos (by omega)]; simp
            have hms : mostN f (n + 1) = if 0 < f (10 + n) then (n : Int) else mostN f n := rfl
            have HMS := Lib.hid hms
            have hlc := late_any w1.heap.size f n _ HF4.out
            rw [hlf] at hlc
            have HLC := Lib.hid hlc
            clear hlf hms hlc
            by_cases hpos : 0 < f (10 + n)
            · go_wp2_with fail
              refine HLC.out.mono ?_
              rintro e w5 ⟨rfl, rfl⟩
              go_wp2
              go_round
              case rel => exact ⟨n + 1, by omega, by go_num, by rw [HMS.out, if_pos hpos]⟩
              case measure => simp [intOf]; omega
            · go_wp2_with fail
              refine HLC.out.mono ?_
              rintro e w5 ⟨rfl, rfl⟩
              go_wp2
              go_round
              case rel => exact ⟨n + 1, by omega, by go_num, by rw [HMS.out, if_neg (by omega)]⟩
              case measure => simp [intOf]; omega
          · obtain rfl : n = 64 := by omega
            go_wp2_with fail
            refine (share_any w1.heap.size f 100 _ HF4.out HS2.out).mono ?_
            rw [H100.out]
            rintro e w5 ⟨rfl, hb5⟩
            go_wp2
            go_ret
            exact ⟨ret_bool (by simp), bTrans hb04 hb5⟩
      · have HF4 := Lib.hid HFK.out
        have hb04 := hb
        clear hb
        go_wp2
        go_loop [9, 10] (fun m i => ∃ n : Nat, n ≤ 64 ∧ i = .int .i64 n ∧ m = .int .i64 (mostN f n)) (fun _ i => 64 - (intOf i).toNat)
        case atStart => exact ⟨0, by decide, rfl, rfl⟩
        case round =>
          obtain ⟨n, hn, rfl, rfl⟩ := hrel
          by_cases hn64 : n < 64
          · have hlf : lateF f n = f (10 + n) := by unfold lateF; rw [if_pos (by omega)]; simp
            have hms : mostN f (n + 1) = if 0 < f (10 + n) then (n : Int) else mostN f n := rfl
            have HMS := Lib.hid hms
            have hlc := late_any w1.heap.size f n _ HF4.out
            rw [hlf] at hlc
            have HLC := Lib.hid hlc
            clear hlf hms hlc
            by_cases hpos : 0 < f (10 + n)
            · go_wp2_with fail
              refine HLC.out.mono ?_
              rintro e w5 ⟨rfl, rfl⟩
              go_wp2
              go_round
              case rel => exact ⟨n + 1, by omega, by go_num, by rw [HMS.out, if_pos hpos]⟩
              case measure => simp [intOf]; omega
            · go_wp2_with fail
              refine HLC.out.mono ?_
              rintro e w5 ⟨rfl, rfl⟩
              go_wp2
              go_round
              case rel => exact ⟨n + 1, by omega, by go_num, by rw [HMS.out, if_neg (by omega)]⟩
              case measure => simp [intOf]; omega
          · obtain rfl : n = 64 := by omega
            go_wp2_with fail
            refine (share_any w1.heap.size f 100 _ HF4.out HS2.out).mono ?_
            rw [H100.out]
            rintro e w5 ⟨rfl, hb5⟩
            go_wp2
            go_ret
            exact ⟨ret_bool (by simp), bTrans hb04 hb5⟩
theorem walk_any (A : Option Addr) (c : Nat) (l : List OutP) (p q : Int) (w : World) (hr : Rd w w.heap.size A (l.flatMap OutP.cells)) (hin : ∀ o ∈ l, o.In w w.heap.size) :
    Calls Try.prog 3 #[.slice A l.length c, .int .i64 p, .int .i64 q] w fun e w' => e = .returned (.bool true) ∧ Below w.heap.size w w' := by
  cases hf : farB l with
  | true => exact walk_far A c l p q w hr hf
  | false => exact walk_near A c l p q w hr hin hf
theorem own : ownKnob Try.prog.godebug = none := by kernel_rfl
theorem contract (H : Type) (enc : TypeId × Value → H) (W : World) (base : Nat) (args : Array Value) (ds gs : List (DataW H)) (before : List MemPlace)
    (hval : ∀ (j : Nat) t v, Try.f3.params[j]? = some t → args[j]? = some v → Value.okWide Try.prog W .any base t v)
    (hW : DataW.Whole enc Try.prog Try.f3.params.toList Rows.meterSharesSpec.vars false W args.toList ds gs before) (_hL : laidMetH Try.prog Rows.meterSharesRow.laid W) :
    Calls Try.prog 3 args W fun e W' => ∃ v, e = .returned v ∧ Rows.meterSharesSpec.post enc Try.prog Try.f3 false true false false W args v W' := by
  have hW0 := hW
  obtain ⟨p, q, hA, hV, rfl, -, -⟩ := hW
  rw [Try.params3] at hA hval
  obtain ⟨v0, vs0, d0, ds0, p0, q0, hargs, rfl, rfl, h0, r0⟩ := trodAll_cons hA
  obtain ⟨v1, vs1, d1, ds1, p1, q1, rfl, rfl, rfl, h1, r1⟩ := trodAll_cons r0
  obtain ⟨v2, vs2, d2, ds2, p2, q2, rfl, rfl, rfl, h2, r2⟩ := trodAll_cons r1
  obtain ⟨rfl, rfl, rfl⟩ := trodAll_nil r2
  obtain rfl : args = #[v0, v1, v2] := by cases args; simp_all
  obtain ⟨rfl, rfl⟩ := trodVars_none hV
  obtain ⟨aA, ac, al, rfl, an, ar, af⟩ := open_outs (hval 0 _ _ rfl rfl) h0
  obtain ⟨p, rfl, rfl, rfl, pw⟩ := open_int Try.underlying3 (hval 1 _ _ rfl rfl) h1
  obtain ⟨q, rfl, rfl, rfl, qw⟩ := open_int Try.underlying3 (hval 2 _ _ rfl rfl) h2
  refine (walk_any aA ac al p q W ar af).mono fun e W' ⟨he, hb⟩ => ?_
  subst he
  exact ⟨_, rfl, law_post (by kernel_rfl) (by kernel_rfl) rfl Try.underlying4 rfl rfl hW0 hb⟩
theorem laid_met (os : Os) : laidMet Try.prog Rows.meterSharesRow.laid (((World.holding Try.prog os ⟨#[], #[], []⟩)).forCall (fun _ _ => 0) ⟨#[], #[.slice none 0 0, .int .i64 0, .int .i64 0], []⟩).memory :=
  laidMet_of_run' 8 (by kernel_rfl) (by kernel_rfl)
theorem reads (os : Os) {H : Type} (enc : TypeId × Value → H) : ∃ places, DataW.whole enc Try.prog (((World.holding Try.prog os ⟨#[], #[], []⟩)).forCall (fun _ _ => 0) ⟨#[], #[.slice none 0 0, .int .i64 0, .int .i64 0], []⟩).memory Try.f3.params.toList Rows.meterSharesSpec.vars false #[(.slice none 0 0 : Value), .int .i64 0, .int .i64 0].toList 8 = some ([.nil, .lit (.int .i64 0), .lit (.int .i64 0)], [], places) :=
  ⟨[], by kernel_rfl⟩
set_option maxRecDepth 100000 in
theorem lifted (os : Os) (started : os.Started) (H : Type) (enc : TypeId × Value → H) (F : Stop.Interp) :
    ReturnsInHanded {} Try.checked os 3 .any ((OpenSpec.ofChange Rows.meterSharesSpec).preRow enc Try.prog Try.f3 Rows.meterSharesRow.domain false Rows.meterSharesRow.laid) (((OpenSpec.ofChange Rows.meterSharesSpec).at F).post enc Try.prog Try.f3 false true false false) := by
  obtain ⟨places, hx⟩ := reads os enc
  refine returnsInHanded_of_row (C := Try.checked) (s := (OpenSpec.ofChange Rows.meterSharesSpec)) own started (by kernel_rfl) Try.func3
    (witness_row_at (enc := enc) (C := Try.checked) false (World.holding Try.prog os ⟨#[], #[], []⟩) #[.slice none 0 0, .int .i64 0, .int .i64 0] rfl (by kernel_rfl) (by kernel_rfl) (by kernel_rfl)
      (OpenSpec.preRow_of_cond 8 hx (by kernel_rfl) (fun k hk => by cases hk) (by kernel_rfl) (laid_met os))) ?_
  intro W base args ds gs before hval hW _ _ _ hL _ _
  exact contract H enc W base args ds gs before hval hW hL
theorem said : Rows.MeterSharesSaid :=
  OpenClaim.holds_of_cond 3 Try.f3 rfl rfl rfl rfl rfl rfl rfl ⟨rfl, rfl, rfl, rfl, rfl⟩ rfl rfl rfl rfl rfl (by kernel_rfl) Try.func3 (by kernel_rfl)
    (of_decide_eq_true (by kernel_rfl)) (by unfold Func.isWrapper; first | (rw [if_pos (by decide +kernel)]; kernel_rfl) | (rw [if_neg (by decide +kernel)]; exact ⟨rfl, rfl⟩))
    (fun os started H enc _ F => by rw [OpenClaim.pre_eq_preRow]; exact lifted os started H enc F)
end Go.Proofs.Ytnepjdpifbjiiaa
