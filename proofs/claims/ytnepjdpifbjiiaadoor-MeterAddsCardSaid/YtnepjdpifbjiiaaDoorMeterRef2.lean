/-
  The reference's Cmds, Late, Played, Sent.
-/
import Derived.Test.YtnepjdpifbjiiaaDoorMeterRef
namespace Go.Proofs.YtnepjdpifbjiiaaDoor
open Go.RowKit
set_option maxRecDepth 100000

set_option maxHeartbeats 2000000 in
theorem rCmds_any (A : Option Addr) (c : Nat) (l : List OutP) (kind : Int) (w : World) (hn : l.length ≤ 200) (hr : Rd w w.heap.size A (l.flatMap OutP.cells)) (hin : ∀ o ∈ l, o.In w w.heap.size) (hc : ∀ o ∈ l, o.cmds.length ≤ 60) :
    Calls Tryd.prog 24 #[.slice A l.length c, .int .i64 kind] w fun e w' => ∃ A' c', e = .returned (.slice A' (cmdsOf l kind).length c') ∧ OwnL w' w.heap.size 47 12 (.slice A' (cmdsOf l kind).length c') CmdP.cells (cmdsOf l kind) ∧ Below w.heap.size w w' := by
  obtain ⟨i0, hi0, hz0, hz1, hz2⟩ := info_parts Tryd.infoCmd
  have HR := Lib.hid hr
  have HIN := Lib.hid hin
  have HC := Lib.hid hc
  have HLEN := Lib.hid (fun k => cmdsOf_len (l.take k) kind (by rw [List.length_take]; omega) (fun o ho => hc o (List.mem_of_mem_take ho)))
  have HEQ := Lib.hid (cmdsOf_eq l kind)
  clear hr hin hc
  go_enter Tryd.func24, Tryd.ntmps24
  go_wp2
  go_loopw [5, 6] (fun v i wr => ∃ k : Nat, k ≤ l.length ∧ i = .int .i64 k ∧ ∃ A' c', v = .slice A' (((l.take k).flatMap OutP.cmds).filter (kindOk kind)).length c' ∧ OwnL wr w.heap.size 47 12 (.slice A' (((l.take k).flatMap OutP.cmds).filter (kindOk kind)).length c') CmdP.cells (((l.take k).flatMap OutP.cmds).filter (kindOk kind)) ∧ Below w.heap.size w wr) (fun _ i _ => l.length - (intOf i).toNat)
  case atStart => exact ⟨0, Nat.zero_le _, rfl, some ⟨w.heap.size, 0, none⟩, 0, rfl, OwnL.lit (f := CmdP.cells) [] #[] (Nat.le_refl _) (by simp) CmdP.cells_length rfl rfl rfl, bAlloc (Below.refl _ _) _⟩
  case round =>
    obtain ⟨k, hk, rfl, A', c', rfl, hown, hb⟩ := hrel
    by_cases hlt : k < l.length
    · have hl0 := HLEN.out k
      rw [cmdsOf_eq] at hl0
      have hft := flat_take l k hlt
      have HFT := Lib.hid hft
      have HCK := HC.out l[k] (List.getElem_mem hlt)
      have HIK := Lib.hid (HIN.out l[k] (List.getElem_mem hlt))
      obtain ⟨D, hD⟩ : ∃ D, ((l.take k).flatMap OutP.cmds).filter (kindOk kind) = D := ⟨_, rfl⟩
      rw [hD] at hown hl0 ⊢
      have HD := Lib.hid hD
      have HO := Lib.hid hown
      obtain ⟨O, hO⟩ : ∃ O, l[k] = O := ⟨_, rfl⟩
      have HOO := Lib.hid hO
      rw [hO] at HCK HIK HFT
      clear hft hD hown
      have hb0 := Lib.hid hb
      clear hb
      go_wp2
      go_loopw [5, 7] (fun v j wr => ∃ q : Nat, q ≤ O.cmds.length ∧ j = .int .i64 q ∧ ∃ A' c', v = .slice A' (D ++ (O.cmds.take q).filter (kindOk kind)).length c' ∧ OwnL wr w.heap.size 47 12 (.slice A' (D ++ (O.cmds.take q).filter (kindOk kind)).length c') CmdP.cells (D ++ (O.cmds.take q).filter (kindOk kind)) ∧ Below w.heap.size w wr) (fun _ j _ => O.cmds.length - (intOf j).toNat)
      case atStart => exact ⟨0, Nat.zero_le _, rfl, A', c', by simp, by simpa using HO.out, hb0.out⟩
      case round =>
        clear HO hb0
        obtain ⟨q, hq, rfl, A2, c2, rfl, hown2, hb2⟩ := hrel
        obtain ⟨b, off, rfl, hB, hc⟩ := (HR.out.below hb2 (Nat.le_refl _)).at_ OutP.cells_length (by decide) hlt
        rw [hO] at hc
        have c0 := hc 0 _ rfl
        rw [Nat.add_zero] at c0
        clear hc
        have hlen2 : (D ++ (O.cmds.take q).filter (kindOk kind)).length ≤ 12060 := by
          have := List.length_filter_le (kindOk kind) (O.cmds.take q)
          rw [List.length_take] at this
          rw [List.length_append]; omega
        by_cases hlq : q < O.cmds.length
        · obtain ⟨b3, off3, hA3, hB3, hc3⟩ := (HIK.out.1.below hb2 (Nat.le_refl _)).at_ CmdP.cells_length (by decide) hlq
          have e0 := hc3 0 _ rfl
          have e1 := hc3 1 _ rfl
          have e2 := hc3 2 _ rfl
          have e3 := hc3 3 _ rfl
          have e4 := hc3 4 _ rfl
          have e5 := hc3 5 _ rfl
          have e6 := hc3 6 _ rfl
          have e7 := hc3 7 _ rfl
          have e8 := hc3 8 _ rfl
          have e9 := hc3 9 _ rfl
          have e10 := hc3 10 _ rfl
          have e11 := hc3 11 _ rfl
          rw [Nat.add_zero] at e0
          have hst : (O.cmds.take (q + 1)).filter (kindOk kind) = (O.cmds.take q).filter (kindOk kind) ++ if kindOk kind O.cmds[q] then [O.cmds[q]] else [] := by
            rw [List.take_succ_eq_append_getElem hlq, List.filter_append, List.filter_cons, List.filter_nil]
          have HST := Lib.hid hst
          have HO2 := Lib.hid hown2
          obtain ⟨L2, hL2⟩ : ∃ L2, D ++ (O.cmds.take q).filter (kindOk kind) = L2 := ⟨_, rfl⟩
          have HL2 := Lib.hid hL2
          rw [hL2] at HO2 hlen2 ⊢
          obtain ⟨C, hC⟩ : ∃ C, O.cmds[q] = C := ⟨_, rfl⟩
          rw [hC] at e0 e1 e2 e3 e4 e5 e6 e7 e8 e9 e10 e11 HST
          rw [hA3] at c0
          have hbz := hb2.size
          clear hc3 hst hown2 hL2 hC hO
          by_cases hk1 : C.kind = kind
          · by_cases hk2 : 1 ≤ kind ∧ kind ≤ 4
            · have hko : kindOk kind C = true := by unfold kindOk; rw [decide_eq_true hk1, decide_eq_true hk2]; rfl
              have HKO := Lib.hid hko
              have HK1 := Lib.hid hk1
              have hd1 : (C.kind == kind) = true := by simpa using hk1
              obtain ⟨hk3, hk4⟩ := hk2
              clear hko hk1
              go_wp2_with (at_builtin; refine wpList_append_own _ rfl (.tmp 44) (.tmp 53) 28 rfl w.heap.size 47 i0 _ 12 96 Tryd.underlying28 hi0 hz0 hz1 hz2 rfl (by decide) (.slice A2 L2.length c2) L2.length (L2.flatMap CmdP.cells) rfl ?c0 ⟨wr.heap.size, 0, none⟩ 1 1 C.cells rfl rfl ?c1 (cmd_oneCell C) ?c3 ?c4 ?c5 ?_)
              case c0 => exact HO2.out.alloc _
              case c1 => exact cell_new_row wr C.cells.toArray 47 _ rfl
              case c3 => simp [maxLen]; omega
              case c4 => omega
              case c5 => simp; omega
              intro v' w' hown' hgr hnil
              have hb3 : Below w.heap.size w w' := Below.grown (bAlloc hb2 _) hgr (by simp; omega) HO2.out.base_le
              have hw2 : OwnL w' w.heap.size 47 12 v' CmdP.cells (D ++ (O.cmds.take (q + 1)).filter (kindOk kind)) := by
                unfold OwnL
                rw [HST.out, if_pos HKO.out, ← List.append_assoc, HL2.out, List.length_append, List.flatMap_append]
                simpa using hown'
              obtain ⟨A4, c4, rfl⟩ := hw2.shape
              have HW2 := Lib.hid hw2
              clear hown' hgr hnil hw2
              go_wp2
              go_roundw
              case rel => exact ⟨q + 1, by omega, by go_num, A4, c4, rfl, HW2.out, hb3⟩
              case measure => simp [intOf]; omega
            · have hko : kindOk kind C = false := by unfold kindOk; rw [decide_eq_false hk2, Bool.and_false]
              have HKO := Lib.hid hko
              have hd1 : (C.kind == kind) = true := by simpa using hk1
              have HK1 := Lib.hid hk1
              have HL3 : Hid (D ++ (O.cmds.take (q + 1)).filter (kindOk kind) = L2) := Lib.hid (by rw [HST.out, if_neg (by rw [HKO.out]; decide), List.append_nil, HL2.out])
              clear hko hk1
              by_cases hk5 : 1 ≤ kind
              · have hk6 : 4 < kind := by omega
                clear hk2
                go_wp2
                go_roundw
                case rel => exact ⟨q + 1, by omega, by go_num, A2, c2, by rw [HL3.out], by rw [HL3.out]; exact HO2.out, hb2⟩
                case measure => simp [intOf]; omega
              · clear hk2
                go_wp2
                go_roundw
                case rel => exact ⟨q + 1, by omega, by go_num, A2, c2, by rw [HL3.out], by rw [HL3.out]; exact HO2.out, hb2⟩
                case measure => simp [intOf]; omega
          · have hko : kindOk kind C = false := by unfold kindOk; rw [decide_eq_false hk1]; rfl
            have HKO := Lib.hid hko
            have hd1 : (C.kind == kind) = false := by simpa using hk1
            have HL3 : Hid (D ++ (O.cmds.take (q + 1)).filter (kindOk kind) = L2) := Lib.hid (by rw [HST.out, if_neg (by rw [HKO.out]; decide), List.append_nil, HL2.out])
            clear hko hk1
            go_wp2
            go_roundw
            case rel => exact ⟨q + 1, by omega, by go_num, A2, c2, by rw [HL3.out], by rw [HL3.out]; exact HO2.out, hb2⟩
            case measure => simp [intOf]; omega
        · obtain rfl : q = O.cmds.length := by omega
          rw [List.take_length] at hown2 ⊢
          have hfin : ((l.take (k + 1)).flatMap OutP.cmds).filter (kindOk kind) = D ++ O.cmds.filter (kindOk kind) := by rw [HFT.out, List.filter_append, HD.out]
          have HFIN := Lib.hid hfin
          have HO2 := Lib.hid hown2
          clear hfin hown2 hO
          go_wp2
          go_roundw
          case rel => exact ⟨k + 1, by omega, by go_num, A2, c2, by rw [HFIN.out], by rw [HFIN.out]; exact HO2.out, hb2⟩
          case measure => simp [intOf]; omega
    · have hkl : l.take k = l := List.take_of_length_le (by omega)
      rw [hkl, ← HEQ.out] at hown
      rw [hkl, ← HEQ.out]
      have HO := Lib.hid hown
      clear hkl hown
      go_wp2
      go_ret
      exact ⟨A', c', rfl, HO.out, hb⟩

/-- What is counted of a list. -/
def cnt {α : Type} (p : α → Bool) (l : List α) : Int := ((l.filter p).length : Nat)
theorem cnt_take {α : Type} (p : α → Bool) (l : List α) (k : Nat) (h : k < l.length) : cnt p (l.take (k + 1)) = cnt p (l.take k) + if p l[k] then 1 else 0 := by
  unfold cnt
  rw [List.take_succ_eq_append_getElem h, List.filter_append, List.length_append]
  cases hm : p l[k] <;> simp [hm]
theorem cnt_bd {α : Type} (p : α → Bool) (l : List α) : 0 ≤ cnt p l ∧ cnt p l ≤ l.length := by
  unfold cnt
  have := List.length_filter_le p l
  omega

set_option maxHeartbeats 1000000 in
theorem rPlayed_any (A : Option Addr) (c : Nat) (l : List OutP) (w : World) (hn : l.length ≤ 200) (hr : Rd w w.heap.size A (l.flatMap OutP.cells)) (hin : ∀ o ∈ l, o.In w w.heap.size) (hc : ∀ o ∈ l, o.cmds.length ≤ 60) :
    Calls Tryd.prog 25 #[.slice A l.length c] w fun e w' => e = .returned (.int .i64 (cnt CmdP.played (cmdsOf l 4))) ∧ Below w.heap.size w w' := by
  have hlen := cmdsOf_len l 4 hn hc
  go_enter Tryd.func25, Tryd.ntmps25
  go_wp2_with fail
  refine (rCmds_any A c l 4 _ hn hr hin hc).mono ?_
  rintro e w1 ⟨A1, c1, rfl, hown, hb1⟩
  obtain ⟨L, hL⟩ : ∃ L, cmdsOf l 4 = L := ⟨_, rfl⟩
  rw [hL] at hown hlen ⊢
  have HLL := Lib.hid hL
  have HO := Lib.hid hown
  clear hown hL hr hin hc
  go_wp2
  go_loop [4, 5] (fun n i => ∃ k : Nat, k ≤ L.length ∧ i = .int .i64 k ∧ n = .int .i64 (cnt CmdP.played (L.take k))) (fun _ i => L.length - (intOf i).toNat)
  case atStart => exact ⟨0, Nat.zero_le _, rfl, rfl⟩
  case round =>
    obtain ⟨k, hk, rfl, rfl⟩ := hrel
    by_cases hlt : k < L.length
    · obtain ⟨b, off, rfl, hB, hc⟩ := HO.out.rd.at_ CmdP.cells_length (by decide) hlt
      have c2 := hc 11 _ rfl
      have hst := cnt_take CmdP.played L k hlt
      have HST := Lib.hid hst
      have hbd := cnt_bd CmdP.played (L.take k)
      rw [List.length_take] at hbd
      clear hc hst
      cases hm : L[k].played
      all_goals
        have HM := Lib.hid hm
        rw [hm] at c2
        clear hm
        go_wp2
        go_round
        case rel => exact ⟨k + 1, by omega, by go_num, by rw [HST.out, HM.out]; simp⟩
        case measure => simp [intOf]; omega
    · rw [List.take_of_length_le (by omega)]
      go_wp2
      go_ret
      exact ⟨ret_int (by rw [HLL.out]), hb1⟩

def lateIs (n : Int) (c : CmdP) : Bool := decide (((clamp c.late : Nat) : Int) = n)
set_option maxHeartbeats 1000000 in
theorem rLate_any (A : Option Addr) (c : Nat) (l : List OutP) (n : Int) (w : World) (hn : l.length ≤ 200) (hr : Rd w w.heap.size A (l.flatMap OutP.cells)) (hin : ∀ o ∈ l, o.In w w.heap.size) (hc : ∀ o ∈ l, o.cmds.length ≤ 60) :
    Calls Tryd.prog 27 #[.slice A l.length c, .int .i64 n] w fun e w' => e = .returned (.int .i64 (cnt (lateIs n) (cmdsOf l 1))) ∧ Below w.heap.size w w' := by
  have hlen := cmdsOf_len l 1 hn hc
  go_enter Tryd.func27, Tryd.ntmps27
  go_wp2_with fail
  refine (rCmds_any A c l 1 _ hn hr hin hc).mono ?_
  rintro e w1 ⟨A1, c1, rfl, hown, hb1⟩
  obtain ⟨L, hL⟩ : ∃ L, cmdsOf l 1 = L := ⟨_, rfl⟩
  rw [hL] at hown hlen ⊢
  have HLL := Lib.hid hL
  have HO := Lib.hid hown
  clear hown hL hr hin hc
  go_wp2
  go_loop [6, 7] (fun m i => ∃ k : Nat, k ≤ L.length ∧ i = .int .i64 k ∧ m = .int .i64 (cnt (lateIs n) (L.take k))) (fun _ i => L.length - (intOf i).toNat)
  case atStart => exact ⟨0, Nat.zero_le _, rfl, rfl⟩
  case round =>
    obtain ⟨k, hk, rfl, rfl⟩ := hrel
    by_cases hlt : k < L.length
    · obtain ⟨b, off, rfl, hB, hc⟩ := HO.out.rd.at_ CmdP.cells_length (by decide) hlt
      have c2 := hc 10 _ rfl
      have hst := cnt_take (lateIs n) L k hlt
      have HST := Lib.hid hst
      have hbd := cnt_bd (lateIs n) (L.take k)
      rw [List.length_take] at hbd
      have hcc := clamp_cast L[k].late
      have key : ∀ v : Int, v = max 0 (min L[k].late 63) → lateIs n L[k] = (v == n) := fun v hv => by unfold lateIs; rw [hcc, ← hv]; exact (Bool.beq_eq_decide_eq _ _).symm
      have KEY := Lib.hid key
      clear hc hst hcc key
      rcases (show L[k].late < 0 ∨ 63 < L[k].late ∨ (0 ≤ L[k].late ∧ L[k].late ≤ 63) by omega) with h1 | h1 | ⟨h1, h2⟩
      · have hk0 := KEY.out 0 (by omega)
        cases hx : ((0 : Int) == n)
        all_goals
          rw [hx] at hk0
          have HK0 := Lib.hid hk0
          clear hk0
          go_wp2
          go_round
          case rel => exact ⟨k + 1, by omega, by go_num, by rw [HST.out, HK0.out]; simp⟩
          case measure => simp [intOf]; omega
      · have hk0 := KEY.out 63 (by omega)
        cases hx : ((63 : Int) == n)
        all_goals
          rw [hx] at hk0
          have HK0 := Lib.hid hk0
          clear hk0
          go_wp2
          go_round
          case rel => exact ⟨k + 1, by omega, by go_num, by rw [HST.out, HK0.out]; simp⟩
          case measure => simp [intOf]; omega
      · have hk0 := KEY.out L[k].late (by omega)
        cases hx : (L[k].late == n)
        all_goals
          rw [hx] at hk0
          have HK0 := Lib.hid hk0
          clear hk0
          go_wp2
          go_round
          case rel => exact ⟨k + 1, by omega, by go_num, by rw [HST.out, HK0.out]; simp⟩
          case measure => simp [intOf]; omega
    · rw [List.take_of_length_le (by omega)]
      go_wp2
      go_ret
      exact ⟨ret_int (by rw [HLL.out]), hb1⟩
end Go.Proofs.YtnepjdpifbjiiaaDoor
