/-
  The reference's line.
-/
import Derived.Test.YtnepjdpifbjiiaaDoorMeterLine
namespace Go.Proofs.YtnepjdpifbjiiaaDoor
open Go.RowKit
set_option maxRecDepth 100000

def NN.txt (x : NN) : List UInt8 := x.nm ++ Lib.decDigits x.n
def pieces (f : Nat → Int) : List NN := [⟨[111, 117, 116, 115, 61], (f 0).toNat⟩, ⟨[32, 109, 111, 118, 101, 100, 61], (f 1).toNat⟩, ⟨[32, 115, 101, 110, 116, 61], (f 2).toNat⟩, ⟨[32, 98, 121, 116, 101, 115, 61], (f 3).toNat⟩, ⟨[32, 115, 116, 97, 114, 116, 115, 61], (f 6).toNat⟩, ⟨[32, 116, 117, 114, 110, 115, 61], (f 7).toNat⟩, ⟨[32, 99, 97, 110, 99, 101, 108, 115, 61], (f 8).toNat⟩, ⟨[32, 99, 111, 109, 109, 105, 116, 115, 61], (f 9).toNat⟩, ⟨[32, 112, 108, 97, 121, 101, 100, 61], (f 4).toNat⟩]
theorem pieces_join (f : Nat → Int) : (pieces f).flatMap NN.txt = joinL (lineT f) := by
  simp [pieces, lineT, lineRow, joinL, NN.text, NN.txt]
theorem txt_len (P : List NN) (h : ∀ x ∈ P, x.nm.length ≤ 10 ∧ x.n ≤ 9223372036854775807) : (P.flatMap NN.txt).length ≤ 31 * P.length := by
  induction P with
  | nil => simp
  | cons x P ih =>
    obtain ⟨h1, h2⟩ := h x (by simp)
    have := dec_len x.n h2
    have := ih fun y hy => h y (by simp [hy])
    simp only [List.flatMap_cons, List.length_append, NN.txt, List.length_cons]
    omega

/-- What a meter's numbers are, of the outs that were noted. -/
structure Agree (f : Nat → Int) (l : List OutP) : Prop where
  pos : ∀ j, 0 ≤ f j ∧ f j ≤ 9223372036854775807
  outs : f 0 = l.length
  moved : f 1 = movedOf l
  sent : f 2 = (sendsOf l).length
  bytes : f 3 = bytesOf l
  played : f 4 = cnt CmdP.played (cmdsOf l 4)
  k1 : f 6 = (cmdsOf l 1).length
  k2 : f 7 = (cmdsOf l 2).length
  k3 : f 8 = (cmdsOf l 3).length
  k4 : f 9 = (cmdsOf l 4).length
  late : ∀ j : Nat, j < 64 → f (10 + j) = cnt (lateIs j) (cmdsOf l 1)

theorem in_below {l : List OutP} {w w' : World} (h : ∀ o ∈ l, o.In w w.heap.size) (hb : Below w.heap.size w w') : ∀ o ∈ l, o.In w' w'.heap.size := fun o ho =>
  ⟨((h o ho).1.below hb (Nat.le_refl _)).more hb.size, ((h o ho).2.below hb (Nat.le_refl _)).more hb.size⟩
theorem rd_below {A : Option Addr} {xs : List Value} {w w' : World} (h : Rd w w.heap.size A xs) (hb : Below w.heap.size w w') : Rd w' w'.heap.size A xs := (h.below hb (Nat.le_refl _)).more hb.size

set_option maxHeartbeats 4000000 in
theorem rLine_any (A : Option Addr) (c : Nat) (l : List OutP) (f : Nat → Int) (w : World) (hn : l.length ≤ 200) (hr : Rd w w.heap.size A (l.flatMap OutP.cells)) (hin : ∀ o ∈ l, o.In w w.heap.size) (hc : ∀ o ∈ l, o.cmds.length ≤ 60) (hcs : ∀ o ∈ l, o.sends.length ≤ 60) (ha : Agree f l) :
    Calls Tryd.prog 26 #[.slice A l.length c] w fun e w' => e = .returned (str (joinL (lineT f))) ∧ Below w.heap.size w w' := by
  have hj := pieces_join f
  have key : ∀ j, (f j).toNat ≤ 9223372036854775807 := fun j => by have := ha.pos j; omega
  have hok : ∀ x ∈ pieces f, x.nm.length ≤ 10 ∧ x.n ≤ 9223372036854775807 := by
    intro x hx
    simp only [pieces, List.mem_cons, List.not_mem_nil, or_false] at hx
    rcases hx with rfl | rfl | rfl | rfl | rfl | rfl | rfl | rfl | rfl
    all_goals exact ⟨by simp, key _⟩
  unfold pieces at hj hok
  have g0 : (f 0).toNat = l.length := by rw [ha.outs]; rfl
  have e1 : movedOf l = ((f 1).toNat : Nat) := by rw [← ha.moved]; have := ha.pos 1; omega
  have e2 : (sendsOf l).length = (f 2).toNat := by rw [ha.sent]; rfl
  have e3 : bytesOf l = ((f 3).toNat : Nat) := by rw [← ha.bytes]; have := ha.pos 3; omega
  have e4 : cnt CmdP.played (cmdsOf l 4) = ((f 4).toNat : Nat) := by rw [← ha.played]; have := ha.pos 4; omega
  have e6 : (cmdsOf l 1).length = (f 6).toNat := by rw [ha.k1]; rfl
  have e7 : (cmdsOf l 2).length = (f 7).toNat := by rw [ha.k2]; rfl
  have e8 : (cmdsOf l 3).length = (f 8).toNat := by rw [ha.k3]; rfl
  have e9 : (cmdsOf l 4).length = (f 9).toNat := by rw [ha.k4]; rfl
  have HSent := fun w hr hin => rSent_any A c l w hn hr hin hcs
  have HMov := fun w hr => rMoved_any A c l w (by omega) hr
  have HC1 := fun w hr hin => rCmds_any A c l 1 w hn hr hin hc
  have HC2 := fun w hr hin => rCmds_any A c l 2 w hn hr hin hc
  have HC3 := fun w hr hin => rCmds_any A c l 3 w hn hr hin hc
  have HC4 := fun w hr hin => rCmds_any A c l 4 w hn hr hin hc
  have HP := fun w hr hin => rPlayed_any A c l w hn hr hin hc
  rw [e2, e3] at HSent
  rw [e1] at HMov
  rw [e6] at HC1
  rw [e7] at HC2
  rw [e8] at HC3
  rw [e9] at HC4
  rw [e4] at HP
  have HSent := Lib.hid HSent
  have HMov := Lib.hid HMov
  have HC1 := Lib.hid HC1
  have HC2 := Lib.hid HC2
  have HC3 := Lib.hid HC3
  have HC4 := Lib.hid HC4
  have HP := Lib.hid HP
  have HR := Lib.hid hr
  have HIN := Lib.hid hin
  have HG0 := Lib.hid g0
  obtain ⟨m0, hm0⟩ : ∃ m, (f 0).toNat = m := ⟨_, rfl⟩
  obtain ⟨m1, hm1⟩ : ∃ m, (f 1).toNat = m := ⟨_, rfl⟩
  obtain ⟨m2, hm2⟩ : ∃ m, (f 2).toNat = m := ⟨_, rfl⟩
  obtain ⟨m3, hm3⟩ : ∃ m, (f 3).toNat = m := ⟨_, rfl⟩
  obtain ⟨m6, hm6⟩ : ∃ m, (f 6).toNat = m := ⟨_, rfl⟩
  obtain ⟨m7, hm7⟩ : ∃ m, (f 7).toNat = m := ⟨_, rfl⟩
  obtain ⟨m8, hm8⟩ : ∃ m, (f 8).toNat = m := ⟨_, rfl⟩
  obtain ⟨m9, hm9⟩ : ∃ m, (f 9).toNat = m := ⟨_, rfl⟩
  obtain ⟨m4, hm4⟩ : ∃ m, (f 4).toNat = m := ⟨_, rfl⟩
  rw [hm0, hm1, hm2, hm3, hm6, hm7, hm8, hm9, hm4] at hj hok
  rw [hm2, hm3] at HSent
  rw [hm1] at HMov
  rw [hm6] at HC1
  rw [hm7] at HC2
  rw [hm8] at HC3
  rw [hm9] at HC4
  rw [hm4] at HP
  rw [hm0] at HG0
  have HJ := Lib.hid hj
  have HOK := Lib.hid hok
  clear hj hok key g0 e1 e2 e3 e4 e6 e7 e8 e9 hm0 hm1 hm2 hm3 hm6 hm7 hm8 hm9 hm4 hr hin hc hcs ha
  go_enter Tryd.func26, Tryd.ntmps26
  go_wp2_with fail
  refine (HSent.out _ HR.out HIN.out).mono ?_
  rintro e w1 ⟨rfl, rfl⟩
  go_wp2_with fail
  obtain ⟨W1, hW1⟩ : ∃ W1, W1 = w.alloc (.cells #[.string ⟨#[111, 117, 116, 115, 61]⟩, .string ⟨#[32, 109, 111, 118, 101, 100, 61]⟩, .string ⟨#[32, 115, 101, 110, 116, 61]⟩, .string ⟨#[32, 98, 121, 116, 101, 115, 61]⟩, .string ⟨#[32, 115, 116, 97, 114, 116, 115, 61]⟩, .string ⟨#[32, 116, 117, 114, 110, 115, 61]⟩, .string ⟨#[32, 99, 97, 110, 99, 101, 108, 115, 61]⟩, .string ⟨#[32, 99, 111, 109, 109, 105, 116, 115, 61]⟩, .string ⟨#[32, 112, 108, 97, 121, 101, 100, 61]⟩] 9) := ⟨_, rfl⟩
  rw [← hW1]
  have hx1 : Blk W1 w.heap.size 9 #[.string ⟨#[111, 117, 116, 115, 61]⟩, .string ⟨#[32, 109, 111, 118, 101, 100, 61]⟩, .string ⟨#[32, 115, 101, 110, 116, 61]⟩, .string ⟨#[32, 98, 121, 116, 101, 115, 61]⟩, .string ⟨#[32, 115, 116, 97, 114, 116, 115, 61]⟩, .string ⟨#[32, 116, 117, 114, 110, 115, 61]⟩, .string ⟨#[32, 99, 97, 110, 99, 101, 108, 115, 61]⟩, .string ⟨#[32, 99, 111, 109, 109, 105, 116, 115, 61]⟩, .string ⟨#[32, 112, 108, 97, 121, 101, 100, 61]⟩] := by rw [hW1]; exact Blk.new _ _ _
  have hb1 : Below w.heap.size w W1 := by rw [hW1]; exact bAlloc (Below.refl _ _) _
  have HX1 := Lib.hid hx1
  clear hW1 hx1
  refine (HMov.out _ (rd_below HR.out hb1)).mono ?_
  rintro e w2 ⟨rfl, rfl⟩
  go_wp2_with fail
  refine (HC1.out _ (rd_below HR.out hb1) (in_below HIN.out hb1)).mono ?_
  rintro e w3 ⟨A3, c3, rfl, -, hb3⟩
  go_wp2_with fail
  refine (HC2.out _ (rd_below HR.out (bTrans hb1 hb3)) (in_below HIN.out (bTrans hb1 hb3))).mono ?_
  rintro e w4 ⟨A4, c4, rfl, -, hb4⟩
  have hb4 := bTrans hb3 hb4
  go_wp2_with fail
  refine (HC3.out _ (rd_below HR.out (bTrans hb1 hb4)) (in_below HIN.out (bTrans hb1 hb4))).mono ?_
  rintro e w5 ⟨A5, c5, rfl, -, hb5⟩
  have hb5 := bTrans hb4 hb5
  go_wp2_with fail
  refine (HC4.out _ (rd_below HR.out (bTrans hb1 hb5)) (in_below HIN.out (bTrans hb1 hb5))).mono ?_
  rintro e w6 ⟨A6, c6, rfl, -, hb6⟩
  have hb6 := bTrans hb5 hb6
  go_wp2_with fail
  refine (HP.out _ (rd_below HR.out (bTrans hb1 hb6)) (in_below HIN.out (bTrans hb1 hb6))).mono ?_
  rintro e w7 ⟨rfl, hb7⟩
  have hb7 := bTrans hb6 hb7
  go_wp2
  rw [← HG0.out]
  obtain ⟨W8, hW8⟩ : ∃ W8, W8 = w7.alloc (.cells #[.int .i64 (m0 : Nat), .int .i64 (m1 : Nat), .int .i64 (m2 : Nat), .int .i64 (m3 : Nat), .int .i64 (m6 : Nat), .int .i64 (m7 : Nat), .int .i64 (m8 : Nat), .int .i64 (m9 : Nat), .int .i64 (m4 : Nat)] 3) := ⟨_, rfl⟩
  have hx8 : Blk W8 w7.heap.size 3 #[.int .i64 (m0 : Nat), .int .i64 (m1 : Nat), .int .i64 (m2 : Nat), .int .i64 (m3 : Nat), .int .i64 (m6 : Nat), .int .i64 (m7 : Nat), .int .i64 (m8 : Nat), .int .i64 (m9 : Nat), .int .i64 (m4 : Nat)] := by rw [hW8]; exact Blk.new _ _ _
  have hb8 : Below W1.heap.size W1 W8 := by rw [hW8]; exact bAlloc hb7 _
  rw [← hW8]
  have h17 : W1.heap.size ≤ w7.heap.size := hb7.size
  have hx1 := HX1.out.below hb8 HX1.out.lt
  obtain ⟨P, hP⟩ : ∃ P : List NN, P = [⟨[111, 117, 116, 115, 61], m0⟩, ⟨[32, 109, 111, 118, 101, 100, 61], m1⟩, ⟨[32, 115, 101, 110, 116, 61], m2⟩, ⟨[32, 98, 121, 116, 101, 115, 61], m3⟩, ⟨[32, 115, 116, 97, 114, 116, 115, 61], m6⟩, ⟨[32, 116, 117, 114, 110, 115, 61], m7⟩, ⟨[32, 99, 97, 110, 99, 101, 108, 115, 61], m8⟩, ⟨[32, 99, 111, 109, 109, 105, 116, 115, 61], m9⟩, ⟨[32, 112, 108, 97, 121, 101, 100, 61], m4⟩] := ⟨_, rfl⟩
  have hp1 := HJ.out
  have hp2 := HOK.out
  rw [← hP] at hp1 hp2
  have hp9 : P.length = 9 := by rw [hP]; rfl
  have e1 : #[.string ⟨#[111, 117, 116, 115, 61]⟩, .string ⟨#[32, 109, 111, 118, 101, 100, 61]⟩, .string ⟨#[32, 115, 101, 110, 116, 61]⟩, .string ⟨#[32, 98, 121, 116, 101, 115, 61]⟩, .string ⟨#[32, 115, 116, 97, 114, 116, 115, 61]⟩, .string ⟨#[32, 116, 117, 114, 110, 115, 61]⟩, .string ⟨#[32, 99, 97, 110, 99, 101, 108, 115, 61]⟩, .string ⟨#[32, 99, 111, 109, 109, 105, 116, 115, 61]⟩, .string ⟨#[32, 112, 108, 97, 121, 101, 100, 61]⟩] = (P.map (fun x => str x.nm)).toArray := by rw [hP]; rfl
  have e8 : #[.int .i64 (m0 : Nat), .int .i64 (m1 : Nat), .int .i64 (m2 : Nat), .int .i64 (m3 : Nat), .int .i64 (m6 : Nat), .int .i64 (m7 : Nat), .int .i64 (m8 : Nat), .int .i64 (m9 : Nat), .int .i64 (m4 : Nat)] = (P.map (fun x => Value.int .i64 x.n)).toArray := by rw [hP]; rfl
  rw [e1] at hx1
  rw [e8] at hx8
  have n1 : ∀ k (h : k < P.length), W8.cell? ⟨w.heap.size, k, none⟩ = some (.string ⟨P[k].nm.toArray⟩) := fun k h => by rw [hx1.cell k]; simp [h, str]
  have n8 : ∀ k (h : k < P.length), W8.cell? ⟨w7.heap.size, k, none⟩ = some (.int .i64 P[k].n) := fun k h => by rw [hx8.cell k]; simp [h]
  have N1 := Lib.hid hx1
  have N8 := Lib.hid hx8
  have HP1 := Lib.hid hp1
  have HP2 := Lib.hid hp2
  have HP9 := Lib.hid hp9
  have hb8 := bTrans hb1 hb8
  clear HX1 hP hp1 hp2 hp9 e1 e8 hW8 hx1 hx8 n1 n8 HJ HOK hb1 hb3 hb4 hb5 hb6 hb7 HSent HMov HC1 HC2 HC3 HC4 HP HR HIN HG0
  have hs8 : w7.heap.size < W8.heap.size := N8.out.lt
  have hs1 : w.heap.size < W8.heap.size := N1.out.lt
  go_loopw [7, 8] (fun s i wr => ∃ k : Nat, k ≤ 9 ∧ i = .int .i64 k ∧ s = .string ⟨((P.take k).flatMap NN.txt).toArray⟩ ∧ Below W8.heap.size W8 wr) (fun _ i _ => 9 - (intOf i).toNat)
  case atStart => exact ⟨0, by decide, rfl, rfl, Below.refl _ _⟩
  case round =>
    obtain ⟨k, hk, rfl, rfl, hbr⟩ := hrel
    by_cases hlt : k < 9
    · have hkl : k < P.length := by rw [HP9.out]; exact hlt
      have hbz := hbr.size
      have d1 : ∀ w', Below wr.heap.size wr w' → w'.cell? ⟨w.heap.size, k, none⟩ = some (.string ⟨P[k].nm.toArray⟩) := fun w' hb => by rw [((N1.out.below hbr hs1).below hb (Nat.lt_of_lt_of_le hs1 hbz)).cell k]; simp [hkl, str]
      have d8 : ∀ w', Below wr.heap.size wr w' → w'.cell? ⟨w7.heap.size, k, none⟩ = some (.int .i64 P[k].n) := fun w' hb => by rw [((N8.out.below hbr hs8).below hb (Nat.lt_of_lt_of_le hs8 hbz)).cell k]; simp [hkl]
      have htk : (P.take (k + 1)).flatMap NN.txt = (P.take k).flatMap NN.txt ++ P[k].nm ++ Lib.decDigits P[k].n := by rw [List.take_succ_eq_append_getElem hkl, List.flatMap_append]; simp [NN.txt]
      have hln : ((P.take k).flatMap NN.txt).length ≤ 31 * (P.take k).length := txt_len _ fun x hx => HP2.out x (List.mem_of_mem_take hx)
      have hlk : (P.take k).length ≤ 9 := by rw [List.length_take]; omega
      obtain ⟨x1, x2⟩ := HP2.out P[k] (List.getElem_mem hkl)
      obtain ⟨X, hX⟩ : ∃ X, P[k] = X := ⟨_, rfl⟩
      obtain ⟨T, hT⟩ : ∃ T, (P.take k).flatMap NN.txt = T := ⟨_, rfl⟩
      rw [hX] at d1 d8 x1 x2 htk
      rw [hT] at hln htk ⊢
      have HTK := Lib.hid htk
      have hdl := dec_len X.n x2
      have r1 : ∀ v, (Op.stringOp .add ⟨T.toArray⟩ ⟨X.nm.toArray⟩).run Tryd.prog v = .ok (.string (⟨T.toArray⟩ ++ ⟨X.nm.toArray⟩)) v := fun v => run_string_add_sum v _ _ (by simp [ByteArray.size]; omega)
      have l1 : ¬ 9223372036854775807 < T.length + X.nm.length := by omega
      have l2 : ¬ 9223372036854775807 < T.length + X.nm.length + (Lib.decDigits X.n).length := by omega
      have r2 : ∀ v, (Op.stringOp .add (⟨T.toArray⟩ ++ ⟨X.nm.toArray⟩) ⟨(Lib.decDigits X.n).toArray⟩).run Tryd.prog v = .ok (.string (⟨T.toArray⟩ ++ ⟨X.nm.toArray⟩ ++ ⟨(Lib.decDigits X.n).toArray⟩)) v := fun v => run_string_add_sum v _ _ (by simp [ByteArray.size]; omega)
      have D1 := Lib.hid d1
      have D8 := Lib.hid d8
      clear hX hT htk hkl d1 d8
      go_wp2
      go_region_held3 (fun w' => w'.cell? ⟨w.heap.size, k, none⟩ = some (.string ⟨X.nm.toArray⟩) ∧ w'.cell? ⟨w7.heap.size, k, none⟩ = some (.int .i64 X.n))
        (first | exact ⟨D1.out _ (Below.refl _ _).drew, D8.out _ (Below.refl _ _).drew⟩ | exact ⟨D1.out _ (bTrans (Below.refl _ _).drew hb9), D8.out _ (bTrans (Below.refl _ _).drew hb9)⟩ | fail)
        (first | (go_at_call 34; refine (digits_any X.n _ x2).mono ?_; rintro e w9 ⟨rfl, hb9⟩; unfold str) | fail)
      go_wp2
      go_roundw
      case rel => exact ⟨k + 1, by omega, by go_num, by rw [HTK.out, ← str_append, ← str_append], bTrans hbr (bTrans (Below.refl _ _).drew hb9)⟩
      case measure => simp [intOf]; omega
    · have hk9 : k = 9 := by omega
      subst hk9
      have htk : P.take 9 = P := List.take_of_length_le (by rw [HP9.out]; exact Nat.le_refl _)
      rw [htk, HP1.out]
      go_wp2
      go_ret
      exact ⟨rfl, bTrans hb8 hbr⟩
end Go.Proofs.YtnepjdpifbjiiaaDoor
