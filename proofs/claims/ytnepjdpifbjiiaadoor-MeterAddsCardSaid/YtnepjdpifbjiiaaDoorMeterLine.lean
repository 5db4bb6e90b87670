/-
  A meter's line in words.
-/
import Derived.Test.YtnepjdpifbjiiaaDoorMeterRef3
import Derived.Test.YtnepjdpifbjiiaaDoorJoin
namespace Go.Proofs.YtnepjdpifbjiiaaDoor
open Go.RowKit
set_option maxRecDepth 100000

theorem gPow : Tryd.prog.globalNamed "internal/strconv.uint64pow10" = some 0 := by kernel_rfl
/-- The library's table of powers lies there. -/
def Tab (w : World) (B : Nat) : Prop := Lib.TabIs Tryd.prog w "internal/strconv.uint64pow10" .u64 Lib.pow10Tab ∧ 0 < B
theorem Tab.below {w w' : World} {B B' : Nat} (h : Tab w B) (hb : Below B' w w') (hB : B ≤ B') : Tab w' B := ⟨var?_below hb gPow (Nat.lt_of_lt_of_le h.2 hB) h.1, h.2⟩

structure NN where
  nm : List UInt8
  n : Nat
def NN.cells (x : NN) : List Value := [str x.nm, .int .i64 x.n]
theorem NN.cells_length (x : NN) : x.cells.length = 2 := rfl
def NN.text (x : NN) : List UInt8 := x.nm ++ [61] ++ Lib.decDigits x.n
def lineRow (f : Nat → Int) : List NN := [⟨[111, 117, 116, 115], (f 0).toNat⟩, ⟨[109, 111, 118, 101, 100], (f 1).toNat⟩, ⟨[115, 101, 110, 116], (f 2).toNat⟩, ⟨[98, 121, 116, 101, 115], (f 3).toNat⟩, ⟨[115, 116, 97, 114, 116, 115], (f 6).toNat⟩, ⟨[116, 117, 114, 110, 115], (f 7).toNat⟩, ⟨[99, 97, 110, 99, 101, 108, 115], (f 8).toNat⟩, ⟨[99, 111, 109, 109, 105, 116, 115], (f 9).toNat⟩, ⟨[112, 108, 97, 121, 101, 100], (f 4).toNat⟩]
def lineT (f : Nat → Int) : List (List UInt8) := (lineRow f).map NN.text
theorem line_ok (f : Nat → Int) (h : ∀ j, 0 ≤ f j ∧ f j ≤ 9223372036854775807) : ∀ x ∈ lineRow f, x.nm.length ≤ 8 ∧ x.n ≤ 9223372036854775807 := by
  have key : ∀ j, (f j).toNat ≤ 9223372036854775807 := fun j => by have := h j; omega
  intro x hx
  simp only [lineRow, List.mem_cons, List.not_mem_nil, or_false] at hx
  rcases hx with rfl | rfl | rfl | rfl | rfl | rfl | rfl | rfl | rfl
  all_goals exact ⟨by simp, key _⟩
theorem Tryd.infoStr : (Tryd.prog.info? 9).map (fun i => (i.zero, i.size, i.bytes)) = some (some (.string ⟨#[]⟩), 1, 16) := by kernel_rfl
def sc (s : List UInt8) : List Value := [str s]
theorem Blk.rd {w : World} {g : Nat} {E : TypeId} {cs : Array Value} (h : Blk w g E cs) : Rd w (g + 1) (some ⟨g, 0, none⟩) cs.toList := fun _ =>
  ⟨g, 0, rfl, Nat.lt_succ_self _, fun j u hu => by rw [Nat.zero_add, h.cell j, ← hu]; simp⟩
theorem itoa_str (u : Nat) (w : World) (hu : u ≤ 9223372036854775807) (htab : Lib.TabIs Tryd.prog w "internal/strconv.uint64pow10" .u64 Lib.pow10Tab) : Calls Tryd.prog 32 #[.int .i64 u] w fun e w' => e = .returned (.string ⟨(Lib.decDigits u).toArray⟩) ∧ Below w.heap.size w w' := itoa_any u w hu htab

theorem own_row {α : Type} {w : World} {base k : Nat} {E : TypeId} {m : Nat} {v : Value} {f : α → List Value} {l : List α} (h : OwnL w base E m v f l) (hk : l.length = k) : ∀ o, (w.alloc o).ownsRow base E m v k (l.flatMap f) := fun o => by
  subst hk
  exact World.ownsRow.alloc h o
theorem sz_alloc (w : World) (o : Obj) : (w.alloc o).heap.size = w.heap.size + 1 := by simp
theorem sz_le (w : World) (o : Obj) : w.heap.size ≤ (w.alloc o).heap.size := by simp
theorem one_str (b : ByteArray) : ∀ u ∈ [Value.string b], u.oneCell' = true := by simp [Value.oneCell']
set_option maxHeartbeats 4000000 in
theorem line_any (g : Nat) (f : Nat → Int) (w : World) (hf : IBlk w g 53 74 f) (hs : ∀ j, 0 ≤ f j ∧ f j ≤ 9223372036854775807) (ht : Tab w w.heap.size) :
    Calls Tryd.prog 19 #[.pointer (some ⟨g, 0, none⟩)] w fun e w' => e = .returned (str (joinL (lineT f))) ∧ Below w.heap.size w w' := by
  obtain ⟨i0, hi0, hz0, hz1, hz2⟩ := info_parts Tryd.infoStr
  have hok := line_ok f hs
  have cell : ∀ j, j < 74 → w.cell? ⟨g, j, none⟩ = some (.int .i64 ((f j).toNat : Nat)) := fun j hj => by rw [hf.cell j hj]; have := hs j; congr 2; omega
  have c0 := cell 0 (by decide)
  have c1 := cell 1 (by decide)
  have c2 := cell 2 (by decide)
  have c3 := cell 3 (by decide)
  have c6 := cell 6 (by decide)
  have c7 := cell 7 (by decide)
  have c8 := cell 8 (by decide)
  have c9 := cell 9 (by decide)
  have c4 := cell 4 (by decide)
  have hlt := hf.lt
  have HT := Lib.hid ht
  have hlt' : lineT f = (lineRow f).map NN.text := rfl
  unfold lineRow at hok hlt'
  obtain ⟨m0, hm0⟩ : ∃ m, (f 0).toNat = m := ⟨_, rfl⟩
  obtain ⟨m1, hm1⟩ : ∃ m, (f 1).toNat = m := ⟨_, rfl⟩
  obtain ⟨m2, hm2⟩ : ∃ m, (f 2).toNat = m := ⟨_, rfl⟩
  obtain ⟨m3, hm3⟩ : ∃ m, (f 3).toNat = m := ⟨_, rfl⟩
  obtain ⟨m6, hm6⟩ : ∃ m, (f 6).toNat = m := ⟨_, rfl⟩
  obtain ⟨m7, hm7⟩ : ∃ m, (f 7).toNat = m := ⟨_, rfl⟩
  obtain ⟨m8, hm8⟩ : ∃ m, (f 8).toNat = m := ⟨_, rfl⟩
  obtain ⟨m9, hm9⟩ : ∃ m, (f 9).toNat = m := ⟨_, rfl⟩
  obtain ⟨m4, hm4⟩ : ∃ m, (f 4).toNat = m := ⟨_, rfl⟩
  rw [hm0, hm1, hm2, hm3, hm6, hm7, hm8, hm9, hm4] at hok hlt'
  rw [hm0] at c0
  rw [hm1] at c1
  rw [hm2] at c2
  rw [hm3] at c3
  rw [hm6] at c6
  rw [hm7] at c7
  rw [hm8] at c8
  rw [hm9] at c9
  rw [hm4] at c4
  obtain ⟨R, hR⟩ : ∃ R : List NN, R = [⟨[111, 117, 116, 115], m0⟩, ⟨[109, 111, 118, 101, 100], m1⟩, ⟨[115, 101, 110, 116], m2⟩, ⟨[98, 121, 116, 101, 115], m3⟩, ⟨[115, 116, 97, 114, 116, 115], m6⟩, ⟨[116, 117, 114, 110, 115], m7⟩, ⟨[99, 97, 110, 99, 101, 108, 115], m8⟩, ⟨[99, 111, 109, 109, 105, 116, 115], m9⟩, ⟨[112, 108, 97, 121, 101, 100], m4⟩] := ⟨_, rfl⟩
  rw [← hR] at hok hlt'
  have hR9 : R.length = 9 := by rw [hR]; rfl
  have hRC : R.flatMap NN.cells = (#[.string ⟨#[111, 117, 116, 115]⟩, .int .i64 (m0 : Nat), .string ⟨#[109, 111, 118, 101, 100]⟩, .int .i64 (m1 : Nat), .string ⟨#[115, 101, 110, 116]⟩, .int .i64 (m2 : Nat), .string ⟨#[98, 121, 116, 101, 115]⟩, .int .i64 (m3 : Nat), .string ⟨#[115, 116, 97, 114, 116, 115]⟩, .int .i64 (m6 : Nat), .string ⟨#[116, 117, 114, 110, 115]⟩, .int .i64 (m7 : Nat), .string ⟨#[99, 97, 110, 99, 101, 108, 115]⟩, .int .i64 (m8 : Nat), .string ⟨#[99, 111, 109, 109, 105, 116, 115]⟩, .int .i64 (m9 : Nat), .string ⟨#[112, 108, 97, 121, 101, 100]⟩, .int .i64 (m4 : Nat)] : Array Value).toList := by rw [hR]; rfl
  have HOK := Lib.hid hok
  have HLT := Lib.hid hlt'
  have HR9 := Lib.hid hR9
  have HRC := Lib.hid hRC
  clear hf hs ht cell hok hlt' hR hR9 hRC hm0 hm1 hm2 hm3 hm6 hm7 hm8 hm9 hm4
  go_enter Tryd.func19, Tryd.ntmps19
  go_wp2
  go_region_held3 (fun w' => w'.cell? ⟨g, 0, none⟩ = some (.int .i64 (m0 : Nat)) ∧ w'.cell? ⟨g, 1, none⟩ = some (.int .i64 (m1 : Nat)) ∧ w'.cell? ⟨g, 2, none⟩ = some (.int .i64 (m2 : Nat)) ∧ w'.cell? ⟨g, 3, none⟩ = some (.int .i64 (m3 : Nat)) ∧ w'.cell? ⟨g, 6, none⟩ = some (.int .i64 (m6 : Nat)) ∧ w'.cell? ⟨g, 7, none⟩ = some (.int .i64 (m7 : Nat)) ∧ w'.cell? ⟨g, 8, none⟩ = some (.int .i64 (m8 : Nat)) ∧ w'.cell? ⟨g, 9, none⟩ = some (.int .i64 (m9 : Nat)) ∧ w'.cell? ⟨g, 4, none⟩ = some (.int .i64 (m4 : Nat))) (go_keep) (fail)
  go_wp2
  obtain ⟨W1, hW1⟩ : ∃ W1, W1 = (w.alloc (.cells #[.string ⟨#[111, 117, 116, 115]⟩, .int .i64 (m0 : Nat), .string ⟨#[109, 111, 118, 101, 100]⟩, .int .i64 (m1 : Nat), .string ⟨#[115, 101, 110, 116]⟩, .int .i64 (m2 : Nat), .string ⟨#[98, 121, 116, 101, 115]⟩, .int .i64 (m3 : Nat), .string ⟨#[115, 116, 97, 114, 116, 115]⟩, .int .i64 (m6 : Nat), .string ⟨#[116, 117, 114, 110, 115]⟩, .int .i64 (m7 : Nat), .string ⟨#[99, 97, 110, 99, 101, 108, 115]⟩, .int .i64 (m8 : Nat), .string ⟨#[99, 111, 109, 109, 105, 116, 115]⟩, .int .i64 (m9 : Nat), .string ⟨#[112, 108, 97, 121, 101, 100]⟩, .int .i64 (m4 : Nat)] 66)).drew := ⟨_, rfl⟩
  rw [← hW1]
  have hrow : Blk W1 w.heap.size 66 #[.string ⟨#[111, 117, 116, 115]⟩, .int .i64 (m0 : Nat), .string ⟨#[109, 111, 118, 101, 100]⟩, .int .i64 (m1 : Nat), .string ⟨#[115, 101, 110, 116]⟩, .int .i64 (m2 : Nat), .string ⟨#[98, 121, 116, 101, 115]⟩, .int .i64 (m3 : Nat), .string ⟨#[115, 116, 97, 114, 116, 115]⟩, .int .i64 (m6 : Nat), .string ⟨#[116, 117, 114, 110, 115]⟩, .int .i64 (m7 : Nat), .string ⟨#[99, 97, 110, 99, 101, 108, 115]⟩, .int .i64 (m8 : Nat), .string ⟨#[99, 111, 109, 109, 105, 116, 115]⟩, .int .i64 (m9 : Nat), .string ⟨#[112, 108, 97, 121, 101, 100]⟩, .int .i64 (m4 : Nat)] := by rw [hW1]; exact (Blk.new _ _ _).drew
  have hbw1 : Below w.heap.size w W1 := by rw [hW1]; exact (bAlloc (Below.refl _ _) _).drew
  have HROW := Lib.hid hrow
  clear hW1 hrow c0 c1 c2 c3 c6 c7 c8 c9 c4
  go_loopw [3, 68] (fun v i wr => ∃ k : Nat, k ≤ 9 ∧ i = .int .i64 k ∧ ∃ A c, v = .slice A k c ∧ OwnL wr w.heap.size 9 1 (.slice A k c) sc ((R.take k).map NN.text) ∧ Hid (Blk wr w.heap.size 66 #[.string ⟨#[111, 117, 116, 115]⟩, .int .i64 (m0 : Nat), .string ⟨#[109, 111, 118, 101, 100]⟩, .int .i64 (m1 : Nat), .string ⟨#[115, 101, 110, 116]⟩, .int .i64 (m2 : Nat), .string ⟨#[98, 121, 116, 101, 115]⟩, .int .i64 (m3 : Nat), .string ⟨#[115, 116, 97, 114, 116, 115]⟩, .int .i64 (m6 : Nat), .string ⟨#[116, 117, 114, 110, 115]⟩, .int .i64 (m7 : Nat), .string ⟨#[99, 97, 110, 99, 101, 108, 115]⟩, .int .i64 (m8 : Nat), .string ⟨#[99, 111, 109, 109, 105, 116, 115]⟩, .int .i64 (m9 : Nat), .string ⟨#[112, 108, 97, 121, 101, 100]⟩, .int .i64 (m4 : Nat)]) ∧ Below w.heap.size w wr) (fun _ i _ => 9 - (intOf i).toNat)
  case atStart => exact ⟨0, by decide, rfl, none, 0, rfl, OwnL.nil, HROW, hbw1⟩
  case round =>
    clear HROW hbw1
    obtain ⟨k, hk, rfl, A, c, rfl, hown, hrow, hb⟩ := hrel
    have hbz := hb.size
    by_cases hlt9 : k < 9
    · have hkl : k < R.length := by rw [HR9.out]; exact hlt9
      have hrd := hrow.out.rd
      rw [← HRC.out] at hrd
      obtain ⟨b, off, e, hB, hc⟩ := hrd.at_ NN.cells_length (by decide) hkl
      simp only [Option.some.injEq, Addr.mk.injEq, and_true] at e
      obtain ⟨rfl, rfl⟩ := e
      have d0 := hc 0 _ rfl
      have d1 := hc 1 _ rfl
      rw [Nat.add_zero, Nat.zero_add] at d0
      rw [Nat.zero_add] at d1
      obtain ⟨x1, x2⟩ := HOK.out R[k] (List.getElem_mem hkl)
      have htk : (R.take (k + 1)).map NN.text = (R.take k).map NN.text ++ [NN.text R[k]] := by rw [List.take_succ_eq_append_getElem hkl, List.map_append]; rfl
      obtain ⟨X, hX⟩ : ∃ X, R[k] = X := ⟨_, rfl⟩
      rw [hX] at d0 d1 x1 x2 htk
      have HTK := Lib.hid htk
      have hdl := dec_len X.n x2
      have r1 : ∀ v, (Op.stringOp .add ⟨X.nm.toArray⟩ ⟨#[61]⟩).run Tryd.prog v = .ok (.string (⟨X.nm.toArray⟩ ++ ⟨#[61]⟩)) v := fun v => run_string_add_sum v _ _ (by simp [ByteArray.size]; omega)
      have r2 : ∀ v, (Op.stringOp .add (⟨X.nm.toArray⟩ ++ ⟨#[61]⟩) ⟨(Lib.decDigits X.n).toArray⟩).run Tryd.prog v = .ok (.string (⟨X.nm.toArray⟩ ++ ⟨#[61]⟩ ++ ⟨(Lib.decDigits X.n).toArray⟩)) v := fun v => run_string_add_sum v _ _ (by simp [ByteArray.size]; omega)
      have l1 : ¬ 9223372036854775807 < X.nm.length + 1 := by omega
      have l2 : ¬ 9223372036854775807 < X.nm.length + 1 + (Lib.decDigits X.n).length := by omega
      unfold str at d0
      have hrl := hrow.out.lt
      clear hc hrd hX htk
      go_wp2
      obtain ⟨W2, hW2⟩ : ∃ W2, W2 = wr.alloc (.cells #[.string ⟨X.nm.toArray⟩, .int .i64 X.n] 66) := ⟨_, rfl⟩
      rw [← hW2]
      have hx2 : Blk W2 wr.heap.size 66 #[.string ⟨X.nm.toArray⟩, .int .i64 X.n] := by rw [hW2]; exact Blk.new _ _ _
      have hb2 : Below wr.heap.size wr W2 := by rw [hW2]; exact bAlloc (Below.refl _ _) _
      have e0 := hx2.cell 0
      have e1 := hx2.cell 1
      simp only [List.getElem?_toArray, List.getElem?_cons_zero, List.getElem?_cons_succ] at e0 e1
      have hbt : Below w.heap.size w W2 := bTrans hb hb2
      have htab := (HT.out.below hbt.drew (Nat.le_refl _)).1
      have HO2 := Lib.hid (hown.below hb2)
      have HTB := Lib.hid htab
      have HX2 := Lib.hid hx2
      have hz2s : wr.heap.size < W2.heap.size := hx2.lt
      clear hW2 htab hx2
      have t63 : k + 1 ≤ maxLen := by simp only [maxLen]; omega
      have tby : (k + 1) * 16 ≤ 140737488355328 := by omega
      have tlen : ((R.take k).map NN.text).length = k := by rw [List.length_map, List.length_take, HR9.out]; omega
      have tne : 66 ≠ 9 := by decide
      go_region_held3 (fun w' => w'.cell? ⟨wr.heap.size, 0, none⟩ = some (.string ⟨X.nm.toArray⟩) ∧ w'.cell? ⟨wr.heap.size, 1, none⟩ = some (.int .i64 X.n))
        (first | exact ⟨e0, e1⟩ | exact ⟨(HX2.out.drew.on hb3).cell 0, (HX2.out.drew.on hb3).cell 1⟩ | exact ⟨((HX2.out.drew.on hb3).alloc _).cell 0, ((HX2.out.drew.on hb3).alloc _).cell 1⟩ | exact ⟨(((HX2.out.drew.on hb3).alloc _).grown hgrow hnr).cell 0, (((HX2.out.drew.on hb3).alloc _).grown hgrow hnr).cell 1⟩ | fail)
        (first
          | (go_at_call 32; refine (itoa_str X.n _ x2 HTB.out).mono ?_; rintro e w3 ⟨rfl, hb3⟩; have HOW : Hid (∀ o, (w3.alloc o).ownsRow w.heap.size 9 1 (.slice A k c) k (((R.take k).map NN.text).flatMap sc)) := Lib.hid (own_row (HO2.out.drew.below hb3) tlen); have hbz5 : w.heap.size ≤ w3.heap.size := Nat.le_trans (Nat.le_trans hbz (Nat.le_of_lt hz2s)) hb3.size)
          | (refine step_append_lies _ rfl _ _ _ rfl w.heap.size 9 i0 _ 1 16 Tryd.underlying29 hi0 hz0 hz1 hz2 rfl Nat.zero_lt_one (.slice A k c) k (((R.take k).map NN.text).flatMap sc) rfl (HOW.out _)
              ⟨w3.heap.size, 0, none⟩ 1 1 [.string (⟨X.nm.toArray⟩ ++ ⟨#[61]⟩ ++ ⟨(Lib.decDigits X.n).toArray⟩)] rfl rfl (World.news_of_block (cs := #[.string (⟨X.nm.toArray⟩ ++ ⟨#[61]⟩ ++ ⟨(Lib.decDigits X.n).toArray⟩)]) (t := 9) (fr := (0, 0)) (heap_alloc_new w3 _)) (one_str _)
              Nat.zero_lt_one t63 tby (Nat.le_trans hbz5 (sz_le w3 _)) (w3.heap.size + 1) (sz_alloc w3 _) ?_; intro gg cap w4 hown4 hgrow hat hlt4; have hnr : (Value.slice A k c).ownBlock ≠ some wr.heap.size := (HX2.out.drew.on hb3).apart (HO2.out.drew.below hb3) tne) | fail)
      obtain ⟨s4, hs4⟩ : ∃ s4, s4 = w4 := ⟨_, rfl⟩
      go_wp2
      go_roundw
      case rel =>
        have hbA : Below wr.heap.size wr w3 := bTrans hb2.drew hb3
        have hbB : Below w.heap.size w w3 := bTrans hb hbA
        have e8 : R.length = 9 := HR9.out
        refine ⟨k + 1, by omega, by go_num, some ⟨gg, 0, none⟩, cap, rfl, ?_, ?_, ?_⟩
        · unfold OwnL
          rw [HTK.out, List.flatMap_append, List.length_append, List.length_map, List.length_take, e8, Nat.min_eq_left (by omega)]
          have e9 : [NN.text X].flatMap sc = [Value.string (⟨X.nm.toArray⟩ ++ ⟨#[61]⟩ ++ ⟨(Lib.decDigits X.n).toArray⟩)] := by
            have h61 : (⟨#[61]⟩ : ByteArray) = ⟨([61] : List UInt8).toArray⟩ := rfl
            rw [h61, str_append, str_append]; rfl
          rw [e9]
          exact hown4
        · exact Lib.hid (((hrow.out.below hbA hrl).alloc _).grown hgrow ((hrow.out.below hbA hrl).apart (HO2.out.drew.below hb3) (by decide)))
        · exact Below.grown hbB (oTrans (oAlloc (oRefl _ _) _) hgrow) hbB.size (HO2.out.drew.below hb3).base_le
      case measure => simp [intOf]; omega
    · have hk9 : k = 9 := by omega
      subst hk9
      have htk : R.take 9 = R := List.take_of_length_le (by rw [HR9.out]; exact Nat.le_refl _)
      rw [htk, ← HLT.out] at hown
      have hl9 : (lineT f).length = 9 := by rw [HLT.out, List.length_map, HR9.out]
      have hls : ∀ s ∈ lineT f, s.length ≤ 1000 := by
        rw [HLT.out]
        intro s hs
        obtain ⟨x, hx, rfl⟩ := List.mem_map.1 hs
        obtain ⟨x1, x2⟩ := HOK.out x hx
        have := dec_len x.n x2
        simp only [NN.text, List.length_append, List.length_singleton]
        omega
      have hsc : (lineT f).flatMap sc = (lineT f).map str := by
        generalize lineT f = L
        induction L with
        | nil => rfl
        | cons s l ih => rw [List.flatMap_cons, ih]; rfl
      obtain ⟨hc1, hc2⟩ : 9 ≤ c ∧ c ≤ maxLen := by
        rcases hown.2 with ⟨h, h0⟩ | ⟨g', cap, cur, hv, -, -, h1, h2, -⟩
        · omega
        · cases hv; exact ⟨h1, h2⟩
      have hrd := hown.rd
      rw [hsc] at hrd
      have HJ := Lib.hid (join_any A c (lineT f) wr hl9 hc1 (by simp [maxLen] at hc2; omega) hrd hls)
      clear hls hsc htk hrd hown
      go_wp2_with fail
      refine HJ.out.mono ?_
      rintro e w5 ⟨rfl, hb5⟩
      go_wp2
      go_ret
      exact ⟨rfl, bTrans hb hb5⟩
end Go.Proofs.YtnepjdpifbjiiaaDoor
