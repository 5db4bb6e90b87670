/-
  The walks beneath: TapJ, TapW, TapV, TapK, TapL.
-/
import Derived.Test.YtibeihcpehikoaaGreatNn2
import Derived.Test.YtibeihcpehikoaaGreatNm4
namespace Go.Proofs.YtibeihcpehikoaaGreat
open Go.RowKit
set_option maxRecDepth 100000
set_option maxHeartbeats 8000000
set_option linter.unusedSimpArgs false
section
open Go.RowKit Go.Shelf
attribute [local go_sem] Oper.semAt_some
attribute [local irreducible] wpMixY
structure InJ (B0 gs m : Nat) (w0 : World) (pre : List (Nat × Nat)) (W : World) : Prop where
 str : Blk W gs 9 #[.string ⟨(runsB pre).toArray⟩]
 below : Below B0 w0 W
 size : m ≤ W.heap.size
theorem InJ.keeps {B0 gs gl Bn m : Nat} {w0 A A' : World} {pre : List (Nat × Nat)} {row : Option Nat} (h : InJ B0 gs m w0 pre A) (hg : A.grownBy A' row) (hgs : B0 ≤ gs ∧ gs < gl ∧ gl < Bn ∧ B0 ≤ A.heap.size) (hr : ∀ r, row = some r → (Bn ≤ r ∧ ∃ o : Obj, A.heap[r]? = some o ∧ o.isCells = false) ∨ ((r = gl ∨ (Bn ≤ r ∧ r < m)) ∧ ∃ o : Obj, A.heap[r]? = some o ∧ o.isCells = true)) : InJ B0 gs m w0 pre A' := by
 have hne : ∀ r, row = some r → gl ≤ r := fun r e => by
  rcases hr r e with ⟨h1, -⟩ | ⟨h1 | h1, -⟩ <;> omega
 exact ⟨h.str.grown hg (fun e => by have := hne _ e; omega), h.below.grown hg hgs.2.2.2 (fun k e => by have := hne _ e; omega), Nat.le_trans h.size hg.size⟩
theorem inputs_any (A : Option Addr) (c : Nat) (l : List Nat) (hl : l.length ≤ 20000) (hb : ∀ x ∈ l, x < 256) (hc : l.length ≤ c) (w : World) (hr : Rd w w.heap.size A (l.flatMap btC)) : Calls Tryz.prog 90 #[.slice A l.length c] w fun e w' => e = .returned (.string ⟨(insB l).toArray⟩) ∧ Below w.heap.size w w' := by
 have HR := zz hr
 clear hr
 refine (callsIn_wide (n := 3)).1 ?_
 refine callsIn_of_wp_marks Tryz.func90 rfl trivial ?_ rfl
 simp only [Tryz.ntmps90, zM, zH, zI, Nat.reduceAdd, Nat.reduceSub, Array.replicate_succ, Array.replicate_zero, List.push_toArray, List.append_toArray, List.nil_append, List.cons_append]
 refine wpIn_wide.2 ?_
 have HST := zz (fun V => stretches_any A l.length c V)
 go_wp2_with (first
  | (go_at_call 165; refine (HST.out _).mono ?_; rintro e w6 ⟨rfl, hw6⟩))
 have h1 : Blk w6 w.heap.size 9 #[.string ⟨#[]⟩] := by rw [hw6]; exact (Blk.new _ _ _).alloc _
 have h2 : Blk w6 (w.heap.size + 1) 25 #[.slice A l.length c] := by
  rw [hw6]
  have := Blk.new (w.alloc (.cells #[.string ⟨#[]⟩] 9)) 25 #[.slice A l.length c]
  rwa [World.size_alloc] at this
 have h3 : Below w.heap.size w w6 := by rw [hw6]; exact bAlloc (bAlloc (Below.refl _ _) _) _
 have h4 : w6.heap.size = w.heap.size + 2 := by rw [hw6]; simp
 rw [← hw6]
 clear hw6 HST
 refine (wpIn_wide (n := 3)).1 ?_
 refine wpIn_rangeFunc_stG (by decide) (gf := 231) (lb := #[.pointer (some ⟨w.heap.size + 1, 0, none⟩)]) rfl (enters_of Tryz.func231 (by kernel_rfl) rfl)
  (str_seq 2 (by decide) A c l w.heap.size (fun r => r = w.heap.size) w6 (w.heap.size + 1) hl hb hc h2 (HR.out.below h3 (zL _)) (by omega) (fun r e => by subst e; omega)) (fun _ => rfl) (fun h k => KpS.trans h k) (fun W l o o' hl ho hc => KpS.put W l o o' hl)
  (fun m pre W => InJ w.heap.size w.heap.size m w pre W) (fun _ _ _ _ => False)
  (fun m pre A A' row h hg hr => h.keeps (gl := w.heap.size + 1) (Bn := w6.heap.size) hg ⟨zL _, by omega, by omega, h.below.size⟩ hr) (fun c m pre A A' row h hg hr => h.elim)
  (fun V hg => ?start) (fun r a' V => a' = { tmps := #[.slice A l.length c, undef, .string ⟨#[]⟩, .pointer (some ⟨w.heap.size, 0, none⟩), .int .u8 (r.1 : Nat), .int .i64 (r.2 : Nat), .slice A l.length c, .func (.func 231) #[] #[.pointer (some ⟨w.heap.size + 1, 0, none⟩)], .int .u8 (r.1 : Nat), .int .i64 (r.2 : Nat), undef, undef, undef, undef, undef, undef, undef, undef, undef, undef], defers := [] }) (fun x a' A l o o' h hl ho hc => h)
  ?assign (fun m pre x A l o o' h hl ho hc => h) ?body ?done ?stop
 case start =>
  have hbA : Below w6.heap.size w6 V := ⟨hg.os, hg.tape, hg.output, hg.size, fun k hk => hg.block k hk (by simp)⟩
  exact ⟨h1.on hbA, bTrans h3 (Below.mono hbA (by omega)), zL _⟩
 case assign =>
  rintro l m pre r W K hm hI hY hK
  have HK := zz hK
  have HI := zz hI
  have HY := zz hY
  clear hK hI hY
  unfold strE
  gi_wp2_with fail
  exact HK.out _ W ⟨zL _, fun k o _ hk _ => hk⟩ ⟨zL _, fun _ _ _ => rfl⟩ HI.out HY.out rfl
 case body =>
  rintro lp m pre ⟨x, k⟩ a' W hm hI hY rfl
  have hmem : (x, k) ∈ runsL l := List.mem_of_mem_take (by rw [← hY]; simp)
  obtain ⟨q1, q2, q3⟩ := runsL_mem l.length l (zL _) (x, k) hmem
  have hx256 : x < 256 := hb x q1
  have hk1000 : k ≤ 20000 := Nat.le_trans q3 hl
  have hpl : (runsB pre).length ≤ 220000 := by
   refine runsB_pre (l := l) (r := (runsL l).drop pre.length) ?_ hl
   have e1 : pre = (runsL l).take pre.length := by
    have := congrArg (List.take pre.length) hY
    rw [List.take_append_of_le_length (zL _), List.take_length, List.take_take, Nat.min_eq_left (by omega)] at this
    exact this
   conv => lhs; lhs; rw [e1]
   exact List.take_append_drop _ _
  have hnl := numB_le (n := k) (by omega)
  have HNM := zz (fun V => valF_of (v := .string ⟨(numB k).toArray⟩) (num_any k (by omega) V))
  have HI := zz hI
  have c0 := hI.str.cell 0
  simp only [zA, zB] at c0
  have l0 := hI.str.lt
  obtain ⟨p, hp⟩ : ∃ p, runsB pre = p := ⟨_, rfl⟩
  have HPP := zz hp
  rw [hp] at c0 hpl
  clear hp hI hY hmem q1 q2 q3
  dsimp only
  gi_wp2_with fail
  refine wp_region_round (by kernel_rfl) (by kernel_rfl) (fun ⟨_, _, e⟩ => e) ?_
  refine any_mixedY [.held, .pure, .make, .make, .pure, .pure, .make, .pure, .pure, .tail] (fun | 2 => rowB x | 3 => valF (.string ⟨[UInt8.ofNat x].toArray⟩) | _ => valF (.string ⟨(numB k).toArray⟩)) (by kernel_rfl) ?_
  repeat (first | (refine mixY_pure rfl rfl rfl (fun K hK => ?_); go_big_quiet_op; refine hK _ ?_; clear hK K) | (refine mixY_held rfl rfl rfl (fun K hK => ?_); go_big_quiet_op; refine hK _ ?_; clear hK K))
  refine mixY_make rfl rfl rowB_st (fun W hW hF => rowB_goes (.tmp 11) rfl x rfl) ?_
  rintro v ⟨g, rfl⟩
  simp only [Act.put, zD, zE, zF]
  refine mixY_make rfl rfl valF_st (fun W hW hF => conv1_goes (.tmp 12) rfl g x hx256 rfl ((hF 2 (by kernel_rfl)).2 rfl)) ?_
  rintro _ rfl
  simp only [Act.put, zD, zE, zF]
  repeat (refine mixY_pure rfl rfl rfl (fun K hK => ?_); go_big_quiet_op; refine hK _ ?_; clear hK K)
  refine mixY_make rfl rfl valF_st (fun W hW hF => ?_) ?_
  ·have HS2 := zz (HNM.out W)
   go_simp
   with_reducible exact HS2.out
  rintro _ rfl
  simp only [Act.put, zD, zE, zF]
  repeat (refine mixY_pure rfl rfl rfl (fun K hK => ?_); go_big_quiet_op; refine hK _ ?_; clear hK K)
  obtain ⟨ST, hST⟩ : ∃ ST, (⟨p.toArray⟩ : ByteArray) ++ (⟨[UInt8.ofNat x].toArray⟩ ++ ⟨(numB k).toArray⟩) = ST := ⟨_, rfl⟩
  have hst : ST = ⟨(runsB (pre ++ [(x, k)])).toArray⟩ := by
   rw [← hST, strN_append, strN_append, runsB_snoc, HPP.out]; rfl
  rw [hST]
  refine mixY_write rfl rfl (fun v W' => ∃ W1, Grown W W1 ∧ v = undef ∧ W' = W1.setCell ⟨w.heap.size, 0, none⟩ (.string ST)) (fun W1 hW1 => goes_mono (goes_store1 9 (.tmp 3) (.tmp 18) rfl w.heap.size 0 (.string ST) rfl rfl ((HI.out.str.on hW1.1).there (by simp)) (by kernel_rfl) rfl rfl) (fun v W' h => ⟨W1, hW1.1, h⟩)) ?_
  rintro v W2 ⟨W1, hg1, rfl, rfl⟩
  simp only [Act.put, zD, zE, zF]
  refine mixY_nil ?_
  intro W3 hW3
  have hs1 := hg1.size
  have hs2 : (W1.setCell ⟨w.heap.size, 0, none⟩ (.string ST)).heap.size = W1.heap.size := World.size_setCell _ _ _
  have hs3 := hW3.1.size
  have hlow : ∀ r, r < W.heap.size → r ≠ w.heap.size → W3.heap[r]? = W.heap[r]? := fun r hr hn =>
   (hW3.1.block r (by omega)).trans ((Below.heap_setCell W1 _ _ r hn).trans (hg1.block r hr))
  have hsz := HI.out.size
  refine ⟨⟨by omega, fun r o hr ho _ => ?_⟩, ⟨by omega, fun r hr hx => ?_⟩, ⟨?_, ?_, by omega⟩⟩
  ·exact (hlow r (Array.getElem?_eq_some_iff.1 ho).1 (by omega)).trans ho
  ·exact hlow r (by omega) hx
  ·rw [← hst]
   exact ((HI.out.str.on hg1).set 0 (.string ST)).on hW3.1
  ·exact bTrans (bSetG (bTrans HI.out.below hg1) (zL _) _ _) hW3.1
 case done =>
  rintro D m xs W hD hS hI hK
  have hS : xs = runsL l := hS
  subst hS
  have c0 := hI.str.cell 0
  simp only [zA, zB] at c0
  have l0 := hI.str.lt
  have HI := zz hI
  have HKK := zz hK
  clear hI hK
  go_wp2_with fail
  refine ⟨by simp, .inl ⟨_, _, rfl, run_takeDeferred HKK.out, ?_⟩⟩
  refine ⟨.string ⟨(insB l).toArray⟩, ?_, rfl, ?_⟩
  ·simp [results, Tryz.results90, go_sem, insB]
  ·exact HI.out.below.grown (grownBy_putObj' W D (.deferred none)) HI.out.below.size (fun k e => by cases e; omega)
 case stop =>
  rintro D c m xs W hD hS h
  exact h.elim
end
section
def be4 (n : Nat) : List UInt8 := [UInt8.ofNat (n / 16777216 % 256), UInt8.ofNat (n / 65536 % 256), UInt8.ofNat (n / 256 % 256), UInt8.ofNat (n % 256)]
def sealB (s : List UInt8) : List UInt8 := s ++ be4 (sumN s)
theorem be4_length (n : Nat) : (be4 n).length = 4 := rfl
theorem sealB_length (s : List UInt8) : (sealB s).length = s.length + 4 := by unfold sealB; rw [zG, be4_length]
theorem be4_val (n : Nat) (hn : n < 4294967296) (k : Nat) (hk : k < 4) : (#[.int .u8 ((n : Int) / 16777216), .int .u8 ((n : Int) / 65536 % 256), .int .u8 ((n : Int) / 256 % 256), .int .u8 ((n : Int) % 256)] : Array Value).toList[k]? = some (.int .u8 ((((be4 n)[k]'hk).toNat : Nat) : Int)) := by
 have h1 : ∀ m : Nat, ((UInt8.ofNat (m % 256)).toNat : Int) = ((m % 256 : Nat) : Int) := fun m => u8_val (Nat.mod_lt _ (by decide))
 obtain rfl | rfl | rfl | rfl : k = 0 ∨ k = 1 ∨ k = 2 ∨ k = 3 := by omega
 all_goals simp only [be4, List.getElem_cons_zero, List.getElem_cons_succ, h1, zB, zC, Option.some.injEq, Value.int.injEq, true_and]
 all_goals omega
theorem conv_be4 (n : Nat) (hn : n < 4294967296) (w : World) : (convert 25 9 (.slice (some ⟨w.heap.size, 0, none⟩) 4 4)).run Tryz.prog (w.alloc (.cells #[.int .u8 ((n : Int) / 16777216), .int .u8 ((n : Int) / 65536 % 256), .int .u8 ((n : Int) / 256 % 256), .int .u8 ((n : Int) % 256)] 5)) = .ok (.string ⟨(be4 n).toArray⟩) (w.alloc (.cells #[.int .u8 ((n : Int) / 16777216), .int .u8 ((n : Int) / 65536 % 256), .int .u8 ((n : Int) / 256 % 256), .int .u8 ((n : Int) % 256)] 5)) :=
 run_convert_bytes_back (P := Tryz.prog) _ 25 9 5 ⟨w.heap.size, 0, none⟩ 4 (be4 n) Tryz.underlying25 Tryz.underlying5 Tryz.underlying9 (fun k hk => by
  rw [Go.WideShapes.add_plain, Nat.zero_add]
  exact cell_new_row2 w _ 5 _ rfl k _ (be4_val n hn k hk))
theorem tail_any (n : Nat) (hn : n < 4294967296) (w : World) : Calls Tryz.prog 164 #[.int .u32 n] w fun e w' => e = .returned (.string ⟨(be4 n).toArray⟩) ∧ Below w.heap.size w w' := by
 have hcv := conv_be4 n hn w
 go_enter Tryz.func164, Tryz.ntmps164
 go_wp2
 go_ret
 exact ⟨rfl, (by repeat (first | exact Below.refl _ _ | (with_reducible assumption) | apply bAlloc | apply below_drewN | apply Below.drew | (refine bSetG ?_ (by first | omega | (simp; omega)) _ _) | (refine bTrans ?_ (by with_reducible assumption))))⟩
theorem word_any (n : Nat) (hn : n < 4294967296) (w : World) : Calls Tryz.prog 91 #[.int .u32 n] w fun e w' => e = .returned (.string ⟨(be4 n).toArray⟩) ∧ Below w.heap.size w w' := by
 have hcv := conv_be4 n hn w
 go_enter Tryz.func91, Tryz.ntmps91
 go_wp2
 go_ret
 exact ⟨rfl, (by repeat (first | exact Below.refl _ _ | (with_reducible assumption) | apply bAlloc | apply below_drewN | apply Below.drew | (refine bSetG ?_ (by first | omega | (simp; omega)) _ _) | (refine bTrans ?_ (by with_reducible assumption))))⟩
theorem seal_any (s : List UInt8) (hs : s.length ≤ 100000000) (w : World) : Calls Tryz.prog 89 #[.string ⟨s.toArray⟩] w fun e w' => e = .returned (.string ⟨(sealB s).toArray⟩) ∧ Below w.heap.size w w' := by
 have HO := zz (of_any ⟨s.toArray⟩ w (by show s.toArray.size ≤ _; simp; omega))
 rw [show (⟨s.toArray⟩ : ByteArray).data.toList = s from rfl] at HO
 have hlt := sumN_lt s
 have HF : Hid ((⟨s.toArray⟩ : ByteArray) ++ ⟨(be4 (sumN s)).toArray⟩ = ⟨(sealB s).toArray⟩) := zz (strN_append _ _)
 have hl4 := be4_length (sumN s)
 obtain ⟨n, hn⟩ : ∃ n, sumN s = n := ⟨_, rfl⟩
 rw [hn] at HO hlt HF hl4
 have HT := zz (fun V => tail_any n hlt V)
 obtain ⟨T, hT⟩ : ∃ T, be4 n = T := ⟨_, rfl⟩
 rw [hT] at HT HF hl4
 clear hn hT
 go_enter Tryz.func89, Tryz.ntmps89
 go_wp2_with (first
  | (go_at_call 146; refine HO.out.mono ?_; rintro e w1 ⟨rfl, rfl⟩)
  | (go_at_call 164; refine (HT.out _).mono ?_; rintro e w2 ⟨rfl, hb2⟩))
 go_ret
 exact ⟨by rw [HF.out]; rfl, hb2⟩
theorem rseal_any (s : List UInt8) (hs : s.length ≤ 100000000) (w : World) : Calls Tryz.prog 45 #[.string ⟨s.toArray⟩] w fun e w' => e = .returned (.string ⟨(sealB s).toArray⟩) ∧ Below w.heap.size w w' := by
 have HO := zz (rof_any ⟨s.toArray⟩ w (by show s.toArray.size ≤ _; simp; omega))
 rw [show (⟨s.toArray⟩ : ByteArray).data.toList = s from rfl] at HO
 have hlt := sumN_lt s
 have HF : Hid ((⟨s.toArray⟩ : ByteArray) ++ ⟨(be4 (sumN s)).toArray⟩ = ⟨(sealB s).toArray⟩) := zz (strN_append _ _)
 have hl4 := be4_length (sumN s)
 obtain ⟨n, hn⟩ : ∃ n, sumN s = n := ⟨_, rfl⟩
 rw [hn] at HO hlt HF hl4
 have hcv := conv_be4 n hlt w
 obtain ⟨T, hT⟩ : ∃ T, be4 n = T := ⟨_, rfl⟩
 rw [hT] at hcv HF hl4
 clear hn hT
 go_enter Tryz.func45, Tryz.ntmps45
 go_wp2_with (first
  | (go_at_call 87; refine HO.out.mono ?_; rintro e w1 ⟨rfl, rfl⟩))
 go_ret
 exact ⟨by rw [HF.out]; rfl, (by repeat (first | exact Below.refl _ _ | (with_reducible assumption) | apply bAlloc | apply below_drewN | apply Below.drew | (refine bSetG ?_ (by first | omega | (simp; omega)) _ _) | (refine bTrans ?_ (by with_reducible assumption))))⟩
end
section
def w4 (N j : Nat) : List UInt8 := List.replicate j 0 ++ (be4 N).drop j
theorem w4_length (N j : Nat) (h : j ≤ 4) : (w4 N j).length = 4 := by
 unfold w4
 rw [zG, List.length_replicate, List.length_drop, be4_length]; omega
def q4 (N : Nat) : Nat → Nat
 | 4 => N
 | 3 => N / 256
 | 2 => N / 256 / 256
 | 1 => N / 256 / 256 / 256
 | _ => N / 256 / 256 / 256 / 256
theorem q4_step (N j : Nat) (h : j < 4) : q4 N (j + 1) / 256 = q4 N j := by
 obtain rfl | rfl | rfl | rfl : j = 0 ∨ j = 1 ∨ j = 2 ∨ j = 3 := by omega
 all_goals rfl
theorem q4_lt (N j : Nat) (hN : N < 4294967296) (h : j ≤ 4) : q4 N j < 4294967296 := by
 obtain rfl | rfl | rfl | rfl | rfl : j = 0 ∨ j = 1 ∨ j = 2 ∨ j = 3 ∨ j = 4 := by omega
 all_goals (simp only [q4]; omega)
theorem w4_set (N j : Nat) (h : j < 4) : (w4 N (j + 1)).set j (UInt8.ofNat (q4 N (j + 1) % 256)) = w4 N j := by
 obtain rfl | rfl | rfl | rfl : j = 0 ∨ j = 1 ∨ j = 2 ∨ j = 3 := by omega
 ·have e : N / 256 / 256 / 256 % 256 = N / 16777216 % 256 := by omega
  simp only [q4, w4, be4]
  rw [e]; rfl
 ·have e : N / 256 / 256 % 256 = N / 65536 % 256 := by omega
  simp only [q4, w4, be4]
  rw [e]; rfl
 ·rfl
 ·rfl
theorem word4_any (N : Nat) (hN : N < 4294967296) (w : World) : Calls Tryz.prog 95 #[.int .u64 N, .int .i64 4] w fun e w' => e = .returned (.string ⟨(be4 N).toArray⟩) ∧ Below w.heap.size w w' := by
 obtain ⟨ib, hib, hbz, hb1, hb2⟩ := info_parts Tryz.infoU8
 go_enter Tryz.func95, Tryz.ntmps95
 go_wp2_with (refine wpList_make_full _ rfl (.tmp 7) (.tmp 7) 25 rfl w.heap.size 5 ib _ 1 Tryz.underlying25 hib hbz hb1 .i64 .i64 _ _ 4 rfl rfl (by omega) (by omega) ?m1 ?m2 ?m3 ?_)
 case m1 => rw [hb2]; omega
 case m2 => simp [maxLen]
 case m3 => exact zL _
 intro w1 hown1 hg1
 have hin : OwnL w1 w.heap.size 5 1 (.slice (some ⟨w.heap.size, 0, none⟩) 4 4) bcN (w4 N 4) := by
  unfold OwnL
  rw [w4_length N 4 (zL _)]
  have e2 : (w4 N 4).flatMap bcN = List.replicate 4 (Value.int .u8 0) := rfl
  rw [e2]
  simpa [toList_madeCells_one, Value.cells] using hown1
 have hbw1 : Below w.heap.size w w1 := (Below.refl _ _).grown hg1 (zL _) (by simp)
 have HI := zz hin
 clear hin hown1 hg1
 go_wp2
 go_loopw [0, 6] (fun x i wr => ∃ j : Nat, j ≤ 4 ∧ i = .int .i64 ((j : Int) - 1) ∧ x = .int .u64 (q4 N j : Nat) ∧ OwnL wr w.heap.size 5 1 (.slice (some ⟨w.heap.size, 0, none⟩) 4 4) bcN (w4 N j) ∧ Below w.heap.size w wr) (fun _ i _ => (intOf i + 1).toNat)
 case atStart => exact ⟨4, zL _, rfl, rfl, HI.out, hbw1⟩
 case round =>
  clear HI hbw1
  obtain ⟨j, hj, rfl, rfl, hown, hb⟩ := hrel
  by_cases hlt : 0 < j
  ·obtain ⟨i, rfl⟩ : ∃ i, j = i + 1 := ⟨j - 1, by omega⟩
   have ej : (((i + 1 : Nat) : Int) - 1) = (i : Int) := by omega
   rw [ej]
   clear ej
   have hc := hown.one (h := fun b : UInt8 => Value.int .u8 (b.toNat : Int)) (fun _ => rfl) (k := i) (by rw [w4_length N _ hj]; omega)
   have hf := hown.frozen i
   have HO := zz hown
   have hql := q4_lt N (i + 1) hN hj
   have hst := q4_step N i (by omega)
   have HWS := zz (w4_set N i (by omega))
   obtain ⟨q, hq⟩ : ∃ q, q4 N (i + 1) = q := ⟨_, rfl⟩
   rw [hq] at hql hst HWS ⊢
   have HQ := zz hst
   clear hown hq hst
   go_wp2
   go_roundw
   case rel =>
    refine ⟨i, by omega, by go_num, by rw [← HQ.out]; go_num, ?_, bSetG hb (zL _) _ _⟩
    have h := HO.out.set1 (h := fun b : UInt8 => Value.int .u8 (b.toNat : Int)) (fun _ => rfl) (k := i) (by rw [w4_length N _ hj]; omega) (UInt8.ofNat (q % 256))
    rw [HWS.out, u8_val (Nat.mod_lt _ (by decide))] at h
    exact h
   case measure => simp [intOf]
  ·obtain rfl : j = 0 := by omega
   have hcv : (convert 25 9 (.slice (some ⟨w.heap.size, 0, none⟩) 4 4)).run Tryz.prog wr = .ok (.string ⟨(be4 N).toArray⟩) wr :=
    run_convert_bytes_back (P := Tryz.prog) wr 25 9 5 ⟨w.heap.size, 0, none⟩ 4 (be4 N) Tryz.underlying25 Tryz.underlying5 Tryz.underlying9 (fun k hk => by
     rw [Go.WideShapes.add_plain, Nat.zero_add]
     exact hown.one (h := fun b : UInt8 => Value.int .u8 (b.toNat : Int)) (fun _ => rfl) hk)
   clear hown
   go_wp2
   go_ret
   exact ⟨rfl, hb⟩
end
section
open Go.RowKit Go.Shelf
theorem right_parts {d x y : Int} {a b : List Nat} (h : rightTp d x y a b = true) : (1 ≤ x ∧ x ≤ 16) ∧ y = 0 ∧ a.length = b.length ∧ (0 ≤ d ∧ d ≤ 8) ∧ (∀ z ∈ a, z < 64) ∧ (∀ z ∈ b, z < 64) := by
 unfold rightTp ofB badB at h
 simp only [Bool.and_eq_true, decide_eq_true_eq, Bool.not_eq_true', Bool.or_eq_false_iff, decide_eq_false_iff_not, List.any_eq_false] at h
 obtain ⟨h1, h2, h3, ⟨⟨h4, h5⟩, h6⟩, h7⟩ := h
 exact ⟨h1, h2, h3, by omega, fun z hz => by have := h6 z hz; omega, fun z hz => by have := h7 z hz; omega⟩
def headB (s d x : Int) (n : Nat) : List UInt8 := [80, 66, 49] ++ numB s.toNat ++ numB d.toNat ++ numB x.toNat ++ numB n
def packB (s d x m : Int) (a b : List Nat) : List UInt8 := headB s d x a.length ++ insB a ++ insB b ++ be4 m.toNat
theorem rightTq_tp {d x y : Int} {a b : List Nat} (h : rightTq d x y a b = true) : rightTp d x y a b = true := by
 rw [rightTq_iff, Bool.and_eq_true] at h
 exact h.1
theorem pack_bad20 (s d x y m : Int) (A B : Option Addr) (c c' : Nat) (a b : List Nat) (w : World) (hok : rightTq d x y a b = false) (ha : a.length ≤ 20000) (hb : b.length ≤ 20000) (ra : Rd w w.heap.size A (a.flatMap btC)) (rb : Rd w w.heap.size B (b.flatMap btC)) :
  Calls Tryz.prog 34 #[.agg #[.int .u32 s, .int .i64 d, .int .i64 x, .int .i64 y, .slice A a.length c, .slice B b.length c', .int .u32 m]] w fun e w' => e = .returned (.tuple #[.string ⟨#[]⟩, .int .i64 1]) ∧ Below w.heap.size w w' := by
 have HRI := zz (fun (V : World) (hV : Below w.heap.size w V) => right_tape20 s d x y m A B c c' a b V ha hb ((ra.below hV (zL _)).more hV.size) ((rb.below hV (zL _)).more hV.size))
 rw [hok] at HRI
 obtain ⟨na, hna⟩ : ∃ na, a.length = na := ⟨_, rfl⟩
 obtain ⟨nb, hnb⟩ : ∃ nb, b.length = nb := ⟨_, rfl⟩
 rw [hna, hnb] at HRI ⊢
 clear ra rb ha hb hna hnb hok
 go_enter Tryz.func34, Tryz.ntmps34
 go_upto_region 1 with fail
 refine named1 (F := fun W => Code.wp _ _ _ _ W) ?_
 intro w1 k0 hb1 hz1
 have q7 := k0; have r0a := q7.cell 0; have r0b := q7.cell 1; have r0c := q7.cell 2; have r0d := q7.cell 3; have r0e := q7.cell 4; have r0f := q7.cell 5; have r0g := q7.cell 6; have r0l := q7.lt; simp only [zA, zB, zC] at r0a r0b r0c r0d r0e r0f r0g; clear q7
 clear hz1 k0
 go_wp2_with (first | (go_at_call 35; refine (HRI.out _ hb1).mono ?_; rintro e w2 ⟨rfl, hb2⟩; have HB2 := zz (bTrans hb1 hb2); clear hb2))
 go_ret2
 exact ⟨rfl, HB2.out⟩
theorem pack_good20 (s d x m : Int) (A B : Option Addr) (c c' : Nat) (a b : List Nat) (w : World) (hs : U32 s) (hm : U32 m) (hok : rightTq d x 0 a b = true) (ha : a.length ≤ 20000) (hb : b.length ≤ 20000) (hca : a.length ≤ c) (hcb : b.length ≤ c') (ra : Rd w w.heap.size A (a.flatMap btC)) (rb : Rd w w.heap.size B (b.flatMap btC)) :
  Calls Tryz.prog 34 #[.agg #[.int .u32 s, .int .i64 d, .int .i64 x, .int .i64 0, .slice A a.length c, .slice B b.length c', .int .u32 m]] w fun e w' => e = .returned (.tuple #[.string ⟨(sealB (packB s d x m a b)).toArray⟩, .int .i64 0]) ∧ Below w.heap.size w w' := by
 obtain ⟨⟨hx1, hx2⟩, -, hab, ⟨hd1, hd2⟩, h63a, h63b⟩ := right_parts (rightTq_tp hok)
 have HRI := zz (fun (V : World) (hV : Below w.heap.size w V) => right_tape20 s d x 0 m A B c c' a b V ha hb ((ra.below hV (zL _)).more hV.size) ((rb.below hV (zL _)).more hV.size))
 rw [hok] at HRI
 have HIA := zz (fun (V : World) (hV : Below w.heap.size w V) => inputs_any A c a ha (fun z hz => by have := h63a z hz; omega) hca V ((ra.below hV (zL _)).more hV.size))
 have HIB := zz (fun (V : World) (hV : Below w.heap.size w V) => inputs_any B c' b hb (fun z hz => by have := h63b z hz; omega) hcb V ((rb.below hV (zL _)).more hV.size))
 have HN1 := zz (fun V => num_int s hs.1 (by have := hs.2; omega) V)
 have HN2 := zz (fun V => num_int d hd1 (by omega) V)
 have HN3 := zz (fun V => num_int x (by omega) (by omega) V)
 have HN4 : Hid (∀ V : World, Calls Tryz.prog 88 #[.int .u64 (a.length : Nat)] V fun e w' => e = .returned (.string ⟨(numB a.length).toArray⟩) ∧ Below V.heap.size V w') := zz (fun V => num_any a.length (by omega) V)
 have l1 := numB_le (n := s.toNat) (by have := hs.2; have := hs.1; omega)
 have l2 := numB_le (n := d.toNat) (by omega)
 have l3 := numB_le (n := x.toNat) (by omega)
 have l4 := numB_le (n := a.length) (by omega)
 obtain ⟨na, hna⟩ : ∃ na, a.length = na := ⟨_, rfl⟩
 obtain ⟨nb, hnb⟩ : ∃ nb, b.length = nb := ⟨_, rfl⟩
 have hna2 : na ≤ 20000 := by rw [← hna]; exact ha
 have hia2 : (insB a).length ≤ 220000 := runsB_pre (l := a) (pre := runsL a) (r := []) (by simp) ha
 have hib2 : (insB b).length ≤ 220000 := runsB_pre (l := b) (pre := runsL b) (r := []) (by simp) hb
 have HH : Hid (packB s d x m a b = headB s d x na ++ insB a ++ insB b ++ be4 m.toNat) := zz (by rw [← hna]; rfl)
 rw [hna, hnb] at HRI
 rw [hna] at HIA HN4 l4 ⊢
 rw [hnb] at HIB ⊢
 clear ra rb ha hb hna hnb hok hab h63a h63b hca hcb
 go_enter Tryz.func34, Tryz.ntmps34
 go_upto_region 1 with fail
 refine named1 (F := fun W => Code.wp _ _ _ _ W) ?_
 intro w1 k0 hb1 hz1
 have q7 := k0; have r0a := q7.cell 0; have r0b := q7.cell 1; have r0c := q7.cell 2; have r0d := q7.cell 3; have r0e := q7.cell 4; have r0f := q7.cell 5; have r0g := q7.cell 6; have r0l := q7.lt; simp only [zA, zB, zC] at r0a r0b r0c r0d r0e r0f r0g; clear q7
 have K0 := zz k0
 clear hz1 k0
 go_upto_region 3 with (first
  | (go_at_call 35; refine (HRI.out _ hb1).mono ?_; rintro e w2 ⟨rfl, hb2⟩; have HB2 := zz (bTrans hb1 hb2); have K2 := zz (K0.out.on hb2); have q7 := K2.out; have p0a := q7.cell 0; have p0b := q7.cell 1; have p0c := q7.cell 2; have p0d := q7.cell 3; have p0e := q7.cell 4; have p0f := q7.cell 5; have p0g := q7.cell 6; have p0l := q7.lt; simp only [zA, zB, zC] at p0a p0b p0c p0d p0e p0f p0g; clear q7; clear hb2 r0a r0b r0c r0d r0e r0f r0g r0l K0))
 go_upto_region 4 with fail
 refine named1 (F := fun W => Code.wp _ _ _ _ W) ?_
 intro w3 k3 hb3 hz3
 have HB3 := zz (bTrans HB2.out hb3)
 have q7 := k3; have t0a := q7.cell 0; have t0b := q7.cell 1; have t0c := q7.cell 2; have t0d := q7.cell 3; have t0l := q7.lt; simp only [zA, zB, zC] at t0a t0b t0c t0d; clear q7
 have q7 := (K2.out.on hb3); have p1a := q7.cell 0; have p1b := q7.cell 1; have p1c := q7.cell 2; have p1d := q7.cell 3; have p1e := q7.cell 4; have p1f := q7.cell 5; have p1g := q7.cell 6; have p1l := q7.lt; simp only [zA, zB, zC] at p1a p1b p1c p1d p1e p1f p1g; clear q7
 clear p0a p0b p0c p0d p0e p0f p0g p0l K2 HB2 HRI hb3 hz3 k3 hb1
 have HHD : Hid (headB s d x na = [80, 66, 49] ++ numB s.toNat ++ numB d.toNat ++ numB x.toNat ++ numB na) := zz rfl
 obtain ⟨n1, hn1⟩ : ∃ n1, numB s.toNat = n1 := ⟨_, rfl⟩
 obtain ⟨n2, hn2⟩ : ∃ n2, numB d.toNat = n2 := ⟨_, rfl⟩
 obtain ⟨n3, hn3⟩ : ∃ n3, numB x.toNat = n3 := ⟨_, rfl⟩
 obtain ⟨n4, hn4⟩ : ∃ n4, numB na = n4 := ⟨_, rfl⟩
 rw [hn1] at HN1 l1 HHD
 rw [hn2] at HN2 l2 HHD
 rw [hn3] at HN3 l3 HHD
 rw [hn4] at HN4 l4 HHD
 clear hn1 hn2 hn3 hn4
 obtain ⟨hs1, hs2⟩ := hs
 refine wp_region_mild (by kernel_rfl) (by kernel_rfl) ?_
 repeat (go_big_quiet_step (first | (go_at_call 88; first | with_reducible exact mild_of (HN1.out _) | with_reducible exact mild_of (HN2.out _) | with_reducible exact mild_of (HN3.out _) | with_reducible exact mild_of (HN4.out _)) | fail))
 refine wpQuiet_nil ?_
 intro w4 hw'
 obtain ⟨⟨wq, k4⟩, hw''⟩ := hw'
 subst hw''
 have hs4 : (⟨[80, 66, 49].toArray⟩ : ByteArray) ++ ⟨n1.toArray⟩ ++ ⟨n2.toArray⟩ ++ ⟨n3.toArray⟩ ++ ⟨n4.toArray⟩ = ⟨(headB s d x na).toArray⟩ := by
  rw [strN_append, strN_append, strN_append, strN_append, HHD.out]
 rw [hs4]
 have hhl : (headB s d x na).length ≤ 43 := by
  rw [HHD.out]; simp only [zG, zH, zI]; omega
 obtain ⟨h0, hh0⟩ : ∃ h0, headB s d x na = h0 := ⟨_, rfl⟩
 rw [hh0] at hhl HH ⊢
 obtain ⟨ia, hia⟩ : ∃ ia, insB a = ia := ⟨_, rfl⟩
 obtain ⟨ib, hib⟩ : ∃ ib, insB b = ib := ⟨_, rfl⟩
 obtain ⟨bm, hbm⟩ : ∃ bm, be4 m.toNat = bm := ⟨_, rfl⟩
 have hml : bm.length = 4 := by rw [← hbm]; rfl
 have HW := zz (fun V => word_any m.toNat (by have := hm.2; have := hm.1; omega) V)
 rw [Int.toNat_of_nonneg hm.1, hbm] at HW
 rw [hia] at HIA HH hia2
 rw [hib] at HIB HH hib2
 rw [hbm] at HH
 have HSE := zz (fun V => seal_any (h0 ++ ia ++ ib ++ bm) (by simp only [zG]; omega) V)
 rw [← strN_append, ← strN_append, ← strN_append, ← HH.out] at HSE
 clear hs4 HHD hh0 hbm HN1 HN2 HN3 HN4 l1 l2 l3 l4 hia hib
 have HB4 := zz (bTrans HB3.out k4)
 have HIA4 := zz (fun (V : World) (hV : Below w4.heap.size w4 V) => HIA.out V (bTrans HB4.out hV))
 have HIB4 := zz (fun (V : World) (hV : Below w4.heap.size w4 V) => HIB.out V (bTrans HB4.out hV))
 have hl0 : w.heap.size < w4.heap.size := Nat.lt_of_lt_of_le p1l k4.size
 have e4 := (k4.cell (p := ⟨w.heap.size, 4, none⟩) p1l).trans p1e
 have e5 := (k4.cell (p := ⟨w.heap.size, 5, none⟩) p1l).trans p1f
 have e6 := (k4.cell (p := ⟨w.heap.size, 6, none⟩) p1l).trans p1g
 clear p1a p1b p1c p1d p1e p1f p1g p1l t0a t0b t0c t0d t0l HIA HIB HB3 k4
 go_upto_region 5 with fail
 refine wp_region_mild (by kernel_rfl) (by kernel_rfl) ?_
 repeat (go_big_quiet_step (first | (go_at_call 90; first | with_reducible exact mild_of (HIA4.out _ (Ext.below _)) | with_reducible exact mild_of (HIB4.out _ (Ext.below _))) | (go_at_call 91; exact mild_of (HW.out _)) | (go_at_call 89; exact mild_of (HSE.out _)) | fail))
 refine wpQuiet_nil ?_
 intro w5 hw'
 obtain ⟨⟨wq, k5⟩, hw''⟩ := hw'
 subst hw''
 go_wp2
 go_ret2
 exact ⟨rfl, bTrans HB4.out k5⟩
theorem pack_good (s d x m : Int) (A B : Option Addr) (c c' : Nat) (a b : List Nat) (w : World) (hs : U32 s) (hm : U32 m) (hok : rightTp d x 0 a b = true) (ha : a.length ≤ 1000) (hb : b.length ≤ 1000) (hca : a.length ≤ c) (hcb : b.length ≤ c') (ra : Rd w w.heap.size A (a.flatMap btC)) (rb : Rd w w.heap.size B (b.flatMap btC)) :
  Calls Tryz.prog 34 #[.agg #[.int .u32 s, .int .i64 d, .int .i64 x, .int .i64 0, .slice A a.length c, .slice B b.length c', .int .u32 m]] w fun e w' => e = .returned (.tuple #[.string ⟨(sealB (packB s d x m a b)).toArray⟩, .int .i64 0]) ∧ Below w.heap.size w w' :=
 pack_good20 s d x m A B c c' a b w hs hm (by rw [rightTq_few ha]; exact hok) (by omega) (by omega) hca hcb ra rb
end
section
open Go.RowKit Go.Shelf
theorem rpack_any (s d x m : Int) (A B : Option Addr) (c c' : Nat) (a b : List Nat) (w : World) (hs : U32 s) (hm : U32 m) (hok : rightTp d x 0 a b = true) (ha : a.length ≤ 20000) (hb : b.length ≤ 20000) (ra : Rd w w.heap.size A (a.flatMap btC)) (rb : Rd w w.heap.size B (b.flatMap btC)) :
  Calls Tryz.prog 37 #[.agg #[.int .u32 s, .int .i64 d, .int .i64 x, .int .i64 0, .slice A a.length c, .slice B b.length c', .int .u32 m]] w fun e w' => e = .returned (.string ⟨(sealB (packB s d x m a b)).toArray⟩) ∧ Below w.heap.size w w' := by
 obtain ⟨⟨hx1, hx2⟩, -, hab, ⟨hd1, hd2⟩, h63a, h63b⟩ := right_parts hok
 have HIA := zz (fun (V : World) (hV : Below w.heap.size w V) => rinputs_any A c a ha (fun z hz => by have := h63a z hz; omega) V ((ra.below hV (zL _)).more hV.size))
 have HIB := zz (fun (V : World) (hV : Below w.heap.size w V) => rinputs_any B c' b hb (fun z hz => by have := h63b z hz; omega) V ((rb.below hV (zL _)).more hV.size))
 have HN1 := zz (fun V => rnum_int s hs.1 (by have := hs.2; omega) V)
 have HN2 := zz (fun V => rnum_int d hd1 (by omega) V)
 have HN3 := zz (fun V => rnum_int x (by omega) (by omega) V)
 have HN4 : Hid (∀ V : World, Calls Tryz.prog 93 #[.int .u64 (a.length : Nat)] V fun e w' => e = .returned (.string ⟨(numB a.length).toArray⟩) ∧ Below V.heap.size V w') := zz (fun V => rnum_any a.length (by omega) V)
 have l1 := numB_le (n := s.toNat) (by have := hs.2; have := hs.1; omega)
 have l2 := numB_le (n := d.toNat) (by omega)
 have l3 := numB_le (n := x.toNat) (by omega)
 have l4 := numB_le (n := a.length) (by omega)
 obtain ⟨na, hna⟩ : ∃ na, a.length = na := ⟨_, rfl⟩
 obtain ⟨nb, hnb⟩ : ∃ nb, b.length = nb := ⟨_, rfl⟩
 have hna2 : na ≤ 20000 := by rw [← hna]; exact ha
 have hia2 : (insB a).length ≤ 220000 := runsB_pre (l := a) (pre := runsL a) (r := []) (by simp) ha
 have hib2 : (insB b).length ≤ 220000 := runsB_pre (l := b) (pre := runsL b) (r := []) (by simp) hb
 have HH : Hid (packB s d x m a b = headB s d x na ++ insB a ++ insB b ++ be4 m.toNat) := zz (by rw [← hna]; rfl)
 rw [hna] at HIA HN4 l4 ⊢
 rw [hnb] at HIB ⊢
 clear ra rb ha hb hna hnb hok hab h63a h63b
 go_enter Tryz.func37, Tryz.ntmps37
 go_upto_region 1 with fail
 refine named1 (F := fun W => Code.wp _ _ _ _ W) ?_
 intro w1 k0 hb1 hz1
 have q7 := k0; have r0a := q7.cell 0; have r0b := q7.cell 1; have r0c := q7.cell 2; have r0d := q7.cell 3; have r0e := q7.cell 4; have r0f := q7.cell 5; have r0g := q7.cell 6; have r0l := q7.lt; simp only [zA, zB, zC] at r0a r0b r0c r0d r0e r0f r0g; clear q7
 have HB3 := zz hb1
 clear hz1 k0 hb1
 have HHD : Hid (headB s d x na = [80, 66, 49] ++ numB s.toNat ++ numB d.toNat ++ numB x.toNat ++ numB na) := zz rfl
 obtain ⟨n1, hn1⟩ : ∃ n1, numB s.toNat = n1 := ⟨_, rfl⟩
 obtain ⟨n2, hn2⟩ : ∃ n2, numB d.toNat = n2 := ⟨_, rfl⟩
 obtain ⟨n3, hn3⟩ : ∃ n3, numB x.toNat = n3 := ⟨_, rfl⟩
 obtain ⟨n4, hn4⟩ : ∃ n4, numB na = n4 := ⟨_, rfl⟩
 rw [hn1] at HN1 l1 HHD
 rw [hn2] at HN2 l2 HHD
 rw [hn3] at HN3 l3 HHD
 rw [hn4] at HN4 l4 HHD
 clear hn1 hn2 hn3 hn4
 obtain ⟨hs1, hs2⟩ := hs
 refine wp_region_mild (by kernel_rfl) (by kernel_rfl) ?_
 repeat (go_big_quiet_step (first | (go_at_call 93; first | with_reducible exact mild_of (HN1.out _) | with_reducible exact mild_of (HN2.out _) | with_reducible exact mild_of (HN3.out _) | with_reducible exact mild_of (HN4.out _)) | fail))
 refine wpQuiet_nil ?_
 intro w4 hw'
 obtain ⟨⟨wq, k4⟩, hw''⟩ := hw'
 subst hw''
 have hs4 : (⟨[80, 66, 49].toArray⟩ : ByteArray) ++ ⟨n1.toArray⟩ ++ ⟨n2.toArray⟩ ++ ⟨n3.toArray⟩ ++ ⟨n4.toArray⟩ = ⟨(headB s d x na).toArray⟩ := by
  rw [strN_append, strN_append, strN_append, strN_append, HHD.out]
 rw [hs4]
 have hhl : (headB s d x na).length ≤ 43 := by
  rw [HHD.out]; simp only [zG, zH, zI]; omega
 obtain ⟨h0, hh0⟩ : ∃ h0, headB s d x na = h0 := ⟨_, rfl⟩
 rw [hh0] at hhl HH ⊢
 obtain ⟨ia, hia⟩ : ∃ ia, insB a = ia := ⟨_, rfl⟩
 obtain ⟨ib, hib⟩ : ∃ ib, insB b = ib := ⟨_, rfl⟩
 obtain ⟨bm, hbm⟩ : ∃ bm, be4 m.toNat = bm := ⟨_, rfl⟩
 have hml : bm.length = 4 := by rw [← hbm]; rfl
 have HW := zz (fun V => word4_any m.toNat (by have := hm.2; have := hm.1; omega) V)
 rw [Int.toNat_of_nonneg hm.1, hbm] at HW
 rw [hia] at HIA HH hia2
 rw [hib] at HIB HH hib2
 rw [hbm] at HH
 have HSE := zz (fun V => rseal_any (h0 ++ ia ++ ib ++ bm) (by simp only [zG]; omega) V)
 rw [← strN_append, ← strN_append, ← strN_append, ← HH.out] at HSE
 clear hs4 HHD hh0 hbm HN1 HN2 HN3 HN4 l1 l2 l3 l4 hia hib
 have HB4 := zz (bTrans HB3.out k4)
 have HIA4 := zz (fun (V : World) (hV : Below w4.heap.size w4 V) => HIA.out V (bTrans HB4.out hV))
 have HIB4 := zz (fun (V : World) (hV : Below w4.heap.size w4 V) => HIB.out V (bTrans HB4.out hV))
 have hl0 : w.heap.size < w4.heap.size := Nat.lt_of_lt_of_le r0l k4.size
 have e4 := (k4.cell (p := ⟨w.heap.size, 4, none⟩) r0l).trans r0e
 have e5 := (k4.cell (p := ⟨w.heap.size, 5, none⟩) r0l).trans r0f
 have e6 := (k4.cell (p := ⟨w.heap.size, 6, none⟩) r0l).trans r0g
 clear r0a r0b r0c r0d r0e r0f r0g r0l HIA HIB HB3 k4
 obtain ⟨hm1, hm2⟩ := hm
 go_upto_region 2 with fail
 refine wp_region_mild (by kernel_rfl) (by kernel_rfl) ?_
 repeat (go_big_quiet_step (first | (go_at_call 94; first | with_reducible exact mild_of (HIA4.out _ (Ext.below _)) | with_reducible exact mild_of (HIB4.out _ (Ext.below _))) | (go_at_call 95; with_reducible exact mild_of (HW.out _)) | (go_at_call 45; with_reducible exact mild_of (HSE.out _)) | fail))
 refine wpQuiet_nil ?_
 intro w5 hw'
 obtain ⟨⟨wq, k5⟩, hw''⟩ := hw'
 subst hw''
 go_wp2
 go_ret
 exact ⟨rfl, bTrans HB4.out k5⟩
end
end Go.Proofs.YtibeihcpehikoaaGreat
