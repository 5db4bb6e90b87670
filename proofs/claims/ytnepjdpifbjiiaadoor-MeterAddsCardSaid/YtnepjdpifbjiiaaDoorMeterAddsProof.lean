/-
  PROVED HERE: promptbooklaw29.MeterAdds answers true for every input, and leaves its arguments as they were.
  CONDITIONS: none beyond the row's own.
-/
import Derived.Test.YtnepjdpifbjiiaaDoorMeterAdd
import Derived.Test.YtnepjdpifbjiiaaDoorAppAny
import Derived.Test.YtnepjdpifbjiiaaDoorRow
import Derived.Test.YtnepjdpifbjiiaaDoorCards
import Derived.Test.YtnepjdpifbjiiaaDoorTie
import Derived.Deep.DeepHandedRow
import Derived.Lib.LaidTab
import Derived.Stop.LaidErr
import Derived.SevenTiedAt
namespace Go.Proofs.YtnepjdpifbjiiaaDoor
open Go.RowKit Go.WideShapes Go.ChangeShapes Go.ChangeAt
set_option maxRecDepth 100000

theorem gPowT : (Tryd.prog.globals[0]?).map (·.type) = some 93 := by kernel_rfl
theorem cells20 : Tryd.prog.cellsOf 93 = 20 := by kernel_rfl
theorem cellsU64 : Tryd.prog.cellsOf 84 = 1 := by kernel_rfl
theorem powData : (Rows.laid_internal_strconv_uint64pow10 : DataW Unit) = Lib.tabData .u64 Lib.pow10Tab := by kernel_rfl
theorem table {W : World} (h : laidMetH Tryd.prog Rows.meterAddsRow.laid W) : Tab W W.heap.size := by
  have h2 : laidMet Tryd.prog [("math/bits.deBruijn32tab", Rows.laid_math_bits_deBruijn32tab), ("math/bits.deBruijn64tab", Rows.laid_math_bits_deBruijn64tab), ("internal/strconv.uint64pow10", Rows.laid_internal_strconv_uint64pow10)] W := h
  have h3 := h2.tail.tail
  rw [powData] at h3
  have ht : Lib.TabIs Tryd.prog W "internal/strconv.uint64pow10" .u64 Lib.pow10Tab :=
    Lib.tabIs_of_head (rest := []) gPow gPowT Tryd.underlying93 Tryd.underlying84 cellsU64 cells20 h3
  exact ⟨ht, block_lt_of_cell (ht.cell gPow 0 (by rw [Lib.pow10Tab_length]; decide))⟩

/-! ### plain -/
def tot (ss : List ByteArray) : Int := (ss.map fun s => (s.size : Int)).sum
theorem addB_tot (ss : List ByteArray) (h : ∀ s ∈ ss, s.size ≤ 140737488355328) : ∀ b : Int, 0 ≤ b → b + 140737488355328 * ss.length ≤ 9223372036854775807 → ss.foldl addB b = b + tot ss ∧ 0 ≤ tot ss ∧ tot ss ≤ 140737488355328 * ss.length := by
  induction ss with
  | nil => intro b _ _; simp [tot]
  | cons s ss ih =>
    intro b h1 h2
    have hs := h s (by simp)
    rw [List.length_cons] at h2
    have e : addB b s = b + s.size := by unfold addB wrap64; omega
    obtain ⟨i1, i2, i3⟩ := ih (fun x hx => h x (by simp [hx])) (b + s.size) (by omega) (by omega)
    have et : tot (s :: ss) = s.size + tot ss := by simp [tot]
    rw [List.foldl_cons, e, i1, et, List.length_cons]
    omega
theorem sendsOf_app (a b : List OutP) : sendsOf (a ++ b) = sendsOf a ++ sendsOf b := by unfold sendsOf; rw [List.flatMap_append]
theorem add_mF (a b : List OutP) (ha : a.length ≤ 60) (hb : b.length ≤ 60) (oa : ∀ o ∈ a, o.sends.length ≤ 60) (ob : ∀ o ∈ b, o.sends.length ≤ 60) (sa : ∀ o ∈ a, ∀ s ∈ o.sends, s.size ≤ 140737488355328) (sb : ∀ o ∈ b, ∀ s ∈ o.sends, s.size ≤ 140737488355328) :
    addF (mF a) (mF b) = mF (a ++ b) := by
  funext j
  unfold addF
  by_cases hj : j = 3
  · subst hj
    have la := sends_len a oa
    have lb := sends_len b ob
    have ga : ∀ s ∈ sendsOf a, s.size ≤ 140737488355328 := fun s h => by obtain ⟨o, ho, h⟩ := List.mem_flatMap.1 h; exact sa o ho s h
    have gb : ∀ s ∈ sendsOf b, s.size ≤ 140737488355328 := fun s h => by obtain ⟨o, ho, h⟩ := List.mem_flatMap.1 h; exact sb o ho s h
    obtain ⟨e1, e2, e3⟩ := addB_tot (sendsOf a) ga 0 (Int.le_refl _) (by omega)
    obtain ⟨e4, e5, e6⟩ := addB_tot (sendsOf b) gb 0 (Int.le_refl _) (by omega)
    obtain ⟨e7, -, -⟩ := addB_tot (sendsOf b) gb (tot (sendsOf a)) e2 (by omega)
    have m1 : mF a 3 = tot (sendsOf a) := by rw [mF, fold_three, e1]; omega
    have m2 : mF b 3 = tot (sendsOf b) := by rw [mF, fold_three, e4]; omega
    have m3 : mF (a ++ b) 3 = tot (sendsOf a) + tot (sendsOf b) := by rw [mF, fold_three, sendsOf_app, List.foldl_append, e1, Int.zero_add, e7]
    rw [if_pos rfl, m1, m2, m3]
    unfold wrap64
    omega
  · rw [if_neg hj]
    have e : j = 0 ∨ j = 1 ∨ j = 2 ∨ 4 ≤ j := by omega
    rcases e with rfl | rfl | rfl | h4
    · unfold mF; rw [fold_zero, fold_zero, fold_zero, List.length_append]; omega
    · unfold mF; rw [fold_one, fold_one, fold_one]
      have : movedOf (a ++ b) = movedOf a + movedOf b := cnt_app _ _ _
      omega
    · unfold mF; rw [fold_two, fold_two, fold_two, sendsOf_app, List.length_append]; omega
    · unfold mF; rw [fold_hit _ _ h4, fold_hit _ _ h4, fold_hit _ _ h4, List.flatMap_append, cnt_app]; omega

/-! ### walks -/
set_option maxHeartbeats 1000000 in
theorem clone_any (g : Nat) (f : Nat → Int) (w : World) (hf : IBlk w g 53 74 f) :
    Calls Tryd.prog 11 #[.pointer (some ⟨g, 0, none⟩)] w fun e w' => e = .returned (.pointer (some ⟨w.heap.size, 0, none⟩)) ∧ IBlk w' w.heap.size 53 74 f ∧ Below w.heap.size w w' := by
  have HF := Lib.hid hf
  have hlt := hf.lt
  have hz := Tryd.zeroMeter
  have hN := (Blk.new w 53 (rowOf 74 fun _ => Value.int .i64 0).toArray)
  have HN := Lib.hid hN
  clear hf hN
  go_enter Tryd.func11, Tryd.ntmps11
  go_wp2_with (first
    | (refine wpList_load_row rfl 53 (.tmp 7) rfl g rfl 53 (rowOf 74 fun i => Value.int .i64 (f i)).toArray (0, 0) _ HF.out Tryd.underlying53 rfl (by kernel_rfl) ?_)
    | (refine wpList_store_mid rfl 53 (.tmp 3) (.tmp 8) rfl w.heap.size 0 (rowOf 74 fun i => Value.int .i64 (f i)).toArray rfl rfl (HN.out.there (by simp [rowOf_length])) (by kernel_rfl) (all_oneCell_toArray (fun v hv => by obtain ⟨i, -, rfl⟩ := List.mem_map.1 hv; rfl)) ?_))
  go_ret
  exact ⟨rfl, HN.out.whole _ (by simp [rowOf_length]), bSetCells (bAlloc (Below.refl _ _) _) (Nat.le_refl _) _ _⟩
set_option maxHeartbeats 400000 in
theorem addNil_any (g : Nat) (w : World) : Calls Tryd.prog 12 #[.pointer (some ⟨g, 0, none⟩), .pointer none] w fun e w' => e = .returned (.tuple #[]) ∧ w = w' := by
  go_enter Tryd.func12, Tryd.ntmps12
  go_wp2
  refine bodyPost_ret (results_none rfl _ _ _) rfl ⟨rfl, rfl⟩
theorem outInfo : (Tryd.prog.info? 31).map (fun i => (i.zero, i.size, i.bytes)) = some (some (.agg #[.slice none 0 0, .slice none 0 0, .bool false]), 3, 56) := by kernel_rfl
theorem out_oneCell (l : List OutP) : ∀ u ∈ l.flatMap OutP.cells, u.oneCell' = true := by
  intro u hu
  obtain ⟨o, -, ho⟩ := List.mem_flatMap.1 hu
  simp only [OutP.cells, List.mem_cons, List.not_mem_nil, or_false] at ho
  rcases ho with rfl | rfl | rfl <;> rfl

set_option maxHeartbeats 1000000 in
theorem walk_far1 (A B : Option Addr) (c d : Nat) (l k : List OutP) (kind late p : Int) (w : World) (hr : Rd w w.heap.size A (l.flatMap OutP.cells)) (hf : farB l = true) :
    Calls Tryd.prog 4 #[.slice A l.length c, .slice B k.length d, .int .i64 kind, .int .i64 late, .int .i64 p] w fun e w' => e = .returned (.bool true) ∧ Below w.heap.size w w' := by
  have HR := Lib.hid hr
  have HF := Lib.hid hf
  clear hr hf
  go_enter Tryd.func4, Tryd.ntmps4
  go_wp2_with fail
  refine (awake_any _).mono ?_
  rintro e w1 ⟨rfl, hb1⟩
  go_wp2_with fail
  refine (far_any A c l _ ((HR.out.below hb1 (Nat.le_refl _)).more hb1.size)).mono ?_
  rw [HF.out]
  rintro e w2 ⟨rfl, rfl⟩
  go_wp2
  go_ret
  exact ⟨rfl, hb1⟩
set_option maxHeartbeats 1000000 in
theorem walk_far2 (A B : Option Addr) (c d : Nat) (l k : List OutP) (kind late p : Int) (w : World) (hr : Rd w w.heap.size A (l.flatMap OutP.cells)) (hk : Rd w w.heap.size B (k.flatMap OutP.cells)) (hf : farB l = false) (hg : farB k = true) :
    Calls Tryd.prog 4 #[.slice A l.length c, .slice B k.length d, .int .i64 kind, .int .i64 late, .int .i64 p] w fun e w' => e = .returned (.bool true) ∧ Below w.heap.size w w' := by
  have HR := Lib.hid hr
  have HK := Lib.hid hk
  have HF := Lib.hid hf
  have HG := Lib.hid hg
  clear hr hf hk hg
  go_enter Tryd.func4, Tryd.ntmps4
  go_wp2_with fail
  refine (awake_any _).mono ?_
  rintro e w1 ⟨rfl, hb1⟩
  go_wp2_with fail
  refine (far_any A c l _ ((HR.out.below hb1 (Nat.le_refl _)).more hb1.size)).mono ?_
  rw [HF.out]
  rintro e w2 ⟨rfl, rfl⟩
  go_wp2_with fail
  refine (far_any B d k _ ((HK.out.below hb1 (Nat.le_refl _)).more hb1.size)).mono ?_
  rw [HG.out]
  rintro e w2 ⟨rfl, rfl⟩
  go_wp2
  go_ret
  exact ⟨rfl, hb1⟩

set_option maxHeartbeats 8000000 in
theorem walk_near (A B : Option Addr) (c d : Nat) (l k : List OutP) (kind late p : Int) (w : World) (hr : Rd w w.heap.size A (l.flatMap OutP.cells)) (hk : Rd w w.heap.size B (k.flatMap OutP.cells))
    (hin : ∀ o ∈ l, o.In w w.heap.size ∧ ∀ s ∈ o.sends, s.size ≤ 140737488355328) (hkn : ∀ o ∈ k, o.In w w.heap.size ∧ ∀ s ∈ o.sends, s.size ≤ 140737488355328) (ht : Tab w w.heap.size) (hf : farB l = false) (hg : farB k = false) :
    Calls Tryd.prog 4 #[.slice A l.length c, .slice B k.length d, .int .i64 kind, .int .i64 late, .int .i64 p] w fun e w' => e = .returned (.bool true) ∧ Below w.heap.size w w' := by
  obtain ⟨i0, hi0, hz0, hz1, hz2⟩ := info_parts outInfo
  have HR := Lib.hid hr
  have HK := Lib.hid hk
  have HIN := Lib.hid hin
  have HKN := Lib.hid hkn
  have HF := Lib.hid hf
  have HG := Lib.hid hg
  have HT := Lib.hid ht
  have HI0 := Lib.hid hi0
  have HZ0 := Lib.hid hz0
  have HZ1 := Lib.hid hz1
  have HZ2 := Lib.hid hz2
  obtain ⟨hl, ho⟩ := far_no l hf
  obtain ⟨hk6, ho2⟩ := far_no k hg
  have HO := Lib.hid ho
  have HO2 := Lib.hid ho2
  have HS := Lib.hid (mF_sm l ho)
  have HS2 := Lib.hid (mF_sm k ho2)
  clear hr hin hf ho ht hk hkn hg ho2 hi0 hz0 hz1 hz2
  go_enter Tryd.func4, Tryd.ntmps4
  go_wp2_with fail
  refine (awake_any _).mono ?_
  rintro e w1 ⟨rfl, hb1⟩
  go_wp2_with fail
  refine (far_any A c l _ ((HR.out.below hb1 (Nat.le_refl _)).more hb1.size)).mono ?_
  rw [HF.out]
  rintro e w2 ⟨rfl, rfl⟩
  go_wp2_with fail
  refine (far_any B d k _ ((HK.out.below hb1 (Nat.le_refl _)).more hb1.size)).mono ?_
  rw [HG.out]
  rintro e w2 ⟨rfl, rfl⟩
  go_wp2_with fail
  refine (new_any _).mono ?_
  rintro e w2 ⟨rfl, hf2, hb2⟩
  have hlt2 := hf2.lt
  go_wp2_with fail
  refine (new_any _).mono ?_
  rintro e w3 ⟨rfl, hf3, hb3⟩
  have hb03 := bTrans (bTrans hb1 hb2) hb3
  obtain ⟨gx, hgx⟩ : ∃ gx, gx = w1.heap.size := ⟨_, rfl⟩
  obtain ⟨gy, hgy⟩ : ∃ gy, gy = w2.heap.size := ⟨_, rfl⟩
  rw [← hgx, ← hgy]
  rw [← hgx] at hf2 hlt2
  rw [← hgy] at hf3 hlt2
  have hlx : w.heap.size ≤ gx := by rw [hgx]; exact hb1.size
  have hly : w.heap.size ≤ gy := by omega
  have HX := Lib.hid (hf2.on hb3)
  have HY := Lib.hid hf3
  clear hf2 hf3 hb1 hb2 hb3 hgx hgy
  go_wp2
  go_loopw [13] (fun i wr => ∃ n : Nat, n ≤ l.length ∧ i = .int .i64 n ∧ IBlk wr gx 53 74 (mF (l.take n)) ∧ IBlk wr gy 53 74 (fun _ => 0) ∧ Below w.heap.size w wr) (fun i _ => l.length - (intOf i).toNat)
  case atStart => exact ⟨0, Nat.zero_le _, rfl, HX.out, HY.out, hb03⟩
  case round =>
    clear HX HY hb03
    obtain ⟨n, hn, rfl, hf, hy, hb⟩ := hrel
    have HFK := Lib.hid hf
    have HYK := Lib.hid hy
    have hlt1 := hf.lt
    clear hf hy
    by_cases hlt : n < l.length
    · obtain ⟨b, off, rfl, hB, hc⟩ := (HR.out.below hb (Nat.le_refl _)).at_ OutP.cells_length (by decide) hlt
      have c0 := hc 0 _ rfl
      have c1 := hc 1 _ rfl
      have c2 := hc 2 _ rfl
      rw [Nat.add_zero] at c0
      have hst := mF_take l n hlt
      have HST := Lib.hid hst
      have hsk := HS.out n hn
      have hok := HO.out l[n] (List.getElem_mem hlt)
      have hik := (HIN.out l[n] (List.getElem_mem hlt)).1
      have hat : (l[n]).At wr gx := ⟨RdN.of_rd (hik.1.below hb (Nat.le_refl _)) hlx hb.size, RdN.of_rd (hik.2.below hb (Nat.le_refl _)) hlx hb.size⟩
      have hN := note_any gx (mF (l.take n)) l[n] wr HFK.out (hsk.more (by omega)) hat hok.1 hok.2
      rw [← HST.out] at hN
      have HN := Lib.hid hN
      clear hc hst hsk hok hik hat hN
      go_wp2_with fail
      refine HN.out.mono ?_
      rintro e w4 ⟨rfl, hf4, hg4⟩
      have HF4 := Lib.hid hf4
      clear hf4
      go_wp2
      go_roundw
      case rel => exact ⟨n + 1, by omega, by go_num, HF4.out, HYK.out.grown hg4 (by intro e; cases e; omega), hb.trans (bOnly hg4 hb.size (fun j e => by cases e; exact hlx))⟩
      case measure => simp [intOf]; omega
    · have hkl : l.take n = l := List.take_of_length_le (by omega)
      rw [hkl] at HFK
      clear hkl
      go_wp2
      obtain ⟨wo, rfl⟩ : ∃ wo : World, wo = wr := ⟨_, rfl⟩
      go_loopw [14] (fun i wr => ∃ n : Nat, n ≤ k.length ∧ i = .int .i64 n ∧ IBlk wr gy 53 74 (mF (k.take n)) ∧ IBlk wr gx 53 74 (mF l) ∧ Below w.heap.size w wr) (fun i _ => k.length - (intOf i).toNat)
      case atStart => exact ⟨0, Nat.zero_le _, rfl, HYK.out, HFK.out, hb⟩
      case round =>
        clear HFK HYK hb hlt1
        obtain ⟨n, hn, rfl, hf, hy, hb⟩ := hrel
        have HFK := Lib.hid hf
        have HYK := Lib.hid hy
        have hlt1 := hf.lt
        clear hf hy
        by_cases hlt : n < k.length
        · obtain ⟨b, off, rfl, hB, hc⟩ := (HK.out.below hb (Nat.le_refl _)).at_ OutP.cells_length (by decide) hlt
          have c0 := hc 0 _ rfl
          have c1 := hc 1 _ rfl
          have c2 := hc 2 _ rfl
          rw [Nat.add_zero] at c0
          have hst := mF_take k n hlt
          have HST := Lib.hid hst
          have hsk := HS2.out n hn
          have hok := HO2.out k[n] (List.getElem_mem hlt)
          have hik := (HKN.out k[n] (List.getElem_mem hlt)).1
          have hat : (k[n]).At wr gy := ⟨RdN.of_rd (hik.1.below hb (Nat.le_refl _)) hly hb.size, RdN.of_rd (hik.2.below hb (Nat.le_refl _)) hly hb.size⟩
          have hN := note_any gy (mF (k.take n)) k[n] wr HFK.out (hsk.more (by omega)) hat hok.1 hok.2
          rw [← HST.out] at hN
          have HN := Lib.hid hN
          clear hc hst hsk hok hik hat hN
          go_wp2_with fail
          refine HN.out.mono ?_
          rintro e w4 ⟨rfl, hf4, hg4⟩
          have HF4 := Lib.hid hf4
          clear hf4
          go_wp2
          go_roundw
          case rel => exact ⟨n + 1, by omega, by go_num, HF4.out, HYK.out.grown hg4 (by intro e; cases e; omega), hb.trans (bOnly hg4 hb.size (fun j e => by cases e; exact hly))⟩
          case measure => simp [intOf]; omega
        · have hkl : k.take n = k := List.take_of_length_le (by omega)
          rw [hkl] at HFK
          clear hkl
          have s1 := HS.out l.length (Nat.le_refl _)
          rw [List.take_length] at s1
          have s2 := HS2.out k.length (Nat.le_refl _)
          rw [List.take_length] at s2
          have HS1 : Hid (Sm (mF l) 1000000) := Lib.hid (s1.more (by omega))
          have HS3 : Hid (Sm (mF k) 1000000) := Lib.hid (s2.more (by omega))
          have sl := fun o h => (HIN.out o h).2
          have sk := fun o h => (HKN.out o h).2
          have ha1 := agree l (by omega) HO.out (bytes_bd l (by omega) (fun o h => (HO.out o h).2) sl)
          have ha2 := agree k (by omega) HO2.out (bytes_bd k (by omega) (fun o h => (HO2.out o h).2) sk)
          have hall : ∀ o ∈ l ++ k, o.cmds.length ≤ 60 ∧ o.sends.length ≤ 60 := fun o h => by rcases List.mem_append.1 h with h | h; exact HO.out o h; exact HO2.out o h
          have sall : ∀ o ∈ l ++ k, ∀ s ∈ o.sends, s.size ≤ 140737488355328 := fun o h => by rcases List.mem_append.1 h with h | h; exact sl o h; exact sk o h
          have nall : (l ++ k).length ≤ 120 := by rw [List.length_append]; omega
          have ha3 := agree (l ++ k) (by omega) hall (bytes_bd (l ++ k) (by omega) (fun o h => (hall o h).2) sall)
          have s3 := mF_sm (l ++ k) hall (l ++ k).length (Nat.le_refl _)
          rw [List.take_length] at s3
          have HS4 : Hid (Sm (mF (l ++ k)) 1000000) := Lib.hid (s3.more (by omega))
          have HAF := Lib.hid (add_mF l k (by omega) (by omega) (fun o h => (HO.out o h).2) (fun o h => (HO2.out o h).2) sl sk)
          have HA1 := Lib.hid ha1
          have HA2 := Lib.hid ha2
          have HA3 := Lib.hid ha3
          have HALL := Lib.hid hall
          clear s1 s2 s3 sl sk ha1 ha2 ha3 hall sall
          have hLx := HYK.out.lt
          go_wp2_with fail
          refine (clone_any gx (mF l) _ HYK.out).mono ?_
          rintro e w5 ⟨rfl, hz5, hb5⟩
          have hgz : gx < wr.heap.size := hLx
          have hgz2 : gy < wr.heap.size := hlt1
          obtain ⟨gz, hgzz⟩ : ∃ gz, gz = wr.heap.size := ⟨_, rfl⟩
          rw [← hgzz] at hz5 hgz hgz2 ⊢
          have HZ5 := Lib.hid hz5
          have HX5 := Lib.hid (HYK.out.on hb5)
          have HY5 := Lib.hid (HFK.out.on hb5)
          have hB5 := bTrans hb hb5
          have hz1 := hz5.lt
          clear HFK HYK hz5 hgzz hb5 hb
          go_wp2_with fail
          refine (add_any gx gy (mF l) (mF k) _ HX5.out HY5.out (by omega) HS1.out HS3.out).mono ?_
          rw [HAF.out]
          rintro e w6 ⟨rfl, hx6, hg6⟩
          have HX6 := Lib.hid hx6
          have HY6 := Lib.hid (HY5.out.grown hg6 (by intro e; cases e; omega))
          have HZ6 := Lib.hid (HZ5.out.grown hg6 (by intro e; cases e; omega))
          have hB6 := hB5.trans (bOnly hg6 hB5.size (fun j e => by cases e; exact hlx))
          clear HX5 HY5 HZ5 hx6 hg6
          go_wp2_with fail
          refine (addNil_any gx _).mono ?_
          rintro e w7 ⟨rfl, rfl⟩
          have hn0 : Hid (OwnL (w6.alloc (.cells #[] 31)) w.heap.size 31 3 (.slice (some ⟨w6.heap.size, 0, none⟩) 0 0) OutP.cells []) := Lib.hid (OwnL.lit [] #[] hB6.size (by decide) OutP.cells_length rfl rfl rfl)
          have hB7 := bAlloc hB6 (.cells #[] 31)
          have hrl := Lib.hid (HR.out.below hB7 (Nat.le_refl _))
          have hA := Lib.hid (rd_none OutP.cells_length (by decide) HR.out)
          have hAk := Lib.hid (rd_none OutP.cells_length (by decide) HK.out)
          go_wp2_with (first
            | (at_builtin; refine wpList_append_rd rfl (.tmp 58) (.tmp 59) 22 rfl w.heap.size 31 i0 _ 3 56 Tryd.underlying22 HI0.out HZ0.out HZ1.out HZ2.out rfl (by decide) (.slice (some ⟨w6.heap.size, 0, none⟩) 0 0) 0 [] rfl hn0.out w.heap.size A l.length c (l.flatMap OutP.cells) rfl (length_flatMap_const _ 3 OutP.cells_length l) hrl.out hA.out (out_oneCell l) (by simp [maxLen]; omega) (by omega) hB7.size ?_; intro v1 w8 hown8 hg8 hat8
               have hB8 : Below w.heap.size w w8 := hB7.trans (bOnly hg8 hB7.size (fun j e => by cases e; exact hB6.size))
               have HG8 := Lib.hid hg8
               have HO8 := Lib.hid hown8
               have HT8 := Lib.hid hat8
               clear hown8 hg8 hat8
               have hrk := Lib.hid (HK.out.below hB8 (Nat.le_refl _)))
            | (at_builtin; refine wpList_append_rd rfl (.tmp 60) (.tmp 61) 22 rfl w.heap.size 31 i0 _ 3 56 Tryd.underlying22 HI0.out HZ0.out HZ1.out HZ2.out rfl (by decide) v1 (0 + l.length) ([] ++ l.flatMap OutP.cells) rfl HO8.out w.heap.size B k.length d (k.flatMap OutP.cells) rfl (length_flatMap_const _ 3 OutP.cells_length k) hrk.out hAk.out (out_oneCell k) (by simp [maxLen]; omega) (by omega) hB8.size ?_; intro v2 w9 hown9 hg9 hat9
               have HG9 := Lib.hid hg9
               have HO9 := Lib.hid hown9
               have HT9 := Lib.hid hat9
               clear hown9 hg9 hat9))
          have hv1 : ∀ j, v1.ownBlock = some j → w6.heap.size ≤ j := fun j e => by
            rcases HT8.out with e1 | e1
            · rw [e1] at e; cases e; exact Nat.le_refl _
            · rw [e1] at e; cases e; simp
          have hB9 : Below w.heap.size w w9 := hB8.trans (bOnly HG9.out hB8.size (fun j e => Nat.le_trans hB6.size (hv1 j e)))
          have K : ∀ g f, g < w6.heap.size → IBlk w6 g 53 74 f → IBlk w9 g 53 74 f := fun g f hg h =>
            ((h.alloc _).grown HG8.out (by intro e; cases e; exact absurd hg (Nat.lt_irrefl _))).grown HG9.out (fun e => by have := hv1 g e; omega)
          have hO := OwnL.app (f := OutP.cells) (l := l) (k := k) (n := 0 + l.length + k.length) (by omega) (by simpa using HO9.out)
          obtain ⟨A9, c9, hv2⟩ := hO.shape
          have hRA : Rd w9 w9.heap.size A9 ((l ++ k).flatMap OutP.cells) := by rw [hv2] at hO; exact hO.rd
          have hX9 := K gx _ HX6.out.lt HX6.out
          have hY9 := K gy _ HY6.out.lt HY6.out
          have hZ9 := K gz _ HZ6.out.lt HZ6.out
          have hIA : ∀ o ∈ l ++ k, o.In w9 w9.heap.size := in_below (fun o h => by
            rcases List.mem_append.1 h with h | h
            · exact (HIN.out o h).1
            · exact (HKN.out o h).1) hB9
          have hTab : Tab w9 w9.heap.size := ⟨(HT.out.below hB9 (Nat.le_refl _)).1, Nat.lt_of_lt_of_le HT.out.2 hB9.size⟩
          have hA1 := alike_any gx (mF (l ++ k)) A9 c9 (l ++ k) kind late p w9 hX9 HA3.out HS4.out hTab (by omega) hRA hIA HALL.out
          have HA1' := Lib.hid hA1
          have F2 := Lib.hid (fun w' (h : Below w9.heap.size w9 w') => alike_any gz (mF l) A c l kind late p w' (hZ9.on h) HA1.out HS1.out ⟨(hTab.below h (Nat.le_refl _)).1, Nat.lt_of_lt_of_le hTab.2 h.size⟩ (by omega) (rd_below HR.out (hB9.trans (h.mono hB9.size))) (in_below (fun o h => (HIN.out o h).1) (hB9.trans (h.mono hB9.size))) HO.out)
          have F3 := Lib.hid (fun w' (h : Below w9.heap.size w9 w') => alike_any gy (mF k) B d k kind late p w' (hY9.on h) HA2.out HS3.out ⟨(hTab.below h (Nat.le_refl _)).1, Nat.lt_of_lt_of_le hTab.2 h.size⟩ (by omega) (rd_below HK.out (hB9.trans (h.mono hB9.size))) (in_below (fun o h => (HKN.out o h).1) (hB9.trans (h.mono hB9.size))) HO2.out)
          subst hv2
          clear hO hRA hX9 hY9 hZ9 hIA hTab hA1 K hv1
          go_wp2_with fail
          refine HA1'.out.mono ?_
          rintro e w10 ⟨rfl, hb10⟩
          go_wp2_with fail
          refine (F2.out _ hb10).mono ?_
          rintro e w11 ⟨rfl, hb11⟩
          go_wp2_with fail
          refine (F3.out _ (bTrans hb10 hb11)).mono ?_
          rintro e w12 ⟨rfl, hb12⟩
          go_wp2
          go_ret
          exact ⟨rfl, hB9.trans ((bTrans (bTrans hb10 hb11) hb12).mono hB9.size)⟩
theorem walk_any (A B : Option Addr) (c d : Nat) (l k : List OutP) (kind late p : Int) (w : World) (hr : Rd w w.heap.size A (l.flatMap OutP.cells)) (hk : Rd w w.heap.size B (k.flatMap OutP.cells))
    (hin : ∀ o ∈ l, o.In w w.heap.size ∧ ∀ s ∈ o.sends, s.size ≤ 140737488355328) (hkn : ∀ o ∈ k, o.In w w.heap.size ∧ ∀ s ∈ o.sends, s.size ≤ 140737488355328) (ht : Tab w w.heap.size) :
    Calls Tryd.prog 4 #[.slice A l.length c, .slice B k.length d, .int .i64 kind, .int .i64 late, .int .i64 p] w fun e w' => e = .returned (.bool true) ∧ Below w.heap.size w w' := by
  cases hf : farB l with
  | true => exact walk_far1 A B c d l k kind late p w hr hf
  | false =>
    cases hg : farB k with
    | true => exact walk_far2 A B c d l k kind late p w hr hk hf hg
    | false => exact walk_near A B c d l k kind late p w hr hk hin hkn ht hf hg
/-- A world for the witness: the settled one, the tables holding what their initialisers lay. -/
noncomputable def laidWorld (os : Os) : World :=
  { World.holding Tryd.prog os ⟨#[], #[], []⟩ with heap := (((((World.holding Tryd.prog os ⟨#[], #[], []⟩).heap).modify 2 (fun
      | .cells _ t frozen => .cells #[.int .u8 0, .int .u8 1, .int .u8 28, .int .u8 2, .int .u8 29, .int .u8 14, .int .u8 24, .int .u8 3, .int .u8 30, .int .u8 22, .int .u8 20, .int .u8 15, .int .u8 25, .int .u8 17, .int .u8 4, .int .u8 8, .int .u8 31, .int .u8 27, .int .u8 13, .int .u8 23, .int .u8 21, .int .u8 19, .int .u8 16, .int .u8 7, .int .u8 26, .int .u8 12, .int .u8 18, .int .u8 6, .int .u8 11, .int .u8 5, .int .u8 10, .int .u8 9] t frozen
      | o => o)).modify 3 (fun
      | .cells _ t frozen => .cells #[.int .u8 0, .int .u8 1, .int .u8 56, .int .u8 2, .int .u8 57, .int .u8 49, .int .u8 28, .int .u8 3, .int .u8 61, .int .u8 58, .int .u8 42, .int .u8 50, .int .u8 38, .int .u8 29, .int .u8 17, .int .u8 4, .int .u8 62, .int .u8 47, .int .u8 59, .int .u8 36, .int .u8 45, .int .u8 43, .int .u8 51, .int .u8 22, .int .u8 53, .int .u8 39, .int .u8 33, .int .u8 30, .int .u8 24, .int .u8 18, .int .u8 12, .int .u8 5, .int .u8 63, .int .u8 55, .int .u8 48, .int .u8 27, .int .u8 60, .int .u8 41, .int .u8 37, .int .u8 16, .int .u8 46, .int .u8 35, .int .u8 44, .int .u8 21, .int .u8 52, .int .u8 32, .int .u8 23, .int .u8 11, .int .u8 54, .int .u8 26, .int .u8 40, .int .u8 15, .int .u8 34, .int .u8 20, .int .u8 31, .int .u8 10, .int .u8 25, .int .u8 14, .int .u8 19, .int .u8 9, .int .u8 13, .int .u8 8, .int .u8 7, .int .u8 6] t frozen
      | o => o)).modify 0 (fun
      | .cells _ t frozen => .cells #[.int .u64 1, .int .u64 10, .int .u64 100, .int .u64 1000, .int .u64 10000, .int .u64 100000, .int .u64 1000000, .int .u64 10000000, .int .u64 100000000, .int .u64 1000000000, .int .u64 10000000000, .int .u64 100000000000, .int .u64 1000000000000, .int .u64 10000000000000, .int .u64 100000000000000, .int .u64 1000000000000000, .int .u64 10000000000000000, .int .u64 100000000000000000, .int .u64 1000000000000000000, .int .u64 10000000000000000000] t frozen
      | o => o)) }
theorem own : ownKnob Tryd.prog.godebug = none := by kernel_rfl
theorem contract (H : Type) (enc : TypeId × Value → H) (W : World) (base : Nat) (args : Array Value) (ds gs : List (DataW H)) (before : List MemPlace)
    (hval : ∀ (j : Nat) t v, Tryd.f4.params[j]? = some t → args[j]? = some v → Value.okWide Tryd.prog W .any base t v)
    (hW : DataW.Whole enc Tryd.prog Tryd.f4.params.toList Rows.meterAddsSpec.vars false W args.toList ds gs before) (hL : laidMetH Tryd.prog Rows.meterAddsRow.laid W)
    (hsz : (DataW.weightsEach Tryd.prog (Tryd.f4.params.toList ++ (OpenSpec.bare (OpenSpec.ofChange Rows.meterAddsSpec)).plain.varTypes Tryd.prog) (ds ++ gs)).all (· ≤ reachBytes) = true) :
    Calls Tryd.prog 4 args W fun e W' => ∃ v, e = .returned v ∧ Rows.meterAddsSpec.post enc Tryd.prog Tryd.f4 false true false false W args v W' := by
  have hW0 := hW
  obtain ⟨p, q, hA, hV, rfl, -, -⟩ := hW
  rw [Tryd.params4] at hA hval
  obtain ⟨v0, vs0, d0, ds0, p0, q0, hargs, rfl, rfl, h0, r0⟩ := trodAll_cons hA
  obtain ⟨v1, vs1, d1, ds1, p1, q1, rfl, rfl, rfl, h1, r1⟩ := trodAll_cons r0
  obtain ⟨v2, vs2, d2, ds2, p2, q2, rfl, rfl, rfl, h2, r2⟩ := trodAll_cons r1
  obtain ⟨v3, vs3, d3, ds3, p3, q3, rfl, rfl, rfl, h3, r3⟩ := trodAll_cons r2
  obtain ⟨v4, vs4, d4, ds4, p4, q4, rfl, rfl, rfl, h4, r4⟩ := trodAll_cons r3
  obtain ⟨rfl, rfl, rfl⟩ := trodAll_nil r4
  obtain rfl : args = #[v0, v1, v2, v3, v4] := by cases args; simp_all
  obtain ⟨rfl, rfl⟩ := trodVars_none hV
  obtain ⟨lA, lc, ll, rfl, ln, lr, lf⟩ := (open_outsS (wt hsz (j := 0) (by rw [Tryd.params4]; rfl) rfl)) (hval 0 _ _ rfl rfl) h0
  obtain ⟨kA, kc, kl, rfl, kn, kr, kf⟩ := (open_outsS (wt hsz (j := 1) (by rw [Tryd.params4]; rfl) rfl)) (hval 1 _ _ rfl rfl) h1
  obtain ⟨kind, rfl, rfl, rfl, kindw⟩ := open_int Tryd.underlying3 (hval 2 _ _ rfl rfl) h2
  obtain ⟨late, rfl, rfl, rfl, latew⟩ := open_int Tryd.underlying3 (hval 3 _ _ rfl rfl) h3
  obtain ⟨p, rfl, rfl, rfl, pw⟩ := open_int Tryd.underlying3 (hval 4 _ _ rfl rfl) h4
  refine (walk_any lA kA lc kc ll kl kind late p W lr kr lf kf (table hL)).mono fun e W' ⟨he, hb⟩ => ?_
  subst he
  exact ⟨_, rfl, law_post (by kernel_rfl) (by kernel_rfl) rfl Tryd.underlying4 rfl rfl hW0 hb⟩
theorem laid_met (os : Os) : laidMet Tryd.prog Rows.meterAddsRow.laid (((laidWorld os)).forCall (fun _ _ => 0) ⟨#[], #[.slice none 0 0, .slice none 0 0, .int .i64 0, .int .i64 0, .int .i64 0], []⟩).memory :=
  laidMet_of_run' 8 (by kernel_rfl) (by kernel_rfl)
theorem reads (os : Os) {H : Type} (enc : TypeId × Value → H) : ∃ places, DataW.whole enc Tryd.prog (((laidWorld os)).forCall (fun _ _ => 0) ⟨#[], #[.slice none 0 0, .slice none 0 0, .int .i64 0, .int .i64 0, .int .i64 0], []⟩).memory Tryd.f4.params.toList Rows.meterAddsSpec.vars false #[(.slice none 0 0 : Value), .slice none 0 0, .int .i64 0, .int .i64 0, .int .i64 0].toList 8 = some ([.nil, .nil, .lit (.int .i64 0), .lit (.int .i64 0), .lit (.int .i64 0)], [], places) :=
  ⟨[], by kernel_rfl⟩
set_option maxRecDepth 100000 in
theorem lifted (os : Os) (started : os.Started) (H : Type) (enc : TypeId × Value → H) (F : Stop.Interp) :
    ReturnsInHanded {} Tryd.checked os 4 .any ((OpenSpec.ofChange Rows.meterAddsSpec).preRow enc Tryd.prog Tryd.f4 Rows.meterAddsRow.domain false Rows.meterAddsRow.laid) (((OpenSpec.ofChange Rows.meterAddsSpec).at F).post enc Tryd.prog Tryd.f4 false true false false) := by
  obtain ⟨places, hx⟩ := reads os enc
  refine returnsInHanded_of_row (C := Tryd.checked) (s := (OpenSpec.ofChange Rows.meterAddsSpec)) own started (by kernel_rfl) Tryd.func4
    (witness_row_at (enc := enc) (C := Tryd.checked) false (laidWorld os) #[.slice none 0 0, .slice none 0 0, .int .i64 0, .int .i64 0, .int .i64 0] rfl (by kernel_rfl) (by kernel_rfl) (by kernel_rfl)
      (OpenSpec.preRow_of_cond 8 hx (by kernel_rfl) (fun k hk => by cases hk) (by kernel_rfl) (laid_met os))) ?_
  intro W base args ds gs before hval hW _ _ hsz hL _ _
  exact contract H enc W base args ds gs before hval hW hL hsz
theorem said : Rows.MeterAddsSaid :=
  OpenClaim.holds_of_cond 4 Tryd.f4 rfl rfl rfl rfl rfl rfl rfl ⟨rfl, rfl, rfl, rfl, rfl⟩ rfl rfl rfl rfl rfl (by kernel_rfl) Tryd.func4 (by kernel_rfl)
    (of_decide_eq_true (by kernel_rfl)) (by unfold Func.isWrapper; first | (rw [if_pos (by decide +kernel)]; kernel_rfl) | (rw [if_neg (by decide +kernel)]; exact ⟨rfl, rfl⟩))
    (fun os started H enc _ F => by rw [OpenClaim.pre_eq_preRow]; exact lifted os started H enc F)
theorem plain (f : FuncId) (fn : Func) (hf : Tryd.pinned.checked.prog.funcNamed "promptbook/promptbooklaw29.MeterAdds" = some f) (hfn : Tryd.pinned.checked.prog.funcs[f]? = some fn) :
    false = Tryd.pinned.checked.prog.looks [] ∧ ∀ (j : Nat) t, fn.params[j]? = some t → Tryd.pinned.checked.prog.wantsStandIn t = false := by
  obtain rfl : f = 4 := Option.some.inj ((show Tryd.prog.funcNamed "promptbook/promptbooklaw29.MeterAdds" = some 4 by kernel_rfl).symm.trans hf) |>.symm
  obtain rfl : fn = Tryd.f4 := (Option.some.inj (Tryd.func4.symm.trans hfn)).symm
  refine ⟨by kernel_rfl, fun j t ht => ?_⟩
  rw [Tryd.params4] at ht
  have hm := Array.mem_of_getElem? ht
  simp only [List.mem_toArray, List.mem_cons, List.not_mem_nil, or_false] at hm
  have hall : ∀ x ∈ [22, 3], Tryd.prog.wantsStandIn x = false := by
    intro x hx
    simp only [List.mem_cons, List.not_mem_nil, or_false] at hx
    rcases hx with rfl | rfl
    · exact (show Tryd.prog.wantsStandIn 22 = false by kernel_rfl)
    · exact (show Tryd.prog.wantsStandIn 3 = false by kernel_rfl)
  refine hall t ?_
  rcases hm with rfl | rfl | rfl | rfl | rfl <;> simp
/-- ████ MeterAdds ████ -/
theorem card : Rows.MeterAddsCardSaid :=
  Claim7.holds_tied_plain_at .later [] _ _ _ _ said (fun _ h => by cases h) (by kernel_rfl) (fun _ h => by cases h) meterAdds_row_tie rfl ⟨rfl, rfl⟩ (by kernel_rfl) rfl plain (by kernel_rfl)
end Go.Proofs.YtnepjdpifbjiiaaDoor
