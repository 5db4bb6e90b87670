/-
  The program's Diff of two lists in order.
-/
import Derived.Test.YtdjfpdndaobohaaDfA
namespace Go.Proofs.Ytdjfpdndaobohaa
open Go.RowKit
set_option maxRecDepth 100000
set_option linter.unusedSimpArgs false
/-- A row of the call's own lies behind the block b, and is not it. -/
theorem own_ne {v : Value} {w : World} {base : Nat} {E : TypeId} {m : Nat} {α : Type} {f : α → List Value} {l : List α} {b : Nat} (h : OwnL w base E m v f l) (hb : b < base) : v.ownBlock ≠ some b := fun e => by
  have := h.base_le _ e
  omega
set_option maxHeartbeats 16000000 in
theorem diff_good (A1 A2 : Option Addr) (c1 c2 : Nat) (was now : List Ev) (w : World) (h1 : was.length ≤ 100) (h2 : now.length ≤ 100) (r1 : Rd w w.heap.size A1 (was.flatMap Ev.cells)) (r2 : Rd w w.heap.size A2 (now.flatMap Ev.cells)) (o1 : orderedB was = true) (o2 : orderedB now = true) :
    Calls Try.prog 27 #[.slice A1 was.length c1, .slice A2 now.length c2] w fun e w' => ∃ Ag ng cg Af nf cf At nt ct, e = .returned (.tuple #[.agg #[.slice Ag ng cg, .slice Af nf cf, .slice At nt ct], .int .i64 0]) ∧
      OwnL w' w.heap.size 23 4 (.slice Ag ng cg) Key4.cells (goneL was now) ∧ OwnL w' w.heap.size 25 9 (.slice Af nf cf) Ev.cells (freshL was now) ∧ OwnL w' w.heap.size 25 9 (.slice At nt ct) Ev.cells (turnedL was now) ∧ Below w.heap.size w w' := by
  obtain ⟨W, hW⟩ : ∃ W, W = w.alloc (.cells #[.slice none 0 0, .slice none 0 0, .slice none 0 0] 51) := ⟨_, rfl⟩
  have HK : Hid (Blk W w.heap.size 51 #[.slice none 0 0, .slice none 0 0, .slice none 0 0]) := Lib.hid (by rw [hW]; exact Blk.new _ _ _)
  have hB0 : Below w.heap.size w W := by rw [hW]; exact bAlloc (Below.refl _ _) _
  have HT : Hid (∀ V, Below W.heap.size W V → Below w.heap.size w V) := Lib.hid (fun V hV => hB0.trans (hV.mono hB0.size))
  have HO1 := Lib.hid (fun V (hV : Below W.heap.size W V) => ordered_any A1 c1 was (by omega) V ((r1.below (HT.out V hV) (Nat.le_refl _)).more (HT.out V hV).size))
  have HO2 := Lib.hid (fun V (hV : Below W.heap.size W V) => ordered_any A2 c2 now (by omega) V ((r2.below (HT.out V hV) (Nat.le_refl _)).more (HT.out V hV).size))
  have HB : Hid (Below W.heap.size W W) := Lib.hid (Below.refl _ _)
  have s1 := ordered_sorted o1
  have s2 := ordered_sorted o2
  have HF1 := Lib.hid (fun key V (hV : Below w.heap.size w V) => find_any A1 c1 was key V (by omega) ((r1.below hV (Nat.le_refl _)).more hV.size) s1)
  have HF2 := Lib.hid (fun key V (hV : Below w.heap.size w V) => find_any A2 c2 now key V (by omega) ((r2.below hV (Nat.le_refl _)).more hV.size) s2)
  have HR1 := Lib.hid r1
  have HR2 := Lib.hid r2
  have HGS := Lib.hid (fun k hk => goneL_snoc was now k hk)
  have HFS := Lib.hid (fun k hk => freshL_snoc was now k hk)
  have HTS := Lib.hid (fun k hk => turnedL_snoc was now k hk)
  have HGL : Hid (∀ k, (goneL (was.take k) now).length ≤ 100) := Lib.hid (fun k => by unfold goneL; rw [List.length_map]; have := flt_len (fun e => !foundK now e.key) was k; omega)
  have HFL : Hid (∀ k, (freshL was (now.take k)).length ≤ 100) := Lib.hid (fun k => by unfold freshL; have := flt_len (fun e => !foundK was e.key) now k; omega)
  have HTL : Hid (∀ k, (turnedL was (now.take k)).length ≤ 100) := Lib.hid (fun k => by unfold turnedL; have := flt_len (fun e => foundK was e.key && !decide (findE was e.key = e)) now k; omega)
  rw [o1] at HO1
  rw [o2] at HO2
  obtain ⟨n1, hn1⟩ : ∃ n, was.length = n := ⟨_, rfl⟩
  obtain ⟨n2, hn2⟩ : ∃ n, now.length = n := ⟨_, rfl⟩
  have HN1 := Lib.hid hn1
  have HN2 := Lib.hid hn2
  rw [hn1] at HO1 HF1 h1
  rw [hn2] at HO2 HF2 h2
  rw [hn1, hn2]
  clear hn1 hn2 r1 r2 hB0 o1 o2 s1 s2
  go_enter Try.func27, Try.ntmps27
  go_upto_region 1 with fail
  rw [← hW]
  clear hW
  go_upto_region 3 with (first | (go_at_call 15; (with_reducible refine (HO1.out _ HB.out).mono ?_); rintro e wx ⟨rfl, hbx⟩; have HB := Lib.hid (bTrans HB.out hbx); clear hbx) | (go_at_call 15; (with_reducible refine (HO2.out _ HB.out).mono ?_); rintro e wy ⟨rfl, hbx⟩; have HB := Lib.hid (bTrans HB.out hbx); clear hbx))
  clear HO1 HO2
  go_upto_region 4 with fail
  obtain ⟨X, hX⟩ : ∃ X, X = wy.alloc (.cells #[.slice none 0 0, .slice none 0 0, .slice none 0 0] 51) := ⟨_, rfl⟩
  have HC0 : Hid (Blk X wy.heap.size 51 #[.slice none 0 0, .slice none 0 0, .slice none 0 0]) := Lib.hid (by rw [hX]; exact Blk.new _ _ _)
  have HZ0 : Hid (Blk X w.heap.size 51 #[.slice none 0 0, .slice none 0 0, .slice none 0 0]) := Lib.hid (by rw [hX]; exact (HK.out.on HB.out).alloc _)
  have HX0 : Hid (Below w.heap.size w X) := Lib.hid (by rw [hX]; exact bAlloc (HT.out _ HB.out) _)
  have hzl : w.heap.size < wy.heap.size := (HK.out.on HB.out).lt
  rw [← hX]
  obtain ⟨g, hg⟩ : ∃ g, wy.heap.size = g := ⟨_, rfl⟩
  rw [hg] at HC0 hzl ⊢
  have hgX : g < X.heap.size := HC0.out.lt
  clear hX HB HK HT hg
  go_wp2_with fail
  go_loopw [26] (fun v wr => ∃ k : Nat, k ≤ n1 ∧ v = .int .i64 k ∧ ∃ A n c, Hid (Blk wr g 51 #[.slice A n c, .slice none 0 0, .slice none 0 0]) ∧ Hid (OwnL wr X.heap.size 23 4 (.slice A n c) Key4.cells (goneL (was.take k) now)) ∧ Hid (Blk wr w.heap.size 51 #[.slice none 0 0, .slice none 0 0, .slice none 0 0]) ∧ Hid (Below w.heap.size w wr) ∧ X.heap.size ≤ wr.heap.size) (fun v _ => n1 - (intOf v).toNat)
  case atStart => exact ⟨0, Nat.zero_le _, rfl, none, 0, 0, HC0, Lib.hid OwnL.nil, HZ0, HX0, Nat.le_refl _⟩
  case round =>
    clear HC0 HZ0 HX0
    obtain ⟨k, hk, rfl, A, n, c, HC, HO, HZ, HB, hxr⟩ := hrel
    by_cases hlt : k < n1
    · have hkL : k < was.length := by rw [HN1.out]; exact hlt
      obtain ⟨b, off, rfl, hbl', x0, x1, x2, x3, x4, x5, x6, x7, x8⟩ := (HR1.out.below HB.out (Nat.le_refl _)).ev hkL
      have hblw := Nat.lt_of_lt_of_le hbl' HB.out.size
      have HST := Lib.hid (HGS.out k hkL)
      have hgl := HGL.out k
      obtain ⟨x, hx⟩ : ∃ x, was[k] = x := ⟨_, rfl⟩
      rw [hx] at x0 x1 x2 x3 x4 x5 x6 x7 x8 HST
      obtain ⟨M, hM⟩ : ∃ M, goneL (was.take k) now = M := ⟨_, rfl⟩
      rw [hM] at HO HST hgl
      clear hx hM
      go_upto_region 7 with fail
      obtain ⟨w2, hw2⟩ : ∃ w2, w2 = wr.alloc (.cells #[.int .i64 x.frame, .int .i64 x.emitter, .int .i64 x.kind, .int .i64 x.ord, .int .i64 x.asset, .int .i64 x.gain, .int .i64 x.pan, .int .i64 x.prio, .int .i64 x.len] 25) := ⟨_, rfl⟩
      have HE : Hid (Blk w2 wr.heap.size 25 #[.int .i64 x.frame, .int .i64 x.emitter, .int .i64 x.kind, .int .i64 x.ord, .int .i64 x.asset, .int .i64 x.gain, .int .i64 x.pan, .int .i64 x.prio, .int .i64 x.len]) := Lib.hid (by rw [hw2]; exact Blk.new _ _ _)
      have HC2 : Hid (Blk w2 g 51 #[.slice A n c, .slice none 0 0, .slice none 0 0]) := Lib.hid (by rw [hw2]; exact HC.out.alloc _)
      have HO2 : Hid (OwnL w2 X.heap.size 23 4 (.slice A n c) Key4.cells M) := Lib.hid (by rw [hw2]; exact HO.out.alloc _)
      have HZ2 : Hid (Blk w2 w.heap.size 51 #[.slice none 0 0, .slice none 0 0, .slice none 0 0]) := Lib.hid (by rw [hw2]; exact HZ.out.alloc _)
      have HB2 : Hid (Below w.heap.size w w2) := Lib.hid (by rw [hw2]; exact bAlloc HB.out _)
      have hxr2 : X.heap.size ≤ w2.heap.size := by rw [hw2]; simp; omega
      rw [← hw2]
      clear hw2 HC HO HZ HB x0 x1 x2 x3 x4 x5 x6 x7 x8
      obtain ⟨e0, e1, e2, e3, e4, e5, e6, e7, e8⟩ := Blk.ev HE.out
      have el := HE.out.lt
      have HFI := Lib.hid (HF2.out x.key w2 HB2.out)
      unfold Key4.val at HFI
      obtain ⟨y, hy⟩ : ∃ y, findE now x.key = y := ⟨_, rfl⟩
      rw [hy] at HFI
      unfold Ev.val at HFI
      cases hf : foundK now x.key
      · rw [hf] at HFI HST
        rw [if_neg (by decide)] at HST
        clear hy hf
        go_upto_region 8 with (first | (go_at_call 52; refine HFI.out.mono ?_; rintro e w3 ⟨rfl, hb3⟩; have HB3 := Lib.hid (bTrans HB2.out hb3); have HE3 := Lib.hid (HE.out.on hb3); have HO3 := Lib.hid (HO2.out.below hb3); have HC3 := Lib.hid (HC2.out.on hb3); have HZ3 := Lib.hid (HZ2.out.on hb3); have hz3 := hb3.size; clear hb3))
        clear e0 e1 e2 e3 e4 e5 e6 e7 e8 el HE HO2 HC2 HZ2 HB2 HFI
        obtain ⟨w4, hw4⟩ : ∃ w4, w4 = w3.alloc (.cells #[.int .i64 y.frame, .int .i64 y.emitter, .int .i64 y.kind, .int .i64 y.ord, .int .i64 y.asset, .int .i64 y.gain, .int .i64 y.pan, .int .i64 y.prio, .int .i64 y.len] 25) := ⟨_, rfl⟩
        have HE4 : Hid (Blk w4 wr.heap.size 25 #[.int .i64 x.frame, .int .i64 x.emitter, .int .i64 x.kind, .int .i64 x.ord, .int .i64 x.asset, .int .i64 x.gain, .int .i64 x.pan, .int .i64 x.prio, .int .i64 x.len]) := Lib.hid (by rw [hw4]; exact HE3.out.alloc _)
        have HC4 : Hid (Blk w4 g 51 #[.slice A n c, .slice none 0 0, .slice none 0 0]) := Lib.hid (by rw [hw4]; exact HC3.out.alloc _)
        have HO4 : Hid (OwnL w4 X.heap.size 23 4 (.slice A n c) Key4.cells M) := Lib.hid (by rw [hw4]; exact HO3.out.alloc _)
        have HZ4 : Hid (Blk w4 w.heap.size 51 #[.slice none 0 0, .slice none 0 0, .slice none 0 0]) := Lib.hid (by rw [hw4]; exact HZ3.out.alloc _)
        have HB4 : Hid (Below w.heap.size w w4) := Lib.hid (by rw [hw4]; exact bAlloc HB3.out _)
        have hxr4 : X.heap.size ≤ w4.heap.size := by rw [hw4]; simp; omega
        rw [← hw4]
        clear hw4 HE3 HC3 HO3 HZ3 HB3 hz3 hxr2
        obtain ⟨e0, e1, e2, e3, -⟩ := Blk.ev HE4.out
        obtain ⟨q1, q2, q3⟩ := Blk.three HC4.out
        have el := HE4.out.lt
        have ql := HC4.out.lt
        have hne := HC4.out.apart HO4.out (by decide)
        have hnz := HZ4.out.apart HO4.out (by decide)
        have HNE := Lib.hid hne
        have HNZ := Lib.hid hnz
        have hgw4 := HB4.out.size
        clear hne hnz
        go_wp2_with (first | (at_builtin; refine wpList_app_key rfl (.tmp 40) (.tmp 43) rfl X.heap.size _ M [x.key] (HO4.out.alloc _) rfl _ _ 1 1 rfl rfl (rd_key1 _ x.key) (by simp only [List.length_cons, List.length_nil]; omega) (by simp; omega) ?_; intro A6 c6 n6 w6 ho6 hg6; have HC6 : Hid (Blk w6 g 51 #[.slice A n c, .slice none 0 0, .slice none 0 0]) := Lib.hid ((HC4.out.alloc _).grown hg6 HNE.out); have ⟨p1, p2, p3⟩ := Blk.three HC6.out; have pf := HC6.out.frozen 0; have pl := HC6.out.lt))
        have HO6 : Hid (OwnL w6 X.heap.size 23 4 (.slice A6 n6 c6) Key4.cells (goneL (was.take (k + 1)) now)) := Lib.hid (by rw [HST.out]; exact ho6)
        have HZ6 : Hid (Blk w6 w.heap.size 51 #[.slice none 0 0, .slice none 0 0, .slice none 0 0]) := Lib.hid ((HZ4.out.alloc _).grown hg6 HNZ.out)
        have HB6 : Hid (Below w.heap.size w w6) := Lib.hid (Below.grown (bAlloc HB4.out _) hg6 (by simp; omega) (fun g h => by have := HO4.out.base_le g h; omega))
        have hxr6 : X.heap.size ≤ w6.heap.size := by have := hg6.size; simp at this; omega
        clear ho6 hg6
        go_roundw
        case rel =>
          refine ⟨k + 1, by omega, by go_num, A6, n6, c6, Lib.hid (HC6.out.set 0 _), Lib.hid (HO6.out.farG ?_ _ _), Lib.hid (HZ6.out.farG (by omega) _ _), Lib.hid (bSetG HB6.out (by omega) _ _), by simp; omega⟩
          exact HC6.out.apart HO6.out (by decide)
        case measure => simp [intOf]; omega
      · rw [hf] at HFI HST
        rw [if_pos rfl, List.append_nil] at HST
        clear hy hf
        go_upto_region 8 with (first | (go_at_call 52; refine HFI.out.mono ?_; rintro e w3 ⟨rfl, hb3⟩; have HB3 := Lib.hid (bTrans HB2.out hb3); have HO3 := Lib.hid (HO2.out.below hb3); have HC3 := Lib.hid (HC2.out.on hb3); have HZ3 := Lib.hid (HZ2.out.on hb3); have hz3 := hb3.size; clear hb3))
        clear e0 e1 e2 e3 e4 e5 e6 e7 e8 el HE HO2 HC2 HZ2 HB2 HFI
        go_wp2
        go_roundw
        case rel => exact ⟨k + 1, by omega, by go_num, A, n, c, Lib.hid (HC3.out.alloc _), Lib.hid (by rw [HST.out]; exact HO3.out.alloc _), Lib.hid (HZ3.out.alloc _), Lib.hid (bAlloc HB3.out _), by simp; omega⟩
        case measure => simp [intOf]; omega
    · obtain rfl : n1 = k := by omega
      rw [List.take_of_length_le (by rw [HN1.out]; exact Nat.le_refl _)] at HO
      have hgl := HGL.out n1
      obtain ⟨G, hG⟩ : ∃ G, goneL was now = G := ⟨_, rfl⟩
      rw [hG] at HO
      have HG := Lib.hid hG
      clear hG
      go_wp2_with fail
      go_loopw [49] (fun v wr => ∃ k : Nat, k ≤ n2 ∧ v = .int .i64 k ∧ ∃ Af nf cf At nt ct, Hid (Blk wr g 51 #[.slice A n c, .slice Af nf cf, .slice At nt ct]) ∧ Hid (OwnL wr X.heap.size 23 4 (.slice A n c) Key4.cells G) ∧ Hid (OwnL wr X.heap.size 25 9 (.slice Af nf cf) Ev.cells (freshL was (now.take k))) ∧ Hid (OwnL wr X.heap.size 25 9 (.slice At nt ct) Ev.cells (turnedL was (now.take k))) ∧ Hid (∀ q, (Value.slice Af nf cf).ownBlock = some q → (Value.slice At nt ct).ownBlock ≠ some q) ∧ Hid (Blk wr w.heap.size 51 #[.slice none 0 0, .slice none 0 0, .slice none 0 0]) ∧ Hid (Below w.heap.size w wr) ∧ X.heap.size ≤ wr.heap.size) (fun v _ => n2 - (intOf v).toNat)
      case atStart => exact ⟨0, Nat.zero_le _, rfl, none, 0, 0, none, 0, 0, HC, HO, Lib.hid OwnL.nil, Lib.hid OwnL.nil, Lib.hid (fun q h => by simp [Value.ownBlock] at h), HZ, HB, hxr⟩
      case round =>
        clear HC HO HZ HB hxr hgl
        obtain ⟨k, hk, rfl, Af, nf, cf, At, nt, ct, HC, HO, HF, HTT, HU, HZ, HB, hxr⟩ := hrel
        by_cases hlt : k < n2
        · have hkL : k < now.length := by rw [HN2.out]; exact hlt
          obtain ⟨b, off, rfl, hbl', x0, x1, x2, x3, x4, x5, x6, x7, x8⟩ := (HR2.out.below HB.out (Nat.le_refl _)).ev hkL
          have hblw := Nat.lt_of_lt_of_le hbl' HB.out.size
          have HSF := Lib.hid (HFS.out k hkL)
          have HSTT := Lib.hid (HTS.out k hkL)
          have hfl := HFL.out k
          have htl := HTL.out k
          obtain ⟨x, hx⟩ : ∃ x, now[k] = x := ⟨_, rfl⟩
          rw [hx] at x0 x1 x2 x3 x4 x5 x6 x7 x8 HSF HSTT
          obtain ⟨F, hF⟩ : ∃ F, freshL was (now.take k) = F := ⟨_, rfl⟩
          obtain ⟨T, hT⟩ : ∃ T, turnedL was (now.take k) = T := ⟨_, rfl⟩
          rw [hF] at HF HSF hfl
          rw [hT] at HTT HSTT htl
          clear hx hF hT
          go_upto_region 14 with fail
          obtain ⟨w2, hw2⟩ : ∃ w2, w2 = wr.alloc (.cells #[.int .i64 x.frame, .int .i64 x.emitter, .int .i64 x.kind, .int .i64 x.ord, .int .i64 x.asset, .int .i64 x.gain, .int .i64 x.pan, .int .i64 x.prio, .int .i64 x.len] 25) := ⟨_, rfl⟩
          have HE : Hid (Blk w2 wr.heap.size 25 #[.int .i64 x.frame, .int .i64 x.emitter, .int .i64 x.kind, .int .i64 x.ord, .int .i64 x.asset, .int .i64 x.gain, .int .i64 x.pan, .int .i64 x.prio, .int .i64 x.len]) := Lib.hid (by rw [hw2]; exact Blk.new _ _ _)
          have HALL : Hid (∀ o, Blk (wr.alloc o) g 51 #[.slice A n c, .slice Af nf cf, .slice At nt ct] ∧ OwnL (wr.alloc o) X.heap.size 23 4 (.slice A n c) Key4.cells G ∧ OwnL (wr.alloc o) X.heap.size 25 9 (.slice Af nf cf) Ev.cells F ∧ OwnL (wr.alloc o) X.heap.size 25 9 (.slice At nt ct) Ev.cells T ∧ Blk (wr.alloc o) w.heap.size 51 #[.slice none 0 0, .slice none 0 0, .slice none 0 0] ∧ Below w.heap.size w (wr.alloc o)) :=
            Lib.hid (fun o => ⟨HC.out.alloc o, HO.out.alloc o, HF.out.alloc o, HTT.out.alloc o, HZ.out.alloc o, bAlloc HB.out o⟩)
          have hall := HALL.out (.cells #[.int .i64 x.frame, .int .i64 x.emitter, .int .i64 x.kind, .int .i64 x.ord, .int .i64 x.asset, .int .i64 x.gain, .int .i64 x.pan, .int .i64 x.prio, .int .i64 x.len] 25)
          rw [← hw2] at hall
          obtain ⟨hc2, ho2, hf2, ht2, hz2, hb2⟩ := hall
          have HC2 := Lib.hid hc2
          have HO2 := Lib.hid ho2
          have HF2' := Lib.hid hf2
          have HT2 := Lib.hid ht2
          have HZ2 := Lib.hid hz2
          have HB2 := Lib.hid hb2
          have hxr2 : X.heap.size ≤ w2.heap.size := by rw [hw2]; simp; omega
          have HFAR : Hid (∀ q, (Value.slice Af nf cf).ownBlock = some q ∨ (Value.slice At nt ct).ownBlock = some q → q < wr.heap.size) := Lib.hid (fun q h => h.elim (HF.out.block_lt q) (HTT.out.block_lt q))
          rw [← hw2]
          clear hw2 HC HO HF HTT HZ HB HALL hc2 ho2 hf2 ht2 hz2 hb2 x0 x1 x2 x3 x4 x5 x6 x7 x8
          obtain ⟨e0, e1, e2, e3, e4, e5, e6, e7, e8⟩ := Blk.ev HE.out
          have el := HE.out.lt
          have HFI := Lib.hid (HF1.out x.key w2 HB2.out)
          unfold Key4.val at HFI
          obtain ⟨y, hy⟩ : ∃ y, findE was x.key = y := ⟨_, rfl⟩
          rw [hy] at HFI HSTT
          unfold Ev.val at HFI
          obtain ⟨f, hf⟩ : ∃ f, foundK was x.key = f := ⟨_, rfl⟩
          rw [hf] at HFI HSF HSTT
          clear hy hf
          go_upto_region 15 with (first | (go_at_call 52; refine HFI.out.mono ?_; rintro e w3 ⟨rfl, hb3⟩; have HB3 := Lib.hid (bTrans HB2.out hb3); have HE3 := Lib.hid (HE.out.on hb3); have HO3 := Lib.hid (HO2.out.below hb3); have HF3 := Lib.hid (HF2'.out.below hb3); have HT3 := Lib.hid (HT2.out.below hb3); have HC3 := Lib.hid (HC2.out.on hb3); have HZ3 := Lib.hid (HZ2.out.on hb3); have hz3 := hb3.size; clear hb3))
          clear e0 e1 e2 e3 e4 e5 e6 e7 e8 el HE HO2 HC2 HZ2 HB2 HF2' HT2 HFI
          obtain ⟨w4, hw4⟩ : ∃ w4, w4 = w3.alloc (.cells #[.int .i64 y.frame, .int .i64 y.emitter, .int .i64 y.kind, .int .i64 y.ord, .int .i64 y.asset, .int .i64 y.gain, .int .i64 y.pan, .int .i64 y.prio, .int .i64 y.len] 25) := ⟨_, rfl⟩
          have HY4 : Hid (Blk w4 w3.heap.size 25 #[.int .i64 y.frame, .int .i64 y.emitter, .int .i64 y.kind, .int .i64 y.ord, .int .i64 y.asset, .int .i64 y.gain, .int .i64 y.pan, .int .i64 y.prio, .int .i64 y.len]) := Lib.hid (by rw [hw4]; exact Blk.new _ _ _)
          have HE4 : Hid (Blk w4 wr.heap.size 25 #[.int .i64 x.frame, .int .i64 x.emitter, .int .i64 x.kind, .int .i64 x.ord, .int .i64 x.asset, .int .i64 x.gain, .int .i64 x.pan, .int .i64 x.prio, .int .i64 x.len]) := Lib.hid (by rw [hw4]; exact HE3.out.alloc _)
          have HC4 : Hid (Blk w4 g 51 #[.slice A n c, .slice Af nf cf, .slice At nt ct]) := Lib.hid (by rw [hw4]; exact HC3.out.alloc _)
          have HO4 : Hid (OwnL w4 X.heap.size 23 4 (.slice A n c) Key4.cells G) := Lib.hid (by rw [hw4]; exact HO3.out.alloc _)
          have HF4 : Hid (OwnL w4 X.heap.size 25 9 (.slice Af nf cf) Ev.cells F) := Lib.hid (by rw [hw4]; exact HF3.out.alloc _)
          have HT4 : Hid (OwnL w4 X.heap.size 25 9 (.slice At nt ct) Ev.cells T) := Lib.hid (by rw [hw4]; exact HT3.out.alloc _)
          have HZ4 : Hid (Blk w4 w.heap.size 51 #[.slice none 0 0, .slice none 0 0, .slice none 0 0]) := Lib.hid (by rw [hw4]; exact HZ3.out.alloc _)
          have HB4 : Hid (Below w.heap.size w w4) := Lib.hid (by rw [hw4]; exact bAlloc HB3.out _)
          have hxr4 : X.heap.size ≤ w4.heap.size := by rw [hw4]; simp; omega
          rw [← hw4]
          clear hw4 HE3 HC3 HO3 HF3 HT3 HZ3 HB3 hxr2
          obtain ⟨e0, e1, e2, e3, e4, e5, e6, e7, e8⟩ := Blk.ev HE4.out
          obtain ⟨q1, q2, q3⟩ := Blk.three HC4.out
          have el := HE4.out.lt
          have ql := HC4.out.lt
          have hgw4 := HB4.out.size
          cases f
          · rw [if_neg (by decide)] at HSF HSTT
            rw [List.append_nil] at HSTT
            go_wp2_with (first | (at_builtin; refine wpList_app_evU rfl (.tmp 64) (.tmp 66) rfl X.heap.size _ F [x] (HF4.out.alloc _) rfl _ _ 1 1 rfl rfl (rd_ev1 _ x) (by simp only [List.length_cons, List.length_nil]; omega) (by simp; omega) ?_; intro A6 c6 n6 w6 ho6 hg6 hat; have HC6 : Hid (Blk w6 g 51 #[.slice A n c, .slice Af nf cf, .slice At nt ct]) := Lib.hid ((HC4.out.alloc _).grown hg6 (HC4.out.apart HF4.out (by decide))); have ⟨p1, p2, p3⟩ := Blk.three HC6.out; have pf := HC6.out.frozen 1; have pl := HC6.out.lt))
            have HF6 : Hid (OwnL w6 X.heap.size 25 9 (.slice A6 n6 c6) Ev.cells (freshL was (now.take (k + 1)))) := Lib.hid (by rw [HSF.out]; exact ho6)
            have HZ6 : Hid (Blk w6 w.heap.size 51 #[.slice none 0 0, .slice none 0 0, .slice none 0 0]) := Lib.hid ((HZ4.out.alloc _).grown hg6 (HZ4.out.apart HF4.out (by decide)))
            have HO6 : Hid (OwnL w6 X.heap.size 23 4 (.slice A n c) Key4.cells G) := Lib.hid ((HO4.out.alloc _).kept hg6 (by
              cases hv : (Value.slice A n c).ownBlock with
              | none => exact .inl rfl
              | some q => exact .inr (fun e => (HF4.out.apart HO4.out (by decide) hv) e.symm)))
            have HT6 : Hid (OwnL w6 X.heap.size 25 9 (.slice At nt ct) Ev.cells (turnedL was (now.take (k + 1)))) := Lib.hid (by
              rw [HSTT.out]
              refine (HT4.out.alloc _).kept hg6 ?_
              cases hv : (Value.slice At nt ct).ownBlock with
              | none => exact .inl rfl
              | some q => exact .inr (fun e => HU.out q e.symm hv))
            have HU6 : Hid (∀ q, (Value.slice A6 n6 c6).ownBlock = some q → (Value.slice At nt ct).ownBlock ≠ some q) := Lib.hid (fun q hq hq' => by
              rcases hat with h | h
              · exact HU.out q (by rw [← h]; exact hq) hq'
              · rw [h] at hq
                have := HFAR.out q (.inr hq')
                simp at hq
                omega)
            have HB6 : Hid (Below w.heap.size w w6) := Lib.hid (Below.grown (bAlloc HB4.out _) hg6 (by simp; omega) (fun g h => by have := HF4.out.base_le g h; omega))
            have hxr6 : X.heap.size ≤ w6.heap.size := by have := hg6.size; simp at this; omega
            clear ho6 hg6 hat
            go_roundw
            case rel =>
              exact ⟨k + 1, by omega, by go_num, A6, n6, c6, At, nt, ct, Lib.hid (HC6.out.set 1 _), Lib.hid (HO6.out.farG (HC6.out.apart HO6.out (by decide)) _ _), Lib.hid (HF6.out.farG (HC6.out.apart HF6.out (by decide)) _ _), Lib.hid (HT6.out.farG (HC6.out.apart HT6.out (by decide)) _ _), HU6, Lib.hid (HZ6.out.farG (by omega) _ _), Lib.hid (bSetG HB6.out (by omega) _ _), by simp; omega⟩
            case measure => simp [intOf]; omega
          · rw [if_pos rfl] at HSF HSTT
            rw [List.append_nil] at HSF
            obtain ⟨y0, y1, y2, y3, y4, y5, y6, y7, y8⟩ := Blk.ev HY4.out
            have yl := HY4.out.lt
            by_cases hyx : y = x
            · rw [if_pos hyx, List.append_nil] at HSTT
              have HDX : Hid ((!decide (y = x)) = false) := Lib.hid (by rw [decide_eq_true hyx]; rfl)
              clear hyx
              go_wp2_with (first | (refine wpList_runs (.bool false) rfl (by rw [← HDX.out]; exact runs_neq rfl rfl rfl (by kernel_rfl) (ev_neq y x) _) ?_))
              go_roundw
              case rel => exact ⟨k + 1, by omega, by go_num, Af, nf, cf, At, nt, ct, HC4, HO4, Lib.hid (by rw [HSF.out]; exact HF4.out), Lib.hid (by rw [HSTT.out]; exact HT4.out), HU, HZ4, HB4, hxr4⟩
              case measure => simp [intOf]; omega
            · rw [if_neg hyx] at HSTT
              have HDX : Hid ((!decide (y = x)) = true) := Lib.hid (by rw [decide_eq_false hyx]; rfl)
              clear hyx
              go_wp2_with (first | (refine wpList_runs (.bool true) rfl (by rw [← HDX.out]; exact runs_neq rfl rfl rfl (by kernel_rfl) (ev_neq y x) _) ?_) | (at_builtin; refine wpList_app_evU rfl (.tmp 74) (.tmp 76) rfl X.heap.size _ T [x] (HT4.out.alloc _) rfl _ _ 1 1 rfl rfl (rd_ev1 _ x) (by simp only [List.length_cons, List.length_nil]; omega) (by simp; omega) ?_; intro A6 c6 n6 w6 ho6 hg6 hat; have HC6 : Hid (Blk w6 g 51 #[.slice A n c, .slice Af nf cf, .slice At nt ct]) := Lib.hid ((HC4.out.alloc _).grown hg6 (HC4.out.apart HT4.out (by decide))); have ⟨p1, p2, p3⟩ := Blk.three HC6.out; have pf := HC6.out.frozen 2; have pl := HC6.out.lt))
              have HT6 : Hid (OwnL w6 X.heap.size 25 9 (.slice A6 n6 c6) Ev.cells (turnedL was (now.take (k + 1)))) := Lib.hid (by rw [HSTT.out]; exact ho6)
              have HZ6 : Hid (Blk w6 w.heap.size 51 #[.slice none 0 0, .slice none 0 0, .slice none 0 0]) := Lib.hid ((HZ4.out.alloc _).grown hg6 (HZ4.out.apart HT4.out (by decide)))
              have HO6 : Hid (OwnL w6 X.heap.size 23 4 (.slice A n c) Key4.cells G) := Lib.hid ((HO4.out.alloc _).kept hg6 (by
                cases hv : (Value.slice A n c).ownBlock with
                | none => exact .inl rfl
                | some q => exact .inr (fun e => (HT4.out.apart HO4.out (by decide) hv) e.symm)))
              have HF6 : Hid (OwnL w6 X.heap.size 25 9 (.slice Af nf cf) Ev.cells (freshL was (now.take (k + 1)))) := Lib.hid (by
                rw [HSF.out]
                refine (HF4.out.alloc _).kept hg6 ?_
                cases hv : (Value.slice Af nf cf).ownBlock with
                | none => exact .inl rfl
                | some q => exact .inr (fun e => HU.out q hv e.symm))
              have HU6 : Hid (∀ q, (Value.slice Af nf cf).ownBlock = some q → (Value.slice A6 n6 c6).ownBlock ≠ some q) := Lib.hid (fun q hq hq' => by
                rcases hat with h | h
                · exact HU.out q hq (by rw [← h]; exact hq')
                · rw [h] at hq'
                  have := HFAR.out q (.inl hq)
                  simp at hq'
                  omega)
              have HB6 : Hid (Below w.heap.size w w6) := Lib.hid (Below.grown (bAlloc HB4.out _) hg6 (by simp; omega) (fun g h => by have := HT4.out.base_le g h; omega))
              have hxr6 : X.heap.size ≤ w6.heap.size := by have := hg6.size; simp at this; omega
              clear ho6 hg6 hat
              go_roundw
              case rel =>
                exact ⟨k + 1, by omega, by go_num, Af, nf, cf, A6, n6, c6, Lib.hid (HC6.out.set 2 _), Lib.hid (HO6.out.farG (HC6.out.apart HO6.out (by decide)) _ _), Lib.hid (HF6.out.farG (HC6.out.apart HF6.out (by decide)) _ _), Lib.hid (HT6.out.farG (HC6.out.apart HT6.out (by decide)) _ _), HU6, Lib.hid (HZ6.out.farG (by omega) _ _), Lib.hid (bSetG HB6.out (by omega) _ _), by simp; omega⟩
              case measure => simp [intOf]; omega
        · obtain rfl : n2 = k := by omega
          rw [List.take_of_length_le (by rw [HN2.out]; exact Nat.le_refl _)] at HF HTT
          obtain ⟨q1, q2, q3⟩ := Blk.three HC.out
          have ql := HC.out.lt
          obtain ⟨z1, z2, z3⟩ := Blk.three HZ.out
          have zl := HZ.out.lt
          have f0 := HZ.out.frozen 0
          have f1 := HZ.out.frozen 1
          have f2 := HZ.out.frozen 2
          have hfin : Blk (((wr.setCell ⟨w.heap.size, 0, none⟩ (.slice A n c)).setCell ⟨w.heap.size, 1, none⟩ (.slice Af nf cf)).setCell ⟨w.heap.size, 2, none⟩ (.slice At nt ct)) w.heap.size 51 #[.slice A n c, .slice Af nf cf, .slice At nt ct] := ((HZ.out.set 0 _).set 1 _).set 2 _
          have HFIN := Lib.hid (Blk.three hfin)
          have hne1 := HZ.out.apart HO.out (by decide)
          have hne2 := HZ.out.apart HF.out (by decide)
          have hne3 := HZ.out.apart HTT.out (by decide)
          have HQ1 := Lib.hid (((HO.out.farG hne1 0 (.slice A n c)).farG hne1 1 (.slice Af nf cf)).farG hne1 2 (.slice At nt ct))
          have HQ2 := Lib.hid (((HF.out.farG hne2 0 (.slice A n c)).farG hne2 1 (.slice Af nf cf)).farG hne2 2 (.slice At nt ct))
          have HQ3 := Lib.hid (((HTT.out.farG hne3 0 (.slice A n c)).farG hne3 1 (.slice Af nf cf)).farG hne3 2 (.slice At nt ct))
          have hwx : w.heap.size ≤ X.heap.size := by omega
          clear hfin hne1 hne2 hne3
          go_wp2
          obtain ⟨y1, y2, y3⟩ := HFIN.out
          refine bodyPost_ret (v := .tuple #[.agg #[.slice A n c, .slice Af nf cf, .slice At nt ct], .int .i64 0]) ?_ rfl ⟨A, n, c, Af, nf, cf, At, nt, ct, rfl, by rw [HG.out]; exact HQ1.out.more hwx, HQ2.out.more hwx, HQ3.out.more hwx, ?_⟩
          · simp [results, Try.results27, go_sem, y1, y2, y3]
          · exact bSetG (bSetG (bSetG HB.out (Nat.le_refl _) _ _) (Nat.le_refl _) _ _) (Nat.le_refl _) _ _
end Go.Proofs.Ytdjfpdndaobohaa
