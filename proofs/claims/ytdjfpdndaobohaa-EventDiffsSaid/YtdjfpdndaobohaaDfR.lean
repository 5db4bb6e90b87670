/-
  The document's Diff, and Keys.
-/
import Derived.Test.YtdjfpdndaobohaaDfA
import Derived.Test.YtdjfpdndaobohaaApQ
namespace Go.Proofs.Ytdjfpdndaobohaa
open Go.RowKit
set_option maxRecDepth 100000
set_option linter.unusedSimpArgs false
theorem OwnL.setFar {α : Type} {w : World} {base : Nat} {E : TypeId} {m : Nat} {v : Value} {f : α → List Value} {l : List α} (h : OwnL w base E m v f l) {row : Option Nat} {w' : World} (hg : w.grownBy w' row) (hn : ∀ q, v.ownBlock = some q → row ≠ some q) : OwnL w' base E m v f l :=
  h.kept hg (by
    cases hv : v.ownBlock with
    | none => exact .inl rfl
    | some q => exact .inr (fun e => hn q hv e.symm))
set_option maxHeartbeats 16000000 in
theorem rdiff_any (A1 A2 : Option Addr) (c1 c2 : Nat) (was now : List Ev) (w : World) (h1 : was.length ≤ 100) (h2 : now.length ≤ 100) (r1 : Rd w w.heap.size A1 (was.flatMap Ev.cells)) (r2 : Rd w w.heap.size A2 (now.flatMap Ev.cells)) (o1 : orderedB was = true) (o2 : orderedB now = true) :
    Calls Try.prog 28 #[.slice A1 was.length c1, .slice A2 now.length c2] w fun e w' => ∃ Ag ng cg Af nf cf At nt ct, e = .returned (.tuple #[.slice Ag ng cg, .slice Af nf cf, .slice At nt ct]) ∧
      OwnL w' w.heap.size 23 4 (.slice Ag ng cg) Key4.cells (goneL was now) ∧ OwnL w' w.heap.size 25 9 (.slice Af nf cf) Ev.cells (freshL was now) ∧ OwnL w' w.heap.size 25 9 (.slice At nt ct) Ev.cells (turnedL was now) ∧ Below w.heap.size w w' := by
  have s1 := ordered_sorted o1
  have s2 := ordered_sorted o2
  have HS1 := Lib.hid s1
  have HS2 := Lib.hid s2
  have HF1 := Lib.hid (fun key V (hV : Below w.heap.size w V) => rat_any A1 c1 was key V (by omega) ((r1.below hV (Nat.le_refl _)).more hV.size))
  have HF2 := Lib.hid (fun key V (hV : Below w.heap.size w V) => rat_any A2 c2 now key V (by omega) ((r2.below hV (Nat.le_refl _)).more hV.size))
  have HR1 := Lib.hid r1
  have HR2 := Lib.hid r2
  have HGS := Lib.hid (fun k hk => goneL_snoc was now k hk)
  have HFS := Lib.hid (fun k hk => freshL_snoc was now k hk)
  have HTS := Lib.hid (fun k hk => turnedL_snoc was now k hk)
  have HGL : Hid (∀ k, (goneL (was.take k) now).length ≤ 100) := Lib.hid (fun k => by unfold goneL; rw [List.length_map]; have := flt_len (fun e => !foundK now e.key) was k; omega)
  have HFL : Hid (∀ k, (freshL was (now.take k)).length ≤ 100) := Lib.hid (fun k => by unfold freshL; have := flt_len (fun e => !foundK was e.key) now k; omega)
  have HTL : Hid (∀ k, (turnedL was (now.take k)).length ≤ 100) := Lib.hid (fun k => by unfold turnedL; have := flt_len (fun e => foundK was e.key && !decide (findE was e.key = e)) now k; omega)
  obtain ⟨n1, hn1⟩ : ∃ n, was.length = n := ⟨_, rfl⟩
  obtain ⟨n2, hn2⟩ : ∃ n, now.length = n := ⟨_, rfl⟩
  have HN1 := Lib.hid hn1
  have HN2 := Lib.hid hn2
  rw [hn1] at HF1 h1
  rw [hn2] at HF2 h2
  rw [hn1, hn2]
  clear hn1 hn2 r1 r2 o1 o2 s1 s2
  go_enter Try.func28, Try.ntmps28
  go_upto_region 4 with fail
  obtain ⟨X, hX⟩ : ∃ X, X = ((w.alloc (.cells #[] 23)).alloc (.cells #[] 25)).alloc (.cells #[] 25) := ⟨_, rfl⟩
  have HG0 : Hid (OwnL X w.heap.size 23 4 (.slice (some ⟨w.heap.size, 0, none⟩) 0 0) Key4.cells (goneL (was.take 0) now)) := Lib.hid (by
    rw [hX]
    exact ((OwnL.lit (f := Key4.cells) [] #[] (Nat.le_refl _) (by simp) Key4.cells_length rfl rfl rfl).alloc _).alloc _)
  have HF0 : Hid (OwnL X w.heap.size 25 9 (.slice (some ⟨w.heap.size + 1, 0, none⟩) 0 0) Ev.cells (freshL was (now.take 0))) := Lib.hid (by
    rw [hX]
    have := (OwnL.lit (w := w.alloc (.cells #[] 23)) (base := w.heap.size) (E := 25) (f := Ev.cells) [] #[] (by simp) (by simp) Ev.cells_length rfl (n := 0) (c := 0) rfl rfl).alloc (.cells #[] 25)
    simpa [freshL] using this)
  have HT0 : Hid (OwnL X w.heap.size 25 9 (.slice (some ⟨w.heap.size + 1 + 1, 0, none⟩) 0 0) Ev.cells (turnedL was (now.take 0))) := Lib.hid (by
    rw [hX]
    have := (OwnL.lit (w := (w.alloc (.cells #[] 23)).alloc (.cells #[] 25)) (base := w.heap.size) (E := 25) (f := Ev.cells) [] #[] (by simp; omega) (by simp) Ev.cells_length rfl (n := 0) (c := 0) rfl rfl)
    simpa [turnedL] using this)
  have HX0 : Hid (Below w.heap.size w X) := Lib.hid (by rw [hX]; exact bAlloc (bAlloc (bAlloc (Below.refl _ _) _) _) _)
  rw [← hX]
  clear hX
  go_wp2_with fail
  go_loopw [7, 10] (fun u v wr => ∃ k : Nat, k ≤ n1 ∧ v = .int .i64 k ∧ ∃ A n c, u = .slice A n c ∧ Hid (OwnL wr w.heap.size 23 4 (.slice A n c) Key4.cells (goneL (was.take k) now)) ∧ Hid (OwnL wr w.heap.size 25 9 (.slice (some ⟨w.heap.size + 1, 0, none⟩) 0 0) Ev.cells (freshL was (now.take 0))) ∧ Hid (OwnL wr w.heap.size 25 9 (.slice (some ⟨w.heap.size + 1 + 1, 0, none⟩) 0 0) Ev.cells (turnedL was (now.take 0))) ∧ Hid (Below w.heap.size w wr)) (fun _ v _ => n1 - (intOf v).toNat)
  case atStart => exact ⟨0, Nat.zero_le _, rfl, _, _, _, rfl, HG0, HF0, HT0, HX0⟩
  case round =>
    clear HG0 HF0 HT0 HX0
    obtain ⟨k, hk, rfl, A, n, c, rfl, HO, HF, HT, HB⟩ := hrel
    by_cases hlt : k < n1
    · have hkL : k < was.length := by rw [HN1.out]; exact hlt
      obtain ⟨b, off, rfl, hbl', x0, x1, x2, x3, -⟩ := (HR1.out.below HB.out (Nat.le_refl _)).ev hkL
      have hblw := Nat.lt_of_lt_of_le hbl' HB.out.size
      have HST := Lib.hid (HGS.out k hkL)
      have hgl := HGL.out k
      obtain ⟨x, hx⟩ : ∃ x, was[k] = x := ⟨_, rfl⟩
      have HX := Lib.hid hx
      rw [hx] at x0 x1 x2 x3 HST
      obtain ⟨M, hM⟩ : ∃ M, goneL (was.take k) now = M := ⟨_, rfl⟩
      rw [hM] at HO HST hgl
      have HFI := Lib.hid (HF2.out x.key wr HB.out)
      unfold Key4.val at HFI
      clear hx hM
      cases hf : foundK now x.key
      · have hneg := atI_neg HS2.out hf
        rw [hneg] at HFI
        rw [hf, if_neg (by decide)] at HST
        clear hf hneg
        go_upto_region 8 with (first | (go_at_call 54; refine HFI.out.mono ?_; rintro e w3 ⟨rfl, hb3⟩; have HB3 := Lib.hid (bTrans HB.out hb3); have HO3 := Lib.hid (HO.out.below hb3); have HF3 := Lib.hid (HF.out.below hb3); have HT3 := Lib.hid (HT.out.below hb3); clear hb3))
        clear x0 x1 x2 x3 hblw
        obtain ⟨b3, off3, hA3, hbl3, x0, x1, x2, x3, -⟩ := (HR1.out.below HB3.out (Nat.le_refl _)).ev hkL
        simp only [Option.some.injEq, Addr.mk.injEq, and_true] at hA3
        obtain ⟨rfl, rfl⟩ := hA3
        have hblw := Nat.lt_of_lt_of_le hbl3 HB3.out.size
        rw [HX.out] at x0 x1 x2 x3
        have hgw := HB3.out.size
        go_wp2_with (first | (at_builtin; refine wpList_app_key rfl (.tmp 30) (.tmp 36) rfl w.heap.size _ M [x.key] (HO3.out.alloc _) rfl _ _ 1 1 rfl rfl (rd_key1 _ x.key) (by simp only [List.length_cons, List.length_nil]; omega) (by simp; omega) ?_; intro A6 c6 n6 w6 ho6 hg6))
        have HO6 : Hid (OwnL w6 w.heap.size 23 4 (.slice A6 n6 c6) Key4.cells (goneL (was.take (k + 1)) now)) := Lib.hid (by rw [HST.out]; exact ho6)
        have HF6 := Lib.hid ((HF3.out.alloc (.cells #[.int .i64 x.key.frame, .int .i64 x.key.emitter, .int .i64 x.key.kind, .int .i64 x.key.ord] 23)).setFar hg6 (fun q hq e => (HO3.out.apart HF3.out (by decide) hq) e))
        have HT6 := Lib.hid ((HT3.out.alloc (.cells #[.int .i64 x.key.frame, .int .i64 x.key.emitter, .int .i64 x.key.kind, .int .i64 x.key.ord] 23)).setFar hg6 (fun q hq e => (HO3.out.apart HT3.out (by decide) hq) e))
        have HB6 : Hid (Below w.heap.size w w6) := Lib.hid (Below.grown (bAlloc HB3.out _) hg6 (by simp; omega) HO3.out.base_le)
        clear ho6 hg6
        go_wp2
        go_roundw
        case rel => exact ⟨k + 1, by omega, by go_num, A6, n6, c6, rfl, HO6, HF6, HT6, HB6⟩
        case measure => simp [intOf]; omega
      · obtain ⟨j, hj, hjz, -⟩ := atI_pos HS2.out hf
        rw [hjz] at HFI
        rw [hf, if_pos rfl, List.append_nil] at HST
        clear hf hj hjz
        go_wp2_with (first | (go_at_call 54; refine HFI.out.mono ?_; rintro e w3 ⟨rfl, hb3⟩))
        go_roundw
        case rel => exact ⟨k + 1, by omega, by go_num, A, n, c, rfl, Lib.hid (by rw [HST.out]; exact HO.out.below hb3), Lib.hid (HF.out.below hb3), Lib.hid (HT.out.below hb3), Lib.hid (bTrans HB.out hb3)⟩
        case measure => simp [intOf]; omega
    · obtain rfl : n1 = k := by omega
      rw [List.take_of_length_le (by rw [HN1.out]; exact Nat.le_refl _)] at HO
      obtain ⟨G, hG⟩ : ∃ G, goneL was now = G := ⟨_, rfl⟩
      rw [hG] at HO
      have HG := Lib.hid hG
      clear hG
      go_wp2_with fail
      go_loopw [8, 9, 11] (fun u1 u2 v wr => ∃ k : Nat, k ≤ n2 ∧ v = .int .i64 k ∧ ∃ Af nf cf At nt ct, u1 = .slice Af nf cf ∧ u2 = .slice At nt ct ∧ Hid (OwnL wr w.heap.size 23 4 (.slice A n c) Key4.cells G) ∧ Hid (OwnL wr w.heap.size 25 9 (.slice Af nf cf) Ev.cells (freshL was (now.take k))) ∧ Hid (OwnL wr w.heap.size 25 9 (.slice At nt ct) Ev.cells (turnedL was (now.take k))) ∧ Hid (∀ q, (Value.slice Af nf cf).ownBlock = some q → (Value.slice At nt ct).ownBlock ≠ some q) ∧ Hid (Below w.heap.size w wr)) (fun _ _ v _ => n2 - (intOf v).toNat)
      case atStart => exact ⟨0, Nat.zero_le _, rfl, _, _, _, _, _, _, rfl, rfl, HO, HF, HT, Lib.hid (fun q h => by simp [Value.ownBlock] at h ⊢; omega), HB⟩
      case round =>
        clear HO HF HT HB
        obtain ⟨k, hk, rfl, Af, nf, cf, At, nt, ct, rfl, rfl, HO, HF, HT, HU, HB⟩ := hrel
        by_cases hlt : k < n2
        · have hkL : k < now.length := by rw [HN2.out]; exact hlt
          obtain ⟨b, off, rfl, hbl', hrg⟩ := (HR2.out.below HB.out (Nat.le_refl _)).evr hkL
          have x0 := hrg 0 _ rfl
          have x1 := hrg 1 _ rfl
          have x2 := hrg 2 _ rfl
          have x3 := hrg 3 _ rfl
          rw [Nat.add_zero] at x0
          have hblw := Nat.lt_of_lt_of_le hbl' HB.out.size
          have HSF := Lib.hid (HFS.out k hkL)
          have HSTT := Lib.hid (HTS.out k hkL)
          have hfl := HFL.out k
          have htl := HTL.out k
          obtain ⟨x, hx⟩ : ∃ x, now[k] = x := ⟨_, rfl⟩
          have HX := Lib.hid hx
          rw [hx] at x0 x1 x2 x3 HSF HSTT
          obtain ⟨F, hF⟩ : ∃ F, freshL was (now.take k) = F := ⟨_, rfl⟩
          obtain ⟨T, hT⟩ : ∃ T, turnedL was (now.take k) = T := ⟨_, rfl⟩
          rw [hF] at HF HSF hfl
          rw [hT] at HT HSTT htl
          have HFI := Lib.hid (HF1.out x.key wr HB.out)
          unfold Key4.val at HFI
          have HFAR : Hid (∀ q, (Value.slice Af nf cf).ownBlock = some q ∨ (Value.slice At nt ct).ownBlock = some q → q < wr.heap.size) := Lib.hid (fun q h => h.elim (HF.out.block_lt q) (HT.out.block_lt q))
          clear hx hF hT hrg
          cases hf : foundK was x.key
          · have hneg := atI_neg HS1.out hf
            rw [hneg] at HFI
            rw [hf, if_neg (by decide)] at HSF HSTT
            rw [List.append_nil] at HSTT
            clear hf hneg
            go_upto_region 13 with (first | (go_at_call 54; refine HFI.out.mono ?_; rintro e w3 ⟨rfl, hb3⟩; have HB3 := Lib.hid (bTrans HB.out hb3); have HO3 := Lib.hid (HO.out.below hb3); have HF3 := Lib.hid (HF.out.below hb3); have HT3 := Lib.hid (HT.out.below hb3); have hz3 := hb3.size; clear hb3))
            clear x0 x1 x2 x3 hblw
            obtain ⟨b3, off3, hA3, hbl3, x0, x1, x2, x3, x4, x5, x6, x7, x8⟩ := (HR2.out.below HB3.out (Nat.le_refl _)).ev hkL
            simp only [Option.some.injEq, Addr.mk.injEq, and_true] at hA3
            obtain ⟨rfl, rfl⟩ := hA3
            have hblw := Nat.lt_of_lt_of_le hbl3 HB3.out.size
            rw [HX.out] at x0 x1 x2 x3 x4 x5 x6 x7 x8
            have hgw := HB3.out.size
            go_wp2_with (first | (at_builtin; refine wpList_app_evU rfl (.tmp 53) (.tmp 58) rfl w.heap.size _ F [x] (HF3.out.alloc _) rfl _ _ 1 1 rfl rfl (rd_ev1 _ x) (by simp only [List.length_cons, List.length_nil]; omega) (by simp; omega) ?_; intro A6 c6 n6 w6 ho6 hg6 hat))
            have HF6 : Hid (OwnL w6 w.heap.size 25 9 (.slice A6 n6 c6) Ev.cells (freshL was (now.take (k + 1)))) := Lib.hid (by rw [HSF.out]; exact ho6)
            have HO6 : Hid (OwnL w6 w.heap.size 23 4 (.slice A n c) Key4.cells G) := Lib.hid ((HO3.out.alloc _).setFar hg6 (fun q hq e => (HF3.out.apart HO3.out (by decide) hq) e))
            have HT6 : Hid (OwnL w6 w.heap.size 25 9 (.slice At nt ct) Ev.cells (turnedL was (now.take (k + 1)))) := Lib.hid (by rw [HSTT.out]; exact (HT3.out.alloc _).setFar hg6 (fun q hq e => HU.out q e hq))
            have HU6 : Hid (∀ q, (Value.slice A6 n6 c6).ownBlock = some q → (Value.slice At nt ct).ownBlock ≠ some q) := Lib.hid (fun q hq hq' => by
              rcases hat with h | h
              · exact HU.out q (by rw [← h]; exact hq) hq'
              · rw [h] at hq
                have := HFAR.out q (.inr hq')
                simp at hq
                omega)
            have HB6 : Hid (Below w.heap.size w w6) := Lib.hid (Below.grown (bAlloc HB3.out _) hg6 (by simp; omega) HF3.out.base_le)
            clear ho6 hg6 hat
            go_wp2
            go_roundw
            case rel => exact ⟨k + 1, by omega, by go_num, A6, n6, c6, At, nt, ct, rfl, rfl, HO6, HF6, HT6, HU6, HB6⟩
            case measure => simp [intOf]; omega
          · obtain ⟨j, hj, hjz, hje⟩ := atI_pos HS1.out hf
            obtain ⟨y, hy⟩ : ∃ y, findE was x.key = y := ⟨_, rfl⟩
            rw [hjz] at HFI
            rw [hy] at hje HSTT
            rw [hf, if_pos rfl] at HSF HSTT
            rw [List.append_nil] at HSF
            have HJE := Lib.hid hje
            have hj1 : j < n1 := by rw [← HN1.out]; exact hj
            clear hf hjz hje hy
            go_upto_region 13 with (first | (go_at_call 54; refine HFI.out.mono ?_; rintro e w3 ⟨rfl, hb3⟩; have HB3 := Lib.hid (bTrans HB.out hb3); have HO3 := Lib.hid (HO.out.below hb3); have HF3 := Lib.hid (HF.out.below hb3); have HT3 := Lib.hid (HT.out.below hb3); have hz3 := hb3.size; clear hb3))
            clear x0 x1 x2 x3 hblw
            obtain ⟨b3, off3, hA3, hbl3, hrx⟩ := (HR2.out.below HB3.out (Nat.le_refl _)).evr hkL
            simp only [Option.some.injEq, Addr.mk.injEq, and_true] at hA3
            obtain ⟨rfl, rfl⟩ := hA3
            have hblw := Nat.lt_of_lt_of_le hbl3 HB3.out.size
            rw [HX.out] at hrx
            obtain ⟨b4, off4, rfl, hbl4, hry⟩ := (HR1.out.below HB3.out (Nat.le_refl _)).evr hj
            have hblw4 := Nat.lt_of_lt_of_le hbl4 HB3.out.size
            rw [HJE.out] at hry
            have HRX := Lib.hid hrx
            have HRY := Lib.hid hry
            have hgw := HB3.out.size
            clear hrx hry
            by_cases hyx : y = x
            · rw [if_pos hyx, List.append_nil] at HSTT
              have HDX : Hid ((!decide (y = x)) = false) := Lib.hid (by rw [decide_eq_true hyx]; rfl)
              clear hyx
              go_wp2_with fail
              refine wp_region_mild (by kernel_rfl) (by kernel_rfl) ?_
              repeat (go_big_quiet_step (fail))
              refine wpQuiet_load_mild rfl 25 (.tmp 62) rfl b4 (off4 + j * 9) rfl y.cells _ hblw4 HRY.out Try.underlying25 rfl (by kernel_rfl) ?_
              simp only [Act.put, List.setIfInBounds_toArray, List.set_cons_zero, List.set_cons_succ]
              repeat (go_big_quiet_step (fail))
              refine wpQuiet_load_mild rfl 25 (.tmp 66) rfl b (off + k * 9) rfl x.cells _ hblw HRX.out Try.underlying25 rfl (by kernel_rfl) ?_
              simp only [Act.put, List.setIfInBounds_toArray, List.set_cons_zero, List.set_cons_succ]
              refine wpQuiet_runs_mild (.bool false) rfl (fun V => by rw [← HDX.out]; exact runs_neq rfl rfl rfl (by kernel_rfl) (ev_neq y x) V) ?_
              simp only [Act.put, List.setIfInBounds_toArray, List.set_cons_zero, List.set_cons_succ]
              refine wpQuiet_nil ?_
              intro w5 hw'
              obtain ⟨⟨wq, k5⟩, hw''⟩ := hw'
              subst hw''
              go_wp2
              go_roundw
              case rel => exact ⟨k + 1, by omega, by go_num, Af, nf, cf, At, nt, ct, rfl, rfl, Lib.hid (HO3.out.below k5), Lib.hid (by rw [HSF.out]; exact HF3.out.below k5), Lib.hid (by rw [HSTT.out]; exact HT3.out.below k5), HU, Lib.hid (bTrans HB3.out k5)⟩
              case measure => simp [intOf]; omega
            · rw [if_neg hyx] at HSTT
              have HDX : Hid ((!decide (y = x)) = true) := Lib.hid (by rw [decide_eq_false hyx]; rfl)
              clear hyx
              go_wp2_with fail
              refine wp_region_mild (by kernel_rfl) (by kernel_rfl) ?_
              repeat (go_big_quiet_step (fail))
              refine wpQuiet_load_mild rfl 25 (.tmp 62) rfl b4 (off4 + j * 9) rfl y.cells _ hblw4 HRY.out Try.underlying25 rfl (by kernel_rfl) ?_
              simp only [Act.put, List.setIfInBounds_toArray, List.set_cons_zero, List.set_cons_succ]
              repeat (go_big_quiet_step (fail))
              refine wpQuiet_load_mild rfl 25 (.tmp 66) rfl b (off + k * 9) rfl x.cells _ hblw HRX.out Try.underlying25 rfl (by kernel_rfl) ?_
              simp only [Act.put, List.setIfInBounds_toArray, List.set_cons_zero, List.set_cons_succ]
              refine wpQuiet_runs_mild (.bool true) rfl (fun V => by rw [← HDX.out]; exact runs_neq rfl rfl rfl (by kernel_rfl) (ev_neq y x) V) ?_
              simp only [Act.put, List.setIfInBounds_toArray, List.set_cons_zero, List.set_cons_succ]
              refine wpQuiet_nil ?_
              intro w5 hw'
              obtain ⟨⟨wq, k5⟩, hw''⟩ := hw'
              subst hw''
              have HB5 := Lib.hid (bTrans HB3.out k5)
              have HT5 := Lib.hid (HT3.out.below k5)
              have HO5 := Lib.hid (HO3.out.below k5)
              have HF5 := Lib.hid (HF3.out.below k5)
              have hz5 := k5.size
              obtain ⟨b3, off3, hA3, hbl3, x0, x1, x2, x3, x4, x5, x6, x7, x8⟩ := (HR2.out.below HB5.out (Nat.le_refl _)).ev hkL
              simp only [Option.some.injEq, Addr.mk.injEq, and_true] at hA3
              obtain ⟨rfl, rfl⟩ := hA3
              have hblw5 := Nat.lt_of_lt_of_le hbl3 HB5.out.size
              rw [HX.out] at x0 x1 x2 x3 x4 x5 x6 x7 x8
              clear k5
              go_wp2_with (first | (at_builtin; refine wpList_app_evU rfl (.tmp 69) (.tmp 74) rfl w.heap.size _ T [x] (HT5.out.alloc _) rfl _ _ 1 1 rfl rfl (rd_ev1 _ x) (by simp only [List.length_cons, List.length_nil]; omega) (by simp; omega) ?_; intro A6 c6 n6 w6 ho6 hg6 hat))
              have HT6 : Hid (OwnL w6 w.heap.size 25 9 (.slice A6 n6 c6) Ev.cells (turnedL was (now.take (k + 1)))) := Lib.hid (by rw [HSTT.out]; exact ho6)
              have HO6 : Hid (OwnL w6 w.heap.size 23 4 (.slice A n c) Key4.cells G) := Lib.hid ((HO5.out.alloc _).setFar hg6 (fun q hq e => (HT5.out.apart HO5.out (by decide) hq) e))
              have HF6 : Hid (OwnL w6 w.heap.size 25 9 (.slice Af nf cf) Ev.cells (freshL was (now.take (k + 1)))) := Lib.hid (by rw [HSF.out]; exact (HF5.out.alloc _).setFar hg6 (fun q hq e => HU.out q hq e))
              have HU6 : Hid (∀ q, (Value.slice Af nf cf).ownBlock = some q → (Value.slice A6 n6 c6).ownBlock ≠ some q) := Lib.hid (fun q hq hq' => by
                rcases hat with h | h
                · exact HU.out q hq (by rw [← h]; exact hq')
                · rw [h] at hq'
                  have := HFAR.out q (.inl hq)
                  simp at hq'
                  omega)
              have HB6 : Hid (Below w.heap.size w w6) := Lib.hid (Below.grown (bAlloc HB5.out _) hg6 (by simp; omega) HT5.out.base_le)
              clear ho6 hg6 hat
              go_wp2
              go_roundw
              case rel => exact ⟨k + 1, by omega, by go_num, Af, nf, cf, A6, n6, c6, rfl, rfl, HO6, HF6, HT6, HU6, HB6⟩
              case measure => simp [intOf]; omega
        · obtain rfl : n2 = k := by omega
          rw [List.take_of_length_le (by rw [HN2.out]; exact Nat.le_refl _)] at HF HT
          go_wp2
          refine bodyPost_ret (v := .tuple #[.slice A n c, .slice Af nf cf, .slice At nt ct]) ?_ rfl ⟨A, n, c, Af, nf, cf, At, nt, ct, rfl, by rw [HG.out]; exact HO.out, HF.out, HT.out, HB.out⟩
          simp [results, Try.results28, go_sem]
theorem key_neqA (a b : Key4) (W : World) : (binOp .neq 23 (.agg #[.int .i64 a.frame, .int .i64 a.emitter, .int .i64 a.kind, .int .i64 a.ord]) (.agg #[.int .i64 b.frame, .int .i64 b.emitter, .int .i64 b.kind, .int .i64 b.ord])).run Try.prog W = .ok (.bool (!decide (a = b))) W := by
  have := neq_ints (P := Try.prog) key_kindsA (fun cs => by unfold valOf; rw [Try.underlying23]) (xs := [.int .i64 a.frame, .int .i64 a.emitter, .int .i64 a.kind, .int .i64 a.ord]) (ys := [.int .i64 b.frame, .int .i64 b.emitter, .int .i64 b.kind, .int .i64 b.ord]) (keyI a) (keyI b) rfl rfl rfl rfl W
  rw [keyI_dec] at this
  exact this
set_option maxHeartbeats 4000000 in
theorem rkeys_same (A B : Option Addr) (c d : Nat) (L : List Key4) (w : World) (hL : L.length ≤ 1000) (hl : Rd w w.heap.size A (L.flatMap Key4.cells)) (hm : Rd w w.heap.size B (L.flatMap Key4.cells)) :
    Calls Try.prog 29 #[.slice A L.length c, .slice B L.length d] w fun e w' => e = .returned (.bool true) ∧ Below w.heap.size w w' := by
  obtain ⟨n, hn⟩ : ∃ n, L.length = n := ⟨_, rfl⟩
  rw [hn] at hL ⊢
  have HL := Lib.hid hl
  have HM := Lib.hid hm
  have HN := Lib.hid hn
  clear hl hm hn
  have hnn : ((n : Int) != n) = false := by simp
  have hnn2 : (n != n) = false := by simp
  go_enter Try.func29, Try.ntmps29
  go_wp2_with fail
  go_loopw [5] (fun v wr => ∃ k : Nat, k ≤ n ∧ v = .int .i64 k ∧ Hid (Below w.heap.size w wr)) (fun v _ => n - (intOf v).toNat)
  case atStart => exact ⟨0, Nat.zero_le _, rfl, Lib.hid (Below.refl _ _)⟩
  case round =>
    obtain ⟨k, hk, rfl, HB⟩ := hrel
    by_cases hlt : k < n
    · have hkL : k < L.length := by rw [HN.out]; exact hlt
      obtain ⟨b, off, rfl, hbl, x0, x1, x2, x3⟩ := (HL.out.below HB.out (Nat.le_refl _)).key4 hkL
      obtain ⟨b2, off2, rfl, hbl2, y0, y1, y2, y3⟩ := (HM.out.below HB.out (Nat.le_refl _)).key4 hkL
      have hblw := Nat.lt_of_lt_of_le hbl HB.out.size
      have hblw2 := Nat.lt_of_lt_of_le hbl2 HB.out.size
      obtain ⟨x, hx⟩ : ∃ x, L[k] = x := ⟨_, rfl⟩
      rw [hx] at x0 x1 x2 x3 y0 y1 y2 y3
      clear hx
      go_wp2_with fail
      refine wp_region_mild (by kernel_rfl) (by kernel_rfl) ?_
      repeat (go_big_quiet_step (fail))
      refine wpQuiet_nil ?_
      intro w5 hw'
      obtain ⟨⟨wq, k5⟩, hw''⟩ := hw'
      subst hw''
      go_wp2
      go_roundw
      case rel => exact ⟨k + 1, by omega, by go_num, Lib.hid (bTrans HB.out k5)⟩
      case measure => simp [intOf]; omega
    · obtain rfl : k = n := by omega
      go_wp2
      go_ret
      exact ⟨rfl, HB.out⟩
end Go.Proofs.Ytdjfpdndaobohaa
