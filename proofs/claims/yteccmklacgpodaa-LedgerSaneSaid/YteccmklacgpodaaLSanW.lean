/-
  The program's Sane: all commands, one behind the other.
-/
import Derived.Test.YteccmklacgpodaaLSan
import Derived.Shelf.Abstract
import Derived.Shelf.RegionOpen
namespace Go.Proofs.Yteccmklacgpodaa
open Go.RowKit Go.Shelf
set_option maxRecDepth 100000
set_option linter.unusedSimpArgs false
theorem TakeQ.from {s : San} {c : Cm} {bl bd : Nat} {w w1 w' : World} (h : TakeQ s c bl bd w1 w') (hb : Below w.heap.size w w1) : TakeQ s c bl bd w w' := ⟨h.1, (KeptX.ofBelow hb _).trans h.2⟩
set_option maxHeartbeats 2000000 in
theorem refuses_any (c : Cm) (s : San) (bl bd : Nat) (w : World) (h : SanW w bl bd s) (hw : c.e.key.Wf) (hl : s.1.length ≤ 1000000 ∧ s.2.length ≤ 1000000) :
    Calls Try.prog 33 #[.agg #[.map (some bl), .map (some bd)], .agg #[.int .i64 c.kind, .int .i64 c.e.frame, .int .i64 c.e.emitter, .int .i64 c.e.kind, .int .i64 c.e.ord, .int .i64 c.e.asset, .int .i64 c.e.gain, .int .i64 c.e.pan, .int .i64 c.e.prio, .int .i64 c.e.len, .int .i64 c.late, .bool c.played]] w fun e w' => e = .returned (.bool (!(stepS s c).isSome)) ∧ TakeQ s c bl bd w w' := by
  obtain ⟨w1, hw1⟩ : ∃ w1, w1 = (w.alloc (.cells #[.map (some bl), .map (some bd)] 77)).alloc (.cells #[.int .i64 c.kind, .int .i64 c.e.frame, .int .i64 c.e.emitter, .int .i64 c.e.kind, .int .i64 c.e.ord, .int .i64 c.e.asset, .int .i64 c.e.gain, .int .i64 c.e.pan, .int .i64 c.e.prio, .int .i64 c.e.len, .int .i64 c.late, .bool c.played] 57) := ⟨_, rfl⟩
  have HB1 : Hid (Below w.heap.size w w1) := Lib.hid (by rw [hw1]; exact bAlloc (bAlloc (Below.refl _ _) _) _)
  have HS1 : Hid (Blk w1 w.heap.size 77 #[.map (some bl), .map (some bd)]) := Lib.hid (by rw [hw1]; exact (Blk.new _ _ _).alloc _)
  have HC1 : Hid (Blk w1 (w.heap.size + 1) 57 #[.int .i64 c.kind, .int .i64 c.e.frame, .int .i64 c.e.emitter, .int .i64 c.e.kind, .int .i64 c.e.ord, .int .i64 c.e.asset, .int .i64 c.e.gain, .int .i64 c.e.pan, .int .i64 c.e.prio, .int .i64 c.e.len, .int .i64 c.late, .bool c.played]) := Lib.hid (by
    rw [hw1]
    have := Blk.new (w.alloc (.cells #[.map (some bl), .map (some bd)] 77)) 57 #[.int .i64 c.kind, .int .i64 c.e.frame, .int .i64 c.e.emitter, .int .i64 c.e.kind, .int .i64 c.e.ord, .int .i64 c.e.asset, .int .i64 c.e.gain, .int .i64 c.e.pan, .int .i64 c.e.prio, .int .i64 c.e.len, .int .i64 c.late, .bool c.played]
    rwa [World.size_alloc] at this)
  have HT := Lib.hid (takes_any c s bl bd w1 (h.on HB1.out) hw hl)
  obtain ⟨r, hr⟩ : ∃ r, (stepS s c).isSome = r := ⟨_, rfl⟩
  rw [hr] at HT ⊢
  clear h hw hl hr
  go_enter Try.func33, Try.ntmps33
  go_upto_region 1 with fail
  rw [← hw1]
  clear hw1
  have s0 := HS1.out.cell 0
  have s1 := HS1.out.cell 1
  have ls := HS1.out.lt
  have c0 := HC1.out.cell 0; have c1 := HC1.out.cell 1; have c2 := HC1.out.cell 2; have c3 := HC1.out.cell 3; have c4 := HC1.out.cell 4; have c5 := HC1.out.cell 5; have c6 := HC1.out.cell 6; have c7 := HC1.out.cell 7; have c8 := HC1.out.cell 8; have c9 := HC1.out.cell 9; have c10 := HC1.out.cell 10; have c11 := HC1.out.cell 11
  have lc := HC1.out.lt
  simp only [List.getElem?_toArray, List.getElem?_cons_zero, List.getElem?_cons_succ] at s0 s1 c0 c1 c2 c3 c4 c5 c6 c7 c8 c9 c10 c11
  go_wp2_with (first | (go_at_call 50; refine HT.out.mono ?_; rintro e w2 ⟨rfl, hq2⟩; have HQ2 := Lib.hid (hq2.from HB1.out); clear hq2))
  go_ret
  exact ⟨rfl, HQ2.out⟩
theorem Rd.mapsX {w w' : World} {B : Nat} {A : Option Addr} {xs : List Value} (h : Rd w B A xs) {X : List Nat} (hk : KeptX w w' X) (hX : ∀ x ∈ X, ∃ es clock, w.heap[x]? = some (.map es clock)) : Rd w' B A xs := fun hn => by
  obtain ⟨g, off, e, hlt, hc⟩ := h hn
  refine ⟨g, off, e, hlt, fun j u hu => ?_⟩
  have h1 := hc j u hu
  rw [← h1]
  unfold World.cell?
  rw [hk.block g (block_lt_of_cell h1) (fun hx => ?_)]
  obtain ⟨es, ck, hb⟩ := hX g hx
  unfold World.cell? at h1
  rw [hb] at h1
  simp at h1
theorem Rd.cm {w : World} {B : Nat} {A : Option Addr} {l : List Cm} (h : Rd w B A (l.flatMap Cm.cells)) {k : Nat} (hk : k < l.length) :
    ∃ b off, A = some ⟨b, off, none⟩ ∧ b < B ∧ w.cell? ⟨b, off + k * 12, none⟩ = some (.int .i64 l[k].kind) ∧ w.cell? ⟨b, off + k * 12 + 1, none⟩ = some (.int .i64 l[k].e.frame) ∧ w.cell? ⟨b, off + k * 12 + 2, none⟩ = some (.int .i64 l[k].e.emitter) ∧ w.cell? ⟨b, off + k * 12 + 3, none⟩ = some (.int .i64 l[k].e.kind) ∧ w.cell? ⟨b, off + k * 12 + 4, none⟩ = some (.int .i64 l[k].e.ord) ∧ w.cell? ⟨b, off + k * 12 + 5, none⟩ = some (.int .i64 l[k].e.asset) ∧ w.cell? ⟨b, off + k * 12 + 6, none⟩ = some (.int .i64 l[k].e.gain) ∧ w.cell? ⟨b, off + k * 12 + 7, none⟩ = some (.int .i64 l[k].e.pan) ∧ w.cell? ⟨b, off + k * 12 + 8, none⟩ = some (.int .i64 l[k].e.prio) ∧ w.cell? ⟨b, off + k * 12 + 9, none⟩ = some (.int .i64 l[k].e.len) ∧ w.cell? ⟨b, off + k * 12 + 10, none⟩ = some (.int .i64 l[k].late) ∧ w.cell? ⟨b, off + k * 12 + 11, none⟩ = some (.bool l[k].played) := by
  obtain ⟨b, off, hA, hb, hat⟩ := h.at_ Cm.cells_length (by omega) hk
  exact ⟨b, off, hA, hb, hat 0 _ rfl, hat 1 _ rfl, hat 2 _ rfl, hat 3 _ rfl, hat 4 _ rfl, hat 5 _ rfl, hat 6 _ rfl, hat 7 _ rfl, hat 8 _ rfl, hat 9 _ rfl, hat 10 _ rfl, hat 11 _ rfl⟩
set_option maxHeartbeats 4000000 in
theorem ifC_any (A : Option Addr) (c : Nat) (l : List Cm) (bl bd : Nat) (w : World) (hl : l.length ≤ 900000) (hr : Rd w w.heap.size A (l.flatMap Cm.cells)) (hW : SanW w bl bd ([], [])) (hw : ∀ x ∈ l, x.e.key.Wf) :
    Calls Try.prog 49 #[.slice A l.length c, .func (.func 33) #[.agg #[.map (some bl), .map (some bd)]] #[]] w fun e w' => (∃ r : Int, e = .returned (.int .i64 r) ∧ decide (0 ≤ r) = !saneF l ∧ -1 ≤ r ∧ r ≤ 1000000) ∧ KeptX w w' [bl, bd] := by
  have HR := Lib.hid hr
  have HWF := Lib.hid hw
  have HW := Lib.hid hW
  obtain ⟨n, hn⟩ : ∃ n, l.length = n := ⟨_, rfl⟩
  have HN := Lib.hid hn
  rw [hn] at hl ⊢
  clear hr hw hW hn
  go_enter Try.func49, Try.ntmps49
  go_wp2
  go_loopw [8] (fun i wr => ∃ (k : Nat) (s : San), k ≤ n ∧ i = .int .i64 k ∧ Hid (foldS ([], []) (l.take k) = some s) ∧ (s.1.length ≤ k ∧ s.2.length ≤ k) ∧ Hid (SanW wr bl bd s) ∧ Hid (Rd wr w.heap.size A (l.flatMap Cm.cells)) ∧ Hid (KeptX w wr [bl, bd])) (fun i _ => n - (intOf i).toNat)
  case atStart => exact ⟨0, ([], []), Nat.zero_le _, rfl, Lib.hid (by simp [foldS]), ⟨Nat.le_refl _, Nat.le_refl _⟩, HW, HR, Lib.hid (KeptX.refl _ _)⟩
  case round =>
    obtain ⟨k, s, hk, rfl, HF, hls, HWR, HRR, HKR⟩ := hrel
    clear HW HR
    by_cases hlt : k < n
    · have hkl : k < l.length := by rw [HN.out]; exact hlt
      obtain ⟨b, off, rfl, hbl, x0, x1, x2, x3, x4, x5, x6, x7, x8, x9, x10, x11⟩ := HRR.out.cm hkl
      have hbw : b < wr.heap.size := Nat.lt_of_lt_of_le hbl HKR.out.size
      have HSN : Hid (foldS ([], []) (l.take (k + 1)) = stepS s l[k]) := Lib.hid (by rw [List.take_succ_eq_append_getElem hkl]; exact foldS_snoc _ _ _ _ HF.out)
      have HNO : Hid (stepS s l[k] = none → saneF l = false) := Lib.hid (fun h => by
        have h1 := foldS_none (l.take (k + 1)) (l.drop (k + 1)) ([], []) (by rw [List.take_succ_eq_append_getElem hkl, foldS_snoc _ _ _ _ HF.out, h])
        rw [List.take_append_drop] at h1
        unfold saneF
        rw [h1]; rfl)
      have hwk := HWF.out l[k] (List.getElem_mem hkl)
      obtain ⟨x, hx⟩ : ∃ x, l[k] = x := ⟨_, rfl⟩
      rw [hx] at x0 x1 x2 x3 x4 x5 x6 x7 x8 x9 x10 x11 HSN HNO hwk
      have HC := Lib.hid (refuses_any x s bl bd wr HWR.out hwk (by omega))
      have hle := fun (s' : San) (h : stepS s x = some s') => stepS_le h
      have HLE := Lib.hid hle
      clear hx hwk hle hbl
      cases hst : stepS s x with
      | none =>
        have HS0 := Lib.hid hst
        rw [hst] at HC
        have HX := Lib.hid (HNO.out hst)
        clear hst HSN HNO HLE
        simp only [Option.isSome_none, Bool.not_false] at HC
        go_wp2_with (first | (go_at_call 33; refine HC.out.mono ?_; rintro e w2 ⟨rfl, hq2⟩; have HQ2 := Lib.hid hq2; clear hq2))
        go_ret
        refine ⟨⟨k, rfl, ?_, by omega, by omega⟩, HKR.out.trans HQ2.out.2⟩
        rw [HX.out]
        simp
      | some s' =>
        have HS0 := Lib.hid hst
        rw [hst] at HC HSN
        have hle := HLE.out s' hst
        clear hst HNO HLE
        simp only [Option.isSome_some, Bool.not_true] at HC
        go_wp2_with (first | (go_at_call 33; refine HC.out.mono ?_; rintro e w2 ⟨rfl, hq2⟩; have HQ2 := Lib.hid hq2; clear hq2))
        go_roundw
        case rel =>
          refine ⟨k + 1, s', by omega, by go_num, HSN, by omega, Lib.hid (HQ2.out.1 s' HS0.out), Lib.hid (HRR.out.mapsX HQ2.out.2 (fun x hx => ?_)), Lib.hid (HKR.out.trans HQ2.out.2)⟩
          simp only [List.mem_cons, List.not_mem_nil, or_false] at hx
          rcases hx with rfl | rfl
          · exact HWR.out.live.block
          · exact HWR.out.done.block
        case measure => simp [intOf]; omega
    · obtain rfl : k = n := by omega
      have HX : Hid (saneF l = true) := Lib.hid (by
        have := HF.out
        rw [List.take_of_length_le (by rw [HN.out]; exact Nat.le_refl _)] at this
        unfold saneF
        rw [this]; rfl)
      go_wp2
      go_ret
      refine ⟨⟨-1, rfl, ?_, by omega, by omega⟩, HKR.out⟩
      rw [HX.out]
      simp
end Go.Proofs.Yteccmklacgpodaa
