/-
  The walks beneath: LHalt, LTelP, LSanP, LSaneP, Aw17, ActO, LTels, LSaI.
-/
import Derived.Test.YteccmklacgpodaaLCom
import Derived.Test.YteccmklacgpodaaLgP
import Derived.Test.YteccmklacgpodaaLTell
import Derived.Test.YteccmklacgpodaaEv
import Derived.Test.YteccmklacgpodaaEventPlain
namespace Go.Proofs.Yteccmklacgpodaa
open Go.RowKit
set_option maxRecDepth 100000
set_option linter.unusedSimpArgs false
section
variable {w : World} {g gl gt : Nat} {most com : Int} {S : List Ev} {T : List TEnt}
set_option maxHeartbeats 1000000 in
theorem halt_again (h : LgW w g gl gt most S T com true) : Calls Try.prog 23 #[.pointer (some ⟨g, 0, none⟩)] w fun e w' => e = .returned (.slice none 0 0) ∧ w = w' := by
  obtain ⟨lg, -, -, -, -, c4⟩ := h.cells
  clear h
  go_enter Try.func23, Try.ntmps23
  go_wp2
  go_ret
  exact ⟨rfl, rfl⟩
theorem haltF_snoc (S : List Ev) (k : Nat) (hk : k < S.length) : haltF (S.take (k + 1)) = haltF (S.take k) ++ [⟨3, S[k], 0, false⟩] := by
  unfold haltF
  rw [List.take_succ_eq_append_getElem hk, List.map_append]
  rfl
theorem haltF_len (S : List Ev) : (haltF S).length = S.length := by unfold haltF; simp
set_option maxHeartbeats 4000000 in
theorem halt_ok (h : LgW w g gl gt most S T com false) (hS : LvOk S) (hl : S.length ≤ 1000) :
    Calls Try.prog 23 #[.pointer (some ⟨g, 0, none⟩)] w fun e w' => ∃ (A' : Option Addr) (n' c' : Nat), e = .returned (.slice A' n' c') ∧ OwnL w' w.heap.size 57 12 (.slice A' n' c') Cm.cells (haltF S) ∧ LgW w' g gl gt most [] T com true ∧ KeptX w w' [g, gl] := by
  obtain ⟨lg, -, -, -, c3, c4⟩ := h.cells
  have f4 := h.blk.frozen 4
  obtain ⟨es, ck, hml⟩ := h.live.block
  obtain ⟨es', ck', hmt⟩ := h.told.block
  obtain ⟨w1, hw1⟩ : ∃ w1, w1 = w.setCell ⟨g, 4, none⟩ (.bool true) := ⟨_, rfl⟩
  have hg1 : w.grownBy w1 (some g) := by rw [hw1]; exact ⟨rfl, rfl, rfl, by simp [World.setCell], fun k _ hk => Below.heap_setCell w ⟨g, 4, none⟩ _ k (fun e => hk (by rw [e]))⟩
  have HG1 : Hid (LgW w1 g gl gt most S T com true) := Lib.hid (by
    refine ⟨?_, h.live.same (hg1.block gl h.live.lt (fun e => h.blk.noMap hml (Option.some.inj e).symm)), h.told.same (hg1.block gt h.told.lt (fun e => h.blk.noMap hmt (Option.some.inj e).symm)), fun p hp => (h.rows p hp).kept hg1 (.inr (h.blk.apart (h.rows p hp) (by decide))), h.ne⟩
    rw [hw1]
    exact h.blk.set 4 (.bool true))
  have HK1 : Hid (KeptX w w1 [g, gl]) := Lib.hid ((KeptX.refl w _).grown hg1 (fun r e => by cases e; simp))
  have HL := Lib.hid (live_lg HG1.out hS hl)
  obtain ⟨n, hn⟩ : ∃ n, S.length = n := ⟨_, rfl⟩
  have HN := Lib.hid hn
  rw [hn] at HL hl
  have HX : Hid (haltF S = haltF S) := Lib.hid rfl
  obtain ⟨X, hX⟩ : ∃ X, haltF S = X := ⟨_, rfl⟩
  have HXX := Lib.hid hX
  rw [hX]
  have hws := HK1.out.size
  clear h hS hg1 hml hmt hn hX HX
  go_enter Try.func23, Try.ntmps23
  go_upto_region 4 with fail
  rw [← hw1]
  clear hw1 c3 c4 f4 lg
  have lg1 := HG1.out.cells.1
  go_wp2_with (first | (go_at_call 13; refine HL.out.mono ?_; rintro e w2 ⟨B, cb, rfl, ho2, hb2⟩; have HO2 := Lib.hid ho2; have HG2 := Lib.hid (HG1.out.on hb2); have HK2 := Lib.hid (HK1.out.below hb2); have hs2 := hb2.size; clear ho2 hb2))
  go_loopw [3, 20] (fun u v wr => ∃ k : Nat, k ≤ n ∧ v = .int .i64 k ∧ ∃ A' n' c', u = .slice A' n' c' ∧ Hid (OwnL wr w2.heap.size 57 12 (.slice A' n' c') Cm.cells (haltF (S.take k))) ∧ Hid (LgW wr g gl gt most S T com true) ∧ Hid (OwnL wr w1.heap.size 43 9 (.slice B n cb) Ev.cells S) ∧ Hid (KeptX w wr [g, gl]) ∧ w2.heap.size ≤ wr.heap.size) (fun _ v _ => n - (intOf v).toNat)
  case atStart => exact ⟨0, Nat.zero_le _, rfl, none, 0, 0, rfl, Lib.hid OwnL.nil, HG2, HO2, HK2, Nat.le_refl _⟩
  case round =>
    obtain ⟨k, hk, rfl, A', n', c', rfl, HOU, HGR, HOR, HKR, hsz⟩ := hrel
    clear HO2 HG2 HK2
    by_cases hlt : k < n
    · have hkO : k < S.length := by rw [HN.out]; exact hlt
      obtain ⟨b, off, rfl, hbl, x0, x1, x2, x3, x4, x5, x6, x7, x8⟩ := HOR.out.rd.ev hkO
      have HSN := Lib.hid (haltF_snoc S k hkO)
      have hs6 : (haltF (S.take k)).length ≤ k := by rw [haltF_len, List.length_take]; omega
      obtain ⟨x, hx⟩ : ∃ x, S[k] = x := ⟨_, rfl⟩
      rw [hx] at x0 x1 x2 x3 x4 x5 x6 x7 x8 HSN
      clear hx
      go_upto_region 8 with fail
      obtain ⟨w3, hw3⟩ : ∃ w3, w3 = wr.alloc (.cells #[.int .i64 x.frame, .int .i64 x.emitter, .int .i64 x.kind, .int .i64 x.ord, .int .i64 x.asset, .int .i64 x.gain, .int .i64 x.pan, .int .i64 x.prio, .int .i64 x.len] 43) := ⟨_, rfl⟩
      have HE3 : Hid (Blk w3 wr.heap.size 43 #[.int .i64 x.frame, .int .i64 x.emitter, .int .i64 x.kind, .int .i64 x.ord, .int .i64 x.asset, .int .i64 x.gain, .int .i64 x.pan, .int .i64 x.prio, .int .i64 x.len]) := Lib.hid (by rw [hw3]; exact Blk.new _ _ _)
      have HB3 : Hid (Below wr.heap.size wr w3) := Lib.hid (by rw [hw3]; exact bAlloc (Below.refl _ _) _)
      have hs3' : wr.heap.size < w3.heap.size := by rw [hw3]; simp
      rw [← hw3]
      clear hw3 x0 x1 x2 x3 x4 x5 x6 x7 x8 hbl
      have HO3 := Lib.hid (HOU.out.below HB3.out)
      have HG3 := Lib.hid (HGR.out.on HB3.out)
      have HOR3 := Lib.hid (HOR.out.below HB3.out)
      have HK3 := Lib.hid (HKR.out.below HB3.out)
      have x0 := HE3.out.cell 0; have x1 := HE3.out.cell 1; have x2 := HE3.out.cell 2; have x3 := HE3.out.cell 3; have x4 := HE3.out.cell 4; have x5 := HE3.out.cell 5; have x6 := HE3.out.cell 6; have x7 := HE3.out.cell 7; have x8 := HE3.out.cell 8
      simp only [List.getElem?_toArray, List.getElem?_cons_zero, List.getElem?_cons_succ] at x0 x1 x2 x3 x4 x5 x6 x7 x8
      clear HOU HGR HOR HKR HB3
      go_wp2_with (first | (at_builtin; refine wpList_app_cm rfl (.tmp 24) (.tmp 27) rfl w2.heap.size _ (haltF (S.take k)) [⟨3, x, 0, false⟩] (HO3.out.alloc _) rfl _ _ 1 1 rfl rfl (rd_cm1 _ ⟨3, x, 0, false⟩) (by simp only [List.length_cons, List.length_nil]; omega) (by simp; omega) ?_; intro A6 c6 n6 w6 hn6 ho6 hg6; have HO6 := Lib.hid ho6; have HGB6 := Lib.hid hg6; clear ho6 hg6))
      go_roundw
      case rel =>
        have ho5 := HO3.out.alloc (.cells (Cm.cells ⟨3, x, 0, false⟩).toArray 57)
        refine ⟨k + 1, by omega, by go_num, A6, n6, c6, rfl, Lib.hid (by rw [HSN.out]; exact HO6.out), Lib.hid ((HG3.out.alloc _).farR ho5 HGB6.out (by decide) (by decide)), Lib.hid ((HOR3.out.alloc _).keptR ho5 (by decide) HGB6.out), Lib.hid ((HK3.out.alloc _).grown HGB6.out (fun r hr => .inr (by have := ho5.base_le r hr; omega))), ?_⟩
        have := HGB6.out.size
        simp at this
        omega
      case measure => simp [intOf]; omega
    · obtain rfl : k = n := by omega
      rw [List.take_of_length_le (by rw [HN.out]; exact Nat.le_refl _), HXX.out] at HOU
      obtain ⟨lg, -, g1, -⟩ := HGR.out.cells
      have HLR := Lib.hid HGR.out.live
      go_wp2_with (first
        | (refine wpList_clearM _ rfl (.tmp 33) 59 rfl 41 43 Try.underlying59 gl (prs S) rfl HLR.out ?_
           intro w5 hM5 hT5
           have hgb := hT5.grown
           have hmb := HLR.out.block
           have HG5 : Hid (LgW w5 g gl gt most [] T com true) := Lib.hid (HGR.out.turned (S' := []) hM5 hgb)
           have HO5 : Hid (OwnL w5 w2.heap.size 57 12 (.slice A' n' c') Cm.cells X) := Lib.hid (HOU.out.kept hgb (.inr (HOU.out.noMap hmb.choose_spec.choose_spec)))
           have HK5 : Hid (KeptX w w5 [g, gl]) := Lib.hid (HKR.out.grown hgb (fun r e => by cases e; simp))
           clear hM5 hT5 hgb hmb))
      go_ret
      exact ⟨A', n', c', rfl, HO5.out.more (by omega), HG5.out, HK5.out⟩
end
end Go.Proofs.Yteccmklacgpodaa

namespace Go.Proofs.Yteccmklacgpodaa
open Go.RowKit
theorem argB_of {evs : List Ev} {f now : Int} (h : argB evs f now = true) : orderedB evs = true ∧ (∀ e ∈ evs, evOk e = true ∧ e.frame = f) ∧ f ≤ now ∧ now ≤ 1073741824 := by
  unfold argB otherB at h
  simp only [Bool.and_eq_true, Bool.not_eq_true', decide_eq_true_eq, List.any_eq_false, decide_eq_false_iff_not] at h
  refine ⟨h.1, fun e he => ⟨?_, ?_⟩, h.2.2.1, h.2.2.2⟩
  · have := h.1
    unfold orderedB at this
    simp only [Bool.and_eq_true, List.all_eq_true] at this
    exact this.2.1 e he
  · have := h.2.1 e he
    simpa using this
theorem fitsE_zero {halt : Bool} {com : Int} {evs : List Ev} {f now : Int} (h : fitsE halt com evs f now = 0) : halt = false ∧ argB evs f now = true ∧ com < f := by
  unfold fitsE at h
  split at h
  · cases h
  · rename_i hh
    split at h
    · rename_i ha
      split at h
      · cases h
      · exact ⟨by simpa using hh, ha, by omega⟩
    · cases h
theorem fitsE_again {com : Int} {evs : List Ev} {f now : Int} (h : argB evs f now = true) (hc : com < f) : fitsE false com evs f now = 0 := by
  unfold fitsE
  rw [if_neg (by decide), if_pos h, if_neg (by omega)]
theorem mem_startS {most now : Int} {s : Sc} (h : LvOk s.1) {e : Ev} (hr : (s.1.length : Int) < most) (x : Ev) : x ∈ (startS most now s e).1 ↔ x = e ∨ (x ∈ s.1 ∧ x.key ≠ e.key) := by
  unfold startS
  cases hf : findS s.1 e.key with
  | some z =>
    obtain ⟨hz, hk⟩ := findS_some hf
    dsimp only
    by_cases he : z = e
    · rw [if_pos he]
      subst he
      constructor
      · intro hx
        by_cases hk : x.key = z.key
        · left
          have := findS_mem h.sorted hx
          rw [hk, hf] at this
          exact (Option.some.inj this).symm
        · exact .inr ⟨hx, hk⟩
      · rintro (rfl | ⟨hx, -⟩)
        · exact hz
        · exact hx
    · rw [if_neg he]
      dsimp only
      rw [(putE_perm _ _).mem_iff, List.mem_cons, mem_dropK]
  | none =>
    have hn := findS_none.1 hf
    dsimp only
    rw [if_pos hr]
    dsimp only
    rw [(putE_perm _ _).mem_iff, List.mem_cons]
    exact or_congr_right ⟨fun hx => ⟨hx, hn x hx⟩, fun hx => hx.1⟩
theorem startS_len {most now : Int} {s : Sc} (e : Ev) : (startS most now s e).1.length ≤ s.1.length + 1 := by
  unfold startS
  cases hf : findS s.1 e.key with
  | some z =>
    have := dropK_le s.1 e.key
    dsimp only
    split
    · omega
    · dsimp only; rw [putE_length]; omega
  | none =>
    dsimp only
    split
    · dsimp only; rw [putE_length]; omega
    · omega
theorem mem_start_fold {most now : Int} : ∀ (L : List Ev) (s : Sc), LvOk s.1 → (∀ e ∈ L, evOk e = true) → (L.map Ev.key).Nodup → ((s.1.length + L.length : Nat) : Int) ≤ most → ∀ x, x ∈ (L.foldl (startS most now) s).1 ↔ x ∈ L ∨ (x ∈ s.1 ∧ ∀ e ∈ L, x.key ≠ e.key)
  | [], s, _, _, _, _, x => by simp
  | o :: L, s, h, ho, hn, hm, x => by
    rw [List.map_cons, List.nodup_cons] at hn
    rw [List.length_cons] at hm
    have hl := startS_len (most := most) (now := now) (s := s) o
    rw [List.foldl_cons, mem_start_fold L _ (startS_ok h (ho o (by simp))) (fun e he => ho e (by simp [he])) hn.2 (by omega), mem_startS h (by omega)]
    constructor
    · rintro (hx | ⟨rfl | ⟨hx, hk⟩, hL⟩)
      · exact .inl (by simp [hx])
      · exact .inl (by simp)
      · refine .inr ⟨hx, fun e he => ?_⟩
        rcases List.mem_cons.1 he with rfl | he
        · exact hk
        · exact hL e he
    · rintro (hx | ⟨hx, hL⟩)
      · rcases List.mem_cons.1 hx with rfl | hx
        · refine .inr ⟨.inl rfl, fun e he hk => hn.1 ?_⟩
          rw [hk]
          exact List.mem_map.2 ⟨e, he, rfl⟩
        · exact .inl hx
      · exact .inr ⟨.inr ⟨hx, hL o (by simp)⟩, fun e he => hL e (by simp [he])⟩
theorem cancel_sub (evs : List Ev) : ∀ (O : List Ev) (s : Sc) (x : Ev), x ∈ (O.foldl (cancelS evs) s).1 → x ∈ s.1 ∧ (x ∈ O → staysE evs x = true)
  | [], s, x, h => ⟨h, by simp⟩
  | o :: O, s, x, h => by
    rw [List.foldl_cons] at h
    obtain ⟨h1, h2⟩ := cancel_sub evs O _ x h
    unfold cancelS at h1
    split at h1
    · rename_i hs
      refine ⟨h1, fun hx => ?_⟩
      rcases List.mem_cons.1 hx with rfl | hx
      · exact hs
      · exact h2 hx
    · rename_i hs
      obtain ⟨h3, h4⟩ := mem_dropK.1 h1
      refine ⟨h3, fun hx => ?_⟩
      rcases List.mem_cons.1 hx with rfl | hx
      · exact absurd rfl h4
      · exact h2 hx
/-- As long as there is room, what is told is heard. -/
theorem tell_heard {most now : Int} {evs : List Ev} {f : Int} {S : List Ev} (hS : LvOk S) (ho : orderedB evs = true) (hf : ∀ e ∈ evs, evOk e = true ∧ e.frame = f) (hr : ((S.length + evs.length : Nat) : Int) ≤ most) : ofF f (tellF most now evs f S).1 = evs := by
  have hse := ordered_sorted ho
  obtain ⟨c1, c2, -⟩ := cancelF_ok (evs := evs) (f := f) hS
  have hnd := (sortedE_iff (sortedW_of hse)).1 hse
  have hmem : ∀ x, x ∈ ofF f (tellF most now evs f S).1 ↔ x ∈ evs := fun x => by
    unfold ofF
    rw [List.mem_filter]
    unfold tellF
    rw [mem_start_fold evs _ c1 (fun e he => (hf e he).1) hnd (by omega)]
    constructor
    · rintro ⟨hx | ⟨hx, hk⟩, hfr⟩
      · exact hx
      · obtain ⟨h1, h2⟩ := cancel_sub evs _ _ x hx
        have := h2 (List.mem_filter.2 ⟨h1, hfr⟩)
        unfold staysE at this
        obtain ⟨e, he, hke⟩ := List.any_eq_true.1 this
        simp only [Bool.and_eq_true, decide_eq_true_eq] at hke
        exact absurd hke.1.symm (hk e he)
    · intro hx
      exact ⟨.inl hx, by simpa using (hf x hx).2⟩
  have hok := (start_fold most now evs (cancelF evs f S) c1 (fun e he => (hf e he).1)).1
  have hs' : SortedE (ofF f (tellF most now evs f S).1) := (hok.filter _).sorted
  have hn1 : (ofF f (tellF most now evs f S).1).Nodup := by
    have := (sortedE_iff (sortedW_of hs')).1 hs'
    unfold List.Nodup at this ⊢
    rw [List.pairwise_map] at this
    exact this.imp fun h e => h (by rw [e])
  have hn2 : evs.Nodup := by
    unfold List.Nodup at hnd ⊢
    rw [List.pairwise_map] at hnd
    exact hnd.imp fun h e => h (by rw [e])
  exact sorts_one ((List.perm_ext_iff_of_nodup hn1 hn2).2 hmem) (sortedW_of hs') (sortedW_of hse) hs'
theorem stays_self {evs : List Ev} {o : Ev} (h : o ∈ evs) : staysE evs o = true := by
  unfold staysE
  refine List.any_eq_true.2 ⟨o, h, ?_⟩
  unfold likeE
  simp
theorem cancel_none (evs : List Ev) : ∀ (O : List Ev) (s : Sc), (∀ o ∈ O, o ∈ evs) → O.foldl (cancelS evs) s = s
  | [], _, _ => rfl
  | o :: O, s, h => by
    have : cancelS evs s o = s := by unfold cancelS; rw [if_pos (stays_self (h o (by simp)))]
    rw [List.foldl_cons, this]
    exact cancel_none evs O s (fun x hx => h x (by simp [hx]))
theorem start_none {most now : Int} : ∀ (L : List Ev) (s : Sc), SortedE s.1 → (∀ e ∈ L, e ∈ s.1) → L.foldl (startS most now) s = s
  | [], _, _, _ => rfl
  | o :: L, s, hs, h => by
    have : startS most now s o = s := by
      unfold startS
      rw [findS_mem hs (h o (by simp))]
      simp
    rw [List.foldl_cons, this]
    exact start_none L s hs (fun x hx => h x (by simp [hx]))
/-- Told again nothing comes of it. -/
theorem tell_again {most now : Int} {evs : List Ev} {f : Int} {S : List Ev} (hS : LvOk S) (h : ofF f S = evs) : tellF most now evs f S = (S, []) := by
  have hc : cancelF evs f S = (S, []) := by
    unfold cancelF
    rw [h]
    exact cancel_none evs evs _ (fun o ho => ho)
  unfold tellF
  rw [hc]
  refine start_none evs (S, []) hS.sorted (fun e he => ?_)
  rw [← h] at he
  exact (List.mem_filter.1 he).1
theorem setT_ok {T : List TEnt} (h : TOk T) {f : Int} {v : Value} {evs : List Ev} (he : ∀ e ∈ evs, evOk e = true) (hl : evs.length ≤ 64) : TOk (setT T f v evs) := fun p hp => by
  rcases setT_1 p hp with rfl | ⟨hp, -⟩
  · exact ⟨he, hl⟩
  · exact h p hp
theorem setT_len (T : List TEnt) (f : Int) (v : Value) (evs : List Ev) : (setT T f v evs).length ≤ T.length + 1 := by
  unfold setT
  rw [List.length_cons]
  have := List.length_filter_le (fun p : TEnt => !decide (p.1 = f)) T
  omega
theorem delT_ok {T : List TEnt} (h : TOk T) (f : Int) : TOk (delT T f) := fun p hp => h p ((delT_1 p).1 hp).1
theorem delT_len (T : List TEnt) (f : Int) : (delT T f).length ≤ T.length := List.length_filter_le _ _
theorem commitF_ok {S : List Ev} (h : LvOk S) (evs : List Ev) : LvOk (commitF evs S).1 ∧ (commitF evs S).1.length ≤ S.length := by
  obtain ⟨h1, h2, -⟩ := commit_fold evs (S, []) h
  exact ⟨h1, h2⟩
end Go.Proofs.Yteccmklacgpodaa

namespace Go.Proofs.Yteccmklacgpodaa
open Go.RowKit
/-- The entries, and the keys that are committed. -/
abbrev San := List Ev × List Key4
def stepS (s : San) (c : Cm) : Option San :=
  if c.e.key ∈ s.2 ∨ c.late < 0 then none
  else if c.kind = 1 then (if (findS s.1 c.e.key).isSome = true then none else some (c.e :: dropK s.1 c.e.key, s.2))
  else if c.kind = 2 then (if (findS s.1 c.e.key).isSome = true then some (c.e :: dropK s.1 c.e.key, s.2) else none)
  else if c.kind = 3 then (if (findS s.1 c.e.key).isSome = true then some (dropK s.1 c.e.key, s.2) else none)
  else if c.kind = 4 then (if (findS s.1 c.e.key).isSome = c.played ∧ ((findS s.1 c.e.key).isSome = false ∨ findS s.1 c.e.key = some c.e) then some (dropK s.1 c.e.key, c.e.key :: s.2) else none)
  else none
def foldS : San → List Cm → Option San
  | s, [] => some s
  | s, c :: r => match stepS s c with | none => none | some s' => foldS s' r
def saneF (l : List Cm) : Bool := (foldS ([], []) l).isSome
theorem foldS_snoc : ∀ (l : List Cm) (s s' : San) (c : Cm), foldS s l = some s' → foldS s (l ++ [c]) = stepS s' c
  | [], s, s', c, h => by
    simp only [foldS, Option.some.injEq] at h
    subst h
    show foldS s [c] = stepS s c
    unfold foldS
    cases stepS s c <;> rfl
  | d :: r, s, s', c, h => by
    unfold foldS at h
    rw [List.cons_append]
    unfold foldS
    cases hd : stepS s d with
    | none => rw [hd] at h; cases h
    | some t =>
      rw [hd] at h
      exact foldS_snoc r t s' c h
theorem foldS_none : ∀ (l r : List Cm) (s : San), foldS s l = none → foldS s (l ++ r) = none
  | [], _, _, h => by simp [foldS] at h
  | d :: l, r, s, h => by
    unfold foldS at h
    rw [List.cons_append]
    unfold foldS
    cases hd : stepS s d with
    | none => rfl
    | some t =>
      rw [hd] at h
      exact foldS_none l r t h
theorem storeL_cons {S : List Ev} (hn : ((prs S).map fun p => p.1.val).Nodup) (e : Ev) : StoreL (prs S) (prs (e :: dropK S e.key)) e := by
  refine ⟨fun p hp => ?_, fun p hp hne => ?_, mem_prs.2 ⟨by simp, rfl⟩, ?_⟩
  · rw [mem_prs] at hp
    rcases List.mem_cons.1 hp.1 with h1 | h1
    · left
      rw [← h1, ← hp.2]
    · right
      rw [mem_dropK] at h1
      exact ⟨mem_prs.2 ⟨h1.1, hp.2⟩, fun e => h1.2 (by rw [← hp.2]; exact keyV_inj e)⟩
  · rw [mem_prs] at hp ⊢
    exact ⟨List.mem_cons_of_mem _ (mem_dropK.2 ⟨hp.1, fun e => hne (by rw [hp.2, e])⟩), hp.2⟩
  · have h1 : ((prs (dropK S e.key)).map fun p => p.1.val).Sublist ((prs S).map fun p => p.1.val) := by
      unfold prs dropK
      exact (List.filter_sublist.map _).map _
    show (_ :: (prs (dropK S e.key)).map fun p => p.1.val).Nodup
    refine List.nodup_cons.2 ⟨fun hm => ?_, hn.sublist h1⟩
    obtain ⟨p, hp, he⟩ := List.mem_map.1 hm
    exact ((prs_drop p).1 hp).2 he
theorem drop_nodup {S : List Ev} (hn : ((prs S).map fun p => p.1.val).Nodup) (k : Key4) : ((prs (dropK S k)).map fun p => p.1.val).Nodup := by
  have h1 : ((prs (dropK S k)).map fun p => p.1.val).Sublist ((prs S).map fun p => p.1.val) := by
    unfold prs dropK
    exact (List.filter_sublist.map _).map _
  exact hn.sublist h1
/-- The document's way: what the commands ahead tell of a key; nothing, if it is committed. -/
def docS (k : Key4) (s : Option (Bool × Ev)) (c : Cm) : Option (Bool × Ev) :=
  match s with
  | none => none
  | some p => if c.e.key = k then (if c.kind = 4 then none else some (!decide (c.kind = 3), c.e)) else some p
def docF (P : List Cm) (k : Key4) : Option (Bool × Ev) := P.foldl (docS k) (some (false, zeroE))
def badC (c : Cm) (has : Bool) (is : Ev) : Bool :=
  decide (c.late < 0) || (decide (c.kind < 1) || (decide (4 < c.kind) || (decide (c.kind = 1) && has || ((decide (c.kind = 2) || decide (c.kind = 3)) && !has || decide (c.kind = 4) && ((has != c.played) || has && !decide (is = c.e))))))
def okD (P : List Cm) (c : Cm) : Bool := match docF P c.e.key with | none => false | some p => !badC c p.1 p.2
def saneD (l : List Cm) : Bool := (List.range l.length).all fun i => match l[i]? with | none => true | some c => okD (l.take i) c
/-- What the commands ahead tell is what the maps hold. -/
def SanR (P : List Cm) (s : San) : Prop := ∀ k, (k ∈ s.2 → docF P k = none) ∧ (k ∉ s.2 → ∃ is, docF P k = some ((findS s.1 k).isSome, is) ∧ ∀ e, findS s.1 k = some e → is = e)
theorem findS_cons (e : Ev) (S : List Ev) (k : Key4) : findS (e :: S) k = if e.key = k then some e else findS S k := by
  unfold findS
  rw [List.find?_cons]
  by_cases h : e.key = k
  · simp [h]
  · simp [h]
theorem findS_drop (S : List Ev) (k j : Key4) : findS (dropK S k) j = if j = k then none else findS S j := by
  by_cases h : j = k
  · subst h
    rw [if_pos rfl, findS_none]
    intro x hx
    exact (mem_dropK.1 hx).2
  · rw [if_neg h]
    unfold findS dropK
    rw [List.find?_filter]
    congr 1
    funext x
    by_cases hx : x.key = j
    · have : x.key ≠ k := fun e => h (by rw [← hx, e])
      simp [hx, h]
    · simp [hx]
theorem docF_snoc (P : List Cm) (c : Cm) (k : Key4) : docF (P ++ [c]) k = docS k (docF P k) c := by
  unfold docF
  rw [List.foldl_append]
  rfl
theorem sanR_step {P : List Cm} {s s' : San} {c : Cm} (h : SanR P s) (hs : stepS s c = some s') : SanR (P ++ [c]) s' := by
  intro k
  obtain ⟨h1, h2⟩ := h k
  rw [docF_snoc]
  unfold stepS at hs
  split at hs
  · cases hs
  · rename_i hnd
    have hnd2 : c.e.key ∉ s.2 := fun e => hnd (.inl e)
    by_cases hk : c.e.key = k
    · subst hk
      obtain ⟨is, e1, e2⟩ := h2 hnd2
      rw [e1]
      unfold docS
      dsimp only
      rw [if_pos rfl]
      split at hs
      · rename_i hk1
        split at hs
        · cases hs
        · cases hs
          refine ⟨fun hm => absurd hm hnd2, fun _ => ⟨c.e, ?_, fun e he => ?_⟩⟩
          · rw [findS_cons, if_pos rfl]; simp [hk1]
          · rw [findS_cons, if_pos rfl] at he; exact Option.some.inj he
      · split at hs
        · rename_i hk2
          split at hs
          · cases hs
            refine ⟨fun hm => absurd hm hnd2, fun _ => ⟨c.e, ?_, fun e he => ?_⟩⟩
            · rw [findS_cons, if_pos rfl]; simp [hk2]
            · rw [findS_cons, if_pos rfl] at he; exact Option.some.inj he
          · cases hs
        · split at hs
          · rename_i hk3
            split at hs
            · cases hs
              refine ⟨fun hm => absurd hm hnd2, fun _ => ⟨c.e, ?_, fun e he => ?_⟩⟩
              · rw [findS_drop, if_pos rfl]; simp [hk3]
              · rw [findS_drop, if_pos rfl] at he; cases he
            · cases hs
          · split at hs
            · rename_i hk4
              split at hs
              · cases hs
                refine ⟨fun _ => by simp [hk4], fun hm => absurd (by simp) hm⟩
              · cases hs
            · cases hs
    · have hd : docS k (docF P k) c = docF P k := by
        unfold docS
        cases docF P k with
        | none => rfl
        | some p => dsimp only; rw [if_neg hk]
      rw [hd]
      have hkk : ¬ k = c.e.key := fun e => hk e.symm
      have hm4 : k ∈ c.e.key :: s.2 ↔ k ∈ s.2 := by simp [hkk]
      split at hs
      · split at hs
        · cases hs
        · cases hs
          rw [findS_cons, if_neg hk, findS_drop, if_neg hkk]
          exact ⟨h1, h2⟩
      · split at hs
        · split at hs
          · cases hs
            rw [findS_cons, if_neg hk, findS_drop, if_neg hkk]
            exact ⟨h1, h2⟩
          · cases hs
        · split at hs
          · split at hs
            · cases hs
              rw [findS_drop, if_neg hkk]
              exact ⟨h1, h2⟩
            · cases hs
          · split at hs
            · split at hs
              · cases hs
                dsimp only
                rw [findS_drop, if_neg hkk, hm4]
                exact ⟨h1, h2⟩
              · cases hs
            · cases hs
theorem okD_step {P : List Cm} {s : San} (h : SanR P s) (c : Cm) : okD P c = (stepS s c).isSome := by
  obtain ⟨h1, h2⟩ := h c.e.key
  unfold okD stepS
  by_cases hd : c.e.key ∈ s.2
  · rw [h1 hd, if_pos (.inl hd)]
    rfl
  · obtain ⟨is, e1, e2⟩ := h2 hd
    rw [e1]
    dsimp only
    obtain ⟨fs, hfs⟩ : ∃ fs, findS s.1 c.e.key = fs := ⟨_, rfl⟩
    rw [hfs] at e2 ⊢
    unfold badC
    by_cases hl : c.late < 0
    · rw [if_pos (.inr hl), decide_eq_true hl]
      rfl
    · rw [if_neg (by rintro (h | h); exact hd h; exact hl h), decide_eq_false hl, Bool.false_or]
      by_cases k1 : c.kind = 1
      · rw [if_pos k1, k1]
        cases fs <;> simp
      · rw [if_neg k1]
        by_cases k2 : c.kind = 2
        · rw [if_pos k2, k2]
          cases fs <;> simp
        · rw [if_neg k2]
          by_cases k3 : c.kind = 3
          · rw [if_pos k3, k3]
            cases fs <;> simp
          · rw [if_neg k3]
            by_cases k4 : c.kind = 4
            · rw [if_pos k4, k4]
              cases fs with
              | none => cases c.played <;> simp
              | some z =>
                have := e2 z rfl
                subst this
                by_cases hz : is = c.e
                · cases hp : c.played <;> simp [hz]
                · cases hp : c.played <;> simp [hz]
            · rw [if_neg k4]
              by_cases k5 : c.kind < 1
              · simp [k5]
              · have k6 : 4 < c.kind := by omega
                simp [k6]
theorem sanR_nil : SanR [] ([], []) := fun k => ⟨fun h => by simp at h, fun _ => ⟨zeroE, rfl, fun e he => by simp [findS] at he⟩⟩
theorem fold_rel : ∀ (l P : List Cm) (s : San), SanR P s → (foldS s l).isSome = (List.range l.length).all fun i => match l[i]? with | none => true | some c => okD (P ++ l.take i) c
  | [], _, _, _ => rfl
  | c :: r, P, s, h => by
    have ho := okD_step h c
    rw [List.length_cons, List.range_succ_eq_map, List.all_cons, List.all_map]
    simp only [List.getElem?_cons_zero, List.take_zero, List.append_nil]
    unfold foldS
    cases hs : stepS s c with
    | none =>
      rw [hs] at ho
      simp [ho]
    | some s' =>
      rw [hs] at ho
      have ih := fold_rel r (P ++ [c]) s' (sanR_step h hs)
      dsimp only
      rw [ih, ho]
      simp only [Option.isSome_some, Bool.true_and]
      congr 1
      funext i
      simp
theorem sane_same (l : List Cm) : saneF l = saneD l := by
  have := fold_rel l [] ([], []) sanR_nil
  unfold saneF saneD
  rw [this]
  simp
end Go.Proofs.Yteccmklacgpodaa

namespace Go.Proofs.Yteccmklacgpodaa
open Go.RowKit
theorem foldS_app : ∀ (a b : List Cm) (s t : San), foldS s a = some t → foldS s (a ++ b) = foldS t b
  | [], b, s, t, h => by
    simp only [foldS, Option.some.injEq] at h
    subst h; rfl
  | c :: a, b, s, t, h => by
    unfold foldS at h
    rw [List.cons_append]
    cases hc : stepS s c with
    | none => rw [hc] at h; cases h
    | some u =>
      rw [hc] at h
      have := foldS_app a b u t h
      conv => lhs; unfold foldS
      rw [hc]
      exact this
structure SInv (S : List Ev) (T : List TEnt) (com : Int) : Prop where
  live : ∀ x ∈ S, x ∈ toldAt T x.frame
  rows : ∀ p ∈ T, com < p.1 ∧ SortedE p.2.2 ∧ ∀ e ∈ p.2.2, e.frame = p.1
/-- The maps of Sane hold what the ledger holds. -/
structure SRel (s : San) (S : List Ev) (com : Int) : Prop where
  eqv : ∀ k, findS s.1 k = findS S k
  done : ∀ k ∈ s.2, k.frame ≤ com
theorem toldAt_row (T : List TEnt) (f : Int) : toldAt T f = [] ∨ ∃ p ∈ T, p.1 = f ∧ toldAt T f = p.2.2 := by
  unfold toldAt
  cases hf : T.find? (fun p => decide (p.1 = f)) with
  | none => exact .inl rfl
  | some p => exact .inr ⟨p, List.mem_of_find?_eq_some hf, by simpa using List.find?_some hf, rfl⟩
theorem SInv.told {S : List Ev} {T : List TEnt} {com : Int} (h : SInv S T com) (f : Int) : SortedE (toldAt T f) ∧ ∀ e ∈ toldAt T f, e.frame = f ∧ com < f := by
  rcases toldAt_row T f with h0 | ⟨p, hp, hpf, he⟩
  · rw [h0]; exact ⟨List.Pairwise.nil, by simp⟩
  · obtain ⟨h1, h2, h3⟩ := h.rows p hp
    rw [he]
    exact ⟨h2, fun e hem => ⟨by rw [h3 e hem, hpf], by rw [← hpf]; exact h1⟩⟩
theorem SInv.frame {S : List Ev} {T : List TEnt} {com : Int} (h : SInv S T com) {x : Ev} (hx : x ∈ S) : com < x.frame := ((h.told x.frame).2 x (h.live x hx)).2
theorem findS_put {S : List Ev} (h : LvOk S) {e : Ev} (he : evOk e = true) (hk : ∀ x ∈ S, x.key ≠ e.key) (k : Key4) : findS (putE S e) k = if e.key = k then some e else findS S k := by
  have hok := h.put he hk
  have hp := putE_perm S e
  by_cases hke : e.key = k
  · rw [if_pos hke, ← hke]
    exact findS_mem hok.sorted (hp.mem_iff.2 (by simp))
  · rw [if_neg hke]
    cases hf : findS S k with
    | some z =>
      obtain ⟨h1, h2⟩ := findS_some hf
      rw [← h2]
      exact findS_mem hok.sorted (hp.mem_iff.2 (List.mem_cons_of_mem _ h1))
    | none =>
      rw [findS_none]
      intro x hx
      rcases List.mem_cons.1 (hp.mem_iff.1 hx) with rfl | hx
      · exact hke
      · exact findS_none.1 hf x hx
def cm3 (o : Ev) : Cm := ⟨3, o, 0, false⟩
theorem step3 {s : San} {S : List Ev} {com : Int} (h : SRel s S com) (hs : SortedE S) {o : Ev} (ho : o ∈ S) (hf : com < o.frame) : stepS s (cm3 o) = some (dropK s.1 o.key, s.2) ∧ SRel (dropK s.1 o.key, s.2) (dropK S o.key) com := by
  have hnd : o.key ∉ s.2 := fun hm => by have := h.done _ hm; unfold Ev.key at this; dsimp only at this; omega
  have hsome : (findS s.1 o.key).isSome = true := by rw [h.eqv, findS_mem hs ho]; rfl
  refine ⟨?_, fun k => ?_, h.done⟩
  · unfold stepS cm3
    dsimp only
    rw [if_neg (by rintro (h | h); exact hnd h; omega), if_neg (by decide), if_neg (by decide), if_pos rfl, if_pos hsome]
  · rw [findS_drop, findS_drop, h.eqv]
theorem cancel_sane {evs : List Ev} {com : Int} : ∀ (O : List Ev) (t : Sc) (s : San), SRel s t.1 com → LvOk t.1 → (∀ o ∈ O, o ∈ t.1 ∧ com < o.frame) → O.Pairwise (fun a b => a.key ≠ b.key) →
    ∃ s' outs, (O.foldl (cancelS evs) t).2 = t.2 ++ outs ∧ foldS s outs = some s' ∧ SRel s' (O.foldl (cancelS evs) t).1 com
  | [], t, s, h, _, _, _ => ⟨s, [], by simp, rfl, h⟩
  | o :: O, t, s, h, hok, hO, hp => by
    rw [List.pairwise_cons] at hp
    rw [List.foldl_cons]
    by_cases hs : staysE evs o = true
    · have : cancelS evs t o = t := by unfold cancelS; rw [if_pos hs]
      rw [this]
      exact cancel_sane O t s h hok (fun x hx => hO x (by simp [hx])) hp.2
    · have hc : cancelS evs t o = (dropK t.1 o.key, t.2 ++ [cm3 o]) := by unfold cancelS; rw [if_neg hs]; rfl
      obtain ⟨ho1, ho2⟩ := hO o (by simp)
      obtain ⟨h1, h2⟩ := step3 h hok.sorted ho1 ho2
      obtain ⟨s', outs, e1, e2, e3⟩ := cancel_sane (evs := evs) O (dropK t.1 o.key, t.2 ++ [cm3 o]) _ h2 (hok.drop _) (fun x hx => ⟨mem_dropK.2 ⟨(hO x (by simp [hx])).1, fun e => hp.1 x hx e.symm⟩, (hO x (by simp [hx])).2⟩) hp.2
      rw [hc]
      refine ⟨s', cm3 o :: outs, by rw [e1]; simp, ?_, e3⟩
      unfold foldS
      rw [h1]
      exact e2
theorem start_sane {most now com : Int} : ∀ (L : List Ev) (t : Sc) (s : San), SRel s t.1 com → LvOk t.1 → (∀ e ∈ L, evOk e = true ∧ com < e.frame ∧ 0 ≤ now - e.frame) →
    ∃ s' outs, (L.foldl (startS most now) t).2 = t.2 ++ outs ∧ foldS s outs = some s' ∧ SRel s' (L.foldl (startS most now) t).1 com
  | [], t, s, h, _, _ => ⟨s, [], by simp, rfl, h⟩
  | e :: L, t, s, h, hok, hL => by
    rw [List.foldl_cons]
    obtain ⟨he1, he2, he3⟩ := hL e (by simp)
    have hnd : e.key ∉ s.2 := fun hm => by have := h.done _ hm; unfold Ev.key at this; dsimp only at this; omega
    have hL' := fun x (hx : x ∈ L) => hL x (by simp [hx])
    cases hf : findS t.1 e.key with
    | some z =>
      by_cases hz : z = e
      · have : startS most now t e = t := by unfold startS; rw [hf]; dsimp only; rw [if_pos hz]
        rw [this]
        exact start_sane L t s h hok hL'
      · have hc : startS most now t e = (putE (dropK t.1 e.key) e, t.2 ++ [⟨2, e, 0, false⟩]) := by unfold startS; rw [hf]; dsimp only; rw [if_neg hz]
        have h1 : stepS s ⟨2, e, 0, false⟩ = some (e :: dropK s.1 e.key, s.2) := by
          unfold stepS
          dsimp only
          rw [if_neg (by rintro (h | h); exact hnd h; omega), if_neg (by decide), if_pos rfl, if_pos (by rw [h.eqv, hf]; rfl)]
        have h2 : SRel (e :: dropK s.1 e.key, s.2) (putE (dropK t.1 e.key) e) com := ⟨fun k => by
          rw [findS_cons, findS_put (hok.drop _) he1 (fun x hx => (mem_dropK.1 hx).2), findS_drop, findS_drop, h.eqv], h.done⟩
        obtain ⟨s', outs, e1, e2, e3⟩ := start_sane (most := most) (now := now) L (putE (dropK t.1 e.key) e, t.2 ++ [⟨2, e, 0, false⟩]) _ h2 ((hok.drop _).put he1 (fun x hx => (mem_dropK.1 hx).2)) hL'
        rw [hc]
        refine ⟨s', ⟨2, e, 0, false⟩ :: outs, by rw [e1]; simp, ?_, e3⟩
        unfold foldS
        rw [h1]
        exact e2
    | none =>
      have hn := findS_none.1 hf
      by_cases hl : (t.1.length : Int) < most
      · have hc : startS most now t e = (putE t.1 e, t.2 ++ [⟨1, e, now - e.frame, false⟩]) := by unfold startS; rw [hf]; dsimp only; rw [if_pos hl]
        have h1 : stepS s ⟨1, e, now - e.frame, false⟩ = some (e :: dropK s.1 e.key, s.2) := by
          unfold stepS
          dsimp only
          rw [if_neg (by rintro (h | h); exact hnd h; omega), if_pos rfl, if_neg (by rw [h.eqv, hf]; decide)]
        have h2 : SRel (e :: dropK s.1 e.key, s.2) (putE t.1 e) com := ⟨fun k => by
          rw [findS_cons, findS_put hok he1 hn, findS_drop, h.eqv]
          by_cases hk : e.key = k
          · rw [if_pos hk, if_pos hk]
          · rw [if_neg hk, if_neg hk, if_neg (fun e => hk e.symm)], h.done⟩
        obtain ⟨s', outs, e1, e2, e3⟩ := start_sane (most := most) (now := now) L (putE t.1 e, t.2 ++ [⟨1, e, now - e.frame, false⟩]) _ h2 (hok.put he1 hn) hL'
        rw [hc]
        refine ⟨s', ⟨1, e, now - e.frame, false⟩ :: outs, by rw [e1]; simp, ?_, e3⟩
        unfold foldS
        rw [h1]
        exact e2
      · have : startS most now t e = t := by unfold startS; rw [hf]; dsimp only; rw [if_neg hl]
        rw [this]
        exact start_sane L t s h hok hL'
theorem mem_start_sub {most now : Int} : ∀ (L : List Ev) (s : Sc), LvOk s.1 → (∀ e ∈ L, evOk e = true) → ∀ x, x ∈ (L.foldl (startS most now) s).1 → x ∈ L ∨ (x ∈ s.1 ∧ ∀ e ∈ L, x.key ≠ e.key)
  | [], s, _, _, x, hx => .inr ⟨hx, by simp⟩
  | o :: L, s, h, ho, x, hx => by
    rw [List.foldl_cons] at hx
    rcases mem_start_sub L _ (startS_ok h (ho o (by simp))) (fun e he => ho e (by simp [he])) x hx with h1 | ⟨h1, h2⟩
    · exact .inl (by simp [h1])
    · have h3 : x = o ∨ (x ∈ s.1 ∧ x.key ≠ o.key) := by
        unfold startS at h1
        cases hf : findS s.1 o.key with
        | some z =>
          rw [hf] at h1
          dsimp only at h1
          split at h1
          · rename_i hz
            subst hz
            by_cases hk : x.key = z.key
            · left
              have := findS_mem h.sorted h1
              rw [hk, hf] at this
              exact (Option.some.inj this).symm
            · exact .inr ⟨h1, hk⟩
          · rcases List.mem_cons.1 ((putE_perm _ _).mem_iff.1 h1) with rfl | h1
            · exact .inl rfl
            · exact .inr (mem_dropK.1 h1)
        | none =>
          rw [hf] at h1
          dsimp only at h1
          split at h1
          · rcases List.mem_cons.1 ((putE_perm _ _).mem_iff.1 h1) with rfl | h1
            · exact .inl rfl
            · exact .inr ⟨h1, findS_none.1 hf x h1⟩
          · exact .inr ⟨h1, findS_none.1 hf x h1⟩
      rcases h3 with rfl | ⟨h3, h4⟩
      · exact .inl (by simp)
      · refine .inr ⟨h3, fun e he => ?_⟩
        rcases List.mem_cons.1 he with rfl | he
        · exact h4
        · exact h2 e he
theorem toldAt_set (T : List TEnt) (f : Int) (v : Value) (evs : List Ev) (j : Int) : toldAt (setT T f v evs) j = if f = j then evs else toldAt T j := by
  unfold toldAt setT
  rw [List.find?_cons]
  by_cases h : f = j
  · simp [h]
  · rw [if_neg h]
    simp only [h, decide_false]
    rw [List.find?_filter]
    congr 1
    congr 1
    funext p
    by_cases hp : p.1 = j
    · have hjf : ¬ j = f := fun e => h e.symm
      simp [hp, hjf]
    · simp [hp]
theorem toldAt_del (T : List TEnt) (f j : Int) (h : j ≠ f) : toldAt (delT T f) j = toldAt T j := by
  unfold toldAt delT
  rw [List.find?_filter]
  congr 1
  congr 1
  funext p
  by_cases hp : p.1 = j
  · simp [hp, h]
  · simp [hp]
theorem pw_keys {S : List Ev} (h : SortedE S) : S.Pairwise (fun a b => a.key ≠ b.key) := h.imp fun hab e => by rw [e] at hab; exact hab.irrefl
theorem sane_tell {most now com f : Int} {S evs : List Ev} {T : List TEnt} {s : San} {v : Value} (hS : LvOk S) (hI : SInv S T com) (hR : SRel s S com) (ha : argB evs f now = true) (hc : com < f) :
    ∃ s', foldS s (tellF most now evs f S).2 = some s' ∧ SRel s' (tellF most now evs f S).1 com ∧ SInv (tellF most now evs f S).1 (setT T f v evs) com := by
  obtain ⟨a1, a2, a3, -⟩ := argB_of ha
  obtain ⟨c1, -, -⟩ := cancelF_ok (evs := evs) (f := f) hS
  have hof : ∀ o ∈ ofF f S, o ∈ S ∧ o.frame = f := fun o ho => by
    obtain ⟨h1, h2⟩ := List.mem_filter.1 ho
    exact ⟨h1, by simpa using h2⟩
  obtain ⟨s1, o1, e1, e2, e3⟩ := cancel_sane (evs := evs) (ofF f S) (S, []) s hR hS (fun o ho => ⟨(hof o ho).1, by rw [(hof o ho).2]; exact hc⟩) (pw_keys ((hS.filter _).sorted))
  obtain ⟨s2, o2, e4, e5, e6⟩ := start_sane (most := most) (now := now) evs (cancelF evs f S) s1 e3 c1 (fun e he => ⟨(a2 e he).1, by rw [(a2 e he).2]; exact hc, by rw [(a2 e he).2]; omega⟩)
  have hout : (tellF most now evs f S).2 = o1 ++ o2 := by
    unfold tellF
    rw [e4]
    show (cancelF evs f S).2 ++ o2 = _
    unfold cancelF
    rw [e1]
    simp
  refine ⟨s2, by rw [hout, foldS_app _ _ _ _ e2]; exact e5, e6, fun x hx => ?_, fun p hp => ?_⟩
  · rw [toldAt_set]
    unfold tellF at hx
    rcases mem_start_sub evs _ c1 (fun e he => (a2 e he).1) x hx with h1 | ⟨h1, h2⟩
    · rw [if_pos (a2 x h1).2.symm]; exact h1
    · obtain ⟨h3, h4⟩ := cancel_sub evs _ _ x h1
      by_cases hxf : f = x.frame
      · have hst := h4 (List.mem_filter.2 ⟨h3, by simp [hxf]⟩)
        unfold staysE at hst
        obtain ⟨e, he, hke⟩ := List.any_eq_true.1 hst
        simp only [Bool.and_eq_true, decide_eq_true_eq] at hke
        exact absurd hke.1.symm (h2 e he)
      · rw [if_neg hxf]
        exact hI.live x h3
  · rcases setT_1 p hp with rfl | ⟨hp, -⟩
    · exact ⟨hc, ordered_sorted a1, fun e he => (a2 e he).2⟩
    · exact hI.rows p hp
theorem commit_sane {com : Int} : ∀ (L : List Ev) (t : Sc) (s : San), (∀ k, findS s.1 k = findS t.1 k) → LvOk t.1 → (∀ e ∈ L, e.frame = com) → L.Pairwise (fun a b => a.key ≠ b.key) → (∀ e ∈ L, findS t.1 e.key = none ∨ findS t.1 e.key = some e) → (∀ k ∈ s.2, k.frame ≤ com ∧ ∀ e ∈ L, e.key ≠ k) →
    ∃ s' outs, (L.foldl commitS t).2 = t.2 ++ outs ∧ foldS s outs = some s' ∧ SRel s' (L.foldl commitS t).1 com ∧ outs.map (·.e) = L
  | [], t, s, h, _, _, _, _, hd => ⟨s, [], by simp, rfl, ⟨h, fun k hk => (hd k hk).1⟩, rfl⟩
  | e :: L, t, s, h, hok, hf, hp, hl, hd => by
    rw [List.pairwise_cons] at hp
    have hnd : e.key ∉ s.2 := fun hm => (hd _ hm).2 e (by simp) rfl
    have hle := hl e (by simp)
    have h1 : stepS s ⟨4, e, 0, (findS t.1 e.key).isSome⟩ = some (dropK s.1 e.key, e.key :: s.2) := by
      unfold stepS
      dsimp only
      rw [if_neg (by rintro (h | h); exact hnd h; omega), if_neg (by decide), if_neg (by decide), if_neg (by decide), if_pos rfl, h, if_pos]
      refine ⟨rfl, ?_⟩
      rcases hle with h0 | h0
      · left; rw [h0]; rfl
      · exact .inr h0
    have hc : commitS t e = (dropK t.1 e.key, t.2 ++ [⟨4, e, 0, (findS t.1 e.key).isSome⟩]) := rfl
    obtain ⟨s', outs, e1, e2, e3, e4⟩ := commit_sane (com := com) L (commitS t e) (dropK s.1 e.key, e.key :: s.2) (fun k => by rw [hc, findS_drop]; show _ = findS (dropK t.1 e.key) k; rw [findS_drop, h]) (hok.drop _) (fun x hx => hf x (by simp [hx])) hp.2
      (fun x hx => by
        show findS (dropK t.1 e.key) x.key = none ∨ findS (dropK t.1 e.key) x.key = some x
        rw [findS_drop, if_neg (fun h => hp.1 x hx h.symm)]
        exact hl x (by simp [hx]))
      (fun k hk => by
        rcases List.mem_cons.1 hk with rfl | hk
        · exact ⟨Int.le_of_eq (hf e (by simp)), fun x hx h => hp.1 x hx h.symm⟩
        · exact ⟨(hd k hk).1, fun x hx => (hd k hk).2 x (by simp [hx])⟩)
    rw [List.foldl_cons]
    refine ⟨s', ⟨4, e, 0, (findS t.1 e.key).isSome⟩ :: outs, by rw [e1, hc]; simp, ?_, e3, by rw [List.map_cons, e4]⟩
    unfold foldS
    rw [h1]
    exact e2
theorem mem_commit_fold : ∀ (L : List Ev) (t : Sc) (x : Ev), x ∈ (L.foldl commitS t).1 → x ∈ t.1 ∧ ∀ e ∈ L, x.key ≠ e.key
  | [], t, x, h => ⟨h, by simp⟩
  | e :: L, t, x, h => by
    rw [List.foldl_cons] at h
    obtain ⟨h1, h2⟩ := mem_commit_fold L _ x h
    have h3 : x ∈ dropK t.1 e.key := h1
    obtain ⟨h4, h5⟩ := mem_dropK.1 h3
    refine ⟨h4, fun y hy => ?_⟩
    rcases List.mem_cons.1 hy with rfl | hy
    · exact h5
    · exact h2 y hy
theorem sane_commit {com : Int} {S : List Ev} {T : List TEnt} {s : San} (hS : LvOk S) (hI : SInv S T com) (hR : SRel s S com) :
    ∃ s', foldS s (commitF (toldAt T (com + 1)) S).2 = some s' ∧ SRel s' (commitF (toldAt T (com + 1)) S).1 (com + 1) ∧ SInv (commitF (toldAt T (com + 1)) S).1 (delT T (com + 1)) (com + 1) ∧ (commitF (toldAt T (com + 1)) S).2.map (·.e) = toldAt T (com + 1) := by
  obtain ⟨t1, t2⟩ := hI.told (com + 1)
  obtain ⟨s', outs, e1, e2, e3, e4⟩ := commit_sane (com := com + 1) (toldAt T (com + 1)) (S, []) s hR.eqv hS (fun e he => (t2 e he).1) (pw_keys t1)
    (fun e he => by
      cases hf : findS S e.key with
      | none => exact .inl rfl
      | some z =>
        right
        obtain ⟨h1, h2⟩ := findS_some hf
        have h3 := hI.live z h1
        have hzf : z.frame = com + 1 := by
          have := congrArg Key4.frame h2
          unfold Ev.key at this
          dsimp only at this
          rw [this]; exact (t2 e he).1
        rw [hzf] at h3
        have h4 := findS_mem t1 h3
        have h5 := findS_mem t1 he
        rw [h2, h5] at h4
        rw [Option.some.inj h4])
    (fun k hk => ⟨by have := hR.done k hk; omega, fun e he h => by
      have h1 := hR.done k hk
      rw [← h] at h1
      have h2 := (t2 e he).1
      unfold Ev.key at h1
      dsimp only at h1
      omega⟩)
  have hout : (commitF (toldAt T (com + 1)) S).2 = outs := by
    unfold commitF
    rw [e1]
    simp
  refine ⟨s', by rw [hout]; exact e2, e3, ⟨fun x hx => ?_, fun p hp => ?_⟩, by rw [hout]; exact e4⟩
  · obtain ⟨h1, h2⟩ := mem_commit_fold _ _ x hx
    have h3 := hI.live x h1
    have hne : x.frame ≠ com + 1 := fun e => by
      rw [e] at h3
      exact h2 x h3 rfl
    rw [toldAt_del _ _ _ hne]
    exact h3
  · obtain ⟨h1, h2⟩ := (delT_1 p).1 hp
    obtain ⟨h3, h4, h5⟩ := hI.rows p h1
    refine ⟨?_, h4, h5⟩
    have : p.1 ≠ com + 1 := fun e => h2 (by rw [e])
    omega
theorem cancel_all : ∀ (O : List Ev) (t : Sc), (O.foldl (cancelS []) t).2 = t.2 ++ haltF O
  | [], t => by simp [haltF]
  | o :: O, t => by
    have hc : cancelS [] t o = (dropK t.1 o.key, t.2 ++ [⟨3, o, 0, false⟩]) := rfl
    rw [List.foldl_cons, cancel_all O, hc]
    simp [haltF]
theorem sane_halt {com : Int} {S : List Ev} {T : List TEnt} {s : San} (hS : LvOk S) (hI : SInv S T com) (hR : SRel s S com) :
    ∃ s', foldS s (haltF S) = some s' ∧ SRel s' [] com ∧ SInv [] T com := by
  obtain ⟨s1, o1, e1, e2, e3⟩ := cancel_sane (evs := []) S (S, []) s hR hS (fun o ho => ⟨ho, hI.frame ho⟩) (pw_keys hS.sorted)
  rw [cancel_all] at e1
  have h1 : haltF S = o1 := by simpa using e1
  have h2 : (S.foldl (cancelS []) (S, [])).1 = [] := by
    rw [List.eq_nil_iff_forall_not_mem]
    intro x hx
    obtain ⟨h3, h4⟩ := cancel_sub [] S (S, []) x hx
    have := h4 h3
    unfold staysE at this
    simp at this
  rw [h2] at e3
  exact ⟨s1, by rw [h1]; exact e2, e3, (fun x hx => by cases hx), hI.rows⟩
theorem sInv_nil : SInv [] [] (-1) := ⟨(fun x hx => by cases hx), (fun p hp => by cases hp)⟩
theorem sRel_nil : SRel ([], []) [] (-1) := ⟨fun _ => rfl, fun k hk => by cases hk⟩
end Go.Proofs.Yteccmklacgpodaa

namespace Go.Proofs.Yteccmklacgpodaa
open Go.RowKit
set_option maxRecDepth 100000
set_option linter.unusedSimpArgs false
theorem KeptX.toBelow {w w' : World} {X : List Nat} {B : Nat} (h : KeptX w w' X) (hX : ∀ x ∈ X, B ≤ x) (hB : B ≤ w.heap.size) : Below B w w' := ⟨h.os, h.tape, h.output, h.size, fun k hk => h.block k (Nat.lt_of_lt_of_le hk hB) (fun hx => by have := hX k hx; omega)⟩
/-- A new ledger. -/
theorem new_lg (n : Int) (w : World) (h : 1 ≤ n ∧ n ≤ 256) : Calls Try.prog 9 #[.int .i64 n] w fun e w' => e = .returned (.tuple #[.pointer (some ⟨w.heap.size + 2, 0, none⟩), .int .i64 0]) ∧ LgW w' (w.heap.size + 2) w.heap.size (w.heap.size + 1) n [] [] (-1) false ∧ Below w.heap.size w w' := by
  refine (new_ok n w h).mono ?_
  rintro e w' ⟨rfl, rfl⟩
  have hs1 : (w.alloc (.map #[] 0)).heap.size = w.heap.size + 1 := by simp
  have hs2 : ((w.alloc (.map #[] 0)).alloc (.map #[] 0)).heap.size = w.heap.size + 2 := by simp
  refine ⟨rfl, ⟨?_, ?_, ?_, by simp, by omega⟩, bAlloc (bAlloc (bAlloc (Below.refl _ _) _) _) _⟩
  · have := Blk.new ((w.alloc (.map #[] 0)).alloc (.map #[] 0)) 62 #[.int .i64 n, .map (some w.heap.size), .map (some (w.heap.size + 1)), .int .i64 (-1), .bool false]
    rwa [hs2] at this
  · have h1 : MapIs Key4.val Ev.val Try.prog 41 (w.alloc (.map #[] 0)) w.heap.size [] := MapIs.made w
    exact h1.same ((Below.heap_alloc _ _ _ (by simp; omega)).trans (Below.heap_alloc _ _ _ (by simp)))
  · have h1 : MapIs (Value.int .i64) (fun p : Value × List Ev => p.1) Try.prog 3 ((w.alloc (.map #[] 0)).alloc (.map #[] 0)) (w.alloc (.map #[] 0)).heap.size [] := MapIs.made _
    rw [hs1] at h1
    exact h1.same (Below.heap_alloc _ _ _ (by simp))
def awE : Ev := ⟨0, 1, 1, 0, 0, 0, 0, 0, 0⟩
set_option maxHeartbeats 4000000 in
theorem awake_any (w : World) : Calls Try.prog 8 #[] w fun e w' => e = .returned (.bool true) ∧ Below w.heap.size w w' := by
  have HN := Lib.hid (new_lg 4 w (by omega))
  go_enter Try.func8, Try.ntmps8
  go_upto_region 3 with (first | (go_at_call 9; refine HN.out.mono ?_; rintro e w1 ⟨rfl, hg1, hb1⟩; have HG1 := Lib.hid hg1; have HB1 := Lib.hid hb1; clear hg1 hb1))
  obtain ⟨w2, hw2⟩ : ∃ w2, w2 = w1.alloc (.cells #[.int .i64 awE.frame, .int .i64 awE.emitter, .int .i64 awE.kind, .int .i64 awE.ord, .int .i64 awE.asset, .int .i64 awE.gain, .int .i64 awE.pan, .int .i64 awE.prio, .int .i64 awE.len] 43) := ⟨_, rfl⟩
  have hw2' : w2 = w1.alloc (.cells #[.int .i64 0, .int .i64 1, .int .i64 1, .int .i64 0, .int .i64 0, .int .i64 0, .int .i64 0, .int .i64 0, .int .i64 0] 43) := hw2
  have HE2 : Hid (Blk w2 w1.heap.size 43 #[.int .i64 0, .int .i64 1, .int .i64 1, .int .i64 0, .int .i64 0, .int .i64 0, .int .i64 0, .int .i64 0, .int .i64 0]) := Lib.hid (by rw [hw2']; exact Blk.new _ _ _)
  have HG2 : Hid (LgW w2 (w.heap.size + 2) w.heap.size (w.heap.size + 1) 4 [] [] (-1) false) := Lib.hid (by rw [hw2]; exact HG1.out.alloc _)
  have HB2 : Hid (Below w.heap.size w w2) := Lib.hid (by rw [hw2]; exact bAlloc HB1.out _)
  rw [← hw2']
  clear hw2 hw2'
  obtain ⟨e0, e1, e2, e3, e4, e5, e6, e7, e8⟩ := Blk.ev HE2.out
  have lE := HE2.out.lt
  have HT : Hid (Calls Try.prog 14 #[.pointer (some ⟨w.heap.size + 2, 0, none⟩), .agg #[.int .i64 0, .slice (some ⟨w2.heap.size, 0, none⟩) 1 1], .int .i64 2] (w2.alloc (.cells #[.int .i64 0, .int .i64 1, .int .i64 1, .int .i64 0, .int .i64 0, .int .i64 0, .int .i64 0, .int .i64 0, .int .i64 0] 43)) fun e w' => ∃ (A' : Option Addr) (n' c' : Nat) (v : Value), e = .returned (.tuple #[.slice A' n' c', .int .i64 0]) ∧ OwnL w' w.heap.size 57 12 (.slice A' n' c') Cm.cells [⟨1, awE, 2, false⟩] ∧ LgW w' (w.heap.size + 2) w.heap.size (w.heap.size + 1) 4 [awE] (setT [] 0 v [awE]) (-1) false ∧ Below w.heap.size w w') := Lib.hid (by
    have hal := HG2.out.alloc (.cells #[.int .i64 0, .int .i64 1, .int .i64 1, .int .i64 0, .int .i64 0, .int .i64 0, .int .i64 0, .int .i64 0, .int .i64 0] 43)
    have hrd := rd_new w2 #[.int .i64 0, .int .i64 1, .int .i64 1, .int .i64 0, .int .i64 0, .int .i64 0, .int .i64 0, .int .i64 0, .int .i64 0] 43 _ rfl _ (Nat.lt_succ_self _)
    have := tell_ok hal LvOk.nil (by decide) (by decide) (by decide) 0 2 (some ⟨w2.heap.size, 0, none⟩) 1 [awE] (by decide) (by rw [World.size_alloc]; exact hrd) (by decide +kernel) (by intro e he; rw [List.mem_singleton.1 he]; decide +kernel) (by decide) (by decide)
    have ht : tellF 4 2 [awE] 0 [] = ([awE], [⟨1, awE, 2, false⟩]) := by decide +kernel
    rw [ht] at this
    refine this.mono ?_
    rintro e w' ⟨A', n', c', v, rfl, h1, h2, h3⟩
    have hws := HB2.out.size
    refine ⟨A', n', c', v, rfl, h1.more (by rw [World.size_alloc]; omega), h2, ?_⟩
    exact (bAlloc HB2.out _).trans (h3.toBelow (by intro x hx; simp at hx; omega) (by rw [World.size_alloc]; omega)))
  go_upto_region 4 with (first | (go_at_call 14; refine HT.out.mono ?_; rintro e w3 ⟨A3, n3, c3, v3, rfl, ho3, hg3, hb3⟩; have HO3 := Lib.hid ho3; have HG3 := Lib.hid hg3; have HB3 := Lib.hid hb3; clear ho3 hg3 hb3))
  clear e0 e1 e2 e3 e4 e5 e6 e7 e8 lE HE2 HG2 HB2 HT HG1 HB1
  have HT : Hid (Calls Try.prog 14 #[.pointer (some ⟨w.heap.size + 2, 0, none⟩), .agg #[.int .i64 0, .slice none 0 0], .int .i64 3] w3 fun e w' => ∃ (A' : Option Addr) (n' c' : Nat), e = .returned (.tuple #[.slice A' n' c', .int .i64 0]) ∧ OwnL w' w3.heap.size 57 12 (.slice A' n' c') Cm.cells [⟨3, awE, 0, false⟩] ∧ OwnL w' w.heap.size 57 12 (.slice A3 n3 c3) Cm.cells [⟨1, awE, 2, false⟩] ∧ Below w.heap.size w w') := Lib.hid (by
    have hok : LvOk [awE] := ⟨List.pairwise_singleton _ _, by intro e he; rw [List.mem_singleton.1 he]; decide +kernel⟩
    have := tell_ok HG3.out hok (by decide) (by decide) (by unfold setT; simp) 0 3 none 0 [] (by decide) (Rd.nil _ _ _) (by decide +kernel) (by simp) (by decide) (by decide)
    have ht : tellF 4 3 [] 0 [awE] = ([], [⟨3, awE, 0, false⟩]) := by decide +kernel
    rw [ht] at this
    refine this.mono ?_
    rintro e w' ⟨A', n', c', v, rfl, h1, h2, h3⟩
    have hws := HB3.out.size
    obtain ⟨es, ck, hl⟩ := HG3.out.live.block
    obtain ⟨es', ck', ht'⟩ := HG3.out.told.block
    refine ⟨A', n', c', rfl, h1, HO3.out.same (fun k hk => h3.block k (HO3.out.block_lt k hk) ?_), ?_⟩
    · intro hx
      simp only [List.mem_cons, List.not_mem_nil, or_false] at hx
      rcases hx with rfl | rfl
      · exact HO3.out.noMap hl hk
      · exact HO3.out.noMap ht' hk
    · exact HB3.out.trans (h3.toBelow (by intro x hx; simp at hx; omega) (by omega)))
  go_upto_region 5 with (first | (go_at_call 14; refine HT.out.mono ?_; rintro e w4 ⟨A4, n4, c4, rfl, ho4, ho34, hb4⟩; have HO4 := Lib.hid ho4; have HO34 := Lib.hid ho34; have HB4 := Lib.hid hb4; clear ho4 ho34 hb4))
  obtain ⟨g3, rfl, rfl, -, l3⟩ := HO34.out.formA (by decide)
  obtain ⟨g4, rfl, rfl, -, l4⟩ := HO4.out.formA (by decide)
  have c30 := HO34.out.cell Cm.cells_length (k := 0) (j := 0) (by decide) rfl
  have c32 := HO34.out.cell Cm.cells_length (k := 0) (j := 10) (by decide) rfl
  have c40 := HO4.out.cell Cm.cells_length (k := 0) (j := 0) (by decide) rfl
  simp only [Nat.zero_mul, Nat.zero_add] at c30 c32 c40
  clear HO3 HG3 HB3 HT
  go_wp2
  go_ret
  exact ⟨rfl, HB4.out⟩
end Go.Proofs.Yteccmklacgpodaa

namespace Go.Proofs.Yteccmklacgpodaa
open Go.RowKit Go.WideShapes Go.ChangeShapes
set_option maxRecDepth 100000
/-- An act: what is done, a page, how far behind. -/
structure ActP where
  kind : Int
  frame : Int
  A : Option Addr
  c : Nat
  evs : List Ev
  by_ : Int
def ActP.cells (a : ActP) : List Value := [.int .i64 a.kind, .int .i64 a.frame, .slice a.A a.evs.length a.c, .int .i64 a.by_]
theorem ActP.cells_length (a : ActP) : a.cells.length = 4 := rfl
structure ActP.In (a : ActP) (w : World) : Prop where
  kind : I64 a.kind
  frame : I64 a.frame
  by_ : I64 a.by_
  rows : Rd w w.heap.size a.A (a.evs.flatMap Ev.cells)
section
variable {H : Type} {enc : TypeId × Value → H} {w : World} {held : Bool}
theorem Try.cellsAct : Try.prog.cellsOf 32 = 4 := by kernel_rfl
theorem Try.cellsPage : Try.prog.cellsOf 30 = 2 := by kernel_rfl
theorem Try.cellsEvs : Try.prog.cellsOf 28 = 1 := by kernel_rfl
theorem act_of_trod {fuel : Nat} {cs : List Value} {y : DataW H × List MemPlace} (h : DataW.trod enc Try.prog w 0 (fun _ => true) held fuel 32 cs = some y) : ∃ a : ActP, cs = a.cells ∧ a.In w := by
  obtain ⟨xs, n, -, -, hlen, hxl, hg⟩ := DataW.trod_struct Try.underlying32 h
  rw [Try.cellsAct] at hlen
  match cs, hlen with
  | [c0, c1, c2, c3], _ =>
    simp only [List.size_toArray, List.length_cons, List.length_nil] at hxl
    match xs, hxl with
    | [y0, y1, y2], _ =>
      have k0 : DataW.trod enc Try.prog w 0 (fun _ => true) held n 3 ((List.drop 0 [c0, c1, c2, c3]).take (Try.prog.cellsOf 3)) = some y0 := hg 0 _ rfl
      rw [Try.cellsInt] at k0
      have k1 : DataW.trod enc Try.prog w 0 (fun _ => true) held n 30 ((List.drop 1 [c0, c1, c2, c3]).take (Try.prog.cellsOf 30)) = some y1 := hg 1 _ rfl
      rw [Try.cellsPage] at k1
      have k2 : DataW.trod enc Try.prog w 0 (fun _ => true) held n 3 ((List.drop 3 [c0, c1, c2, c3]).take (Try.prog.cellsOf 3)) = some y2 := hg 2 _ rfl
      rw [Try.cellsInt] at k2
      obtain ⟨xs', n', -, -, -, hxl', hg'⟩ := DataW.trod_struct Try.underlying30 k1
      simp only [List.size_toArray, List.length_cons, List.length_nil] at hxl'
      match xs', hxl' with
      | [z0, z1], _ =>
        have j0 : DataW.trod enc Try.prog w 0 (fun _ => true) held n' 3 ((List.drop 0 [c1, c2]).take (Try.prog.cellsOf 3)) = some z0 := hg' 0 _ rfl
        rw [Try.cellsInt] at j0
        have j1 : DataW.trod enc Try.prog w 0 (fun _ => true) held n' 28 ((List.drop 1 [c1, c2]).take (Try.prog.cellsOf 28)) = some z1 := hg' 1 _ rfl
        rw [Try.cellsEvs] at j1
        obtain ⟨a0, e0, -, w0⟩ := DataW.trod_int Try.underlying3 k0
        obtain ⟨a1, e1, -, w1⟩ := DataW.trod_int Try.underlying3 j0
        obtain ⟨a3, e3, -, w3⟩ := DataW.trod_int Try.underlying3 k2
        obtain ⟨A, m, c, css, e2, rfl, hn, hm, hr, hall⟩ := rows_of_trod Try.underlying28 Try.cellsEv (by omega) j1
        simp only [List.drop_zero, List.drop_succ_cons, List.take_succ_cons, List.take_zero, List.cons.injEq, and_true] at e0 e1 e2 e3
        subst e0 e1 e2 e3
        obtain ⟨l, rfl, -⟩ := list_of_forms (f := Ev.cells) (p := Ev.Fit) (l := css) (fun cs hcs => by
          obtain ⟨-, fuel, y, hy⟩ := hall cs hcs
          exact ev_of_trod hy)
        refine ⟨⟨a0, a1, A, c, l, a3⟩, by simp [ActP.cells], bd_of_wf w0, bd_of_wf w1, bd_of_wf w3, ?_⟩
        rw [List.flatMap_def]; exact hr
theorem open_act {r : Reach} {b0 : Nat} {v : Value} {d : DataW H} {p : List MemPlace} (hv : Value.okWide Try.prog w r b0 32 v) (h : DataW.Trod enc Try.prog w 0 (fun _ => true) held 32 v d p) :
    ∃ a : ActP, v = .agg #[.int .i64 a.kind, .int .i64 a.frame, .slice a.A a.evs.length a.c, .int .i64 a.by_] ∧ a.In w := by
  obtain ⟨cs, rfl, -⟩ := okWide_struct Try.underlying32 hv
  obtain ⟨fuel, hf⟩ := h
  obtain ⟨a, hk, hi⟩ := act_of_trod hf
  refine ⟨a, ?_, hi⟩
  have : cs.toList = a.cells := hk
  rw [← Array.toArray_toList (xs := cs), this]
  rfl
theorem open_acts {r : Reach} {b0 : Nat} {v : Value} {d : DataW H} {p : List MemPlace} (hv : Value.okWide Try.prog w r b0 22 v) (h : DataW.Trod enc Try.prog w 0 (fun _ => true) held 22 v d p) :
    ∃ (A : Option Addr) (c : Nat) (l : List ActP), v = .slice A l.length c ∧ (l.length ≤ c ∧ c ≤ maxLen) ∧ Rd w w.heap.size A (l.flatMap ActP.cells) ∧ ∀ a ∈ l, a.In w := by
  obtain ⟨A, n, c, css, rfl, rfl, hn, hm, hr, hall⟩ := open_rows Try.underlying22 Try.cellsAct (by omega) hv h
  obtain ⟨l, rfl, hin⟩ := list_of_forms (f := ActP.cells) (p := fun a => a.In w) (l := css) (fun cs hcs => by
    obtain ⟨-, fuel, y, hy⟩ := hall cs hcs
    exact act_of_trod hy)
  refine ⟨A, c, l, by rw [List.length_map], ⟨by rw [List.length_map] at hn; omega, hm⟩, ?_, hin⟩
  rw [List.flatMap_def]; exact hr
end
end Go.Proofs.Yteccmklacgpodaa

namespace Go.Proofs.Yteccmklacgpodaa
open Go.RowKit
set_option maxRecDepth 100000
set_option linter.unusedSimpArgs false
theorem Rd.act {w : World} {B : Nat} {A : Option Addr} {l : List ActP} (h : Rd w B A (l.flatMap ActP.cells)) {k : Nat} (hk : k < l.length) :
    ∃ b off, A = some ⟨b, off, none⟩ ∧ b < B ∧ w.cell? ⟨b, off + k * 4, none⟩ = some (.int .i64 l[k].kind) ∧ w.cell? ⟨b, off + k * 4 + 1, none⟩ = some (.int .i64 l[k].frame) ∧ w.cell? ⟨b, off + k * 4 + 2, none⟩ = some (.slice l[k].A l[k].evs.length l[k].c) ∧ w.cell? ⟨b, off + k * 4 + 3, none⟩ = some (.int .i64 l[k].by_) := by
  obtain ⟨b, off, hA, hb, hat⟩ := h.at_ ActP.cells_length (by omega) hk
  exact ⟨b, off, hA, hb, hat 0 _ rfl, hat 1 _ rfl, hat 2 _ rfl, hat 3 _ rfl⟩
/-- The ledger in a law's loop: all its blocks are the call's own. -/
structure LgR (w W : World) (g gl gt : Nat) (most : Int) (i : Nat) (S : List Ev) (T : List TEnt) (com : Int) (halt : Bool) : Prop where
  lg : LgW W g gl gt most S T com halt
  below : Below w.heap.size w W
  own : w.heap.size ≤ g ∧ w.heap.size ≤ gl ∧ w.heap.size ≤ gt
  ok : LvOk S
  len : (S.length : Int) ≤ most
  told : TOk T
  tlen : T.length ≤ i
  com : -1 ≤ com ∧ com ≤ 1073741824 + i
section
variable {w W W' : World} {g gl gt i : Nat} {most com : Int} {halt : Bool} {S : List Ev} {T : List TEnt}
theorem LgR.on (h : LgR w W g gl gt most i S T com halt) (hb : Below W.heap.size W W') : LgR w W' g gl gt most i S T com halt :=
  ⟨h.lg.on hb, h.below.trans (hb.mono h.below.size), h.own, h.ok, h.len, h.told, h.tlen, h.com⟩
theorem LgR.step (h : LgR w W g gl gt most i S T com halt) : LgR w W g gl gt most (i + 1) S T com halt :=
  ⟨h.lg, h.below, h.own, h.ok, h.len, h.told, Nat.le_trans h.tlen (Nat.le_succ _), h.com.1, by have := h.com.2; omega⟩
theorem LgR.tell (h : LgR w W g gl gt most i S T com halt) {f now : Int} {v : Value} {evs : List Ev} (hE : fitsE halt com evs f now = 0) (hL : LgW W' g gl gt most (tellF most now evs f S).1 (setT T f v evs) com halt) (hk : KeptX W W' [gl, gt]) : LgR w W' g gl gt most (i + 1) (tellF most now evs f S).1 (setT T f v evs) com halt := by
  obtain ⟨-, ha, -⟩ := fitsE_zero hE
  obtain ⟨h1, h2, -, -⟩ := argB_of ha
  obtain ⟨t1, t2, -⟩ := tellF_ok (most := most) (now := now) (f := f) h.ok (fun e he => (h2 e he).1) h.len
  refine ⟨hL, h.below.trans (hk.toBelow (fun x hx => ?_) h.below.size), h.own, t1, t2, setT_ok h.told (fun e he => (h2 e he).1) (ordered_len h1), Nat.le_trans (setT_len _ _ _ _) (Nat.succ_le_succ h.tlen), h.com.1, by have := h.com.2; omega⟩
  obtain ⟨-, o2, o3⟩ := h.own
  simp only [List.mem_cons, List.not_mem_nil, or_false] at hx
  rcases hx with rfl | rfl
  · exact o2
  · exact o3
theorem LgR.commit (h : LgR w W g gl gt most i S T com false) (hL : LgW W' g gl gt most (commitF (toldAt T (com + 1)) S).1 (delT T (com + 1)) (com + 1) false) (hk : KeptX W W' [g, gl, gt]) : LgR w W' g gl gt most (i + 1) (commitF (toldAt T (com + 1)) S).1 (delT T (com + 1)) (com + 1) false := by
  obtain ⟨t1, t2⟩ := commitF_ok h.ok (toldAt T (com + 1))
  refine ⟨hL, h.below.trans (hk.toBelow (fun x hx => ?_) h.below.size), h.own, t1, by have := h.len; omega, delT_ok h.told _, Nat.le_trans (delT_len _ _) (Nat.le_trans h.tlen (Nat.le_succ _)), by have := h.com.1; omega, by have := h.com.2; omega⟩
  obtain ⟨o1, o2, o3⟩ := h.own
  simp only [List.mem_cons, List.not_mem_nil, or_false] at hx
  rcases hx with rfl | rfl | rfl
  · exact o1
  · exact o2
  · exact o3
end
/-- What is none of the ledger's stays. -/
theorem LgW.blkX {W W' : World} {g gl gt : Nat} {most com : Int} {halt : Bool} {S : List Ev} {T : List TEnt} (h : LgW W g gl gt most S T com halt) {r : Nat} {E : TypeId} {cs : Array Value} (hb : Blk W r E cs) (hE : E ≠ 62) {X : List Nat} (hk : KeptX W W' X) (hX : ∀ x ∈ X, x = g ∨ x = gl ∨ x = gt) : Blk W' r E cs := by
  obtain ⟨es, ck, hl⟩ := h.live.block
  obtain ⟨es', ck', ht⟩ := h.told.block
  refine (hk.block r hb.lt (fun hx => ?_)).trans hb
  rcases hX r hx with rfl | rfl | rfl
  · have h2 := h.blk
    unfold Blk at h2 hb
    rw [hb] at h2
    injection h2 with h2
    injection h2 with _ h3
    exact hE h3
  · exact hb.noMap hl rfl
  · exact hb.noMap ht rfl
theorem LgW.ownX {α : Type} {W W' : World} {g gl gt : Nat} {most com : Int} {halt : Bool} {S : List Ev} {T : List TEnt} (h : LgW W g gl gt most S T com halt) {base : Nat} {E : TypeId} {m : Nat} {v : Value} {f : α → List Value} {l : List α} (ho : OwnL W base E m v f l) (hE : E ≠ 62) {X : List Nat} (hk : KeptX W W' X) (hX : ∀ x ∈ X, x = g ∨ x = gl ∨ x = gt) : OwnL W' base E m v f l := by
  obtain ⟨es, ck, hl⟩ := h.live.block
  obtain ⟨es', ck', ht⟩ := h.told.block
  refine ho.same (fun k hv => hk.block k (ho.block_lt k hv) (fun hx => ?_))
  rcases hX k hx with rfl | rfl | rfl
  · exact h.blk.apart ho hE.symm hv
  · exact ho.noMap hl hv
  · exact ho.noMap ht hv
theorem wpList_app_evU {w : World} {ops : Array Oper} {rest : List Oper} {o : Oper} {a : Act} {Q : Exit → Act → World → Prop} (hgd : o.guard = none) (s x : Operand)
    (ho : o.op = .call { callee := .builtin .append, args := #[s, x], argTypes := #[28, 28] })
    (base : Nat) (u : Value) (L M : List Ev) (hown : OwnL w base 43 9 u Ev.cells L) (hs : a.eval s = u)
    (B : Nat) (A : Option Addr) (m c : Nat) (hm : m = M.length) (hx : a.eval x = .slice A m c) (hr : Rd w B A (M.flatMap Ev.cells)) (hn : L.length + M.length ≤ 1000000000) (hbase : base ≤ w.heap.size)
    (h : ∀ A' c' n' w', OwnL w' base 43 9 (.slice A' n' c') Ev.cells (L ++ M) → w.grownBy w' u.ownBlock → ((Value.slice A' n' c').ownBlock = u.ownBlock ∨ (Value.slice A' n' c').ownBlock = some w.heap.size) → wpList Try.prog ops Q rest (a.put o.dst (.slice A' n' c')) w') : wpList Try.prog ops Q (o :: rest) a w := by
  subst hm
  obtain ⟨i0, hi0, hz0, hz1, hz2⟩ := info_parts Try.infoEv
  refine wpList_append_rd hgd s x 28 ho base 43 i0 _ 9 72 Try.underlying28 hi0 hz0 hz1 hz2 rfl (by decide) u L.length (L.flatMap Ev.cells) hs hown B A M.length c (M.flatMap Ev.cells) hx (length_flatMap_const _ _ Ev.cells_length _) hr (rd_none Ev.cells_length (by decide) hr) (evs_oneCell M) (by unfold maxLen; omega) (by omega) hbase ?_
  intro v' w' hw hg hat
  have ho' : OwnL w' base 43 9 v' Ev.cells (L ++ M) := OwnL.app (n := L.length + M.length) rfl hw
  obtain ⟨A', c', rfl⟩ := ho'.shape
  exact h A' c' _ w' ho' hg hat
theorem ofF_snoc (f : Int) (S : List Ev) (k : Nat) (hk : k < S.length) : ofF f (S.take (k + 1)) = ofF f (S.take k) ++ (if S[k].frame = f then [S[k]] else []) := by
  unfold ofF
  rw [List.take_succ_eq_append_getElem hk, List.filter_append]
  congr 1
  by_cases h : S[k].frame = f
  · simp [h]
  · simp [h]
/-- Tell, in a law's loop. -/
theorem tell_lgr {w W : World} {g gl gt i : Nat} {most com : Int} {halt : Bool} {S : List Ev} {T : List TEnt} (h : LgR w W g gl gt most i S T com halt) (hm : most ≤ 256) (hi : i ≤ 200) (f now : Int) (A : Option Addr) (c : Nat) (evs : List Ev) (hr : Rd W W.heap.size A (evs.flatMap Ev.cells)) (hE : fitsE halt com evs f now = 0) :
    Calls Try.prog 14 #[.pointer (some ⟨g, 0, none⟩), .agg #[.int .i64 f, .slice A evs.length c], .int .i64 now] W fun e W' => ∃ (A' : Option Addr) (n' c' : Nat) (v : Value), e = .returned (.tuple #[.slice A' n' c', .int .i64 0]) ∧ OwnL W' W.heap.size 57 12 (.slice A' n' c') Cm.cells (tellF most now evs f S).2 ∧
      LgR w W' g gl gt most (i + 1) (tellF most now evs f S).1 (setT T f v evs) com halt ∧ KeptX W W' [gl, gt] := by
  obtain ⟨-, ha, hc⟩ := fitsE_zero hE
  obtain ⟨h1, h2, h3, h4⟩ := argB_of ha
  have hcom := h.com
  refine (tell_ok h.lg h.ok h.len hm (Nat.le_trans h.tlen (by omega)) f now A c evs (ordered_len h1) hr hE h2 (by omega) (by omega)).mono ?_
  rintro e W' ⟨A', n', c', v, rfl, k1, k2, k3⟩
  exact ⟨A', n', c', v, rfl, k1, h.tell hE k2 k3, k3⟩
theorem commit_lgr {w W : World} {g gl gt i : Nat} {most com : Int} {S : List Ev} {T : List TEnt} (h : LgR w W g gl gt most i S T com false) (hi : i ≤ 200) :
    Calls Try.prog 11 #[.pointer (some ⟨g, 0, none⟩), .int .i64 (com + 1)] W fun e W' => ∃ (A' : Option Addr) (n' c' : Nat), e = .returned (.tuple #[.slice A' n' c', .int .i64 0]) ∧ OwnL W' W.heap.size 57 12 (.slice A' n' c') Cm.cells (commitF (toldAt T (com + 1)) S).2 ∧
      LgR w W' g gl gt most (i + 1) (commitF (toldAt T (com + 1)) S).1 (delT T (com + 1)) (com + 1) false ∧ KeptX W W' [g, gl, gt] := by
  have hcom := h.com
  refine (commit_ok h.lg h.ok h.told (by omega)).mono ?_
  rintro e W' ⟨A', n', c', rfl, k1, k2, k3⟩
  exact ⟨A', n', c', rfl, k1, h.commit k2 k3, k3⟩
/-- A new ledger in a law. -/
theorem new_lgr (n : Int) (w : World) (h : 1 ≤ n ∧ n ≤ 256) {w0 : World} (h0 : Below w0.heap.size w0 w) : Calls Try.prog 9 #[.int .i64 n] w fun e w' => e = .returned (.tuple #[.pointer (some ⟨w.heap.size + 2, 0, none⟩), .int .i64 0]) ∧ LgR w0 w' (w.heap.size + 2) w.heap.size (w.heap.size + 1) n 0 [] [] (-1) false := by
  refine (new_lg n w h).mono ?_
  rintro e w' ⟨rfl, h1, h2⟩
  have := h0.size
  exact ⟨rfl, h1, bTrans h0 h2, ⟨by omega, by omega, by omega⟩, LvOk.nil, (by simp; omega), (fun p hp => by cases hp), Nat.le_refl _, (by omega), (by omega)⟩
end Go.Proofs.Yteccmklacgpodaa

namespace Go.Proofs.Yteccmklacgpodaa
open Go.RowKit
structure SanI (i : Nat) (S : List Ev) (T : List TEnt) (com : Int) (halt : Bool) (all : List Cm) : Prop where
  san : ∃ s, foldS ([], []) all = some s ∧ SRel s S com
  inv : SInv S T com
  wf : ∀ x ∈ all, evOk x.e = true
  len : all.length ≤ 400 * i
  hal : halt = true → S = []
theorem sanI_nil : SanI 0 [] [] (-1) false [] := ⟨⟨_, rfl, sRel_nil⟩, sInv_nil, by simp, by simp, fun _ => rfl⟩
theorem cancel_evs {evs : List Ev} : ∀ (O : List Ev) (t : Sc), (∀ o ∈ O, evOk o = true) → (∀ c ∈ t.2, evOk c.e = true) → ∀ c ∈ (O.foldl (cancelS evs) t).2, evOk c.e = true
  | [], _, _, h => h
  | o :: O, t, ho, h => by
    rw [List.foldl_cons]
    refine cancel_evs O _ (fun x hx => ho x (by simp [hx])) (fun c hc => ?_)
    unfold cancelS at hc
    split at hc
    · exact h c hc
    · rcases List.mem_append.1 hc with hc | hc
      · exact h c hc
      · rw [List.mem_singleton.1 hc]; exact ho o (by simp)
theorem start_evs {most now : Int} : ∀ (O : List Ev) (t : Sc), (∀ o ∈ O, evOk o = true) → (∀ c ∈ t.2, evOk c.e = true) → ∀ c ∈ (O.foldl (startS most now) t).2, evOk c.e = true
  | [], _, _, h => h
  | o :: O, t, ho, h => by
    rw [List.foldl_cons]
    refine start_evs O _ (fun x hx => ho x (by simp [hx])) (fun c hc => ?_)
    unfold startS at hc
    split at hc
    · split at hc
      · exact h c hc
      · rcases List.mem_append.1 hc with hc | hc
        · exact h c hc
        · rw [List.mem_singleton.1 hc]; exact ho o (by simp)
    · split at hc
      · rcases List.mem_append.1 hc with hc | hc
        · exact h c hc
        · rw [List.mem_singleton.1 hc]; exact ho o (by simp)
      · exact h c hc
section
variable {i : Nat} {S : List Ev} {T : List TEnt} {com : Int} {halt : Bool} {all : List Cm}
theorem SanI.stay (h : SanI i S T com halt all) : SanI (i + 1) S T com halt (all ++ []) := by
  rw [List.append_nil]
  exact ⟨h.san, h.inv, h.wf, by have := h.len; omega, h.hal⟩
theorem SanI.tell (h : SanI i S T com halt all) (hS : LvOk S) {most now f : Int} {evs : List Ev} {v : Value} (hl : (S.length : Int) ≤ most) (hm : most ≤ 256) (hE : fitsE halt com evs f now = 0) : SanI (i + 1) (tellF most now evs f S).1 (setT T f v evs) com halt (all ++ (tellF most now evs f S).2) := by
  obtain ⟨hh, ha, hc⟩ := fitsE_zero hE
  obtain ⟨s, e1, e2⟩ := h.san
  obtain ⟨s', q1, q2, q3⟩ := sane_tell (most := most) (v := v) hS h.inv e2 ha hc
  obtain ⟨a1, a2, -, -⟩ := argB_of ha
  obtain ⟨-, -, t3⟩ := tellF_ok (most := most) (now := now) (f := f) hS (fun e he => (a2 e he).1) hl
  refine ⟨⟨s', by rw [foldS_app _ _ _ _ e1]; exact q1, q2⟩, q3, fun x hx => ?_, ?_, fun e => by rw [hh] at e; cases e⟩
  · rcases List.mem_append.1 hx with hx | hx
    · exact h.wf x hx
    · refine start_evs evs _ (fun e he => (a2 e he).1) (fun c hc => ?_) x hx
      exact cancel_evs (evs := evs) (ofF f S) (S, []) (fun o ho => hS.ok o (List.mem_filter.1 ho).1) (by simp) c hc
  · have := h.len
    have := ordered_len a1
    rw [List.length_append]
    omega
theorem SanI.commit (h : SanI i S T com false all) (hS : LvOk S) (hT : TOk T) : SanI (i + 1) (commitF (toldAt T (com + 1)) S).1 (delT T (com + 1)) (com + 1) false (all ++ (commitF (toldAt T (com + 1)) S).2) ∧ (commitF (toldAt T (com + 1)) S).2.map (·.e) = toldAt T (com + 1) := by
  obtain ⟨s, e1, e2⟩ := h.san
  obtain ⟨s', q1, q2, q3, q4⟩ := sane_commit hS h.inv e2
  obtain ⟨t1, t2⟩ := toldAt_ok hT (com + 1)
  refine ⟨⟨⟨s', by rw [foldS_app _ _ _ _ e1]; exact q1, q2⟩, q3, fun x hx => ?_, ?_, fun e => by cases e⟩, q4⟩
  · rcases List.mem_append.1 hx with hx | hx
    · exact h.wf x hx
    · refine t1 x.e ?_
      rw [← q4]
      exact List.mem_map.2 ⟨x, hx, rfl⟩
  · have h1 := h.len
    have h2 : (commitF (toldAt T (com + 1)) S).2.length = (toldAt T (com + 1)).length := by rw [← q4, List.length_map, q4]
    rw [List.length_append]
    omega
theorem SanI.halts (h : SanI i S T com false all) (hS : LvOk S) (hl : S.length ≤ 256) : SanI (i + 1) [] T com true (all ++ haltF S) := by
  obtain ⟨s, e1, e2⟩ := h.san
  obtain ⟨s', q1, q2, q3⟩ := sane_halt hS h.inv e2
  refine ⟨⟨s', by rw [foldS_app _ _ _ _ e1]; exact q1, q2⟩, q3, fun x hx => ?_, ?_, fun _ => rfl⟩
  · rcases List.mem_append.1 hx with hx | hx
    · exact h.wf x hx
    · unfold haltF at hx
      obtain ⟨e, he, rfl⟩ := List.mem_map.1 hx
      exact hS.ok e he
  · have h1 := h.len
    rw [List.length_append, haltF_len]
    omega
end
section
variable {w W W' : World} {g gl gt i : Nat} {most com : Int} {halt : Bool} {S : List Ev} {T : List TEnt}
theorem LgR.farR {α : Type} (h : LgR w W g gl gt most i S T com halt) {base : Nat} {E : TypeId} {m : Nat} {v : Value} {f : α → List Value} {l : List α} (ho : OwnL W base E m v f l) (hb : w.heap.size ≤ base) (hg : W.grownBy W' v.ownBlock) (h1 : E ≠ 62) (h2 : E ≠ 43) : LgR w W' g gl gt most i S T com halt :=
  ⟨h.lg.farR ho hg h1 h2, h.below.grown hg h.below.size (fun k hk => Nat.le_trans hb (ho.base_le k hk)), h.own, h.ok, h.len, h.told, h.tlen, h.com⟩
theorem LgR.halts (h : LgR w W g gl gt most i S T com false) (hm : 0 ≤ most) (hL : LgW W' g gl gt most [] T com true) (hk : KeptX W W' [g, gl]) : LgR w W' g gl gt most (i + 1) [] T com true := by
  obtain ⟨o1, o2, o3⟩ := h.own
  refine ⟨hL, h.below.trans (hk.toBelow (fun x hx => ?_) h.below.size), h.own, LvOk.nil, by simpa using hm, h.told, Nat.le_trans h.tlen (Nat.le_succ _), h.com.1, by have := h.com.2; omega⟩
  simp only [List.mem_cons, List.not_mem_nil, or_false] at hx
  rcases hx with rfl | rfl
  · exact o1
  · exact o2
end
end Go.Proofs.Yteccmklacgpodaa
