/-
  The closures of a change that is looked at, and IndexFunc and ContainsFunc under them.
-/
import Derived.Test.YtdjfpdndaobohaaOrd
import Derived.Test.YtdjfpdndaobohaaEventSearch
namespace Go.Proofs.Ytdjfpdndaobohaa
open Go.RowKit Go.Shelf
set_option maxRecDepth 100000
set_option linter.unusedSimpArgs false
/-- A row of keys: the k-th. -/
theorem Rd.key4 {w : World} {B : Nat} {A : Option Addr} {l : List Key4} (h : Rd w B A (l.flatMap Key4.cells)) {k : Nat} (hk : k < l.length) :
    ∃ b off, A = some ⟨b, off, none⟩ ∧ b < B ∧ w.cell? ⟨b, off + k * 4, none⟩ = some (.int .i64 l[k].frame) ∧ w.cell? ⟨b, off + k * 4 + 1, none⟩ = some (.int .i64 l[k].emitter) ∧ w.cell? ⟨b, off + k * 4 + 2, none⟩ = some (.int .i64 l[k].kind) ∧ w.cell? ⟨b, off + k * 4 + 3, none⟩ = some (.int .i64 l[k].ord) := by
  obtain ⟨b, off, hA, hb, hat⟩ := h.at_ Key4.cells_length (by omega) hk
  exact ⟨b, off, hA, hb, hat 0 _ rfl, hat 1 _ rfl, hat 2 _ rfl, hat 3 _ rfl⟩
section
variable {base g : Nat} {A : Option Addr} {c : Nat} {L : List Ev} {w : World}
set_option maxHeartbeats 1000000 in
theorem fits1_any (k : Key4) (W : World) (hg : g < W.heap.size) (hc : W.cell? ⟨g, 0, none⟩ = some (.slice A L.length c)) (hL : L.length ≤ 1000) (hr : Rd W W.heap.size A (L.flatMap Ev.cells)) (hs : SortedE L) :
    Calls Try.prog 62 #[k.val, .pointer (some ⟨g, 0, none⟩)] W fun e w' => e = .returned (.bool (!foundK L k)) ∧ Below W.heap.size W w' := by
  have HH := Lib.hid (fun V (hV : Below W.heap.size W V) => has_any A c L k V hL ((hr.below hV (Nat.le_refl _)).more hV.size) hs)
  have hb0 := bAlloc (Below.refl W.heap.size W) (.cells #[.int .i64 k.frame, .int .i64 k.emitter, .int .i64 k.kind, .int .i64 k.ord] 23)
  unfold Key4.val at HH ⊢
  clear hr hs
  go_enter Try.func62, Try.ntmps62
  go_wp2_with (first | (go_at_call 30; refine (HH.out _ hb0).mono ?_; rintro e w1 ⟨rfl, hb1⟩))
  go_ret
  exact ⟨rfl, bTrans hb0 hb1⟩
set_option maxHeartbeats 1000000 in
theorem fits2_any (x : Ev) (W : World) (hg : g < W.heap.size) (hc : W.cell? ⟨g, 0, none⟩ = some (.slice A L.length c)) (hL : L.length ≤ 1000) (hr : Rd W W.heap.size A (L.flatMap Ev.cells)) (hs : SortedE L) :
    Calls Try.prog 63 #[x.val, .pointer (some ⟨g, 0, none⟩)] W fun e w' => e = .returned (.bool (!foundK L x.key)) ∧ Below W.heap.size W w' := by
  have HH := Lib.hid (fun V (hV : Below W.heap.size W V) => has_any A c L x.key V hL ((hr.below hV (Nat.le_refl _)).more hV.size) hs)
  have hb0 := bAlloc (Below.refl W.heap.size W) (.cells #[.int .i64 x.frame, .int .i64 x.emitter, .int .i64 x.kind, .int .i64 x.ord, .int .i64 x.asset, .int .i64 x.gain, .int .i64 x.pan, .int .i64 x.prio, .int .i64 x.len] 25)
  unfold Key4.val at HH
  unfold Ev.val
  clear hr hs
  go_enter Try.func63, Try.ntmps63
  go_wp2_with (first | (go_at_call 30; refine (HH.out _ hb0).mono ?_; rintro e w1 ⟨rfl, hb1⟩))
  go_ret
  exact ⟨rfl, bTrans hb0 hb1⟩
set_option maxHeartbeats 1000000 in
theorem fits3_any (x : Ev) (W : World) (hg : g < W.heap.size) (hc : W.cell? ⟨g, 0, none⟩ = some (.slice A L.length c)) (hL : L.length ≤ 1000) (hr : Rd W W.heap.size A (L.flatMap Ev.cells)) (hs : SortedE L) :
    Calls Try.prog 64 #[x.val, .pointer (some ⟨g, 0, none⟩)] W fun e w' => e = .returned (.bool (foundK L x.key)) ∧ Below W.heap.size W w' := by
  have HH := Lib.hid (fun V (hV : Below W.heap.size W V) => has_any A c L x.key V hL ((hr.below hV (Nat.le_refl _)).more hV.size) hs)
  have hb0 := bAlloc (Below.refl W.heap.size W) (.cells #[.int .i64 x.frame, .int .i64 x.emitter, .int .i64 x.kind, .int .i64 x.ord, .int .i64 x.asset, .int .i64 x.gain, .int .i64 x.pan, .int .i64 x.prio, .int .i64 x.len] 25)
  unfold Key4.val at HH
  unfold Ev.val
  clear hr hs
  go_enter Try.func64, Try.ntmps64
  go_wp2_with (first | (go_at_call 30; refine (HH.out _ hb0).mono ?_; rintro e w1 ⟨rfl, hb1⟩))
  go_ret
  exact ⟨rfl, bTrans hb0 hb1⟩
end
/-- The first of a list that a test holds of. -/
def idxP {α : Type} (p : α → Bool) (k : Nat) : List α → Int
  | [] => -1
  | x :: r => if p x then k else idxP p (k + 1) r
theorem idxP_any {α : Type} (p : α → Bool) : ∀ (L : List α) (k : Nat), decide (0 ≤ idxP p k L) = L.any p
  | [], k => rfl
  | x :: r, k => by
    unfold idxP
    rw [List.any_cons]
    cases h : p x
    · rw [if_neg (by decide), idxP_any p r (k + 1), Bool.false_or]
    · rw [if_pos rfl]; simp
theorem idxP_bd {α : Type} (p : α → Bool) : ∀ (L : List α) (k : Nat), -1 ≤ idxP p k L ∧ idxP p k L ≤ k + L.length
  | [], k => by unfold idxP; simp
  | x :: r, k => by
    unfold idxP
    split
    · simp only [List.length_cons]; omega
    · have := idxP_bd p r (k + 1)
      simp only [List.length_cons]; omega
section
variable {f : Nat} {pv : Value}
set_option maxHeartbeats 2000000 in
theorem ifK_gen (eg : ∀ args w, (callFunc f args).run Try.prog w = .ok (.enter f args) w) (A : Option Addr) (c : Nat) (L : List Key4) (p : Key4 → Bool) (w : World) (hn : L.length ≤ 1000) (hr : Rd w w.heap.size A (L.flatMap Key4.cells))
    (hf : ∀ x W, Below w.heap.size w W → Calls Try.prog f #[x.val, pv] W fun e w' => e = .returned (.bool (p x)) ∧ Below W.heap.size W w') :
    Calls Try.prog 82 #[.slice A L.length c, .func (.func f) #[] #[pv]] w fun e w' => e = .returned (.int .i64 (idxP p 0 L)) ∧ Below w.heap.size w w' := by
  have HR := Lib.hid hr
  have HF := Lib.hid hf
  unfold Key4.val at HF
  clear hr hf
  go_enter Try.func82, Try.ntmps82
  go_wp2
  go_loopw [8] (fun i wr => ∃ k : Nat, k ≤ L.length ∧ i = .int .i64 k ∧ Hid (idxP p 0 L = idxP p k (L.drop k)) ∧ Below w.heap.size w wr) (fun i _ => L.length - (intOf i).toNat)
  case atStart => exact ⟨0, Nat.zero_le _, rfl, rfl, Below.refl _ _⟩
  case round =>
    obtain ⟨k, hk, rfl, hi, hb⟩ := hrel
    by_cases hlt : k < L.length
    · obtain ⟨b, off, rfl, hB, c0, c1, c2, c3⟩ := (HR.out.below hb (Nat.le_refl _)).key4 hlt
      have hst : idxP p k (L.drop k) = if p L[k] then (k : Int) else idxP p (k + 1) (L.drop (k + 1)) := by
        rw [List.drop_eq_getElem_cons hlt, idxP]
      have HS := Lib.hid hst
      obtain ⟨x, hx⟩ : ∃ x, L[k] = x := ⟨_, rfl⟩
      rw [hx] at c0 c1 c2 c3 HS
      have HC := Lib.hid (HF.out x wr hb)
      clear hst hx
      cases hin : p x with
      | true =>
        rw [hin] at HC
        have HI := Lib.hid hin
        clear hin
        go_wp2_with (first | (go_at_fn f; refine HC.out.mono ?_; rintro e w1 ⟨rfl, hb1⟩))
        go_ret
        exact ⟨ret_int (by rw [hi.out, HS.out, HI.out]; rfl), bTrans hb hb1⟩
      | false =>
        rw [hin] at HC
        have HI := Lib.hid hin
        clear hin
        go_wp2_with (first | (go_at_fn f; refine HC.out.mono ?_; rintro e w1 ⟨rfl, hb1⟩))
        go_roundw
        case rel => exact ⟨k + 1, by omega, by go_num, (show _ = _ by rw [hi.out, HS.out, HI.out]; rfl), bTrans hb hb1⟩
        case measure => simp [intOf]; omega
    · have e0 : idxP p 0 L = -1 := by rw [hi.out, List.drop_of_length_le (by omega), idxP]
      have E0 := Lib.hid e0
      clear e0
      go_wp2
      go_ret
      exact ⟨ret_int E0.out.symm, hb⟩
set_option maxHeartbeats 2000000 in
theorem ifE_gen (eg : ∀ args w, (callFunc f args).run Try.prog w = .ok (.enter f args) w) (A : Option Addr) (c : Nat) (L : List Ev) (p : Ev → Bool) (w : World) (hn : L.length ≤ 1000) (hr : Rd w w.heap.size A (L.flatMap Ev.cells))
    (hf : ∀ x W, Below w.heap.size w W → Calls Try.prog f #[x.val, pv] W fun e w' => e = .returned (.bool (p x)) ∧ Below W.heap.size W w') :
    Calls Try.prog 57 #[.slice A L.length c, .func (.func f) #[] #[pv]] w fun e w' => e = .returned (.int .i64 (idxP p 0 L)) ∧ Below w.heap.size w w' := by
  have HR := Lib.hid hr
  have HF := Lib.hid hf
  unfold Ev.val at HF
  clear hr hf
  go_enter Try.func57, Try.ntmps57
  go_wp2
  go_loopw [8] (fun i wr => ∃ k : Nat, k ≤ L.length ∧ i = .int .i64 k ∧ Hid (idxP p 0 L = idxP p k (L.drop k)) ∧ Below w.heap.size w wr) (fun i _ => L.length - (intOf i).toNat)
  case atStart => exact ⟨0, Nat.zero_le _, rfl, rfl, Below.refl _ _⟩
  case round =>
    obtain ⟨k, hk, rfl, hi, hb⟩ := hrel
    by_cases hlt : k < L.length
    · obtain ⟨b, off, rfl, hB, c0, c1, c2, c3, c4, c5, c6, c7, c8⟩ := (HR.out.below hb (Nat.le_refl _)).ev hlt
      have hst : idxP p k (L.drop k) = if p L[k] then (k : Int) else idxP p (k + 1) (L.drop (k + 1)) := by
        rw [List.drop_eq_getElem_cons hlt, idxP]
      have HS := Lib.hid hst
      obtain ⟨x, hx⟩ : ∃ x, L[k] = x := ⟨_, rfl⟩
      rw [hx] at c0 c1 c2 c3 c4 c5 c6 c7 c8 HS
      have HC := Lib.hid (HF.out x wr hb)
      clear hst hx
      cases hin : p x with
      | true =>
        rw [hin] at HC
        have HI := Lib.hid hin
        clear hin
        go_wp2_with (first | (go_at_fn f; refine HC.out.mono ?_; rintro e w1 ⟨rfl, hb1⟩))
        go_ret
        exact ⟨ret_int (by rw [hi.out, HS.out, HI.out]; rfl), bTrans hb hb1⟩
      | false =>
        rw [hin] at HC
        have HI := Lib.hid hin
        clear hin
        go_wp2_with (first | (go_at_fn f; refine HC.out.mono ?_; rintro e w1 ⟨rfl, hb1⟩))
        go_roundw
        case rel => exact ⟨k + 1, by omega, by go_num, (show _ = _ by rw [hi.out, HS.out, HI.out]; rfl), bTrans hb hb1⟩
        case measure => simp [intOf]; omega
    · have e0 : idxP p 0 L = -1 := by rw [hi.out, List.drop_of_length_le (by omega), idxP]
      have E0 := Lib.hid e0
      clear e0
      go_wp2
      go_ret
      exact ⟨ret_int E0.out.symm, hb⟩
set_option maxHeartbeats 2000000 in
theorem cfK_gen (eg : ∀ args w, (callFunc f args).run Try.prog w = .ok (.enter f args) w) (A : Option Addr) (c : Nat) (L : List Key4) (p : Key4 → Bool) (w : World) (hn : L.length ≤ 1000) (hr : Rd w w.heap.size A (L.flatMap Key4.cells))
    (hf : ∀ x W, Below w.heap.size w W → Calls Try.prog f #[x.val, pv] W fun e w' => e = .returned (.bool (p x)) ∧ Below W.heap.size W w') :
    Calls Try.prog 66 #[.slice A L.length c, .func (.func f) #[] #[pv]] w fun e w' => e = .returned (.bool (L.any p)) ∧ Below w.heap.size w w' := by
  have HX := Lib.hid (ifK_gen eg A c L p w hn hr hf)
  have hb := idxP_bd p L 0
  have hd := idxP_any p L 0
  obtain ⟨m, hm⟩ : ∃ m, L.length = m := ⟨_, rfl⟩
  rw [hm] at HX hb hn ⊢
  obtain ⟨x, hx⟩ : ∃ x, idxP p 0 L = x := ⟨_, rfl⟩
  rw [hx] at HX hb hd
  have HD := Lib.hid hd
  clear hr hm hx hd hf
  go_enter Try.func66, Try.ntmps66
  go_wp2_with (first | (go_at_call 82; refine HX.out.mono ?_; rintro e w1 ⟨rfl, hb1⟩))
  go_ret
  exact ⟨ret_bool HD.out, hb1⟩
set_option maxHeartbeats 2000000 in
theorem cfE_gen (eg : ∀ args w, (callFunc f args).run Try.prog w = .ok (.enter f args) w) (A : Option Addr) (c : Nat) (L : List Ev) (p : Ev → Bool) (w : World) (hn : L.length ≤ 1000) (hr : Rd w w.heap.size A (L.flatMap Ev.cells))
    (hf : ∀ x W, Below w.heap.size w W → Calls Try.prog f #[x.val, pv] W fun e w' => e = .returned (.bool (p x)) ∧ Below W.heap.size W w') :
    Calls Try.prog 37 #[.slice A L.length c, .func (.func f) #[] #[pv]] w fun e w' => e = .returned (.bool (L.any p)) ∧ Below w.heap.size w w' := by
  have HX := Lib.hid (ifE_gen eg A c L p w hn hr hf)
  have hb := idxP_bd p L 0
  have hd := idxP_any p L 0
  obtain ⟨m, hm⟩ : ∃ m, L.length = m := ⟨_, rfl⟩
  rw [hm] at HX hb hn ⊢
  obtain ⟨x, hx⟩ : ∃ x, idxP p 0 L = x := ⟨_, rfl⟩
  rw [hx] at HX hb hd
  have HD := Lib.hid hd
  clear hr hm hx hd hf
  go_enter Try.func37, Try.ntmps37
  go_wp2_with (first | (go_at_call 57; refine HX.out.mono ?_; rintro e w1 ⟨rfl, hb1⟩))
  go_ret
  exact ⟨ret_bool HD.out, hb1⟩
end
end Go.Proofs.Ytdjfpdndaobohaa
