/-
  The walks beneath: R12p, SerB, SerX.
-/
import Derived.Test.YtnaclkaapicelaaGameU
import Derived.Test.YtnaclkaapicelaaMb7
import Derived.Test.YtnaclkaapicelaaMb3
import Derived.Test.YtnaclkaapicelaaMb2
import Derived.Test.YtnaclkaapicelaaMb6
namespace Go.Proofs.Ytnaclkaapicelaa
open Go.RowKit
theorem PageOk.tell {F : Int} {L : List Ev} (h : PageOk F L) (em kd ga pr ln x : Int) (hF : 0 ≤ F ∧ F ≤ 1073741824) (hc : cntE L em kd ≤ 15) (h1 : 0 ≤ em ∧ em ≤ 2) (h2 : 1 ≤ kd ∧ kd ≤ 9) (h4 : 0 ≤ ga ∧ ga ≤ 32768) (h5 : 0 ≤ pr ∧ pr ≤ 15) (h6 : 0 ≤ ln ∧ ln ≤ 600) : PageOk F (addE F L (evT em kd kd ga pr ln x)) := by
  refine h.add _ (evOk_ord (evT_ok F _ _ _ _ _ _ _ hF h1 h2 (by omega) h4 h5 h6 0 (by decide)) ⟨by omega, ?_⟩)
  show ((cntE L em kd : Nat) : Int) ≤ 15
  omega
/-- A page that may be, of so many events at most. -/
structure PO (F : Int) (n : Nat) (L : List Ev) : Prop where
  ok : PageOk F L
  len : L.length ≤ n
theorem PO.more {F : Int} {n m : Nat} {L : List Ev} (h : PO F n L) (k : n ≤ m) : PO F m L := ⟨h.ok, Nat.le_trans h.len k⟩
theorem PO.tell {F : Int} {n : Nat} {L : List Ev} (h : PO F n L) (hF : 0 ≤ F ∧ F ≤ 1073741824) (hn : n ≤ 15) (em kd ga pr ln x : Int) (h1 : 0 ≤ em ∧ em ≤ 2) (h2 : 1 ≤ kd ∧ kd ≤ 9) (h4 : 0 ≤ ga ∧ ga ≤ 32768) (h5 : 0 ≤ pr ∧ pr ≤ 15) (h6 : 0 ≤ ln ∧ ln ≤ 600) : PO F (n + 1) (addE F L (evT em kd kd ga pr ln x)) :=
  ⟨h.ok.tell em kd ga pr ln x hF (Nat.le_trans (cntE_le _ _ _) (Nat.le_trans h.len hn)) h1 h2 h4 h5 h6, by rw [addE_length]; have := h.len; omega⟩
section
variable {F : Int} {S : Nat → Int} {L : List Ev} {i : Nat}
theorem em_ok (hi : i < 2) : 0 ≤ (i : Int) + 1 ∧ (i : Int) + 1 ≤ 2 := by omega
theorem PO.fire (h : PO F 13 L) (hF : 0 ≤ F ∧ F ≤ 1073741824) (hi : i < 2) : PO F 14 (fireS i F (S, L)).2 := by
  unfold fireS
  dsimp only
  split
  · exact h.more (by decide)
  · split
    · exact h.tell hF (by decide) _ 1 16384 5 0 _ (em_ok hi) (by decide) (by decide) (by decide) (by decide)
    · exact h.more (by decide)
theorem PO.play (h : PO F 10 L) (hF : 0 ≤ F ∧ F ≤ 1073741824) (hi : i < 2) (n : Nat) : PO F 14 (playS i n F (S, L)).2 := by
  have h1 : ∀ q, PO F 11 (lThrust i q n F L) := fun q => by
    unfold lThrust
    split
    · exact h.tell hF (by decide) _ 8 4096 1 8 _ (em_ok hi) (by decide) (by decide) (by decide) (by decide)
    · exact h.more (by decide)
  have h2 : ∀ p, PO F 12 (steerL i p n F L) := fun p => by
    unfold steerL lDash
    split
    · exact (h1 _).tell hF (by decide) _ 9 8192 4 0 _ (em_ok hi) (by decide) (by decide) (by decide) (by decide)
    · exact (h1 _).more (by decide)
  have h3 : ∀ p q, PO F 13 (lMove i q F (steerL i p n F L)) := fun p q => by
    unfold lMove
    split
    · exact (h2 _).more (by decide)
    · exact (h2 _).tell hF (by decide) _ 3 8192 3 0 _ (em_ok hi) (by decide) (by decide) (by decide) (by decide)
  unfold playS
  dsimp only
  split
  · exact h.more (by decide)
  · split
    · exact (h.tell hF (by decide) _ 6 16384 9 0 _ (em_ok hi) (by decide) (by decide) (by decide) (by decide)).more (by decide)
    · split
      · exact (h3 _ _).fire hF hi
      · exact (h3 _ _).more (by decide)
theorem PageOk.clash (h : PageOk F L) (hF : 0 ≤ F ∧ F ≤ 1073741824) (hL : L.length ≤ 15) : PageOk F (clashS F (S, L)).2 := by
  unfold clashS
  split
  · exact h.tell 0 4 16384 6 0 0 hF (Nat.le_trans (cntE_le _ _ _) hL) (by decide) (by decide) (by decide) (by decide) (by decide)
  · exact h
theorem PageOk.hit (h : PageOk F L) (hF : 0 ≤ F ∧ F ≤ 1073741824) (hi : i < 2) {a b : Nat} (hev : EvN L a b) (hb : b ≤ 14) : PageOk F (hitS i F (S, L)).2 := by
  have h1 : ∀ x : Int, PageOk F (addE F L (evT ((i : Int) + 1) 2 2 32768 8 0 x)) := fun x => h.tell _ 2 32768 8 0 x hF (Nat.le_trans (hev.cnt _ _ (.inl rfl)) (by omega)) (em_ok hi) (by decide) (by decide) (by decide) (by decide)
  have hev2 : ∀ x : Int, EvN (addE F L (evT ((i : Int) + 1) 2 2 32768 8 0 x)) (a + 1) (b + 1) := fun x => hev.hit F _
  unfold hitS
  dsimp only
  split
  · exact h1 _
  · exact (h1 _).tell _ 5 32768 10 0 _ hF (Nat.le_trans ((hev2 _).cnt _ _ (.inr rfl)) (by omega)) (em_ok hi) (by decide) (by decide) (by decide) (by decide)
theorem otherOf_lt (o : Int) : otherOf o < 2 := by unfold otherOf; split <;> decide
theorem PageOk.fly (h : PageOk F L) (hF : 0 ≤ F ∧ F ≤ 1073741824) {a b : Nat} (hev : EvN L a b) (hb : b ≤ 14) (k : Nat) : PageOk F (flyS k F (S, L)).2 := by
  have hT : PageOk F (flyT k F (S, L)).2.2 := by
    unfold flyT
    dsimp only
    split
    · exact h
    · split
      · exact h
      · split
        · exact h.hit hF (otherOf_lt _) hev hb
        · exact h
  unfold flyS
  split
  · exact h
  · split
    · exact hT
    · exact hT
end
section
variable {n0 n1 : Nat} {S : Nat → Int}
theorem stg1_page (hF : 0 ≤ S 0 ∧ S 0 ≤ 1073741824) : PageOk (S 0) (stg1 n0 S).2 := (PO.play (S := S) (i := 0) ⟨PageOk.nil _, by decide⟩ hF (by decide) n0).ok
theorem stg2_page (h : StOk S) : PageOk (S 0) (stg2 n0 n1 S).2 :=
  (PO.play (S := (stg1 n0 S).1) (i := 1) (L := (stg1 n0 S).2) ⟨stg1_page h.m.fr, by have := (stg1_ok n0 h).2.1.len; omega⟩ h.m.fr (by decide) n1).ok
theorem stg3_page (h : StOk S) : PageOk (S 0) (stg3 n0 n1 S).2 :=
  PageOk.clash (S := (stg2 n0 n1 S).1) (L := (stg2 n0 n1 S).2) (stg2_page h) h.m.fr (by have := (stg2_ok n0 n1 h).2.1.len; omega)
theorem stg4_page (h : StOk S) : ∀ k, k ≤ 6 → PageOk (S 0) (stg4 n0 n1 S k).2
  | 0, _ => stg3_page h
  | k + 1, hk => PageOk.fly (S := (stg4 n0 n1 S k).1) (L := (stg4 n0 n1 S k).2) (stg4_page h k (by omega)) h.m.fr (stg4_ok n0 n1 h k (by omega)).2.1 (by omega) k
end
end Go.Proofs.Ytnaclkaapicelaa

namespace Go.Proofs.Ytnaclkaapicelaa.Ser
open Go.RowKit
/-- The ends of rounds among events. -/
def ends (l : List Ev) : List Ev := l.filter fun e => decide (e.kind = 7)
theorem ends_append (l m : List Ev) : ends (l ++ m) = ends l ++ ends m := List.filter_append _ _
theorem ends_none {l : List Ev} (h : NoR l) : ends l = [] := by
  unfold ends
  rw [List.filter_eq_nil_iff]
  intro e he
  simpa using h e he
theorem ends_insL (l : List Ev) (i : Nat) (x : Ev) : (ends (insL l i x)).length = (ends l).length + if x.kind = 7 then 1 else 0 := by
  unfold ends insL
  have e : (l.filter fun e => decide (e.kind = 7)).length = ((l.take i).filter fun e => decide (e.kind = 7)).length + ((l.drop i).filter fun e => decide (e.kind = 7)).length := by
    rw [← List.length_append, ← List.filter_append, List.take_append_drop]
  rw [List.filter_append, List.filter_cons, List.length_append, e]
  by_cases h : x.kind = 7
  · simp [h]; omega
  · simp [h]
theorem out_foldl (l : List Ev) : ∀ t : Thr, (l.foldl stepT t).out.map Rnd.frame = t.out.map Rnd.frame ++ (ends l).map Ev.frame := by
  induction l with
  | nil => intro t; simp [ends]
  | cons e l ih =>
    intro t
    rw [List.foldl_cons, ih]
    unfold stepT ends
    by_cases h : e.kind = 7
    · simp [h]
    · simp [h]
theorem out_frames (l : List Ev) : (thr l).out.map Rnd.frame = (ends l).map Ev.frame := by
  have := out_foldl l ⟨[], 0, 0⟩
  simpa [thr] using this
theorem win_foldl (l : List Ev) : ∀ t : Thr, (∀ r ∈ t.out, r.win = -1 ∨ r.win = 0 ∨ r.win = 1) → ∀ r ∈ (l.foldl stepT t).out, r.win = -1 ∨ r.win = 0 ∨ r.win = 1 := by
  induction l with
  | nil => intro t h; exact h
  | cons e l ih =>
    intro t h
    rw [List.foldl_cons]
    refine ih _ ?_
    unfold stepT
    split
    · intro r hr
      rcases List.mem_append.1 hr with hr | hr
      · exact h r hr
      · rw [List.mem_singleton.1 hr]
        show winOf _ _ = _ ∨ _
        unfold winOf
        split
        · exact .inr (.inl rfl)
        · split
          · exact .inr (.inr rfl)
          · exact .inl rfl
    · exact h
theorem win_thr (l : List Ev) : ∀ r ∈ (thr l).out, r.win = -1 ∨ r.win = 0 ∨ r.win = 1 := win_foldl l _ (by simp)
theorem right_page {F : Int} (hF : 0 ≤ F ∧ F ≤ 1073741824) : ∀ (L M : List Ev) (z : Int), (∀ e ∈ L, e.frame = F) → z ≤ F → (∀ y, y ≤ F → rightEv y M = true) → rightEv z (L ++ M) = true
  | [], M, z, _, hz, hM => hM z hz
  | e :: L, M, z, hL, hz, hM => by
    have he := hL e (by simp)
    rw [List.cons_append, rightEv, he, if_neg (by omega)]
    exact right_page hF L M F (fun x hx => hL x (by simp [hx])) (Int.le_refl _) hM
/-- Pages from frame k on, each of its frame, with one end of a round at most. -/
def Pages : Int → List (List Ev) → Prop
  | _, [] => True
  | k, L :: R => (∀ e ∈ L, e.frame = k) ∧ (ends L).length ≤ 1 ∧ Pages (k + 1) R
theorem pages_right : ∀ (R : List (List Ev)) (k z : Int), Pages k R → 0 ≤ k → k + R.length ≤ 1000000 → z ≤ k → rightEv z R.flatten = true
  | [], _, _, _, _, _, _ => rfl
  | L :: R, k, z, h, h0, hk, hz => by
    obtain ⟨h1, -, h3⟩ := h
    rw [List.length_cons] at hk
    rw [List.flatten_cons]
    exact right_page (by omega) L _ z h1 hz fun y hy => pages_right R (k + 1) y h3 (by omega) (by omega) (by omega)
theorem pages_ends : ∀ (R : List (List Ev)) (k : Int), Pages k R → (∀ e ∈ ends R.flatten, k ≤ e.frame) ∧ (ends R.flatten).Pairwise fun x y => x.frame < y.frame
  | [], _, _ => by simp [ends]
  | L :: R, k, h => by
    obtain ⟨h1, h2, h3⟩ := h
    obtain ⟨q1, q2⟩ := pages_ends R (k + 1) h3
    have hL : ∀ e ∈ ends L, e.frame = k := fun e he => h1 e (List.mem_filter.1 he).1
    rw [List.flatten_cons, ends_append]
    refine ⟨fun e he => ?_, ?_⟩
    · rcases List.mem_append.1 he with he | he
      · rw [hL e he]; exact Int.le_refl _
      · have := q1 e he; omega
    · rw [List.pairwise_append]
      refine ⟨?_, q2, fun x hx y hy => ?_⟩
      · match hl : ends L with
        | [] => exact List.Pairwise.nil
        | [x] => exact List.pairwise_singleton _ _
        | x :: y :: l => rw [hl] at h2; simp at h2
      · have := hL x hx
        have := q1 y hy
        omega
theorem pages_snoc : ∀ (R : List (List Ev)) (L : List Ev) (k : Int), Pages k R → (∀ e ∈ L, e.frame = k + R.length) → (ends L).length ≤ 1 → Pages k (R ++ [L])
  | [], L, k, _, h1, h2 => ⟨fun e he => by rw [h1 e he]; simp, h2, trivial⟩
  | M :: R, L, k, h, h1, h2 => ⟨h.1, h.2.1, pages_snoc R L (k + 1) h.2.2 (fun e he => by rw [h1 e he, List.length_cons]; push_cast; omega) h2⟩
theorem stepS_pg {S : Nat → Int} {n0 n1 : Nat} (h : StOk S) : (∀ e ∈ (stepS n0 n1 S).2, e.frame = S 0) ∧ (ends (stepS n0 n1 S).2).length ≤ 1 := by
  have h4 := (stg4_page (n0 := n0) (n1 := n1) h 6 (Nat.le_refl _)).frame
  have hn := ends_none (stg4_nor n0 n1 S 6)
  show (∀ e ∈ (roundS (S 0) (stg4 n0 n1 S 6)).2, e.frame = S 0) ∧ (ends (roundS (S 0) (stg4 n0 n1 S 6)).2).length ≤ 1
  unfold roundS
  split
  · refine ⟨fun e he => ?_, ?_⟩
    · rcases mem_insL.1 he with rfl | he
      · rfl
      · exact h4 e he
    · unfold addE
      dsimp only
      rw [ends_insL, hn]
      split <;> simp
  · exact ⟨h4, by dsimp only; rw [hn]; simp⟩
theorem preM_pages {a b : Int} {S : Nat → Int} (h : StOk S) (h0 : S 0 = 0) (h2 : S 2 = 0) : ∀ N, N ≤ 100000 → Pages 0 ((preM a b S N).map (·.2.2))
  | 0, _ => trivial
  | N + 1, hN => by
    obtain ⟨k1, k2, -, -⟩ := stM_ok (a := a) (b := b) h h0 h2 N (by omega)
    obtain ⟨p1, p2⟩ := stepS_pg (n0 := (pressZ (stM a b S N) 0 a).toNat) (n1 := (pressZ (stM a b S N) 1 b).toNat) k1
    rw [preM_succ, List.map_append]
    refine pages_snoc _ _ 0 (preM_pages h h0 h2 N (by omega)) (fun e he => ?_) p2
    rw [List.length_map, preM_length, Int.zero_add, ← k2]
    exact p1 e he
/-- What a match's events are as a series. -/
theorem match_series {a b : Int} {S : Nat → Int} (h : StOk S) (h0 : S 0 = 0) (h2 : S 2 = 0) {N : Nat} (hN : N ≤ 5000) {l : List Ev} (hl : (preM a b S N).flatMap (·.2.2) = l) :
    rightEv 0 l = true ∧ ((thr l).out.map Rnd.frame).Pairwise (· < ·) := by
  have hp := preM_pages (a := a) (b := b) h h0 h2 N (by omega)
  have e : ((preM a b S N).map (·.2.2)).flatten = l := by rw [← hl, List.flatMap_def]
  refine ⟨?_, ?_⟩
  · have := pages_right _ 0 0 hp (by decide) (by rw [List.length_map, preM_length]; omega) (by decide)
    rwa [e] at this
  · have := (pages_ends _ 0 hp).2
    rw [e] at this
    rw [out_frames, List.pairwise_map]
    exact this
end Go.Proofs.Ytnaclkaapicelaa.Ser

namespace Go.Proofs.Ytnaclkaapicelaa.Ser
open Go.RowKit
set_option maxRecDepth 100000
theorem evs_len {a b : Int} {S : Nat → Int} (h : StOk S) (h0 : S 0 = 0) (h2 : S 2 = 0) : ∀ N, N ≤ 5000 → ((preM a b S N).flatMap (·.2.2)).length ≤ 22 * N
  | 0, _ => by simp [preM]
  | N + 1, hN => by
    obtain ⟨k1, k2, k3, k4⟩ := stM_ok (a := a) (b := b) h h0 h2 N (by omega)
    have := (stepS_ok (pressZ (stM a b S N) 0 a).toNat (pressZ (stM a b S N) 1 b).toNat k1 (by omega) (by omega)).2.1
    have h3 := evs_len (a := a) (b := b) h h0 h2 N (by omega)
    rw [preM_succ, List.flatMap_append, List.length_append]
    simp only [List.flatMap_cons, List.flatMap_nil, List.append_nil]
    have e : ((rdM a b (stM a b S N)).2.2).length ≤ 22 := this
    omega
/-- Where the first round is that somebody won, or -1. -/
def fz (l : List Rnd) : Int := match firstW l with
  | none => -1
  | some k => k
theorem thr_le (l : List Ev) : (thr l).out.length ≤ l.length := by
  have := (thr_bd l l.length (Nat.le_refl _)).2.2.2.2.1
  rwa [List.take_length] at this
theorem and3_fin : ∀ n : Fin 256, bits BinOp.and IntKind.i64 (n.val : Int) 3 = (n.val : Int) % 4 := by decide +kernel
theorem and3_of {a : Int} (h : 0 ≤ a ∧ a ≤ 255) : bits BinOp.and IntKind.i64 a 3 = a % 4 := by
  have := and3_fin ⟨a.toNat, by omega⟩
  simpa [Int.toNat_of_nonneg h.1] using this
theorem fz_bd (l : List Rnd) : -1 ≤ fz l := by
  unfold fz
  split <;> omega
theorem fz_take (l : List Rnd) (k : Nat) (h : k < l.length) : fz (l.take (k + 1)) = if fz (l.take k) < 0 ∧ 0 ≤ (l[k]).win then (k : Int) else fz (l.take k) := by
  unfold fz
  rw [firstW_take l k h]
  cases firstW (l.take k) with
  | none => by_cases hx : 0 ≤ (l[k]).win <;> simp [hx]
  | some j =>
    have : ¬ ((j : Int) < 0) := by omega
    simp [this]
set_option maxHeartbeats 2000000 in
theorem bots_walk (seed a b f : Int) (w : World) (hs : U32 seed) (ha : 0 ≤ a ∧ a ≤ 255) (hb : 0 ≤ b ∧ b ≤ 255) (hf : 0 ≤ f ∧ f ≤ 65535) :
    Calls Try.prog 7 #[.int .u32 seed, .int .u8 a, .int .u8 b, .int .u16 f] w fun e w' => e = .returned (.bool true) ∧ Below w.heap.size w w' := by
  obtain ⟨N, hN⟩ : ∃ N : Nat, f.tmod 1501 = N := by
    rw [Int.tmod_eq_emod_of_nonneg hf.1]
    exact ⟨(f % 1501).toNat, by omega⟩
  have hN2 : N ≤ 1500 := by rw [Int.tmod_eq_emod_of_nonneg hf.1] at hN; omega
  obtain ⟨x, hx⟩ : ∃ x : Int, a % 4 = x := ⟨_, rfl⟩
  obtain ⟨y, hy⟩ : ∃ y : Int, b % 4 = y := ⟨_, rfl⟩
  obtain ⟨T0, hT0⟩ : ∃ T0, beginS seed = T0 := ⟨_, rfl⟩
  have hok := begin_ok hs
  have hz : T0 0 = 0 ∧ T0 2 = 0 := by rw [← hT0]; exact ⟨rfl, rfl⟩
  have hm := fun V => match_any seed x y N V hs (by omega) (by omega) (by omega)
  rw [hT0] at hok hm
  obtain ⟨l, hl⟩ : ∃ l, (preM x y T0 N).flatMap (·.2.2) = l := ⟨_, rfl⟩
  have hll := evs_len (a := x) (b := y) hok hz.1 hz.2 N (by omega)
  obtain ⟨hs1, hs2⟩ := match_series hok hz.1 hz.2 (by omega) hl
  rw [hl] at hm hll
  obtain ⟨out, hout⟩ : ∃ out, (thr l).out = out := ⟨_, rfl⟩
  have hwin := win_thr l
  have hle := thr_le l
  rw [hout] at hs2 hwin hle
  obtain ⟨C0, hC0⟩ : ∃ C0 : Array Value, (stCells (stM x y T0 N)).toArray = C0 := ⟨_, rfl⟩
  rw [hC0] at hm
  have hsz : C0.size = 60 := by rw [← hC0, List.size_toArray, stCells_length]
  have H1C : Hid (C0.all (·.oneCell') = true) := Lib.hid (by rw [← hC0]; exact all_oneCell_toArray (int_one _))
  have HSZ : Hid ((Try.prog.info? 33).map (·.size) = some C0.size) := Lib.hid (by rw [hsz]; kernel_rfl)
  have HSI := Lib.hid hsz
  have HM := Lib.hid hm
  have HWN := Lib.hid hwin
  have HRI := Lib.hid hs2
  have HLE := Lib.hid hle
  have HOUT := Lib.hid hout
  have HRT := Lib.hid hs1
  have HNN := Lib.hid hN
  have HX := Lib.hid hx
  have HY := Lib.hid hy
  clear hm hwin hs2 hle hout hs1 hsz hC0 hok hz hT0 hl hN hx hy
  have HM2 := HM
  clear HM
  have hA3 : bits BinOp.and IntKind.i64 a 3 = x := (and3_of ha).trans HX.out
  have hB3 : bits BinOp.and IntKind.i64 b 3 = y := (and3_of hb).trans HY.out
  have hN3 := HNN.out
  go_enter Try.func7, Try.ntmps7
  go_wp2_with fail
  refine (awake_any _).mono ?_
  rintro e w1 ⟨rfl, hb1⟩
  have HB1 := Lib.hid hb1
  clear hb1
  go_upto_region 4 with (first
    | (go_at_call 23; refine (HM2.out _).mono ?_; rintro e w2 ⟨v1, v2, rfl, -, ho2, hb2⟩; have HO2 := Lib.hid ho2; have HB2 := Lib.hid hb2; clear ho2 hb2)
    | (refine wpList_store_mid rfl 33 (.tmp 9) (.tmp 34) rfl w2.heap.size 0 C0 rfl rfl (there_new _ _ _ (by rw [HSI.out]; rfl)) HSZ.out H1C.out ?_))
  refine named_put (F := fun W => Code.wp _ _ _ _ W) (by rw [Array.length_toList, HSI.out]; rfl) ?_
  rintro w3 - hb3 -
  have HO3 := Lib.hid ((HO2.out.below hb3).more (Nat.le_trans HB1.out.size (Nat.le_refl w1.heap.size)))
  have HB3 := Lib.hid (bTrans (bTrans HB1.out HB2.out) hb3)
  have hlv := HO3.out.shape
  obtain ⟨A2, c2, rfl⟩ := hlv
  clear hb3 HO2 HB2 HB1 H1C HSZ HSI HM2 hA3 hB3 hN3 HX HY HNN
  have HRD := Lib.hid (fun V hV => rounds_any A2 c2 l V (by omega) ((HO3.out.below hV).rd) HRT.out)
  go_upto_region 8 with (first
    | (go_at_call 24; refine (HRD.out _ (Below.refl _ _)).mono ?_; rintro e w4 ⟨A4, c4, rfl, ho4, hb4⟩; have HO4 := Lib.hid ho4; have HB4 := Lib.hid (bTrans HB3.out hb4); clear ho4 hb4))
  rw [HOUT.out] at HO4
  rw [HOUT.out]
  have hol : out.length ≤ 33000 := by have := HLE.out; omega
  clear HRD HO3 HB3 HLE HRT HOUT hll
  go_wp2_with fail
  go_loopw [15, 16] (fun fst i wr => ∃ k : Nat, k ≤ out.length ∧ i = .int .i64 k ∧ fst = .int .i64 (fz (out.take k)) ∧ Below w4.heap.size w4 wr) (fun _ i _ => out.length - (intOf i).toNat)
  case atStart => exact ⟨0, Nat.zero_le _, rfl, rfl, Below.refl _ _⟩
  case round =>
    obtain ⟨k, hk, rfl, rfl, hbw⟩ := hrel
    by_cases hlt : k < out.length
    · obtain ⟨b4, off4, hA4, hB4, h0, h1, h2, h3⟩ := Rd.rnd ((HO4.out.below hbw).rd) hlt
      subst hA4
      have hst : fz (out.take (k + 1)) = if fz (out.take k) < 0 ∧ 0 ≤ (out[k]).win then (k : Int) else fz (out.take k) := fz_take out k hlt
      have HST := Lib.hid hst
      have hbd := fz_bd (out.take k)
      obtain ⟨z, hz⟩ : ∃ z, fz (out.take k) = z := ⟨_, rfl⟩
      obtain ⟨u, hu⟩ : ∃ u, (out[k]).win = u := ⟨_, rfl⟩
      obtain ⟨f1, hf1⟩ : ∃ f1, (out[k]).frame = f1 := ⟨_, rfl⟩
      rw [hu] at h3 HST
      rw [hf1] at h0
      rw [hz] at HST hbd ⊢
      clear hst hz hu
      by_cases hk0 : k = 0
      · subst hk0
        go_upto_region 11 with fail
        refine wp_region_mild (by kernel_rfl) (by kernel_rfl) ?_
        repeat (go_big_quiet_step (fail))
        refine wpQuiet_nil ?_
        intro w5 hw'
        obtain ⟨⟨wq, k5⟩, hw''⟩ := hw'
        subst hw''
        obtain ⟨W5, hW5⟩ : ∃ W5, w5 = W5 := ⟨_, rfl⟩
        have hb5 := bTrans hbw k5
        have h35 := (k5.cell (p := ⟨b4, _, none⟩) (show b4 < wr.heap.size from hB4)).trans h3
        rw [hW5] at hb5 h35 ⊢
        clear hW5 k5
        by_cases z0 : z < 0
        · by_cases u0 : 0 ≤ u
          · have hfin := HST.out
            rw [if_pos ⟨z0, u0⟩] at hfin
            have HFIN := Lib.hid hfin
            clear hfin
            go_wp2
            go_roundw
            case rel => exact ⟨0 + 1, by omega, by go_num, by rw [HFIN.out], hb5⟩
            case measure => simp [intOf]; omega
          · have hfin := HST.out
            rw [if_neg (fun e => u0 e.2)] at hfin
            have HFIN := Lib.hid hfin
            clear hfin
            go_wp2
            go_roundw
            case rel => exact ⟨0 + 1, by omega, by go_num, by rw [HFIN.out], hb5⟩
            case measure => simp [intOf]; omega
        · have hfin := HST.out
          rw [if_neg (fun e => z0 e.1)] at hfin
          have HFIN := Lib.hid hfin
          clear hfin
          go_wp2
          go_roundw
          case rel => exact ⟨0 + 1, by omega, by go_num, by rw [HFIN.out], hb5⟩
          case measure => simp [intOf]; omega
      · obtain ⟨j, rfl⟩ : ∃ j, k = j + 1 := ⟨k - 1, by omega⟩
        obtain ⟨b', off', hA', -, g0, -, -, -⟩ := Rd.rnd ((HO4.out.below hbw).rd) (show j < out.length by omega)
        simp only [Option.some.injEq, Addr.mk.injEq, and_true] at hA'
        obtain ⟨rfl, rfl⟩ := hA'
        have hrise : (out[j]).frame < f1 := by
          have := List.pairwise_iff_getElem.1 HRI.out j (j + 1) (by simp; omega) (by simpa using hlt) (by omega)
          rw [← hf1]
          simpa using this
        go_upto_region 11 with fail
        refine wp_region_mild (by kernel_rfl) (by kernel_rfl) ?_
        repeat (go_big_quiet_step (fail))
        refine wpQuiet_nil ?_
        intro w5 hw'
        obtain ⟨⟨wq, k5⟩, hw''⟩ := hw'
        subst hw''
        obtain ⟨W5, hW5⟩ : ∃ W5, w5 = W5 := ⟨_, rfl⟩
        have hb5 := bTrans hbw k5
        have h35 := (k5.cell (p := ⟨b4, _, none⟩) (show b4 < wr.heap.size from hB4)).trans h3
        rw [hW5] at hb5 h35 ⊢
        clear hW5 k5
        by_cases z0 : z < 0
        · by_cases u0 : 0 ≤ u
          · have hfin := HST.out
            rw [if_pos ⟨z0, u0⟩] at hfin
            have HFIN := Lib.hid hfin
            clear hfin
            go_wp2
            go_roundw
            case rel => exact ⟨j + 1 + 1, by omega, by go_num, by rw [HFIN.out], hb5⟩
            case measure => simp [intOf]; omega
          · have hfin := HST.out
            rw [if_neg (fun e => u0 e.2)] at hfin
            have HFIN := Lib.hid hfin
            clear hfin
            go_wp2
            go_roundw
            case rel => exact ⟨j + 1 + 1, by omega, by go_num, by rw [HFIN.out], hb5⟩
            case measure => simp [intOf]; omega
        · have hfin := HST.out
          rw [if_neg (fun e => z0 e.1)] at hfin
          have HFIN := Lib.hid hfin
          clear hfin
          go_wp2
          go_roundw
          case rel => exact ⟨j + 1 + 1, by omega, by go_num, by rw [HFIN.out], hb5⟩
          case measure => simp [intOf]; omega
    · have hkn : out.take k = out := List.take_of_length_le (by omega)
      rw [hkn]
      have HD := Lib.hid (fun V (hV : Below w4.heap.size w4 V) => decided_any A4 c4 out V (by omega) HWN.out ((HO4.out.below hV).rd))
      cases hfw : firstW out with
      | none =>
        have e1 : fz out = -1 := by unfold fz; rw [hfw]
        have e2 : decV out = (0, 0, 6) := by unfold decV; rw [hfw]
        rw [e2] at HD
        rw [e1]
        clear hfw e1 e2
        go_wp2_with (first | (go_at_call 25; refine (HD.out _ hbw).mono ?_; rintro e w5 ⟨rfl, hb5⟩))
        go_ret
        exact ⟨rfl, bTrans (bTrans HB4.out hbw) hb5⟩
      | some j =>
        obtain ⟨hj, hj1, -⟩ := firstW_some hfw
        have e1 : fz out = j := by unfold fz; rw [hfw]
        have e2 : decV out = ((out[j]).win, (j : Int), 0) := by
          unfold decV
          rw [hfw]
          simp only [List.getD_eq_getElem?_getD, List.getElem?_eq_getElem hj, Option.getD_some]
        obtain ⟨u, hu⟩ : ∃ u, (out[j]).win = u := ⟨_, rfl⟩
        rw [hu] at e2 hj1
        rw [e2] at HD
        rw [e1]
        have HU := Lib.hid hu
        clear hfw e1 e2 hu
        go_upto_region 16 with (first | (go_at_call 25; refine (HD.out _ hbw).mono ?_; rintro e w5 ⟨rfl, hb5⟩))
        obtain ⟨b4, off4, hA4, hB4, h0, h1, h2, h3⟩ := Rd.rnd ((HO4.out.below (bTrans hbw hb5)).rd) hj
        subst hA4
        rw [HU.out] at h3
        go_wp2
        go_ret
        exact ⟨rfl, bTrans (bTrans HB4.out hbw) hb5⟩
end Go.Proofs.Ytnaclkaapicelaa.Ser
