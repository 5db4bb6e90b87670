/-
  The walks beneath: SumP, SumN, NumP, R12p, OrdP, StPg, TapP.
-/
import Derived.Test.YtibeihcpehikoaaGreatNk45
import Derived.Test.YtibeihcpehikoaaGreatNk36
namespace Go.Proofs.YtibeihcpehikoaaGreat
open Go.RowKit
section
def adS (b : Nat × Nat) (x : Nat) : Nat × Nat := ((b.1 + x) % 65521, (b.2 + (b.1 + x) % 65521) % 65521)
def rawS (b : Nat × Nat) (x : Nat) : Nat × Nat := (b.1 + x, b.2 + (b.1 + x))
def adF (b : Nat × Nat) (s : List Nat) : Nat × Nat := s.foldl adS b
theorem adF_app (b : Nat × Nat) (s t : List Nat) : adF b (s ++ t) = adF (adF b s) t := by unfold adF; rw [List.foldl_append]
theorem raw_ad : ∀ (s : List Nat) (l h : Nat), ((s.foldl rawS (l, h)).1 % 65521, (s.foldl rawS (l, h)).2 % 65521) = adF (l % 65521, h % 65521) s
 | [], _, _ => rfl
 | x :: s, l, h => by
  have := raw_ad s (l + x) (h + (l + x))
  unfold adF at this ⊢
  rw [List.foldl_cons, List.foldl_cons]
  show _ = List.foldl adS (adS (l % 65521, h % 65521) x) s
  have e : adS (l % 65521, h % 65521) x = ((l + x) % 65521, (h + (l + x)) % 65521) := by
   unfold adS
   simp only [Prod.mk.injEq]
   constructor
   ·omega
   ·omega
  rw [e]
  exact this
theorem raw_bd : ∀ (s : List Nat) (l h : Nat), (∀ x ∈ s, x ≤ 255) → (s.foldl rawS (l, h)).1 ≤ l + 255 * s.length ∧ 2 * (s.foldl rawS (l, h)).2 ≤ 2 * h + 2 * (s.length * l) + 255 * (s.length * (s.length + 1))
 | [], l, h, _ => by simp
 | x :: s, l, h, hx => by
  obtain ⟨h1, h2⟩ := raw_bd s (l + x) (h + (l + x)) (fun y hy => hx y (by simp [hy]))
  have hx0 := hx x (by simp)
  rw [List.foldl_cons, zH]
  show (s.foldl rawS (l + x, h + (l + x))).1 ≤ _ ∧ 2 * (s.foldl rawS (l + x, h + (l + x))).2 ≤ _
  refine ⟨by omega, ?_⟩
  have e1 : (s.length + 1) * l = s.length * l + l := Nat.succ_mul _ _
  have e2 : s.length * (l + x) = s.length * l + s.length * x := Nat.mul_add _ _ _
  have e3 : s.length * x ≤ s.length * 255 := Nat.mul_le_mul_left _ hx0
  have e4 : (s.length + 1) * (s.length + 1 + 1) = s.length * (s.length + 1) + 2 * s.length + 2 := by
   rw [Nat.succ_mul, Nat.mul_succ]; omega
  rw [e1, e4]
  rw [e2] at h2
  omega
theorem raw_fits (s : List Nat) (l h : Nat) (hl : l < 65521) (hh : h < 65521) (hs : s.length ≤ 5552) (hx : ∀ x ∈ s, x ≤ 255) : (s.foldl rawS (l, h)).1 < 4294967296 ∧ (s.foldl rawS (l, h)).2 < 4294967296 := by
 obtain ⟨h1, h2⟩ := raw_bd s l h hx
 have e1 : s.length * l ≤ 5552 * 65520 := Nat.mul_le_mul hs (by omega)
 have e2 : s.length * (s.length + 1) ≤ 5552 * 5553 := Nat.mul_le_mul hs (by omega)
 constructor <;> omega
theorem adF_lt (b : Nat × Nat) (hb : b.1 < 65521 ∧ b.2 < 65521) : ∀ s, (adF b s).1 < 65521 ∧ (adF b s).2 < 65521 := fun s => by
 induction s generalizing b with
 | nil => exact hb
 | cons x s ih => exact ih (adS b x) ⟨Nat.mod_lt _ (by decide), Nat.mod_lt _ (by decide)⟩
end
section
def natsB (s : List UInt8) : List Nat := s.map UInt8.toNat
theorem natsB_le (s : List UInt8) : ∀ x ∈ natsB s, x ≤ 255 := fun x hx => by
 obtain ⟨b, -, rfl⟩ := List.mem_map.1 hx
 have := UInt8.toNat_lt b
 omega
theorem natsB_length (s : List UInt8) : (natsB s).length = s.length := by unfold natsB; rw [List.length_map]
def halfN (n : Nat) : Nat × Nat := (n % 65536 % 65521, n / 65536 % 65521)
theorem halfN_lt (n : Nat) : (halfN n).1 < 65521 ∧ (halfN n).2 < 65521 := ⟨Nat.mod_lt _ (by decide), Nat.mod_lt _ (by decide)⟩
def wordN (p : Nat × Nat) : Nat := p.2 * 65536 + p.1
theorem halfN_word {p : Nat × Nat} (h : p.1 < 65521 ∧ p.2 < 65521) : halfN (wordN p) = p := by
 unfold halfN wordN
 obtain ⟨a, b⟩ := p
 simp only at h
 simp only [Prod.mk.injEq]
 constructor <;> omega
def moreN (n : Nat) (s : List UInt8) : Nat := wordN (adF (halfN n) (natsB s))
def sumN (s : List UInt8) : Nat := moreN 1 s
theorem moreN_lt (n : Nat) (s : List UInt8) : moreN n s < 4294967296 := by
 obtain ⟨h1, h2⟩ := adF_lt _ (halfN_lt n) (natsB s)
 unfold moreN wordN
 omega
theorem moreN_app (n : Nat) (s t : List UInt8) : moreN (moreN n s) t = moreN n (s ++ t) := by
 have h := adF_lt _ (halfN_lt n) (natsB s)
 unfold moreN
 rw [halfN_word h, ← adF_app, natsB, natsB, natsB, ← List.map_append]
theorem sumN_app (s t : List UInt8) : moreN (sumN s) t = sumN (s ++ t) := moreN_app 1 s t
theorem sumN_lt (s : List UInt8) : sumN s < 4294967296 := moreN_lt 1 s
end
section
def numB (n : Nat) : List UInt8 := if h : n < 128 then [UInt8.ofNat n] else UInt8.ofNat (128 + n % 128) :: numB (n / 128)
termination_by n
decreasing_by omega
theorem numB_small {n : Nat} (h : n < 128) : numB n = [UInt8.ofNat n] := by rw [numB, dif_pos h]
theorem numB_big {n : Nat} (h : ¬ n < 128) : numB n = UInt8.ofNat (128 + n % 128) :: numB (n / 128) := by rw [numB, dif_neg h]
theorem u8_nat {a : Nat} (h : a < 256) : (UInt8.ofNat a).toNat = a := by rw [UInt8.toNat_ofNat']; exact Nat.mod_eq_of_lt h
theorem numB_len : ∀ (k n : Nat), n < 128 ^ k → (numB n).length ≤ k ∨ (k = 0)
 | 0, _, _ => .inr rfl
 | k + 1, n, h => by
  left
  by_cases hn : n < 128
  ·rw [numB_small hn]; simp
  ·rw [numB_big hn]
   have : n / 128 < 128 ^ k := by
    rw [Nat.pow_succ] at h
    exact Nat.div_lt_of_lt_mul (by rw [Nat.mul_comm]; exact h)
   rcases numB_len k (n / 128) this with h | h
   ·simp; exact h
   ·subst h; simp at this; omega
theorem numB_le {n : Nat} (h : n < 18446744073709551616) : (numB n).length ≤ 10 := by
 rcases numB_len 10 n (Nat.lt_of_lt_of_le h (by decide)) with h | h
 ·exact h
 ·cases h
def zig (n : Int) : Nat := if 0 ≤ n then (2 * n).toNat else (-2 * n - 1).toNat
def evB (e : Ev) : List UInt8 :=
 numB e.frame.toNat ++ (numB e.emitter.toNat ++ (numB e.kind.toNat ++ (numB e.ord.toNat ++ (numB e.asset.toNat ++ (numB e.gain.toNat ++ (numB (zig e.pan) ++ (numB e.prio.toNat ++ numB e.len.toNat)))))))
def bytesB (L : List Ev) : List UInt8 := numB L.length ++ L.flatMap evB
theorem ok_pos {e : Ev} (h : evOk e = true) : (0 ≤ e.frame ∧ e.frame ≤ 1073741824) ∧ (0 ≤ e.emitter ∧ e.emitter ≤ 2) ∧ (1 ≤ e.kind ∧ e.kind ≤ 9) ∧ (0 ≤ e.ord ∧ e.ord ≤ 15) ∧ (0 ≤ e.asset ∧ e.asset ≤ 31) ∧ (0 ≤ e.gain ∧ e.gain ≤ 32768) ∧ (-32768 ≤ e.pan ∧ e.pan ≤ 32768) ∧ (0 ≤ e.prio ∧ e.prio ≤ 15) ∧ (0 ≤ e.len ∧ e.len ≤ 600) := by
 unfold evOk keyOk at h
 simp only [Bool.and_eq_true, inB, decide_eq_true_eq] at h
 simp only [Ev.key] at h
 omega
theorem evB_len {e : Ev} (h : evOk e = true) : (evB e).length ≤ 90 := by
 have p := ok_pos h
 unfold evB
 simp only [zG]
 have h0 := numB_le (n := e.frame.toNat) (by omega)
 have h1 := numB_le (n := e.emitter.toNat) (by omega)
 have h2 := numB_le (n := e.kind.toNat) (by omega)
 have h3 := numB_le (n := e.ord.toNat) (by omega)
 have h4 := numB_le (n := e.asset.toNat) (by omega)
 have h5 := numB_le (n := e.gain.toNat) (by omega)
 have h6 := numB_le (n := zig e.pan) (by unfold zig; split <;> omega)
 have h7 := numB_le (n := e.prio.toNat) (by omega)
 have h8 := numB_le (n := e.len.toNat) (by omega)
 omega
theorem bytesB_len : ∀ (L : List Ev), (∀ e ∈ L, evOk e = true) → (L.flatMap evB).length ≤ 90 * L.length
 | [], _ => by simp
 | e :: L, h => by
  rw [List.flatMap_cons, zG, zH]
  have := evB_len (h e (by simp))
  have := bytesB_len L (fun e he => h e (by simp [he]))
  omega
end
section
theorem PageOk.tell {F : Int} {L : List Ev} (h : PageOk F L) (em kd ga pr ln x : Int) (hF : 0 ≤ F ∧ F ≤ 1073741824) (hc : cntE L em kd ≤ 15) (h1 : 0 ≤ em ∧ em ≤ 2) (h2 : 1 ≤ kd ∧ kd ≤ 9) (h4 : 0 ≤ ga ∧ ga ≤ 32768) (h5 : 0 ≤ pr ∧ pr ≤ 15) (h6 : 0 ≤ ln ∧ ln ≤ 600) : PageOk F (addE F L (evT em kd kd ga pr ln x)) := by
 refine h.add _ (evOk_ord (evT_ok F _ _ _ _ _ _ _ hF h1 h2 (by omega) h4 h5 h6 0 (by decide)) ⟨by omega, ?_⟩)
 show ((cntE L em kd : Nat) : Int) ≤ 15
 omega
structure PO (F : Int) (n : Nat) (L : List Ev) : Prop where
 ok : PageOk F L
 len : L.length ≤ n
theorem PO.more {F : Int} {n m : Nat} {L : List Ev} (h : PO F n L) (k : n ≤ m) : PO F m L := ⟨h.ok, Nat.le_trans h.len k⟩
theorem PO.tell {F : Int} {n : Nat} {L : List Ev} (h : PO F n L) (hF : 0 ≤ F ∧ F ≤ 1073741824) (hn : n ≤ 15) (em kd ga pr ln x : Int) (h1 : 0 ≤ em ∧ em ≤ 2) (h2 : 1 ≤ kd ∧ kd ≤ 9) (h4 : 0 ≤ ga ∧ ga ≤ 32768) (h5 : 0 ≤ pr ∧ pr ≤ 15) (h6 : 0 ≤ ln ∧ ln ≤ 600) : PO F (n + 1) (addE F L (evT em kd kd ga pr ln x)) :=
 ⟨h.ok.tell em kd ga pr ln x hF (Nat.le_trans (cntE_le _ _ _) (Nat.le_trans h.len hn)) h1 h2 h4 h5 h6, by rw [addE_length]; have := h.len; omega⟩
section
variable {F : Int} {S : Nat → Int} {L : List Ev} {i : Nat}
theorem em_ok (hi : i < 2) : 0 ≤ (i : Int) + 1 ∧ (i : Int) + 1 ≤ 2 := by omega
theorem PO.fire (h : PO F 13 L) (hF : 0 ≤ F ∧ F ≤ 1073741824) (hi : i < 2) : PO F 14 (fireS i F (S, L)).2 := by
 unfold fireS
 dsimp only
 split
 ·exact h.more (by decide)
 ·split
  ·exact h.tell hF (by decide) _ 1 16384 5 0 _ (em_ok hi) (by decide) (by decide) (by decide) (by decide)
  ·exact h.more (by decide)
theorem PO.play (h : PO F 10 L) (hF : 0 ≤ F ∧ F ≤ 1073741824) (hi : i < 2) (n : Nat) : PO F 14 (playS i n F (S, L)).2 := by
 have h1 : ∀ q, PO F 11 (lThrust i q n F L) := fun q => by
  unfold lThrust
  split
  ·exact h.tell hF (by decide) _ 8 4096 1 8 _ (em_ok hi) (by decide) (by decide) (by decide) (by decide)
  ·exact h.more (by decide)
 have h2 : ∀ p, PO F 12 (steerL i p n F L) := fun p => by
  unfold steerL lDash
  split
  ·exact (h1 _).tell hF (by decide) _ 9 8192 4 0 _ (em_ok hi) (by decide) (by decide) (by decide) (by decide)
  ·exact (h1 _).more (by decide)
 have h3 : ∀ p q, PO F 13 (lMove i q F (steerL i p n F L)) := fun p q => by
  unfold lMove
  split
  ·exact (h2 _).more (by decide)
  ·exact (h2 _).tell hF (by decide) _ 3 8192 3 0 _ (em_ok hi) (by decide) (by decide) (by decide) (by decide)
 unfold playS
 dsimp only
 split
 ·exact h.more (by decide)
 ·split
  ·exact (h.tell hF (by decide) _ 6 16384 9 0 _ (em_ok hi) (by decide) (by decide) (by decide) (by decide)).more (by decide)
  ·split
   ·exact (h3 _ _).fire hF hi
   ·exact (h3 _ _).more (by decide)
theorem PageOk.clash (h : PageOk F L) (hF : 0 ≤ F ∧ F ≤ 1073741824) (hL : L.length ≤ 15) : PageOk F (clashS F (S, L)).2 := by
 unfold clashS
 split
 ·exact h.tell 0 4 16384 6 0 0 hF (Nat.le_trans (cntE_le _ _ _) hL) (by decide) (by decide) (by decide) (by decide) (by decide)
 ·exact h
theorem PageOk.hit (h : PageOk F L) (hF : 0 ≤ F ∧ F ≤ 1073741824) (hi : i < 2) {a b : Nat} (hev : EvN L a b) (hb : b ≤ 14) : PageOk F (hitS i F (S, L)).2 := by
 have h1 : ∀ x : Int, PageOk F (addE F L (evT ((i : Int) + 1) 2 2 32768 8 0 x)) := fun x => h.tell _ 2 32768 8 0 x hF (Nat.le_trans (hev.cnt _ _ (.inl rfl)) (by omega)) (em_ok hi) (by decide) (by decide) (by decide) (by decide)
 have hev2 : ∀ x : Int, EvN (addE F L (evT ((i : Int) + 1) 2 2 32768 8 0 x)) (a + 1) (b + 1) := fun x => hev.hit F _
 unfold hitS
 dsimp only
 split
 ·exact h1 _
 ·exact (h1 _).tell _ 5 32768 10 0 _ hF (Nat.le_trans ((hev2 _).cnt _ _ (.inr rfl)) (by omega)) (em_ok hi) (by decide) (by decide) (by decide) (by decide)
theorem otherOf_lt (o : Int) : otherOf o < 2 := by unfold otherOf; split <;> decide
theorem PageOk.fly (h : PageOk F L) (hF : 0 ≤ F ∧ F ≤ 1073741824) {a b : Nat} (hev : EvN L a b) (hb : b ≤ 14) (k : Nat) : PageOk F (flyS k F (S, L)).2 := by
 have hT : PageOk F (flyT k F (S, L)).2.2 := by
  unfold flyT
  dsimp only
  split
  ·exact h
  ·split
   ·exact h
   ·split
    ·exact h.hit hF (otherOf_lt _) hev hb
    ·exact h
 unfold flyS
 split
 ·exact h
 ·split
  ·exact hT
  ·exact hT
end
section
variable {n0 n1 : Nat} {S : Nat → Int}
theorem stg1_page (hF : 0 ≤ S 0 ∧ S 0 ≤ 1073741824) : PageOk (S 0) (stg1 n0 S).2 := (PO.play (S := S) (i := 0) ⟨PageOk.nil _, by decide⟩ hF (by decide) n0).ok
theorem stg2_page (h : StOk S) : PageOk (S 0) (stg2 n0 n1 S).2 :=
 (PO.play (S := (stg1 n0 S).1) (i := 1) (L := (stg1 n0 S).2) ⟨stg1_page h.m.fr, by have := (stg1_ok n0 h).2.1.len; omega⟩ h.m.fr (by decide) n1).ok
theorem stg3_page (h : StOk S) : PageOk (S 0) (stg3 n0 n1 S).2 :=
 PageOk.clash (S := (stg2 n0 n1 S).1) (L := (stg2 n0 n1 S).2) (stg2_page h) h.m.fr (by have := (stg2_ok n0 n1 h).2.1.len; omega)
theorem stg4_page (h : StOk S) : ∀ k, k ≤ 6 → PageOk (S 0) (stg4 n0 n1 S k).2
 | 0, _ => stg3_page h
 | k + 1, hk => PageOk.fly (S := (stg4 n0 n1 S k).1) (L := (stg4 n0 n1 S k).2) (stg4_page h k (by omega)) h.m.fr (stg4_ok n0 n1 h k (by omega)).2.1 (by omega) k
end
end
section
theorem ordered_page {F : Int} {L : List Ev} (h : PageOk F L) (hL : L.length ≤ 64) : orderedB L = true := by
 unfold orderedB
 rw [decide_eq_true hL, List.all_eq_true.2 h.ok, risingF_sorted L key0 h.sorted h.ok ?_]
 ·rfl
 ·intro e he
  have hx := h.ok e he
  have : 0 ≤ e.frame := by
   unfold evOk keyOk at hx
   simp only [Bool.and_eq_true, inB, decide_eq_true_eq] at hx
   exact hx.1.1.1.1.1.1.1.1.1
  left
  show (-1 : Int) < e.frame
  omega
end
section
theorem stepS_pageOk {n0 n1 : Nat} {S : Nat → Int} (h : StOk S) : PageOk (S 0) (stepS n0 n1 S).2 ∧ (stepS n0 n1 S).2.length ≤ 22 := by
 have h4 := stg4_page (n0 := n0) (n1 := n1) h 6 (by decide)
 have hev := (stg4_ok n0 n1 h 6 (by decide)).2.1.len
 have hn := (stg4_nor n0 n1 S 6).cnt
 rw [stepS_eq]
 show PageOk (S 0) (roundS (S 0) (stg4 n0 n1 S 6)).2 ∧ (roundS (S 0) (stg4 n0 n1 S 6)).2.length ≤ 22
 unfold roundS
 split
 ·exact ⟨h4.tell 0 7 32768 12 0 0 h.m.fr (by rw [hn]; decide) (by decide) (by decide) (by decide) (by decide) (by decide), by rw [addE_length]; omega⟩
 ·exact ⟨h4, by show (stg4 n0 n1 S 6).2.length ≤ 22; omega⟩
theorem stepS_ordered {n0 n1 : Nat} {S : Nat → Int} (h : StOk S) : orderedB (stepS n0 n1 S).2 = true :=
 ordered_page (stepS_pageOk h).1 (Nat.le_trans (stepS_pageOk h).2 (by decide))
end
section
def hapB (l : List (List Ev)) : List UInt8 := l.flatMap bytesB
theorem hapB_snoc (l : List (List Ev)) (x : List Ev) : hapB (l ++ [x]) = hapB l ++ bytesB x := by unfold hapB; rw [List.flatMap_append]; simp
theorem hapB_take (l : List (List Ev)) (k : Nat) (h : k < l.length) : hapB (l.take (k + 1)) = hapB (l.take k) ++ bytesB l[k] := by
 rw [List.take_succ_eq_append_getElem h, hapB_snoc]
theorem bytes_le (L : List Ev) (h : orderedB L = true) : (bytesB L).length ≤ 6000 := by
 unfold orderedB at h
 simp only [Bool.and_eq_true, decide_eq_true_eq, List.all_eq_true] at h
 have h1 := bytesB_len L h.2.1
 have h2 := numB_le (n := L.length) (by omega)
 unfold bytesB
 rw [zG]
 omega
theorem hapB_len : ∀ (l : List (List Ev)), (∀ L ∈ l, orderedB L = true) → (hapB l).length ≤ 6000 * l.length
 | [], _ => zL _
 | L :: l, h => by
  have h1 := bytes_le L (h L (by simp))
  have h2 := hapB_len l (fun M hM => h M (by simp [hM]))
  unfold hapB at *
  rw [List.flatMap_cons, zG, zH]
  omega
theorem preT_ordered {inp : Nat → Nat × Nat} {S : Nat → Int} (h : StOk S) (h0 : S 0 = 0) (h2 : S 2 = 0) (N : Nat) (hN : N ≤ 100000) : ∀ r ∈ preT inp S N, orderedB r.2 = true := fun r hr => by
 unfold preT at hr
 obtain ⟨k, hk, rfl⟩ := List.mem_map.1 hr
 rw [List.mem_range] at hk
 exact stepS_ordered (stT_ok h h0 h2 k (by omega)).1
end
end Go.Proofs.YtibeihcpehikoaaGreat
