/-
  The walks beneath: R12a, R12b, R12c, R12e.
-/
import Derived.Outline
import Derived.Test.YtnaclkaapicelaaGreatMa5
import Derived.Test.YtnaclkaapicelaaGreatMa4
import Derived.Test.YtnaclkaapicelaaGreatBot5
import Derived.Test.YtnaclkaapicelaaGreatMa1
import Derived.Test.YtnaclkaapicelaaGreatMa2
import Derived.Test.YtnaclkaapicelaaGreatMa3
namespace Go.Proofs.YtnaclkaapicelaaGreat
open Go.RowKit
set_option maxRecDepth 100000
set_option linter.unusedSimpArgs false
/-- Ahead of what is not ahead of it: in order, that is where it is looked for. -/
theorem putK_lb {L : List Ev} (hs : SortedE L) (y : Ev) : putK L y = lbK L y.key := by
  have hle := lbK_le L y.key
  have hpl := putK_le L y
  have hiff : ∀ j (hj : j < L.length), decide (cmpK y.key L[j].key ≤ 0) = false ↔ j < lbK L y.key := fun j hj => by
    rw [lb_iff y.key L hs j hj, cmpK_neg, decide_eq_false_iff_not, ← cmpK_pos]
    omega
  rcases Nat.lt_trichotomy (putK L y) (lbK L y.key) with h | h | h
  · have hj : putK L y < L.length := by omega
    have h1 := (hiff _ hj).2 h
    rw [putK_at L y hj] at h1
    cases h1
  · exact h
  · have hj : lbK L y.key < L.length := by omega
    have := (hiff _ hj).1 (putK_lt L y _ hj h)
    omega
theorem putE_addE {F : Int} {L : List Ev} (h : SortedE L) (x : Ev) : putE L (numE F L x) = addE F L x := by
  unfold putE addE
  rw [putK_lb h]
theorem bit_mod (n : Nat) (hn : n < 64) : ((n : Int) % 2 == 1) = bit n 1 ∧ ((n : Int) / 2 % 2 == 1) = bit n 2 ∧ ((n : Int) / 4 % 2 == 1) = bit n 4 ∧ ((n : Int) / 8 % 2 == 1) = bit n 8 ∧ ((n : Int) / 16 % 2 == 1) = bit n 16 ∧ ((n : Int) / 32 % 2 == 1) = bit n 32 := by
  have : ∀ n : Fin 64, ((n.1 : Int) % 2 == 1) = bit n.1 1 ∧ ((n.1 : Int) / 2 % 2 == 1) = bit n.1 2 ∧ ((n.1 : Int) / 4 % 2 == 1) = bit n.1 4 ∧ ((n.1 : Int) / 8 % 2 == 1) = bit n.1 8 ∧ ((n.1 : Int) / 16 % 2 == 1) = bit n.1 16 ∧ ((n.1 : Int) / 32 % 2 == 1) = bit n.1 32 := by decide +kernel
  exact this ⟨n, hn⟩
set_option maxHeartbeats 1000000 in
theorem r12Way_any (a l : Int) (ha : 0 ≤ a ∧ a ≤ 65535) (hl : F32 l) (w : World) : Calls Tryz.prog 73 #[.int .i64 a, .int .i64 l] w fun e w' => e = .returned (.agg #[.int .i32 (hdX a l), .int .i32 (hdY a l)]) ∧ Below w.heap.size w w' := by
  have h1 := Lib.hid (show fmul (sinZ (a + 16384)) l = hdX a l from rfl)
  have h2 := Lib.hid (show fmul (sinZ a) l = hdY a l from rfl)
  have HL := Lib.hid hl
  obtain ⟨a1, a2⟩ := ha
  have el : IntKind.i32.wrap l = l := by rw [IntKind.wrap_i32]; unfold F32 at hl; omega
  clear hl
  go_enter Tryz.func73, Tryz.ntmps73
  go_upto_region 1 with fail
  refine named1 (F := fun W => Code.wp _ _ _ _ W) ?_
  intro w1 k0 hb1 hz1
  have HK0 := Lib.hid k0
  have HB1 := Lib.hid hb1
  clear k0 hb1 hz1
  go_wp2_with fail
  refine (r02Sin_any _ _).mono ?_
  rintro e w1 ⟨rfl, rfl⟩
  go_wp2_with fail
  refine (r02Sin_any _ _).mono ?_
  rintro e w1 ⟨rfl, rfl⟩
  go_wp2_with fail
  refine (r10Scale_any (sinZ_f32 _) (sinZ_f32 _) HL.out _).mono ?_
  rw [h1.out, h2.out]
  rintro e w2 ⟨rfl, k1⟩
  have hk := HK0.out.on k1
  have hb := bTrans HB1.out k1
  have r := hk
  have ra := r.cell 0
  have rb := r.cell 1
  have rc := r.frozen 0
  have rd := r.frozen 1
  have rl := r.lt
  simp only [List.getElem?_toArray, List.getElem?_cons_zero, List.getElem?_cons_succ] at ra rb
  clear r
  clear k1 hk
  go_wp2
  refine bodyPost_ret (v := .agg #[.int .i32 (hdX a l), .int .i32 (hdY a l)]) (by simp [results, Tryz.results73, go_sem, ra, rb]) rfl ⟨rfl, (by repeat (first | exact Below.refl _ _ | (with_reducible assumption) | apply bAlloc | apply below_drewN | apply Below.drew | (refine bSetG ?_ (by first | omega | (simp; omega)) _ _) | (refine bTrans ?_ (by with_reducible assumption))))⟩
theorem pan_eq {em : Int} (h : 0 < em) (x : Int) : (if x * 32768 / 4194304 < -32768 then (-32768 : Int) else if 32768 < x * 32768 / 4194304 then 32768 else x * 32768 / 4194304) = panZ em x := by
  unfold panZ
  rw [if_pos h]
  omega
/-- Told by the document: an event of the game, among those of its frame. -/
theorem told_add {A : Option Addr} {n c base : Nat} {F : Int} {L : List Ev} {em kd ga pr ln x : Int} {w : World} (hw : OwnL w base 65 9 (.slice A n c) Ev.cells L) (hp : PageOk F L)
    (hok : evOk ((evT em kd kd ga pr ln x).at_ F 0) = true) (hn : L.length < 64) (hr : cntE L em kd ≤ 15) (W : World) (hW : Below w.heap.size w W) :
    Calls Tryz.prog 81 #[.slice A n c, .int .i64 F, .agg #[.int .i64 0, .int .i64 em, .int .i64 kd, .int .i64 0, .int .i64 kd, .int .i64 ga, .int .i64 (panZ em x), .int .i64 pr, .int .i64 ln]] W fun e w' => ∃ A' c' n', e = .returned (.tuple #[.slice A' n' c', .agg #[.int .i64 F, .int .i64 em, .int .i64 kd, .int .i64 (cntE L em kd)], .int .i64 0]) ∧ OwnL w' W.heap.size 65 9 (.slice A' n' c') Ev.cells (addE F L (evT em kd kd ga pr ln x)) ∧ Below W.heap.size W w' := by
  obtain rfl := hw.len
  refine (r11Add_good A c F L (evT em kd kd ga pr ln x) W hok (by omega) ((hw.below hW).rd)).mono ?_
  intro e w' h
  unfold AddPost at h
  rw [if_neg (by show ¬(64 ≤ L.length ∨ 15 < cntE L em kd); omega), putE_addE hp.sorted] at h
  exact h
theorem kd_cell {w : World} {g : Nat} (h : Blk w g 3 #[.int .i64 0, .int .i64 1, .int .i64 2, .int .i64 3, .int .i64 4, .int .i64 5, .int .i64 6, .int .i64 7, .int .i64 8, .int .i64 9]) {kd : Int} (h0 : 0 ≤ kd) (h1 : kd < 10) : w.cell? ⟨g, kd.toNat, none⟩ = some (.int .i64 kd) := by
  obtain ⟨k, rfl⟩ := Int.eq_ofNat_of_zero_le h0
  have hk : k < 10 := by omega
  rw [h.cell]
  have h10 : k = 0 ∨ k = 1 ∨ k = 2 ∨ k = 3 ∨ k = 4 ∨ k = 5 ∨ k = 6 ∨ k = 7 ∨ k = 8 ∨ k = 9 := by omega
  rcases h10 with rfl | rfl | rfl | rfl | rfl | rfl | rfl | rfl | rfl | rfl <;> rfl
set_option maxHeartbeats 4000000 in
theorem r12Told_any {A : Option Addr} {n c base : Nat} {F : Int} {L : List Ev} (em kd ga pr ln x : Int) {w : World} (hw : OwnL w base 65 9 (.slice A n c) Ev.cells L) (hbw : base ≤ w.heap.size) (hp : PageOk F L)
    (hok : evOk ((evT em kd kd ga pr ln x).at_ F 0) = true) (hn : L.length < 64) (hr : cntE L em kd ≤ 15) (hk : 0 ≤ kd ∧ kd < 10) (hx : F32 x) :
    Calls Tryz.prog 39 #[.slice A n c, .int .i64 F, .int .i64 em, .int .i64 kd, .int .i64 ga, .int .i64 pr, .int .i64 ln, .int .i32 x] w fun e w' => ∃ A' c' n', e = .returned (.slice A' n' c') ∧ OwnL w' base 65 9 (.slice A' n' c') Ev.cells (addE F L (evT em kd kd ga pr ln x)) ∧ Below w.heap.size w w' := by
  have HADD := Lib.hid (told_add hw hp hok hn hr)
  obtain ⟨x1, x2⟩ := hx
  obtain ⟨k0, k1⟩ := hk
  clear hw hp hok hn hr
  by_cases he : 0 < em
  · have HFL : Hid (∀ W, Calls Tryz.prog 80 #[.int .i64 (x * 32768), .int .i64 4194304] W fun e w' => e = .returned (.int .i64 (x * 32768 / 4194304)) ∧ W = w') := Lib.hid (fun W => floor_any (x * 32768) 4194304 (by decide) (by decide) (by omega) W)
    have HBT : Hid (∀ W, Calls Tryz.prog 79 #[.int .i64 (x * 32768 / 4194304), .int .i64 (-32768), .int .i64 32768] W fun e w' => e = .returned (.int .i64 (panZ em x)) ∧ W = w') := Lib.hid (fun W => by rw [← pan_eq he x]; exact between_any _ _ _ W)
    go_enter Tryz.func39, Tryz.ntmps39
    go_upto_region 5 with (first
      | (go_at_call 80; refine (HFL.out _).mono ?_; rintro e w1 ⟨rfl, rfl⟩)
      | (go_at_call 79; refine (HBT.out _).mono ?_; rintro e w1 ⟨rfl, rfl⟩))
    refine named1 (F := fun W => Code.wp _ _ _ _ W) ?_
    intro w2 q0 hb2 hz2
    have qk := kd_cell q0 k0 k1
    have hl2 := q0.lt
    have HBB := Lib.hid hb2
    have HAD := Lib.hid (HADD.out w2 hb2)
    clear q0 hb2 hz2 HADD
    go_wp2_with (first | (go_at_call 81; refine (HAD.out).mono ?_; rintro e w3 ⟨A', c', n', rfl, ho3, hb3⟩; have HO3 := Lib.hid ho3; have HB3 := Lib.hid (bTrans HBB.out hb3); clear ho3 hb3))
    go_ret
    have hb3 := HB3.out
    exact ⟨A', c', n', rfl, (HO3.out.more (Nat.le_trans hbw HBB.out.size)).below (by repeat (first | exact Below.refl _ _ | (with_reducible assumption) | apply bAlloc | apply below_drewN | apply Below.drew)), (by repeat (first | exact Below.refl _ _ | (with_reducible assumption) | apply bAlloc | apply below_drewN | apply Below.drew | (refine bSetG ?_ (by first | omega | (simp; omega)) _ _) | (refine bTrans ?_ (by with_reducible assumption))))⟩
  · have he' : decide (0 < em) = false := decide_eq_false he
    have hz : panZ em x = 0 := by unfold panZ; rw [if_neg he]
    rw [hz] at HADD
    clear hz he
    go_enter Tryz.func39, Tryz.ntmps39
    go_upto_region 5 with fail
    refine named1 (F := fun W => Code.wp _ _ _ _ W) ?_
    intro w2 q0 hb2 hz2
    have qk := kd_cell q0 k0 k1
    have hl2 := q0.lt
    have HBB := Lib.hid hb2
    have HAD := Lib.hid (HADD.out w2 hb2)
    clear q0 hb2 hz2 HADD
    go_wp2_with (first | (go_at_call 81; refine (HAD.out).mono ?_; rintro e w3 ⟨A', c', n', rfl, ho3, hb3⟩; have HO3 := Lib.hid ho3; have HB3 := Lib.hid (bTrans HBB.out hb3); clear ho3 hb3))
    go_ret
    have hb3 := HB3.out
    exact ⟨A', c', n', rfl, (HO3.out.more (Nat.le_trans hbw HBB.out.size)).below (by repeat (first | exact Below.refl _ _ | (with_reducible assumption) | apply bAlloc | apply below_drewN | apply Below.drew)), (by repeat (first | exact Below.refl _ _ | (with_reducible assumption) | apply bAlloc | apply below_drewN | apply Below.drew | (refine bSetG ?_ (by first | omega | (simp; omega)) _ _) | (refine bTrans ?_ (by with_reducible assumption))))⟩
end Go.Proofs.YtnaclkaapicelaaGreat

namespace Go.Proofs.YtnaclkaapicelaaGreat
open Go.RowKit
set_option maxRecDepth 100000
set_option linter.unusedSimpArgs false
/-- What the document's player holds: the state, what is answered, the player, the events. -/
structure PF (w0 w : World) (base : Nat) (S p : Nat → Int) (A : Option Addr) (n c : Nat) (F : Int) (L : List Ev) : Prop where
  st : Blk w w0.heap.size 33 (stCells S).toArray
  re : ∃ Z : Array Value, Z.size = 60 ∧ Blk w (w0.heap.size + 1) 33 Z
  pl : Blk w (w0.heap.size + 1 + 1) 27 (plCells p).toArray
  ow : OwnL w base 65 9 (.slice A n c) Ev.cells L
  ok : PageOk F L
  bw : base ≤ w0.heap.size
  bl : Below w0.heap.size w0 w
section
variable {w0 w w' : World} {base : Nat} {S p : Nat → Int} {A : Option Addr} {n c : Nat} {F : Int} {L : List Ev}
theorem PF.on (h : PF w0 w base S p A n c F L) (hb : Below w.heap.size w w') : PF w0 w' base S p A n c F L := by
  obtain ⟨Z, hZ, hr⟩ := h.re
  exact ⟨h.st.on hb, ⟨Z, hZ, hr.on hb⟩, h.pl.on hb, h.ow.below hb, h.ok, h.bw, bTrans h.bl hb⟩
theorem PF.drew (h : PF w0 w base S p A n c F L) : PF w0 w.drew base S p A n c F L := h.on (Below.refl _ _).drew
theorem PF.lt (h : PF w0 w base S p A n c F L) : w0.heap.size + 1 + 1 < w.heap.size := h.pl.lt
theorem PF.cellp (h : PF w0 w base S p A n c F L) (j : Nat) (hj : j < 10) {k : IntKind} (hk : kdP j = k) : w.cell? ⟨w0.heap.size + 1 + 1, j, none⟩ = some (.int k (p j)) := by
  rw [h.pl.cell]
  simp [plCells, rowOf, hj, hk]
theorem PF.zero (h : PF w0 w base S p A n c F L) (j : Nat) : w.frozen? ⟨w0.heap.size + 1 + 1, j, none⟩ = false := h.pl.frozen j
theorem PF.setp (h : PF w0 w base S p A n c F L) (j : Nat) (hj : j < 10) {k : IntKind} (hk : kdP j = k) (v : Int) : PF w0 (w.setCell ⟨w0.heap.size + 1 + 1, j, none⟩ (.int k v)) base S (upd p j v) A n c F L := by
  obtain ⟨Z, hZ, hr⟩ := h.re
  refine ⟨h.st.farG (by omega) _ _, ⟨Z, hZ, hr.farG (by omega) _ _⟩, ?_, h.ow.farG (Blk.apart h.pl h.ow (by decide)) _ _, h.ok, h.bw, bSetG h.bl (by omega) _ _⟩
  have := h.pl.set j (.int k v)
  rwa [pl_set p j hj hk v] at this
theorem PF.told (h : PF w0 w base S p A n c F L) {A' : Option Addr} {n' c' : Nat} {L' : List Ev} (hb : Below w.heap.size w w') (ho : OwnL w' base 65 9 (.slice A' n' c') Ev.cells L') (hp : PageOk F L') : PF w0 w' base S p A' n' c' F L' := by
  have k := h.on hb
  exact ⟨k.st, k.re, k.pl, ho, hp, h.bw, k.bl⟩
theorem PF.apart (h : PF w0 w base S p A n c F L) {g : Nat} (hg : w.heap.size ≤ g) : w0.heap.size + 1 + 1 < g ∧ (Value.slice A n c).ownBlock ≠ some g := by
  have hlt := h.lt
  refine ⟨by omega, fun e => ?_⟩
  have := h.ow.block_lt g e
  omega
/-- A store into a block that is none of those. -/
theorem PF.farC (h : PF w0 w base S p A n c F L) {g : Nat} (hg : w0.heap.size + 1 + 1 < g ∧ (Value.slice A n c).ownBlock ≠ some g) (vs : List Value) : PF w0 (w.setCells g 0 vs) base S p A n c F L := by
  have hbw := h.bw
  obtain ⟨Z, hZ, hr⟩ := h.re
  obtain ⟨hg2, hgo⟩ := hg
  exact ⟨h.st.farC (by omega) 0 vs, ⟨Z, hZ, hr.farC (by omega) 0 vs⟩, h.pl.farC (by omega) 0 vs, OwnL.kept (row := some g) h.ow (oSetCells (World.grownBy.refl w _) 0 vs) (.inr hgo), h.ok, h.bw, bSetCells h.bl (by omega) 0 vs⟩
/-- An event told. -/
theorem PF.tell (em kd ga pr ln x : Int) (h : PF w0 w base S p A n c F L) (hF : 0 ≤ F ∧ F ≤ 1073741824) (hL : L.length ≤ 15) (h1 : 0 ≤ em ∧ em ≤ 2) (h2 : 1 ≤ kd ∧ kd ≤ 9) (h4 : 0 ≤ ga ∧ ga ≤ 32768) (h5 : 0 ≤ pr ∧ pr ≤ 15) (h6 : 0 ≤ ln ∧ ln ≤ 600) (hx : F32 x) :
    Calls Tryz.prog 39 #[.slice A n c, .int .i64 F, .int .i64 em, .int .i64 kd, .int .i64 ga, .int .i64 pr, .int .i64 ln, .int .i32 x] w fun e w' => ∃ A' c' n', e = .returned (.slice A' n' c') ∧ PF w0 w' base S p A' n' c' F (addE F L (evT em kd kd ga pr ln x)) := by
  have hlt := h.lt
  have hbw := h.bw
  refine (r12Told_any em kd ga pr ln x h.ow (by omega) h.ok (evT_ok F _ _ _ _ _ _ _ hF h1 h2 (by omega) h4 h5 h6 0 (by decide)) (by omega) (Nat.le_trans (cntE_le _ _ _) hL) (by omega) hx).mono ?_
  rintro e w' ⟨A', c', n', rfl, ho, hb⟩
  refine ⟨A', c', n', rfl, h.told hb ho (h.ok.add _ ?_)⟩
  have hc := cntE_le L em kd
  refine evOk_ord (evT_ok F _ _ _ _ _ _ _ hF h1 h2 (by omega) h4 h5 h6 0 (by decide)) ⟨by omega, ?_⟩
  show ((cntE L em kd : Nat) : Int) ≤ 15
  omega
end
end Go.Proofs.YtnaclkaapicelaaGreat

namespace Go.Proofs.YtnaclkaapicelaaGreat
open Go.RowKit
set_option maxRecDepth 100000
set_option linter.unusedSimpArgs false
theorem upd_of_put (S : Nat → Int) (i j : Nat) (v : Int) (hj : j < 10) : upd S (4 + i * 10 + j) v = putP S i (upd (getP S i) j v) := by
  have := upd_putP S i (getP S i) j v hj
  rwa [putP_get] at this
section
variable {base : Nat} {S : Nat → Int} {A : Option Addr} {n c i b : Nat} {F : Int} {L : List Ev} {w : World}
set_option maxHeartbeats 4000000 in
theorem r12Player_down (hi : i < 2) (ho : OwnL w base 65 9 (.slice A n c) Ev.cells L) (hbw : base ≤ w.heap.size) (hp : PageOk F L) (hS : S 0 = F) (h8 : 1 < getP S i 8) (hd : getP S i 8 ≤ 30) :
    Calls Tryz.prog 37 #[.agg (stCells S).toArray, .slice A n c, .int .i64 i, .int .i64 b] w fun e w' => e = .returned (.tuple #[.agg (stCells (putP S i (upd (getP S i) 8 (getP S i 8 - 1)))).toArray, .slice A n c]) ∧ OwnL w' base 65 9 (.slice A n c) Ev.cells L ∧ Below w.heap.size w w' := by
  have HOW := Lib.hid ho
  have HPO := Lib.hid hp
  have hi2 : (i : Int) < 2 := by omega
  obtain ⟨T, hT⟩ : ∃ T, putP S i (upd (getP S i) 8 (getP S i 8 - 1)) = T := ⟨_, rfl⟩
  rw [hT]
  have HT := Lib.hid hT
  clear ho hp hT
  go_enter Tryz.func37, Tryz.ntmps37
  go_upto_region 1 with fail
  refine named2 (F := fun W => Code.wp _ _ _ _ W) ?_
  intro w1 k0 k1 hb1 hz1
  have HK0 := Lib.hid k0
  have HK1 := Lib.hid k1
  have HB1 := Lib.hid hb1
  have HZ1 := Lib.hid hz1
  have HT1 : Hid ((w1.alloc (.cells (plCells (fun _ => 0)).toArray 27)).there w1.heap.size 0 (plCells (getP S i)).toArray.size) := Lib.hid (there_new _ _ _ rfl)
  clear k0 k1 hb1 hz1
  go_upto_region 2 with (first | (refine wpList_load_mid rfl 27 (.tmp 21) rfl w.heap.size (4 + i * 10) rfl (plCells (getP S i)) _ (pl_range HK0.out hi) Tryz.underlying27 rfl (by kernel_rfl) ?_) | (refine wpList_store_mid rfl 27 (.tmp 10) (.tmp 22) rfl w1.heap.size 0 (plCells (getP S i)).toArray rfl rfl HT1.out (by kernel_rfl) (all_oneCell_toArray (pl_one _)) ?_))
  refine named_put (F := fun W => Code.wp _ _ _ _ W) (by rw [Array.length_toList, List.size_toArray, plCells_length]; rfl) ?_
  intro w2 hk2 hb2 hz2
  rw [HZ1.out] at hk2 ⊢
  rw [Array.toArray_toList] at hk2
  have HPF : Hid (PF w w2 base S (getP S i) A n c F L) := Lib.hid ⟨HK0.out.on hb2, ⟨_, by rfl, HK1.out.on hb2⟩, hk2, HOW.out.below (bTrans HB1.out hb2), HPO.out, hbw, bTrans HB1.out hb2⟩
  clear hk2 hb2 hz2 HK0 HK1 HB1 HZ1 HT1
  have e0 : w2.cell? ⟨w.heap.size, 0, none⟩ = some (.int .i64 (S 0)) := st_cell HPF.out.st 0 (by decide)
  have e8 : w2.cell? ⟨w.heap.size, 4 + i * 10 + 8, none⟩ = some (.int .i64 (S (4 + i * 10 + 8))) := by
    have := st_cell HPF.out.st (4 + i * 10 + 8) (by omega)
    rwa [kdS_p i 8 hi (by decide)] at this
  have z8 : w2.frozen? ⟨w.heap.size, 4 + i * 10 + 8, none⟩ = false := HPF.out.st.frozen _
  have c8 := HPF.out.cellp 8 (by decide) (k := .i64) rfl
  have hlt := HPF.out.lt
  have HS3 : Hid (Blk (w2.setCell ⟨w.heap.size, 4 + i * 10 + 8, none⟩ (.int .i64 (getP S i 8 - 1))) w.heap.size 33 (stCells T).toArray) := Lib.hid (by
    rw [← HT.out, ← upd_of_put S i 8 _ (by decide)]
    exact st_set HPF.out.st _ (by omega) (kdS_p i 8 hi (by decide)) _)
  have HZ3 : Hid (∃ Z : Array Value, Z.size = 60 ∧ Blk (w2.setCell ⟨w.heap.size, 4 + i * 10 + 8, none⟩ (.int .i64 (getP S i 8 - 1))) (w.heap.size + 1) 33 Z) := Lib.hid (by
    obtain ⟨Z, hZ, hr⟩ := HPF.out.re
    exact ⟨Z, hZ, hr.farG (by omega) _ _⟩)
  have HO3 := Lib.hid (HPF.out.ow.farG (Blk.apart HPF.out.st HPF.out.ow (by decide)) (4 + i * 10 + 8) (.int .i64 (getP S i 8 - 1)))
  have HB3 := Lib.hid (bSetG HPF.out.bl (Nat.le_refl _) (4 + i * 10 + 8) (.int .i64 (getP S i 8 - 1)))
  go_upto_region 5 with fail
  obtain ⟨w3, hw3⟩ : ∃ w3, w2.setCell ⟨w.heap.size, 4 + i * 10 + 8, none⟩ (.int .i64 (getP S i 8 - 1)) = w3 := ⟨_, rfl⟩
  rw [hw3] at HS3 HZ3 HO3 HB3 ⊢
  clear hw3 HPF e0 e8 z8 c8
  obtain ⟨Z, hZ, hBZ⟩ := (HZ3).out
  have HTH : Hid (w3.there (w.heap.size + 1) 0 (stCells T).toArray.size) := Lib.hid (by rw [show (stCells T).toArray.size = 60 from by rw [List.size_toArray, stCells_length]]; exact Blk.there hBZ (by rw [hZ]; decide))
  have hrg := World.rangeAt_setCells_same w3 (w.heap.size + 1) 0 (stCells T) (by rw [stCells_length]; have := HTH.out; rwa [show (stCells T).toArray.size = 60 from by rw [List.size_toArray, stCells_length]] at this)
  have HRES := Lib.hid (run_loadVar_mid (P := Tryz.prog) _ _ _ 33 (stCells T) _ hrg Tryz.underlying33 rfl (by kernel_rfl))
  have HBX := Lib.hid (bSetCells (HB3).out (show w.heap.size ≤ w.heap.size + 1 by omega) 0 (stCells T))
  have HOX := Lib.hid (OwnL.kept (row := some (w.heap.size + 1)) (HO3).out (oSetCells (World.grownBy.refl w3 _) 0 (stCells T)) (.inr (Blk.apart hBZ (HO3).out (by decide))))
  obtain ⟨wx, hwx⟩ : ∃ wx, w3.setCells (w.heap.size + 1) 0 (stCells T) = wx := ⟨_, rfl⟩
  rw [hwx] at HRES HBX HOX
  have HWX : Hid (w3.setCells (w.heap.size + 1) 0 (stCells T).toArray.toList = wx) := Lib.hid hwx
  have hls := (HS3).out.lt
  have hlz := hBZ.lt
  clear hZ hBZ hrg hwx
  go_wp2_with (first
    | (refine wpList_load_mid rfl 33 (.tmp 4) rfl w.heap.size 0 rfl (stCells T) _ (Blk.range (HS3).out) Tryz.underlying33 rfl (by kernel_rfl) ?_)
    | (refine wpList_store_mid rfl 33 (.tmp 8) (.tmp 35) rfl (w.heap.size + 1) 0 (stCells T).toArray rfl rfl HTH.out (by kernel_rfl) (all_oneCell_toArray (int_one T)) ?_; rw [HWX.out]))
  refine bodyPost_ret (results_c1 (a := 8) (t := 33) (x := 9) rfl rfl HRES.out) rfl ⟨rfl, HOX.out, HBX.out⟩
theorem corn_cell {w : World} {g : Nat} (h : Blk w g 25 #[.int .i32 (-2621440), .int .i32 (-2621440), .int .i32 2621440, .int .i32 (-2621440), .int .i32 (-2621440), .int .i32 2621440, .int .i32 2621440, .int .i32 2621440]) {m : Nat} (hm : m < 4) : w.cell? ⟨g, m * 2, none⟩ = some (.int .i32 (cornX m)) ∧ w.cell? ⟨g, m * 2 + 1, none⟩ = some (.int .i32 (cornY m)) := by
  have h4 : m = 0 ∨ m = 1 ∨ m = 2 ∨ m = 3 := by omega
  rcases h4 with rfl | rfl | rfl | rfl
  · exact ⟨h.cell 0, h.cell 1⟩
  · exact ⟨h.cell 2, h.cell 3⟩
  · exact ⟨h.cell 4, h.cell 5⟩
  · exact ⟨h.cell 6, h.cell 7⟩
theorem back_cells (p : Nat → Int) (k : Int) : plCells (pBack p k) = [.int .i32 (cornX k), .int .i32 (cornY k), .int .i32 0, .int .i32 0, .int .i64 0, .int .i64 3, .int .i64 0, .int .i64 0, .int .i64 0, .int .i64 (p 9)] := by rfl
/-- An event told by the document, told ahead. -/
def evTold (base : Nat) (M : List Ev) : Told := ⟨fun v => ∃ A c n, v = .slice A n c, fun v W => OwnL W base 65 9 v Ev.cells M⟩
theorem evTold_st {base : Nat} {M : List Ev} : ∀ v W U, (evTold base M).R v W → Grown W U → (evTold base M).R v U := fun _ _ _ h k => h.below k
theorem ev_told {w W : World} (hW : Grown w W) (em kd ga pr ln x : Int) (ho : OwnL w base 65 9 (.slice A n c) Ev.cells L) (hbw : base ≤ w.heap.size) (hp : PageOk F L) (hF : 0 ≤ F ∧ F ≤ 1073741824) (hL : L.length ≤ 15) (h1 : 0 ≤ em ∧ em ≤ 2) (h2 : 1 ≤ kd ∧ kd ≤ 9) (h4 : 0 ≤ ga ∧ ga ≤ 32768) (h5 : 0 ≤ pr ∧ pr ≤ 15) (h6 : 0 ≤ ln ∧ ln ≤ 600) (hx : F32 x) :
    Calls Tryz.prog 39 #[.slice A n c, .int .i64 F, .int .i64 em, .int .i64 kd, .int .i64 ga, .int .i64 pr, .int .i64 ln, .int .i32 x] W fun e w' => ∃ v, e = .returned v ∧ ((evTold base (addE F L (evT em kd kd ga pr ln x))).S v ∧ (evTold base (addE F L (evT em kd kd ga pr ln x))).R v w') ∧ Grown W w' := by
  refine (r12Told_any em kd ga pr ln x (ho.below hW) (Nat.le_trans hbw (Below.size hW)) hp (evT_ok F _ _ _ _ _ _ _ hF h1 h2 (by omega) h4 h5 h6 0 (by decide)) (by omega) (Nat.le_trans (cntE_le _ _ _) hL) (by omega) hx).mono ?_
  rintro e w' ⟨A', c', n', rfl, ho', hb'⟩
  exact ⟨_, rfl, ⟨⟨A', c', n', rfl⟩, ho'⟩, hb'⟩
theorem em_bd {i : Nat} (hi : i < 2) : 0 ≤ (i : Int) + 1 ∧ (i : Int) + 1 ≤ 2 := by omega
set_option maxHeartbeats 8000000 in
theorem r12Player_back (hi : i < 2) (ho : OwnL w base 65 9 (.slice A n c) Ev.cells L) (hbw : base ≤ w.heap.size) (hp : PageOk F L) (hS : S 0 = F) (hF : 0 ≤ F ∧ F ≤ 1073741824) (hL : L.length ≤ 14) (h8 : getP S i 8 = 1) (hu : U32 (S 1)) {m : Nat} (hm : m < 4) (hk : throwZ (S 1) 4 = m) :
    Calls Tryz.prog 37 #[.agg (stCells S).toArray, .slice A n c, .int .i64 i, .int .i64 b] w fun e w' => ∃ A' n' c', e = .returned (.tuple #[.agg (stCells (putP (upd S 1 (nextZ (S 1))) i (pBack (getP S i) m))).toArray, .slice A' n' c']) ∧ OwnL w' base 65 9 (.slice A' n' c') Ev.cells (addE F L (evT ((i : Int) + 1) 6 6 16384 9 0 (cornX m))) ∧ Below w.heap.size w w' := by
  have HOW := Lib.hid ho
  have HPO := Lib.hid hp
  have hi2 : (i : Int) < 2 := by omega
  have hm4 : (m : Int) < 4 := by omega
  obtain ⟨T, hT⟩ : ∃ T, putP (upd S 1 (nextZ (S 1))) i (pBack (getP S i) m) = T := ⟨_, rfl⟩
  rw [hT]
  have HT := Lib.hid hT
  have HS := Lib.hid hS
  have HH8 := Lib.hid h8
  obtain ⟨d, hd⟩ : ∃ d, nextZ (S 1) = d := ⟨_, rfl⟩
  have HD := Lib.hid hd
  have HTH : Hid (∀ W, Calls Tryz.prog 70 #[.int .u32 (S 1), .int .i64 4] W fun e w' => e = .returned (.tuple #[.int .u32 d, .int .i64 m]) ∧ W = w') := Lib.hid (fun W => by rw [← hd, ← hk]; exact r09Throw_any _ _ _ hu (by decide) (by decide))
  have HVA : Hid (∀ W, Calls Tryz.prog 69 #[.int .i64 (-40), .int .i64 (-40)] W fun e w' => e = .returned (.agg #[.int .i32 (-2621440), .int .i32 (-2621440)]) ∧ Below W.heap.size W w') := Lib.hid (fun W => r12Vec_any (-40) (-40) (by decide) (by decide) W)
  have HVB : Hid (∀ W, Calls Tryz.prog 69 #[.int .i64 40, .int .i64 (-40)] W fun e w' => e = .returned (.agg #[.int .i32 2621440, .int .i32 (-2621440)]) ∧ Below W.heap.size W w') := Lib.hid (fun W => r12Vec_any 40 (-40) (by decide) (by decide) W)
  have HVC : Hid (∀ W, Calls Tryz.prog 69 #[.int .i64 (-40), .int .i64 40] W fun e w' => e = .returned (.agg #[.int .i32 (-2621440), .int .i32 2621440]) ∧ Below W.heap.size W w') := Lib.hid (fun W => r12Vec_any (-40) 40 (by decide) (by decide) W)
  have HVD : Hid (∀ W, Calls Tryz.prog 69 #[.int .i64 40, .int .i64 40] W fun e w' => e = .returned (.agg #[.int .i32 2621440, .int .i32 2621440]) ∧ Below W.heap.size W w') := Lib.hid (fun W => r12Vec_any 40 40 (by decide) (by decide) W)
  clear ho hp hT hS h8 hu hk hd
  go_enter Tryz.func37, Tryz.ntmps37
  go_upto_region 1 with fail
  refine named2 (F := fun W => Code.wp _ _ _ _ W) ?_
  intro w1 k0 k1 hb1 hz1
  have HK0 := Lib.hid k0
  have HK1 := Lib.hid k1
  have HB1 := Lib.hid hb1
  have HZ1 := Lib.hid hz1
  have HT1 : Hid ((w1.alloc (.cells (plCells (fun _ => 0)).toArray 27)).there w1.heap.size 0 (plCells (getP S i)).toArray.size) := Lib.hid (there_new _ _ _ rfl)
  clear k0 k1 hb1 hz1
  go_upto_region 2 with (first | (refine wpList_load_mid rfl 27 (.tmp 21) rfl w.heap.size (4 + i * 10) rfl (plCells (getP S i)) _ (pl_range HK0.out hi) Tryz.underlying27 rfl (by kernel_rfl) ?_) | (refine wpList_store_mid rfl 27 (.tmp 10) (.tmp 22) rfl w1.heap.size 0 (plCells (getP S i)).toArray rfl rfl HT1.out (by kernel_rfl) (all_oneCell_toArray (pl_one _)) ?_))
  refine named_put (F := fun W => Code.wp _ _ _ _ W) (by rw [Array.length_toList, List.size_toArray, plCells_length]; rfl) ?_
  intro w2 hk2 hb2 hz2
  rw [HZ1.out] at hk2 ⊢
  rw [Array.toArray_toList] at hk2
  have HPF : Hid (PF w w2 base S (getP S i) A n c F L) := Lib.hid ⟨HK0.out.on hb2, ⟨_, by rfl, HK1.out.on hb2⟩, hk2, HOW.out.below (bTrans HB1.out hb2), HPO.out, hbw, bTrans HB1.out hb2⟩
  clear hk2 hb2 hz2 HK0 HK1 HB1 HZ1 HT1
  have e0 : w2.cell? ⟨w.heap.size, 0, none⟩ = some (.int .i64 (S 0)) := st_cell HPF.out.st 0 (by decide)
  have e1 : w2.cell? ⟨w.heap.size, 1, none⟩ = some (.int .u32 (S 1)) := st_cell HPF.out.st 1 (by decide)
  have z1 : w2.frozen? ⟨w.heap.size, 1, none⟩ = false := HPF.out.st.frozen _
  have c8 : w2.cell? ⟨w.heap.size + 1 + 1, 8, none⟩ = some (.int .i64 1) := by rw [← HH8.out]; exact HPF.out.cellp 8 (by decide) (k := .i64) rfl
  have hlt := HPF.out.lt
  have HS3 : Hid (Blk (w2.setCell ⟨w.heap.size, 1, none⟩ (.int .u32 d)) w.heap.size 33 (stCells (upd S 1 d)).toArray) := Lib.hid (st_set HPF.out.st 1 (by decide) rfl _)
  have HZ3 : Hid (∃ Z : Array Value, Z.size = 60 ∧ Blk (w2.setCell ⟨w.heap.size, 1, none⟩ (.int .u32 d)) (w.heap.size + 1) 33 Z) := Lib.hid (by
    obtain ⟨Z, hZ, hr⟩ := HPF.out.re
    exact ⟨Z, hZ, hr.farG (by omega) _ _⟩)
  have HP3 := Lib.hid (HPF.out.pl.farG (show w.heap.size + 1 + 1 ≠ w.heap.size by omega) 1 (.int .u32 d))
  have HO3 := Lib.hid (HPF.out.ow.farG (Blk.apart HPF.out.st HPF.out.ow (by decide)) 1 (.int .u32 d))
  have HB3 := Lib.hid (bSetG HPF.out.bl (Nat.le_refl _) 1 (.int .u32 d))
  go_upto_region 9 with (first | (go_at_call 70; refine (HTH.out _).mono ?_; rintro e w1 ⟨rfl, rfl⟩))
  obtain ⟨w3, hw3⟩ : ∃ w3, w2.setCell ⟨w.heap.size, 1, none⟩ (.int .u32 d) = w3 := ⟨_, rfl⟩
  rw [hw3] at HS3 HZ3 HO3 HB3 HP3 ⊢
  clear hw3 HPF e0 e1 z1 c8 HTH
  go_upto_region 10 with (first
    | (go_at_call 69; refine (HVA.out _).mono ?_; rintro e w4 ⟨rfl, hb4⟩; clear HVA; have HB4 := Lib.hid hb4; clear hb4)
    | (go_at_call 69; refine (HVB.out _).mono ?_; rintro e w5 ⟨rfl, hb5⟩; clear HVB; have HB5 := Lib.hid hb5; clear hb5)
    | (go_at_call 69; refine (HVC.out _).mono ?_; rintro e w6 ⟨rfl, hb6⟩; clear HVC; have HB6 := Lib.hid hb6; clear hb6)
    | (go_at_call 69; refine (HVD.out _).mono ?_; rintro e w7 ⟨rfl, hb7⟩; clear HVD; have HB7 := Lib.hid hb7; clear hb7))
  refine named1 (F := fun W => Code.wp _ _ _ _ W) ?_
  intro w8 k8 hb8 hz8
  have hb38 : Below w3.heap.size w3 w8 := bTrans (bTrans (bTrans (bTrans HB4.out HB5.out) HB6.out) HB7.out) hb8
  have HS8 := Lib.hid (HS3.out.on hb38)
  have HZ8 : Hid (∃ Z : Array Value, Z.size = 60 ∧ Blk w8 (w.heap.size + 1) 33 Z) := Lib.hid (by
    obtain ⟨Z, hZ, hr⟩ := HZ3.out
    exact ⟨Z, hZ, hr.on hb38⟩)
  have HP8 := Lib.hid (HP3.out.on hb38)
  have HO8 := Lib.hid (HO3.out.below hb38)
  have HB8 := Lib.hid (bTrans HB3.out hb38)
  obtain ⟨v0, v1⟩ := corn_cell k8 hm
  have hl8 := k8.lt
  have HK8 := Lib.hid k8
  have hlv : w.heap.size < w7.heap.size := by have h1 := HS3.out.lt; have h4 := HB4.out.size; have h5 := HB5.out.size; have h6 := HB6.out.size; have h7 := HB7.out.size; omega
  have c9 : w8.cell? ⟨w.heap.size + 1 + 1, 9, none⟩ = some (.int .i64 (getP S i 9)) := by
    rw [HP8.out.cell]
    simp [plCells, rowOf, kdP]
  have hls := HS8.out.lt
  have hlp := HP8.out.lt
  have HPC := Lib.hid (back_cells (getP S i) m)
  obtain ⟨s9, hs9⟩ : ∃ s9, getP S i 9 = s9 := ⟨_, rfl⟩
  rw [hs9] at c9 HPC
  clear hs9 k8 hb8 hz8 hb38 HS3 HZ3 HP3 HO3 HB3 HB4 HB5 HB6 HB7
  have hKp := Keeps.base w8
  refine wp_region_mixed [.pure, .pure, .pure, .pure, .held, .pure, .held, .pure, .pure, .pure, .tail] (fun _ => evTold base []) (by kernel_rfl) (by kernel_rfl) ?_
  repeat (first | (refine mix_pure rfl rfl rfl (fun K hK => ?_); go_big_quiet_op; refine hK _ ?_; clear hK K) | (refine mix_held rfl rfl rfl (by assumption) (fun K hK => ?_); go_big_quiet_op; refine hK _ ?_; clear hK K))
  refine mix_store rfl rfl 27 (.tmp 62) (.tmp 60) rfl w.heap.size (4 + i * 10) #[.int .i32 (cornX m), .int .i32 (cornY m), .int .i32 0, .int .i32 0, .int .i64 0, .int .i64 3, .int .i64 0, .int .i64 0, .int .i64 0, .int .i64 s9] rfl rfl (fun W hW => Blk.there (HS8.out.on hW) (by show 4 + i * 10 + 10 ≤ _; rw [List.size_toArray, stCells_length]; omega)) (by kernel_rfl) (by simp [Value.oneCell']) ?_
  simp only [Act.put, List.setIfInBounds_toArray, List.set_cons_zero, List.set_cons_succ]
  repeat (first | (refine mix_pure rfl rfl rfl (fun K hK => ?_); go_big_quiet_op; refine hK _ ?_; clear hK K) | (refine mix_held rfl rfl rfl (by assumption) (fun K hK => ?_); go_big_quiet_op; refine hK _ ?_; clear hK K))
  refine mix_nil ?_
  rintro W' ⟨W, hg, rfl⟩
  have hlw : w8.heap.size ≤ W.heap.size := Below.size hg
  have hs9 := pl_put (HS8.out.on hg) hi (pBack (getP S i) m)
  rw [HPC.out] at hs9
  rw [show putP (upd S 1 d) i (pBack (getP S i) m) = T by rw [← HT.out, HD.out]] at hs9
  have HZ9 : Hid (∃ Z : Array Value, Z.size = 60 ∧ Blk (W.setCells w.heap.size (4 + i * 10) [.int .i32 (cornX m), .int .i32 (cornY m), .int .i32 0, .int .i32 0, .int .i64 0, .int .i64 3, .int .i64 0, .int .i64 0, .int .i64 0, .int .i64 s9]) (w.heap.size + 1) 33 Z) := Lib.hid (by
    obtain ⟨Z, hZ, hr⟩ := HZ8.out
    exact ⟨Z, hZ, (hr.on hg).farC (by omega) _ _⟩)
  have HO9 := Lib.hid (OwnL.kept (row := some w.heap.size) (HO8.out.below hg) (oSetCells (World.grownBy.refl W _) (4 + i * 10) [.int .i32 (cornX m), .int .i32 (cornY m), .int .i32 0, .int .i32 0, .int .i64 0, .int .i64 3, .int .i64 0, .int .i64 0, .int .i64 0, .int .i64 s9]) (.inr (Blk.apart (HS8.out.on hg) (HO8.out.below hg) (by decide))))
  have HB9 := Lib.hid (bSetCells (bTrans HB8.out hg) (Nat.le_refl w.heap.size) (4 + i * 10) [.int .i32 (cornX m), .int .i32 (cornY m), .int .i32 0, .int .i32 0, .int .i64 0, .int .i64 3, .int .i64 0, .int .i64 0, .int .i64 0, .int .i64 s9])
  have hv9 := (HK8.out.on hg).farC (show w7.heap.size ≠ w.heap.size by omega) (4 + i * 10) [.int .i32 (cornX m), .int .i32 (cornY m), .int .i32 0, .int .i32 0, .int .i64 0, .int .i64 3, .int .i64 0, .int .i64 0, .int .i64 0, .int .i64 s9]
  obtain ⟨w9, hw9⟩ : ∃ w9, W.setCells w.heap.size (4 + i * 10) [.int .i32 (cornX m), .int .i32 (cornY m), .int .i32 0, .int .i32 0, .int .i64 0, .int .i64 3, .int .i64 0, .int .i64 0, .int .i64 0, .int .i64 s9] = w9 := ⟨_, rfl⟩
  have hz9 : w8.heap.size ≤ w9.heap.size := by rw [← hw9, setCells_size]; exact hlw
  rw [hw9] at hs9 HZ9 HO9 HB9 hv9 ⊢
  have HS9 := Lib.hid hs9
  obtain ⟨v0', -⟩ := corn_cell hv9 hm
  have hl9 := hv9.lt
  clear hw9 hg hs9 hv9 v0 v1 c9 hl8 hls hlp hKp HS8 HZ8 HP8 HO8 HB8 HPC HK8
  have hls := HS9.out.lt
  have HTL : Hid (∀ W, Grown w9 W → Calls Tryz.prog 39 #[.slice A n c, .int .i64 (S 0), .int .i64 ((i : Int) + 1), .int .i64 6, .int .i64 16384, .int .i64 9, .int .i64 0, .int .i32 (cornX m)] W fun e w' => ∃ v, e = .returned v ∧ ((evTold base (addE F L (evT ((i : Int) + 1) 6 6 16384 9 0 (cornX m)))).S v ∧ (evTold base (addE F L (evT ((i : Int) + 1) 6 6 16384 9 0 (cornX m)))).R v w') ∧ Grown W w') := Lib.hid (fun W hW => by
    rw [HS.out]
    exact ev_told hW ((i : Int) + 1) 6 16384 9 0 (cornX m) HO9.out (by omega) HPO.out hF (by omega) (em_bd hi) (by decide) (by decide) (by decide) (by decide) (corn_f32 _).1)
  go_upto_region 11 with fail
  have hKp := Keeps.base w9
  refine wp_region_mixedT [.held, .pure, .pure, .pure, .pure, .pure, .pure, .pure, .pure, .held, .make, .tail, .pure] (fun _ => evTold base (addE F L (evT ((i : Int) + 1) 6 6 16384 9 0 (cornX m)))) (by kernel_rfl) (by kernel_rfl) ?_
  refine mix_load rfl rfl (by assumption) 33 (.tmp 4) rfl w.heap.size 0 rfl (stCells T) _ hls (Blk.range HS9.out) Tryz.underlying33 rfl (by kernel_rfl) ?_
  simp only [Act.put, List.setIfInBounds_toArray, List.set_cons_zero, List.set_cons_succ]
  repeat (first | (refine mix_pure rfl rfl rfl (fun K hK => ?_); go_big_quiet_op; refine hK _ ?_; clear hK K) | (refine mix_held rfl rfl rfl (by assumption) (fun K hK => ?_); go_big_quiet_op; refine hK _ ?_; clear hK K))
  refine mix_make rfl rfl (by assumption) evTold_st (fun W hW => ?_) ?_
  · have HS2 := Lib.hid (HTL.out W hW)
    go_simp
    exact HS2.out
  rintro v ⟨A', c', n', rfl⟩ hKp2
  simp only [Act.put, List.setIfInBounds_toArray, List.set_cons_zero, List.set_cons_succ]
  refine mix_store rfl rfl 33 (.tmp 8) (.tmp 63) rfl (w.heap.size + 1) 0 (stCells T).toArray rfl rfl (fun W hW => ?_) (by kernel_rfl) (all_oneCell_toArray (int_one T)) ?_
  · have hW : Grown w9 W := hW.1
    obtain ⟨Z, hZ, hr⟩ := HZ9.out
    exact Blk.there (hr.on hW) (by rw [List.size_toArray, stCells_length, hZ]; decide)
  simp only [Act.put, List.setIfInBounds_toArray, List.set_cons_zero, List.set_cons_succ]
  repeat (first | (refine mix_pure rfl rfl rfl (fun K hK => ?_); go_big_quiet_op; refine hK _ ?_; clear hK K) | (refine mix_held rfl rfl rfl (by assumption) (fun K hK => ?_); go_big_quiet_op; refine hK _ ?_; clear hK K))
  refine mix_nil ?_
  rintro W' ⟨W, ⟨hg, hR⟩, rfl⟩
  have hR : OwnL W base 65 9 (.slice A' n' c') Ev.cells (addE F L (evT ((i : Int) + 1) 6 6 16384 9 0 (cornX m))) := hR
  obtain ⟨Z, hZ, hr⟩ := HZ9.out
  have hr' := hr.on hg
  have hrg := World.rangeAt_setCells_same W (w.heap.size + 1) 0 (stCells T) (by rw [stCells_length]; exact Blk.there hr' (by rw [hZ]; decide))
  have HRES := Lib.hid (run_loadVar_mid (P := Tryz.prog) _ _ _ 33 (stCells T) _ hrg Tryz.underlying33 rfl (by kernel_rfl))
  have HBX := Lib.hid (bSetCells (bTrans HB9.out hg) (show w.heap.size ≤ w.heap.size + 1 by omega) 0 (stCells T))
  have HOX := Lib.hid (OwnL.kept (row := some (w.heap.size + 1)) hR (oSetCells (World.grownBy.refl W _) 0 (stCells T)) (.inr (Blk.apart hr' hR (by decide))))
  obtain ⟨wx, hwx⟩ : ∃ wx, W.setCells (w.heap.size + 1) 0 (stCells T) = wx := ⟨_, rfl⟩
  rw [hwx] at HRES HBX HOX
  first | rw [hwx] | rw [show (stCells T).toArray.toList = stCells T from rfl, hwx]
  clear hR hr hr' hrg hwx hg hKp hKp2 v0'
  go_wp2_with fail
  refine bodyPost_ret (results_c1 (a := 8) (t := 33) (x := 9) rfl rfl HRES.out) rfl ⟨A', n', c', rfl, HOX.out, HBX.out⟩
end
end Go.Proofs.YtnaclkaapicelaaGreat

namespace Go.Proofs.YtnaclkaapicelaaGreat
open Go.RowKit
set_option maxRecDepth 100000
set_option linter.unusedSimpArgs false
section
variable {S : Nat → Int} {F : Int} {L : List Ev} {k : Nat}
theorem flyS_zero (h : S (24 + k * 6 + 4) = 0) : flyS k F (S, L) = (S, L) := by
  unfold flyS; rw [if_pos h]
theorem flyS_gone (h4 : getS S k 4 ≠ 0) (h : getS S k 5 - 1 = 0 ∨ arenaB (shotNext (getS S k) 0) (shotNext (getS S k) 1) = false) : flyS k F (S, L) = (putS S k zeroS, L) := by
  unfold flyS
  rw [if_neg (show ¬ (S, L).1 (24 + k * 6 + 4) = 0 from h4)]
  by_cases h5 : getS S k 5 - 1 = 0
  · rw [show flyT k F (S, L) = (false, (putS S k (upd (getS S k) 5 (getS S k 5 - 1)), L)) from if_pos h5]
    show (putS (putS S k _) k zeroS, L) = _
    rw [putS_putS]
  · have ha : arenaB (shotNext (getS S k) 0) (shotNext (getS S k) 1) = false := h.resolve_left h5
    rw [show flyT k F (S, L) = (false, (putS S k (shotNext (getS S k)), L)) from (if_neg h5).trans (if_pos ha)]
    show (putS (putS S k _) k zeroS, L) = _
    rw [putS_putS]
theorem flyS_on (h4 : getS S k 4 ≠ 0) (h5 : ¬ getS S k 5 - 1 = 0) (ha : arenaB (shotNext (getS S k) 0) (shotNext (getS S k) 1) = true) (hh : hitB S (shotNext (getS S k)) (otherOf (getS S k 4)) = false) : flyS k F (S, L) = (putS S k (shotNext (getS S k)), L) := by
  unfold flyS
  rw [if_neg (show ¬ (S, L).1 (24 + k * 6 + 4) = 0 from h4), show flyT k F (S, L) = (true, (putS S k (shotNext (getS S k)), L)) from (if_neg h5).trans ((if_neg (by rw [ha]; decide)).trans (if_neg (by rw [hh]; decide)))]
  rfl
theorem flyS_hit (h4 : getS S k 4 ≠ 0) (h5 : ¬ getS S k 5 - 1 = 0) (ha : arenaB (shotNext (getS S k) 0) (shotNext (getS S k) 1) = true) (hh : hitB S (shotNext (getS S k)) (otherOf (getS S k 4)) = true) {o : Nat} (ho : otherOf (getS S k 4) = o) (ho2 : o < 2) (hp : 0 < getP S o 5 - 1) :
    flyS k F (S, L) = (putP (putS S k zeroS) o (upd (getP S o) 5 (getP S o 5 - 1)), addE F L (evT ((o : Int) + 1) 2 2 32768 8 0 (getP S o 0))) := by
  rw [ho] at hh
  have e : ∀ j, j < 10 → getP (putS S k (shotNext (getS S k))) o j = getP S o j := fun j hj => getP_putS S o k ho2 _ j hj
  unfold flyS
  rw [if_neg (show ¬ (S, L).1 (24 + k * 6 + 4) = 0 from h4), show flyT k F (S, L) = (false, hitS o F (putS S k (shotNext (getS S k)), L)) from (if_neg h5).trans ((if_neg (by rw [ha]; decide)).trans ((if_pos (by rw [ho]; exact hh)).trans (by rw [ho])))]
  show (putS (hitS o F (putS S k (shotNext (getS S k)), L)).1 k zeroS, (hitS o F (putS S k (shotNext (getS S k)), L)).2) = _
  unfold hitS
  dsimp only
  rw [e 5 (by decide), e 0 (by decide), if_pos hp]
  dsimp only
  rw [putS_putP _ _ _ ho2, putS_putS]
  rw [putP_congr _ _ _ (upd (getP S o) 5 (getP S o 5 - 1)) (fun j hj => by unfold upd; rw [e j hj])]
theorem flyS_kill (h4 : getS S k 4 ≠ 0) (h5 : ¬ getS S k 5 - 1 = 0) (ha : arenaB (shotNext (getS S k) 0) (shotNext (getS S k) 1) = true) (hh : hitB S (shotNext (getS S k)) (otherOf (getS S k 4)) = true) {o : Nat} (ho : otherOf (getS S k 4) = o) (ho2 : o < 2) (hp : ¬ 0 < getP S o 5 - 1) :
    flyS k F (S, L) = (putP (upd (putS S k zeroS) (4 + (1 - o) * 10 + 9) (S (4 + (1 - o) * 10 + 9) + 1)) o (upd (upd (getP S o) 5 (getP S o 5 - 1)) 8 30), addE F (addE F L (evT ((o : Int) + 1) 2 2 32768 8 0 (getP S o 0))) (evT ((o : Int) + 1) 5 5 32768 10 0 (getP S o 0))) := by
  rw [ho] at hh
  have e : ∀ j, j < 10 → getP (putS S k (shotNext (getS S k))) o j = getP S o j := fun j hj => getP_putS S o k ho2 _ j hj
  unfold flyS
  rw [if_neg (show ¬ (S, L).1 (24 + k * 6 + 4) = 0 from h4), show flyT k F (S, L) = (false, hitS o F (putS S k (shotNext (getS S k)), L)) from (if_neg h5).trans ((if_neg (by rw [ha]; decide)).trans ((if_pos (by rw [ho]; exact hh)).trans (by rw [ho])))]
  show (putS (hitS o F (putS S k (shotNext (getS S k)), L)).1 k zeroS, (hitS o F (putS S k (shotNext (getS S k)), L)).2) = _
  unfold hitS
  dsimp only
  rw [e 5 (by decide), e 0 (by decide), if_neg hp]
  dsimp only
  rw [putS_other S k _ (4 + (1 - o) * 10 + 9) (by omega)]
  rw [putP_congr _ _ _ (upd (upd (getP S o) 5 (getP S o 5 - 1)) 8 30) (fun j hj => by unfold upd; rw [e j hj])]
  congr 1
  funext m
  generalize upd (upd (getP S o) 5 (getP S o 5 - 1)) 8 30 = q
  generalize S (4 + (1 - o) * 10 + 9) + 1 = v
  unfold putS putP upd
  dsimp only
  by_cases h1 : 24 + k * 6 ≤ m ∧ m < 24 + k * 6 + 6
  · rw [if_pos h1, if_neg (by omega), if_neg (by omega), if_pos h1]
  · rw [if_neg h1]
    by_cases h2 : 4 + o * 10 ≤ m ∧ m < 4 + o * 10 + 10
    · rw [if_pos h2, if_neg (by omega), if_pos h2]
    · rw [if_neg h2, if_neg h2]
      by_cases h3 : m = 4 + (1 - o) * 10 + 9
      · rw [if_pos h3, if_pos h3]
      · rw [if_neg h3, if_neg h3, if_neg h1, if_neg h1]
end
/-! ### a shot's cells -/
def shCells (x : Nat → Int) : List Value := [.int .i32 (x 0), .int .i32 (x 1), .int .i32 (x 2), .int .i32 (x 3), .int .i64 (x 4), .int .i64 (x 5)]
def kdX (j : Nat) : IntKind := if j < 4 then .i32 else .i64
theorem sh_six (p : Nat → Int) (i : Nat) : shCells (shotOf p i) = [.int .i32 (padd (p 0) (hdX (p 4) 262144)), .int .i32 (padd (p 1) (hdY (p 4) 262144)), .int .i32 (hdX (p 4) 196608), .int .i32 (hdY (p 4) 196608), .int .i64 ((i : Int) + 1), .int .i64 40] := by
  simp [shCells, shotOf]
theorem sh_at (x : Nat → Int) (j : Nat) (hj : j < 6) : (shCells x)[j]? = some (.int (kdX j) (x j)) := by
  obtain rfl | rfl | rfl | rfl | rfl | rfl : j = 0 ∨ j = 1 ∨ j = 2 ∨ j = 3 ∨ j = 4 ∨ j = 5 := by omega
  all_goals rfl
theorem sh_put {w : World} {g : Nat} {S : Nat → Int} (h : Blk w g 33 (stCells S).toArray) {k : Nat} (hk : k < 6) (x : Nat → Int) : Blk (w.setCells g (24 + k * 6) (shCells x)) g 33 (stCells (putS S k x)).toArray := by
  refine st_setRange h (24 + k * 6) (shCells x) _ (by show 24 + k * 6 + 6 ≤ 60; omega) (fun j hj => ?_) (fun j hj => ?_)
  · have hj : j < 6 := hj
    rw [putS_at S k x j hj, kdS_s k j hj]
    obtain rfl | rfl | rfl | rfl | rfl | rfl : j = 0 ∨ j = 1 ∨ j = 2 ∨ j = 3 ∨ j = 4 ∨ j = 5 := by omega
    all_goals rfl
  · exact putS_other S k x j hj
theorem sh_range {w : World} {g : Nat} {S : Nat → Int} (h : Blk w g 33 (stCells S).toArray) {k : Nat} (hk : k < 6) : w.rangeAt g (24 + k * 6) (shCells (getS S k)) := fun j v hv => by
  have hj : j < 6 := (List.getElem?_eq_some_iff.1 hv).1
  have := st_cell h (24 + k * 6 + j) (by omega)
  rw [this, ← hv, kdS_s k j hj]
  obtain rfl | rfl | rfl | rfl | rfl | rfl : j = 0 ∨ j = 1 ∨ j = 2 ∨ j = 3 ∨ j = 4 ∨ j = 5 := by omega
  all_goals rfl
theorem sh_one (x : Nat → Int) : ∀ v ∈ shCells x, v.oneCell' = true := fun v hv => by
  simp only [shCells, List.mem_cons, List.not_mem_nil, or_false] at hv
  rcases hv with rfl | rfl | rfl | rfl | rfl | rfl <;> rfl
theorem sh_set (x : Nat → Int) (j : Nat) (hj : j < 6) {k : IntKind} (hk : kdX j = k) (v : Int) : ((shCells x).toArray).setIfInBounds j (.int k v) = (shCells (upd x j v)).toArray := by
  subst hk
  obtain rfl | rfl | rfl | rfl | rfl | rfl : j = 0 ∨ j = 1 ∨ j = 2 ∨ j = 3 ∨ j = 4 ∨ j = 5 := by omega
  all_goals simp [shCells, upd, kdX]
/-- What the document's shot holds: the state, what is answered, the shot, the events. -/
structure SF (w0 w : World) (base : Nat) (S x : Nat → Int) (A : Option Addr) (n c : Nat) (F : Int) (L : List Ev) : Prop where
  st : Blk w w0.heap.size 33 (stCells S).toArray
  re : ∃ Z : Array Value, Z.size = 60 ∧ Blk w (w0.heap.size + 1) 33 Z
  sh : Blk w (w0.heap.size + 1 + 1) 30 (shCells x).toArray
  ow : OwnL w base 65 9 (.slice A n c) Ev.cells L
  ok : PageOk F L
  bw : base ≤ w0.heap.size
  bl : Below w0.heap.size w0 w
section
variable {w0 w w' : World} {base : Nat} {S x : Nat → Int} {A : Option Addr} {n c : Nat} {F : Int} {L : List Ev}
theorem SF.on (h : SF w0 w base S x A n c F L) (hb : Below w.heap.size w w') : SF w0 w' base S x A n c F L := by
  obtain ⟨Z, hZ, hr⟩ := h.re
  exact ⟨h.st.on hb, ⟨Z, hZ, hr.on hb⟩, h.sh.on hb, h.ow.below hb, h.ok, h.bw, bTrans h.bl hb⟩
theorem SF.lt (h : SF w0 w base S x A n c F L) : w0.heap.size + 1 + 1 < w.heap.size := h.sh.lt
theorem SF.cellx (h : SF w0 w base S x A n c F L) (j : Nat) (hj : j < 6) {k : IntKind} (hk : kdX j = k) : w.cell? ⟨w0.heap.size + 1 + 1, j, none⟩ = some (.int k (x j)) := by
  rw [h.sh.cell, ← hk]
  simpa using sh_at x j hj
theorem SF.zero (h : SF w0 w base S x A n c F L) (j : Nat) : w.frozen? ⟨w0.heap.size + 1 + 1, j, none⟩ = false := h.sh.frozen j
theorem SF.setx (h : SF w0 w base S x A n c F L) (j : Nat) (hj : j < 6) {k : IntKind} (hk : kdX j = k) (v : Int) : SF w0 (w.setCell ⟨w0.heap.size + 1 + 1, j, none⟩ (.int k v)) base S (upd x j v) A n c F L := by
  obtain ⟨Z, hZ, hr⟩ := h.re
  refine ⟨h.st.farG (by omega) _ _, ⟨Z, hZ, hr.farG (by omega) _ _⟩, ?_, h.ow.farG (Blk.apart h.sh h.ow (by decide)) _ _, h.ok, h.bw, bSetG h.bl (by omega) _ _⟩
  have := h.sh.set j (.int k v)
  rwa [sh_set x j hj hk v] at this
theorem SF.put (h : SF w0 w base S x A n c F L) {k : Nat} (hk : k < 6) (y : Nat → Int) : SF w0 (w.setCells w0.heap.size (24 + k * 6) (shCells y)) base (putS S k y) x A n c F L := by
  obtain ⟨Z, hZ, hr⟩ := h.re
  exact ⟨sh_put h.st hk y, ⟨Z, hZ, hr.farC (by omega) _ _⟩, h.sh.farC (by omega) _ _, OwnL.kept (row := some w0.heap.size) h.ow (oSetCells (World.grownBy.refl w _) _ _) (.inr (Blk.apart h.st h.ow (by decide))), h.ok, h.bw, bSetCells h.bl (Nat.le_refl _) _ _⟩
theorem SF.putp (h : SF w0 w base S x A n c F L) {i : Nat} (hi : i < 2) (p : Nat → Int) : SF w0 (w.setCells w0.heap.size (4 + i * 10) (plCells p)) base (putP S i p) x A n c F L := by
  obtain ⟨Z, hZ, hr⟩ := h.re
  exact ⟨pl_put h.st hi p, ⟨Z, hZ, hr.farC (by omega) _ _⟩, h.sh.farC (by omega) _ _, OwnL.kept (row := some w0.heap.size) h.ow (oSetCells (World.grownBy.refl w _) _ _) (.inr (Blk.apart h.st h.ow (by decide))), h.ok, h.bw, bSetCells h.bl (Nat.le_refl _) _ _⟩
theorem SF.setS (h : SF w0 w base S x A n c F L) (j : Nat) (hj : j < 60) {k : IntKind} (hk : kdS j = k) (v : Int) : SF w0 (w.setCell ⟨w0.heap.size, j, none⟩ (.int k v)) base (upd S j v) x A n c F L := by
  obtain ⟨Z, hZ, hr⟩ := h.re
  exact ⟨st_set h.st j hj hk v, ⟨Z, hZ, hr.farG (by omega) _ _⟩, h.sh.farG (by omega) _ _, h.ow.farG (Blk.apart h.st h.ow (by decide)) _ _, h.ok, h.bw, bSetG h.bl (Nat.le_refl _) _ _⟩
theorem SF.told (h : SF w0 w base S x A n c F L) {A' : Option Addr} {n' c' : Nat} {L' : List Ev} (hb : Below w.heap.size w w') (ho : OwnL w' base 65 9 (.slice A' n' c') Ev.cells L') (hp : PageOk F L') : SF w0 w' base S x A' n' c' F L' := by
  have k := h.on hb
  exact ⟨k.st, k.re, k.sh, ho, hp, h.bw, k.bl⟩
/-- And who may be hit. -/
structure SP (w0 w : World) (base gp : Nat) (S x p : Nat → Int) (A : Option Addr) (n c : Nat) (F : Int) (L : List Ev) : Prop where
  sf : SF w0 w base S x A n c F L
  pl : Blk w gp 27 (plCells p).toArray
  far : w0.heap.size + 1 + 1 < gp
variable {gp : Nat} {p : Nat → Int}
theorem SP.on (h : SP w0 w base gp S x p A n c F L) (hb : Below w.heap.size w w') : SP w0 w' base gp S x p A n c F L := ⟨h.sf.on hb, h.pl.on hb, h.far⟩
theorem SP.cellp (h : SP w0 w base gp S x p A n c F L) (j : Nat) (hj : j < 10) {k : IntKind} (hk : kdP j = k) : w.cell? ⟨gp, j, none⟩ = some (.int k (p j)) := by
  rw [h.pl.cell]
  simp [plCells, rowOf, hj, hk]
theorem SP.zero (h : SP w0 w base gp S x p A n c F L) (j : Nat) : w.frozen? ⟨gp, j, none⟩ = false := h.pl.frozen j
theorem SP.setp (h : SP w0 w base gp S x p A n c F L) (j : Nat) (hj : j < 10) {k : IntKind} (hk : kdP j = k) (v : Int) : SP w0 (w.setCell ⟨gp, j, none⟩ (.int k v)) base gp S x (upd p j v) A n c F L := by
  obtain ⟨Z, hZ, hr⟩ := h.sf.re
  have hfar := h.far
  have hbw := h.sf.bw
  refine ⟨⟨h.sf.st.farG (by omega) _ _, ⟨Z, hZ, hr.farG (by omega) _ _⟩, h.sf.sh.farG (by omega) _ _, h.sf.ow.farG (Blk.apart h.pl h.sf.ow (by decide)) _ _, h.sf.ok, h.sf.bw, bSetG h.sf.bl (by omega) _ _⟩, ?_, h.far⟩
  have := h.pl.set j (.int k v)
  rwa [pl_set p j hj hk v] at this
theorem SP.setS (h : SP w0 w base gp S x p A n c F L) (j : Nat) (hj : j < 60) {k : IntKind} (hk : kdS j = k) (v : Int) : SP w0 (w.setCell ⟨w0.heap.size, j, none⟩ (.int k v)) base gp (upd S j v) x p A n c F L :=
  ⟨h.sf.setS j hj hk v, h.pl.farG (by have := h.far; omega) _ _, h.far⟩
/-- An event told. -/
theorem SP.tell (em kd ga pr ln y : Int) (h : SP w0 w base gp S x p A n c F L) (hF : 0 ≤ F ∧ F ≤ 1073741824) (hL : L.length < 64) (hc : cntE L em kd ≤ 15) (h1 : 0 ≤ em ∧ em ≤ 2) (h2 : 1 ≤ kd ∧ kd ≤ 9) (h4 : 0 ≤ ga ∧ ga ≤ 32768) (h5 : 0 ≤ pr ∧ pr ≤ 15) (h6 : 0 ≤ ln ∧ ln ≤ 600) (hx : F32 y) :
    Calls Tryz.prog 39 #[.slice A n c, .int .i64 F, .int .i64 em, .int .i64 kd, .int .i64 ga, .int .i64 pr, .int .i64 ln, .int .i32 y] w fun e w' => ∃ A' c' n', e = .returned (.slice A' n' c') ∧ SP w0 w' base gp S x p A' n' c' F (addE F L (evT em kd kd ga pr ln y)) := by
  have hlt := h.sf.lt
  have hbw := h.sf.bw
  refine (r12Told_any em kd ga pr ln y h.sf.ow (by omega) h.sf.ok (evT_ok F _ _ _ _ _ _ _ hF h1 h2 (by omega) h4 h5 h6 0 (by decide)) hL hc (by omega) hx).mono ?_
  rintro e w' ⟨A', c', n', rfl, ho, hb⟩
  refine ⟨A', c', n', rfl, h.sf.told hb ho (h.sf.ok.add _ ?_), h.pl.on hb, h.far⟩
  refine evOk_ord (evT_ok F _ _ _ _ _ _ _ hF h1 h2 (by omega) h4 h5 h6 0 (by decide)) ⟨by omega, ?_⟩
  show ((cntE L em kd : Nat) : Int) ≤ 15
  omega
end
end Go.Proofs.YtnaclkaapicelaaGreat
