/-
  What else is wanted of: TrP, OpenInt, OpenSt, Same, MixV, StRow, TapD, TapN.
-/
import Derived.DeepKeys
import Derived.WalkKit
import Derived.OpenShut
import Derived.Outline
import Derived.Deep.Cut
import Derived.Test.YtibeihcpehikoaaGreatNl8
import Derived.Test.YtibeihcpehikoaaGreatNk37
import Derived.Test.YtibeihcpehikoaaGreatNk39
namespace Go.Proofs.YtibeihcpehikoaaGreat
set_option maxHeartbeats 4000000
section
open Go.RowKit
set_option maxRecDepth 100000
theorem preT_get (inp : Nat → Nat × Nat) (S : Nat → Int) (k j : Nat) (h : j < k) : (preT inp S k)[j]? = some (rdT inp S j) := by
 unfold preT
 rw [List.getElem?_map, List.getElem?_range h]; rfl
end
section
open Go.RowKit
def valOf (P : Program) (t : TypeId) (cs : List Value) : Value := match P.underlying t with
 | some (.int _) => cs.headD undef
 | _ => .agg cs.toArray
theorem ivals_length {ks : List IntKind} {X : List Int} (h : X.length = ks.length) : (ivals ks X).length = ks.length := by unfold ivals; rw [List.length_zipWith]; omega
theorem ivals_mid {a b c : List IntKind} {X : List Int} : ((ivals (a ++ b ++ c) X).drop a.length).take b.length = ivals b ((X.drop a.length).take b.length) := by
 unfold ivals
 rw [List.drop_zipWith, List.take_zipWith, List.append_assoc, List.drop_left, List.take_left]
section
variable {P : Program}
theorem part_ints {t : TypeId} {ks : List IntKind} {m : Nat} (h : kindsOf P m t = some ks) (hc : P.cellsOf t = ks.length) (cs : List Value) (off : Nat) (hl : off + ks.length ≤ cs.length) (w : World) :
  (part t cs.toArray off).run P w = .ok (valOf P t ((cs.drop off).take ks.length)) w := by
 cases m with
 | zero => simp [kindsOf] at h
 | succ m =>
  unfold kindsOf at h
  cases hu : P.underlying t with
  | none => simp [hu] at h
  | some kd =>
   obtain ⟨i, hi⟩ := info_of_underlying hu
   cases kd
   case int k =>
    simp only [hu, Option.some.injEq] at h
    subst h
    have hoff : off < cs.length := by simp at hl; omega
    have h1 : (part t cs.toArray off).run P w = .ok cs[off] w := by
     simp [part, isAgg, run_underlying hu, hoff]
    rw [h1]
    unfold valOf
    rw [hu]
    simp only [List.length_singleton]
    rw [List.drop_eq_getElem_cons hoff]
    rfl
   case array n e =>
    have h1 : (part t cs.toArray off).run P w = .ok (.agg (cs.toArray.extract off (off + P.cellsOf t))) w := by
     simp [part, isAgg, run_underlying hu, run_sizeOf w hi]
    rw [h1]
    unfold valOf
    rw [hu, hc]
    simp [List.extract]
   case struct fs =>
    have h1 : (part t cs.toArray off).run P w = .ok (.agg (cs.toArray.extract off (off + P.cellsOf t))) w := by
     simp [part, isAgg, run_underlying hu, run_sizeOf w hi]
    rw [h1]
    unfold valOf
    rw [hu, hc]
    simp [List.extract]
   all_goals (simp [hu] at h; done)
def EqI (P : Program) (d : Nat) (t : TypeId) (ks : List IntKind) : Prop := ∀ (X Y : List Int), X.length = ks.length → Y.length = ks.length → ∀ w : World,
 (Op.equalIn d t (valOf P t (ivals ks X)) (valOf P t (ivals ks Y))).run P w = .ok (decide (X = Y)) w
theorem decide_split (a b : List Int) (n : Nat) : decide (a = b) = (decide (a.take n = b.take n) && decide (a.drop n = b.drop n)) := by
 rw [Bool.eq_iff_iff]
 simp only [decide_eq_true_eq, Bool.and_eq_true]
 constructor
 ·rintro rfl; exact ⟨rfl, rfl⟩
 ·rintro ⟨h1, h2⟩
  rw [← List.take_append_drop n a, ← List.take_append_drop n b, h1, h2]
theorem eqFields_ints {d m : Nat} (IH : ∀ t ks, kindsOf P m t = some ks → EqI P d t ks) : ∀ (fs : List Field) (acc ks : List IntKind),
  fs.foldlM (fun acc f => if f.name ≠ "_" ∧ f.offset = acc.length then (kindsOf P m f.type).bind fun ks => if P.cellsOf f.type = ks.length then some (acc ++ ks) else none else none) acc = some ks →
  (∃ rest, ks = acc ++ rest) ∧ ∀ (X Y : List Int), X.length = ks.length → Y.length = ks.length → ∀ w : World, (Op.eqFields d (ivals ks X).toArray (ivals ks Y).toArray fs).run P w = .ok (decide (X.drop acc.length = Y.drop acc.length)) w
 | [], acc, ks, h => by
  simp only [List.foldlM_nil, pure, Option.some.injEq] at h
  subst h
  refine ⟨⟨[], by simp⟩, fun X Y hX hY w => ?_⟩
  rw [List.drop_of_length_le (by omega), List.drop_of_length_le (by omega)]
  simp [Op.eqFields]
 | f :: fs, acc, ks, h => by
  simp only [List.foldlM_cons, bind, Option.bind_eq_some_iff] at h
  obtain ⟨acc', h1, h2⟩ := h
  by_cases hn : f.name ≠ "_" ∧ f.offset = acc.length
  ·rw [if_pos hn] at h1
   simp only [Option.bind_eq_some_iff] at h1
   obtain ⟨kf, h3, h4⟩ := h1
   by_cases hc : P.cellsOf f.type = kf.length
   ·rw [if_pos hc] at h4
    simp only [Option.some.injEq] at h4
    subst h4
    obtain ⟨⟨rest, hr⟩, hrun⟩ := eqFields_ints IH fs _ ks h2
    refine ⟨⟨kf ++ rest, by rw [hr, List.append_assoc]⟩, fun X Y hX hY w => ?_⟩
    have hlen : ks.length = acc.length + kf.length + rest.length := by rw [hr]; simp only [zG]
    have pX : (part f.type (ivals ks X).toArray f.offset).run P w = .ok (valOf P f.type (ivals kf ((X.drop acc.length).take kf.length))) w := by
     rw [part_ints h3 hc _ _ (by rw [ivals_length hX, hn.2]; omega), hn.2, hr, ivals_mid]
    have pY : (part f.type (ivals ks Y).toArray f.offset).run P w = .ok (valOf P f.type (ivals kf ((Y.drop acc.length).take kf.length))) w := by
     rw [part_ints h3 hc _ _ (by rw [ivals_length hY, hn.2]; omega), hn.2, hr, ivals_mid]
    have hE := IH f.type kf h3 ((X.drop acc.length).take kf.length) ((Y.drop acc.length).take kf.length) (by simp; omega) (by simp; omega) w
    have hS := decide_split (X.drop acc.length) (Y.drop acc.length) kf.length
    have hR := hrun X Y hX hY w
    rw [zG, ← List.drop_drop, ← List.drop_drop] at hR
    simp only [Op.eqFields, hn.1, ne_eq, not_false_eq_true, if_true, Sem.run_bind, pX, pY, hE, Result.andThen_ok]
    rw [hS]
    cases decide (((X.drop acc.length).take kf.length) = ((Y.drop acc.length).take kf.length))
    ·simp
    ·simpa using hR
   ·rw [if_neg hc] at h4; cases h4
  ·rw [if_neg hn] at h1; cases h1
theorem eqItems_ints {d : Nat} {e : TypeId} {ks : List IntKind} {m : Nat} (hk : kindsOf P m e = some ks) (hc : P.cellsOf e = ks.length) (IH : EqI P d e ks) (n : Nat) (X Y : List Int) (hX : X.length = n * ks.length) (hY : Y.length = n * ks.length) (w : World) :
  ∀ (j i : Nat), i + j = n → (Op.eqItems d e (P.cellsOf e) (ivals (List.replicate n ks).flatten X).toArray (ivals (List.replicate n ks).flatten Y).toArray (List.range' i j)).run P w = .ok (decide (X.drop (i * ks.length) = Y.drop (i * ks.length))) w
 | 0, i, h => by
  obtain rfl : i = n := by omega
  rw [List.drop_of_length_le (by omega), List.drop_of_length_le (by omega)]
  simp [Op.eqItems, List.range']
 | j + 1, i, h => by
  have hr := eqItems_ints hk hc IH n X Y hX hY w j (i + 1) (by omega)
  have hlen : (List.replicate n ks).flatten.length = n * ks.length := by simp
  have hsplit : (List.replicate n ks).flatten = (List.replicate i ks).flatten ++ ks ++ (List.replicate j ks).flatten := by
   obtain rfl : n = i + (1 + j) := by omega
   rw [← List.replicate_append_replicate, List.flatten_append, ← List.replicate_append_replicate, List.flatten_append]
   simp
  have hil : (List.replicate i ks).flatten.length = i * ks.length := by simp
  have hin : i * ks.length + ks.length ≤ n * ks.length := by
   have := Nat.mul_le_mul_right ks.length (show i + 1 ≤ n by omega)
   rw [Nat.add_mul, Nat.one_mul] at this
   exact this
  have pp : ∀ Z : List Int, Z.length = n * ks.length → (part e (ivals (List.replicate n ks).flatten Z).toArray (i * P.cellsOf e)).run P w = .ok (valOf P e (ivals ks ((Z.drop (i * ks.length)).take ks.length))) w := fun Z hZ => by
   rw [part_ints hk hc _ _ (by rw [ivals_length (by rw [hlen]; exact hZ), hlen, hc]; exact hin), hc]
   have := ivals_mid (a := (List.replicate i ks).flatten) (b := ks) (c := (List.replicate j ks).flatten) (X := Z)
   rw [hil, ← hsplit] at this
   rw [this]
  have hE := IH ((X.drop (i * ks.length)).take ks.length) ((Y.drop (i * ks.length)).take ks.length) (by simp; omega) (by simp; omega) w
  have hS := decide_split (X.drop (i * ks.length)) (Y.drop (i * ks.length)) ks.length
  rw [Nat.add_mul, Nat.one_mul, ← List.drop_drop, ← List.drop_drop] at hr
  simp only [List.range'_succ, Op.eqItems, Sem.run_bind, pp X hX, pp Y hY, hE, Result.andThen_ok]
  rw [hS]
  cases decide (((X.drop (i * ks.length)).take ks.length) = ((Y.drop (i * ks.length)).take ks.length))
  ·simp
  ·simpa using hr
theorem equalIn_ints (d : Nat) : ∀ (m : Nat) (t : TypeId) (ks : List IntKind), kindsOf P m t = some ks → EqI P (d + m) t ks
 | 0, _, _, h => by simp [kindsOf] at h
 | m + 1, t, ks, h => by
  have h0 := h
  unfold kindsOf at h
  cases hu : P.underlying t with
  | none => simp [hu] at h
  | some kd =>
   cases kd
   case int k =>
    simp only [hu, Option.some.injEq] at h
    subst h
    intro X Y hX hY w
    match X, hX, Y, hY with
    | [x], _, [y], _ =>
     have : (Op.equalIn (d + m + 1) t (.int k x) (.int k y)).run P w = .ok (x == y) w := run_equalIn_int w (d + m) t k k x y hu
     unfold valOf
     simp only [hu, ivals, List.zipWith_cons_cons, List.zipWith_nil_left, List.headD_cons]
     rw [show d + (m + 1) = d + m + 1 from rfl, this]
     congr 1
     rw [Bool.eq_iff_iff]; simp
   case array n e =>
    simp only [hu, Option.bind_eq_some_iff] at h
    obtain ⟨ke, h1, h2⟩ := h
    by_cases hc : P.cellsOf e = ke.length
    ·rw [if_pos hc] at h2
     simp only [Option.some.injEq] at h2
     subst h2
     intro X Y hX hY w
     have hpe : ∃ i, P.info? e = some i := by
      cases m with
      | zero => simp [kindsOf] at h1
      | succ m' =>
       unfold kindsOf at h1
       cases hue : P.underlying e with
       | none => simp [hue] at h1
       | some _ => exact info_of_underlying hue
     obtain ⟨i, hi⟩ := hpe
     have hlen : (List.replicate n ke).flatten.length = n * ke.length := by simp
     have hv : ∀ Z, valOf P t (ivals (List.replicate n ke).flatten Z) = .agg (ivals (List.replicate n ke).flatten Z).toArray := fun Z => by unfold valOf; rw [hu]
     rw [hv, hv, show d + (m + 1) = (d + m) + 1 from rfl, run_equalIn_array w (d + m) _ _ hu hi, List.range_eq_range']
     have := eqItems_ints h1 hc (equalIn_ints d m e ke h1) n X Y (by rw [hX, hlen]) (by rw [hY, hlen]) w n 0 (by omega)
     simpa using this
    ·rw [if_neg hc] at h2; cases h2
   case struct fs =>
    simp only [hu] at h
    by_cases hs : P.stoodInHeld t = true
    ·rw [if_pos hs] at h; cases h
    ·rw [if_neg hs] at h
     have hs' : P.stoodInHeld t = false := by simpa using hs
     obtain ⟨-, hrun⟩ := eqFields_ints (equalIn_ints d m) fs.toList [] ks h
     intro X Y hX hY w
     have hfs : P.fieldsOf t = fs := by simp [Program.fieldsOf, hu]
     have hv : ∀ Z, valOf P t (ivals ks Z) = .agg (ivals ks Z).toArray := fun Z => by unfold valOf; rw [hu]
     rw [hv, hv, show d + (m + 1) = (d + m) + 1 from rfl, run_equalIn_struct w (d + m) t _ _ (by rw [hfs]; exact hu) hs', hfs]
     simpa using hrun X Y hX hY w
   all_goals (simp [hu] at h; done)
theorem neq_ints {t : TypeId} {ks : List IntKind} (h : kindsOf P 100 t = some ks) (hg : ∀ cs, valOf P t cs = .agg cs.toArray) {xs ys : List Value} (X Y : List Int) (hX : X.length = ks.length) (hY : Y.length = ks.length) (ex : xs = ivals ks X) (ey : ys = ivals ks Y) (w : World) :
  (binOp .neq t (.agg xs.toArray) (.agg ys.toArray)).run P w = .ok (.bool (!decide (X = Y))) w := by
 subst ex ey
 have := equalIn_ints (P := P) 9900 100 t ks h X Y hX hY w
 rw [hg, hg] at this
 rw [run_neq_struct]
 rw [this]
 rfl
end
open Go.RowKit Go.WideShapes Go.ChangeShapes
end
section
open Go.RowKit Go.WideShapes Go.ChangeShapes
set_option maxRecDepth 100000
theorem st_kinds : kindsOf Tryz.prog 100 41 = some (rowOf 60 kdS) := by kernel_rfl
theorem ivals_row (kd : Nat → IntKind) (n : Nat) (X : List Int) (h : X.length = n) : ivals (rowOf n kd) X = rowOf n fun i => Value.int (kd i) (X.getD i 0) := by
 subst h
 apply List.ext_getElem
 ·simp [ivals, rowOf]
 ·intro i h1 h2
  simp [ivals, rowOf] at h1 h2 ⊢
  rw [List.getElem?_eq_getElem h1]; simp
end
section
open Go.RowKit
set_option maxRecDepth 100000
set_option linter.unusedSimpArgs false
theorem ev_ivals (e : Ev) : e.cells = ivals k9 (evI e) := rfl
theorem ev_kinds : kindsOf Tryz.prog 100 62 = some k9 := by kernel_rfl
theorem evI_dec (a b : Ev) : decide (evI a = evI b) = decide (a = b) := by
 by_cases h : a = b
 ·subst h; simp
 ·rw [decide_eq_false h, decide_eq_false (fun e => h (evI_inj e))]
theorem ev_valOf (cs : List Value) : valOf Tryz.prog 62 cs = .agg cs.toArray := by unfold valOf; rw [Tryz.underlying62]
theorem ev_neq (a b : Ev) (w : World) : (binOp .neq 62 (.agg a.cells.toArray) (.agg b.cells.toArray)).run Tryz.prog w = .ok (.bool (!decide (a = b))) w := by
 have := neq_ints ev_kinds ev_valOf (evI a) (evI b) rfl rfl (ev_ivals a) (ev_ivals b) w
 rwa [evI_dec] at this
section
variable {P : Program} {a : Act} {o : Oper}
theorem runs_neq {T T' : TypeId} {x y : Operand} {xs ys : Array Value} {v : Value} (ho : o.op = .binOp .neq T x y T') (hx : a.eval x = .agg xs) (hy : a.eval y = .agg ys) (hg : P.eqGuardType P.depth T = false) (hr : ∀ W, (binOp .neq T (.agg xs) (.agg ys)).run P W = .ok v W) (W : World) : RunsTo P o a W v := by
 unfold RunsTo execOp
 simp only [ho, hx, hy, Sem.run_bind, run_eqGuard_agg W .neq T x y xs ys hg, Result.andThen_ok, hr, Sem.run_pure]
theorem mix_run {ops : Array Oper} {w : World} {kd : Nat → Kd} {sp : Nat → Told} {E : Act → (World → Prop) → Prop} {rest : List Oper} {k : Nat} {D : World → Prop} (v : Value) (hw : Region.wanted o (yielded ops a.tmps) = true) (hk : kd k = .pure) (hr : ∀ W, RunsTo P o a W v)
  (h : wpMix P ops w kd sp E rest (k + 1) (a.put o.dst v) D) : wpMix P ops w kd sp E (o :: rest) k a D := by
 unfold wpMix mStep
 rw [if_pos hw, hk]
 exact ⟨v, hr, h⟩
theorem wpList_runs {ops : Array Oper} {rest : List Oper} {w : World} {Q : Exit → Act → World → Prop} (v : Value) (hw : Region.wanted o (yielded ops a.tmps) = true) (hr : RunsTo P o a w v) (h : wpList P ops Q rest (a.put o.dst v) w) : wpList P ops Q (o :: rest) a w :=
 wpList_step fun K hK => by
  simp only [hw, if_true]
  unfold Oper.wp
  unfold RunsTo at hr
  rw [hr]
  exact hK _ _ h
end
theorem Rd.evr {w : World} {B : Nat} {A : Option Addr} {l : List Ev} (h : Rd w B A (l.flatMap Ev.cells)) {k : Nat} (hk : k < l.length) :
  ∃ b off, A = some ⟨b, off, none⟩ ∧ b < B ∧ w.rangeAt b (off + k * 9) l[k].cells := by
 obtain ⟨b, off, hA, hb, hat⟩ := h.at_ Ev.cells_length (by omega) hk
 exact ⟨b, off, hA, hb, hat⟩
theorem same_any (A B : Option Addr) (c d : Nat) (L M : List Ev) (w : World) (hL : L.length ≤ 1000000000) (hl : Rd w w.heap.size A (L.flatMap Ev.cells)) (hm : Rd w w.heap.size B (M.flatMap Ev.cells)) :
  Calls Tryz.prog 21 #[.slice A L.length c, .slice B M.length d] w fun e w' => e = .returned (.bool (decide (L = M))) ∧ Below w.heap.size w w' := by
 obtain ⟨n, hn⟩ : ∃ n, L.length = n := ⟨_, rfl⟩
 obtain ⟨m, hm'⟩ : ∃ m, M.length = m := ⟨_, rfl⟩
 by_cases hne : n = m
 ·subst hne
  rw [hn] at hL ⊢
  rw [hm']
  have HL := zz hl
  have HM := zz hm
  have HN := zz hn
  have HN' := zz hm'
  clear hl hm hn hm'
  have hnn : (n != n) = false := by simp
  go_enter Tryz.func21, Tryz.ntmps21
  go_wp2_with fail
  go_loopw [5] (fun v wr => ∃ k : Nat, k ≤ n ∧ v = .int .i64 k ∧ Hid (L.take k = M.take k) ∧ Hid (Grown w wr)) (fun v _ => n - (intOf v).toNat)
  case atStart => exact ⟨0, Nat.zero_le _, rfl, zz (by simp), zz (Grown.refl _)⟩
  case round =>
   obtain ⟨k, hk, rfl, HT, HG⟩ := hrel
   by_cases hlt : k < n
   ·have hkL : k < L.length := by rw [HN.out]; exact hlt
    have hkM : k < M.length := by rw [HN'.out]; exact hlt
    obtain ⟨b, off, rfl, hb, r1⟩ := (HL.out.below HG.out (zL _)).evr hkL
    obtain ⟨b2, off2, rfl, hb2, r2⟩ := (HM.out.below HG.out (zL _)).evr hkM
    have hb := Nat.lt_of_lt_of_le hb (Below.size HG.out)
    have hb2 := Nat.lt_of_lt_of_le hb2 (Below.size HG.out)
    obtain ⟨x, hx⟩ : ∃ x, L[k] = x := ⟨_, rfl⟩
    obtain ⟨y, hy⟩ : ∃ y, M[k] = y := ⟨_, rfl⟩
    rw [hx] at r1
    rw [hy] at r2
    have HX := zz hx
    have HY := zz hy
    have HR1 := zz r1
    have HR2 := zz r2
    have hKp := Keeps.base wr
    clear hx hy r1 r2
    go_upto_region 6 with fail
    refine wp_region_mixed [.pure, .pure, .pure, .held, .pure, .pure, .pure, .held, .pure] (fun _ => ⟨fun _ => True, fun _ _ => True⟩) (by kernel_rfl) (by kernel_rfl) ?_
    repeat (refine mix_pure rfl rfl rfl (fun K hK => ?_); go_big_quiet_op; refine hK _ ?_; clear hK K)
    refine mix_load rfl rfl (by assumption) 62 (.tmp 19) rfl b (off + k * 9) rfl x.cells _ hb HR1.out Tryz.underlying62 rfl (by kernel_rfl) ?_
    simp only [Act.put, zD, zE, zF]
    repeat (refine mix_pure rfl rfl rfl (fun K hK => ?_); go_big_quiet_op; refine hK _ ?_; clear hK K)
    refine mix_load rfl rfl (by assumption) 62 (.tmp 23) rfl b2 (off2 + k * 9) rfl y.cells _ hb2 HR2.out Tryz.underlying62 rfl (by kernel_rfl) ?_
    simp only [Act.put, zD, zE, zF]
    refine mix_run (.bool (!decide (x = y))) rfl rfl (runs_neq rfl rfl rfl (by kernel_rfl) (ev_neq x y)) ?_
    simp only [Act.put, zD, zE, zF]
    refine mix_nil ?_
    intro W hW
    have HGW := zz (HG.out.trans hW)
    by_cases hxy : x = y
    ·have hdec : (decide (x = y)) = true := decide_eq_true hxy
     rw [hdec]
     have HNX : Hid (L.take (k + 1) = M.take (k + 1)) := zz (by rw [List.take_succ_eq_append_getElem hkL, List.take_succ_eq_append_getElem hkM, HT.out, HX.out, HY.out, hxy])
     clear hxy hdec hKp hW
     go_wp2
     go_roundw
     case rel => exact ⟨k + 1, by omega, by go_num, HNX, HGW⟩
     case measure => simp [intOf]; omega
    ·have hdec : (decide (x = y)) = false := decide_eq_false hxy
     rw [hdec]
     have HE : Hid (decide (L = M) = false) := zz (decide_eq_false fun e => hxy (by rw [← HX.out, ← HY.out]; simp only [e]))
     clear hxy hdec hKp hW
     go_wp2
     go_ret
     exact ⟨ret_bool HE.out.symm, HGW.out⟩
   ·obtain rfl : k = n := by omega
    have HE : Hid (decide (L = M) = true) := zz (decide_eq_true (by have := HT.out; rwa [List.take_of_length_le (by rw [HN.out]; exact zL _), List.take_of_length_le (by rw [HN'.out]; exact zL _)] at this))
    go_wp2
    go_ret
    exact ⟨ret_bool HE.out.symm, HG.out⟩
 ·have HE : Hid (decide (L = M) = false) := zz (decide_eq_false fun e => hne (by rw [← hn, ← hm', e]))
  rw [hn] at hL ⊢
  rw [hm']
  have hnn : (n != m) = true := by simpa using hne
  have hni : ((n : Int) != (m : Int)) = true := by simp; omega
  clear hl hm hn hm'
  go_enter Tryz.func21, Tryz.ntmps21
  go_wp2
  go_ret
  exact ⟨ret_bool HE.out.symm, Below.refl _ _⟩
end
section
open Go.RowKit
set_option maxRecDepth 100000
set_option linter.unusedSimpArgs false
section
variable {P : Program} {ops : Array Oper} {kd : Nat → Kd} {E : Act → World → (World → Prop) → Prop} {o : Oper} {rest : List Oper} {k : Nat} {a : Act} {w : World} {D : World → Prop}
theorem goes_storeN {W : World} (ty : TypeId) (x y : Operand) (ho : o.op = .store ty x y) (b i : Nat) (cs : Array Value) (hx : a.eval x = .pointer (some ⟨b, i, none⟩)) (hy : a.eval y = .agg cs) (ht : W.there b i cs.size) (hi : (P.info? ty).map (·.size) = some cs.size) (h1 : cs.all (·.oneCell') = true) :
  Oper.goes P o a W (fun v W' => v = undef ∧ W' = W.setCells b i cs.toList) := by
 have hr : (execOp a.eval o).run P W = .ok .skip (W.setCells b i cs.toList) := by
  unfold execOp
  simp only [ho, hx, hy, Instr.storeAt, Instr.sureAddr, Sem.run_bind, Sem.run_pure, Result.andThen_ok, run_storeVar_mid W b i ty cs ht hi h1]
 unfold Oper.goes
 rw [hr]
 exact ⟨rfl, rfl⟩
end
end
section
open Go.RowKit
set_option maxRecDepth 100000
theorem keptS_get (inp : Nat → Nat × Nat) (S : Nat → Int) (ev : Nat) (h : 0 < ev) : ∀ k j, j * ev < k → (keptS inp S ev k)[j]? = some (stT inp S (j * ev))
 | 0, j, hj => absurd hj (Nat.not_lt_zero _)
 | k + 1, j, hj => by
  have hlen := keptS_length inp S ev h k
  rw [keptS]
  by_cases hk : k % ev = 0
  ·rw [if_pos hk]
   have h1 : k = ev * (k / ev) := by have := Nat.div_add_mod k ev; omega
   have h2 : k + ev - 1 = (ev - 1) + ev * (k / ev) := by omega
   rw [h2, Nat.add_mul_div_left _ _ h, Nat.div_eq_of_lt (by omega), Nat.zero_add] at hlen
   by_cases hjk : j * ev < k
   ·have := keptS_get inp S ev h k j hjk
    rw [List.getElem?_append_left (List.getElem?_eq_some_iff.1 this).1]
    exact this
   ·have hjk : j * ev = k := by omega
    have hje : j = k / ev := by rw [← hjk, Nat.mul_div_cancel _ h]
    rw [List.getElem?_append_right (by omega), hlen, hje]
    simp only [Nat.sub_self, zB]
    rw [← hje, hjk]
  ·rw [if_neg hk]
   refine keptS_get inp S ev h k j ?_
   have hne : j * ev ≠ k := fun e => hk (by rw [← e]; exact Nat.mul_mod_left _ _)
   omega
end
section
open Go.RowKit
attribute [local irreducible] wpMixU
set_option maxRecDepth 100000
set_option linter.unusedSimpArgs false
theorem open_arg (ev : Int) (s d x y m : Int) (A B : Option Addr) (n c n' c' : Nat) (w : World) (hev : ev < 1 ∨ 20000 < ev) :
  Calls Tryz.prog 31 #[.agg #[.int .u32 s, .int .i64 d, .int .i64 x, .int .i64 y, .slice A n c, .slice B n' c', .int .u32 m], .int .i64 ev] w fun e w' => e = .returned (.tuple #[.pointer none, .int .i64 1]) ∧ Below w.heap.size w w' := by
 by_cases h1 : ev < 1
 ·clear hev
  go_enter Tryz.func31, Tryz.ntmps31
  go_wp2
  go_ret2
  exact ⟨rfl, (by repeat (first | exact Below.refl _ _ | (with_reducible assumption) | apply bAlloc | apply below_drewN | apply Below.drew))⟩
 ·have h2 : 20000 < ev := by omega
  clear hev
  go_enter Tryz.func31, Tryz.ntmps31
  go_wp2
  go_ret2
  exact ⟨rfl, (by repeat (first | exact Below.refl _ _ | (with_reducible assumption) | apply bAlloc | apply below_drewN | apply Below.drew))⟩
end
section
open Go.RowKit
set_option maxRecDepth 100000
set_option linter.unusedSimpArgs false
theorem kept_deck {w : World} {base g : Nat} {s d x m : Int} {a b : List Nat} {n ev F : Nat} {ks : List (Nat → Int)} (h : DkW w base g s d x m a b n ev F ks) : Calls Tryz.prog 39 #[.pointer (some ⟨g, 0, none⟩)] w fun e w' => e = .returned (.int .i64 ks.length) ∧ w = w' := by
 obtain ⟨A, B, K, cA, cB, nK, cK, hk, -, -, h4⟩ := h.blk
 have d9 := hk.cell 9
 have dl := hk.lt
 have hl := h4.len
 simp only [zA, zB, zC] at d9
 rw [← hl]
 clear h hk h4 hl
 go_enter Tryz.func39, Tryz.ntmps39
 go_wp2
 go_ret
 exact ⟨rfl, rfl⟩
section
variable {F : World → Prop} {w : World} {T0 T1 T2 T3 T4 : TypeId} {c0 c1 c2 c3 c4 : Array Value}
theorem named5 (h : ∀ W, Blk W w.heap.size T0 c0 → Blk W (w.heap.size + 1) T1 c1 → Blk W (w.heap.size + 1 + 1) T2 c2 → Blk W (w.heap.size + 1 + 1 + 1) T3 c3 → Blk W (w.heap.size + 1 + 1 + 1 + 1) T4 c4 → Below w.heap.size w W → W.heap.size = w.heap.size + 1 + 1 + 1 + 1 + 1 → F W) : F (((((w.alloc (.cells c0 T0)).alloc (.cells c1 T1)).alloc (.cells c2 T2)).alloc (.cells c3 T3)).alloc (.cells c4 T4)) := by
 refine named3 (F := fun W => F ((W.alloc (.cells c3 T3)).alloc (.cells c4 T4))) ?_
 intro W k0 k1 k2 hb hz
 refine named2 (w := W) (F := F) ?_
 intro V l0 l1 hc hy
 rw [hz] at l0 l1 hy
 exact h V (k0.on hc) (k1.on hc) (k2.on hc) l0 l1 (bTrans hb hc) hy
end
section
variable {P : Program} {fn : Func} {tmps : Array Value} {w : World} {a b c : Tmp} {t t2 t3 : TypeId} {p p2 p3 : Addr} {v v2 v3 : Value}
theorem results_ccc (hr : fn.results = #[.cell a t, .cell b t2, .cell c t3]) (ha : tmps.getD a undef = .pointer (some p)) (hb : tmps.getD b undef = .pointer (some p2)) (hc : tmps.getD c undef = .pointer (some p3)) (hl : (loadVar t p).run P w = .ok v w) (hl2 : (loadVar t2 p2).run P w = .ok v2 w) (hl3 : (loadVar t3 p3).run P w = .ok v3 w) :
  (results fn tmps).run P w = .ok (.tuple #[v, v2, v3]) w := by
 unfold results
 rw [hr]
 simp only [List.mapM_toArray, List.mapM_cons, List.mapM_nil, ha, hb, hc, asAddr]
 simp [hl, hl2, hl3]
end
theorem load_i1 {w : World} {g : Nat} {v : Int} (h : Blk w g 3 #[.int .i64 v]) : (loadVar 3 ⟨g, 0, none⟩).run Tryz.prog w = .ok (.int .i64 v) w := by
 have h0 := h.cell 0
 simp only [zA, zB] at h0
 simp [go_sem, h0]
theorem load_e1 {w : World} {g : Nat} {v : Int} (h : Blk w g 28 #[.int .i64 v]) : (loadVar 28 ⟨g, 0, none⟩).run Tryz.prog w = .ok (.int .i64 v) w := by
 have h0 := h.cell 0
 simp only [zA, zB] at h0
 simp [go_sem, h0]
end
end Go.Proofs.YtibeihcpehikoaaGreat
