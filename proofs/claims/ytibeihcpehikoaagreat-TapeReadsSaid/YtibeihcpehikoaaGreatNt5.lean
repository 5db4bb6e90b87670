/-
  The walks beneath: RdQ, RdU, RdG, RdF, RdK.
-/
import Derived.Deep.Cut
import Derived.Test.YtibeihcpehikoaaGreatNt2
import Derived.Test.YtibeihcpehikoaaGreatNt4
import Derived.Test.YtibeihcpehikoaaGreatNs7
import Derived.Test.YtibeihcpehikoaaGreatNr32
import Derived.Test.YtibeihcpehikoaaGreatNs1
namespace Go.Proofs.YtibeihcpehikoaaGreat
section
open Go.RowKit
set_option maxRecDepth 100000
set_option linter.unusedSimpArgs false
/-- Bytes are a tape's. -/
def IsTp (s : ByteArray) (sd d x m : Int) (a b : List Nat) : Prop := U32 sd ∧ U32 m ∧ a.length ≤ 20000 ∧ rightTq d x 0 a b = true ∧ s.data.toList = sealB (packB sd d x m a b)
/-- The error of bytes that are none's. -/
def unpE (s : ByteArray) : Int := if openE s = 0 then 4 else openE s
def UnpQ (w : World) (s : ByteArray) (e : Ending) (w' : World) : Prop := Below w.heap.size w w' ∧
  ((∃ (sd d x m : Int) (a b : List Nat) (A B : Option Addr) (c c' : Nat), IsTp s sd d x m a b ∧ (∀ sd' d' x' m' a' b', IsTp s sd' d' x' m' a' b' → sd' = sd ∧ d' = d ∧ x' = x ∧ m' = m ∧ a' = a ∧ b' = b) ∧ e = .returned (.tuple #[.agg #[.int .u32 sd, .int .i64 d, .int .i64 x, .int .i64 0, .slice A a.length c, .slice B b.length c', .int .u32 m], .int .i64 0]) ∧
      OwnL w' w.heap.size 5 1 (.slice A a.length c) btC a ∧ OwnL w' w.heap.size 5 1 (.slice B b.length c') btC b) ∨
   ((∀ sd d x m a b, ¬ IsTp s sd d x m a b) ∧ e = .returned (.tuple #[.agg #[.int .u32 0, .int .i64 0, .int .i64 0, .int .i64 0, .slice none 0 0, .slice none 0 0, .int .u32 0], .int .i64 (unpE s)])))
theorem openE_cases (s : ByteArray) : openE s = 0 ∨ openE s = 3 ∨ openE s = 15 := by
  unfold openE
  split
  · exact .inr (.inl rfl)
  · split
    · exact .inl rfl
    · exact .inr (.inr rfl)
theorem seal_take (u : List UInt8) : (sealB u).take ((sealB u).length - 4) = u := by
  rw [sealB_length, Nat.add_sub_cancel]
  unfold sealB
  rw [List.take_left]
/-- What is sealed opens. -/
theorem IsTp.opens {s : ByteArray} {sd d x m : Int} {a b : List Nat} (h : IsTp s sd d x m a b) : openE s = 0 ∧ (openV s).data.toList = packB sd d x m a b := by
  obtain ⟨-, -, -, -, h5⟩ := h
  have hl : s.size = (sealB (packB sd d x m a b)).length := by rw [← h5, ba_len]
  have h0 : openE s = 0 := by
    unfold openE
    rw [if_neg (by rw [hl, sealB_length]; omega), if_pos]
    rw [hl, h5, seal_take]
  refine ⟨h0, ?_⟩
  rw [openV_ok h0, extract_take, hl, h5, seal_take]
theorem pack_split (sd d x m : Int) (a b : List Nat) : packB sd d x m a b = [80, 66, 49] ++ (numB sd.toNat ++ (numB d.toNat ++ (numB x.toNat ++ (numB a.length ++ (insB a ++ (insB b ++ be4 m.toNat)))))) := by
  unfold packB headB
  simp only [List.append_assoc]
/-- A number, whatever the bytes. -/
def NumQ (w : World) (g : Nat) (s : ByteArray) (bad : Bool) (most : Nat) (e : Ending) (w' : World) : Prop :=
  ∃ (v : Nat) (R : ByteArray) (bad' : Bool), e = .returned (.int .i64 v) ∧ v ≤ most ∧ RdB w' g R bad' ∧ w.grownBy w' (some g) ∧ R.size ≤ s.size ∧
    (∀ (m : Nat) (rest : List UInt8), bad = false → m ≤ most → s.data.toList = numB m ++ rest → v = m ∧ R.data.toList = rest ∧ bad' = false)
theorem number_q (g : Nat) (s : ByteArray) (bad : Bool) (most : Nat) (w : World) (h : RdB w g s bad) (hs : s.size ≤ 1000000) (hm : most ≤ 4294967295) :
    Calls Tryz.prog 100 #[.pointer (some ⟨g, 0, none⟩), .int .u64 most] w fun e w' => NumQ w g s bad most e w' := by
  by_cases hk : nrOk s bad most
  · refine (number_ok g s bad most w h hk hs hm).mono ?_
    rintro e w' ⟨rfl, h1, h2⟩
    refine ⟨_, _, _, rfl, hk.2.2, h1, h2, by simp, fun m rest _ h3 h4 => ?_⟩
    have h5 : rdN s.data.toList = (m, (numB m).length, 0) := by rw [h4]; exact rdN_numB rest (by omega)
    rw [h5]
    exact ⟨rfl, by rw [extract_drop, h4, List.drop_left], rfl⟩
  · refine (number_no g s bad most w h hk hs).mono ?_
    rintro e w' ⟨rfl, h1, h2⟩
    refine ⟨0, _, _, rfl, Nat.zero_le _, h1, h2, Nat.le_refl _, fun m rest h6 h3 h4 => ?_⟩
    exfalso
    have h5 : rdN s.data.toList = (m, (numB m).length, 0) := by rw [h4]; exact rdN_numB rest (by omega)
    exact hk ⟨h6, by rw [h5], by rw [h5]; exact h3⟩
theorem built_cfg (s d x : Int) : Tryz.prog.built 24 [(0, .int .u32 s), (1, .int .i64 d), (2, .int .i64 x)] = some #[.int .u32 s, .int .i64 d, .int .i64 x, .int .i64 0] := by kernel_rfl
theorem built_tp1 (s d x y : Int) : Tryz.prog.built 76 [(0, .agg #[.int .u32 s, .int .i64 d, .int .i64 x, .int .i64 y])] = some #[.int .u32 s, .int .i64 d, .int .i64 x, .int .i64 y, .slice none 0 0, .slice none 0 0, .int .u32 0] := by kernel_rfl
theorem built_tp0 : Tryz.prog.built 76 [] = some #[.int .u32 0, .int .i64 0, .int .i64 0, .int .i64 0, .slice none 0 0, .slice none 0 0, .int .u32 0] := by kernel_rfl
theorem OwnL.cap {α : Type} {w : World} {base : Nat} {E : TypeId} {m : Nat} {f : α → List Value} {l : List α} {A : Option Addr} {n c : Nat} (h : OwnL w base E m (.slice A n c) f l) : n ≤ c := by
  rcases h.2 with ⟨h1, -⟩ | ⟨g, cap, cur, h1, -, -, h2, -⟩
  · simp only [Value.slice.injEq] at h1
    omega
  · simp only [Value.slice.injEq] at h1
    omega
/-- A struct variable set whole, and read. -/
theorem tape_put {W : World} {g : Nat} {Z C : Array Value} (K : Blk W g 76 Z) (hZ : Z.size = 7) (hC : C.size = 7) :
    ∃ wx, W.setCells g 0 C.toList = wx ∧ W.there g 0 C.size ∧ (∀ p : Addr, p = ⟨g, 0, none⟩ → (loadVar 76 p).run Tryz.prog wx = .ok (.agg C) wx) ∧ Blk wx g 76 C ∧ W.grownBy wx (some g) := by
  have hcl : C.toList.length = C.size := by simp
  have hth : W.there g 0 C.size := Blk.there K (by omega)
  have hrg := World.rangeAt_setCells_same W g 0 C.toList (by rw [hcl]; exact hth)
  refine ⟨_, rfl, hth, fun p hp => ?_, ?_, oSetCells (oRefl _ _) 0 _⟩
  · subst hp
    have := run_loadVar_mid (P := Tryz.prog) _ _ _ 76 C.toList _ hrg Tryz.underlying76 rfl (by rw [hcl, hC]; kernel_rfl)
    rwa [Array.toArray_toList] at this
  · have := K.whole C.toList (by rw [hcl]; omega)
    rwa [Array.toArray_toList] at this
end
section
open Go.RowKit
set_option maxRecDepth 100000
set_option linter.unusedSimpArgs false
set_option maxHeartbeats 8000000 in
theorem unpack_any (s : ByteArray) (hs : s.size ≤ 1000000) (w : World) : Calls Tryz.prog 43 #[.string s] w fun e w' => UnpQ w s e w' := by
  have HOP := Lib.hid (fun V => open_sum s V hs)
  obtain ⟨C0, hC0⟩ : ∃ C0 : Array Value, #[.int .u32 0, .int .i64 0, .int .i64 0, .int .i64 0, .slice none 0 0, .slice none 0 0, .int .u32 0] = C0 := ⟨_, rfl⟩
  have HBT : Hid (Tryz.prog.built 76 [] = some C0) := Lib.hid (by rw [← hC0]; exact built_tp0)
  have HZ7 : Hid (C0.size = 7) := Lib.hid (by rw [← hC0]; rfl)
  have H1C : Hid (C0.all (·.oneCell') = true) := Lib.hid (by rw [← hC0]; simp [Value.oneCell'])
  have HSZ : Hid ((Tryz.prog.info? 76).map (·.size) = some C0.size) := Lib.hid (by rw [HZ7.out]; kernel_rfl)
  have HC0 : Hid (C0 = #[.int .u32 0, .int .i64 0, .int .i64 0, .int .i64 0, .slice none 0 0, .slice none 0 0, .int .u32 0]) := Lib.hid hC0.symm
  clear hC0
  by_cases h0 : openE s = 0
  · have hbs : (openV s).size ≤ 1000000 := by rw [openV_ok h0]; simp; omega
    have HIS : Hid (∀ sd d x m a b, IsTp s sd d x m a b → (openV s).data.toList = [80, 66, 49] ++ (numB sd.toNat ++ (numB d.toNat ++ (numB x.toNat ++ (numB a.length ++ (insB a ++ (insB b ++ be4 m.toNat))))))) := Lib.hid (fun sd d x m a b h => by rw [← pack_split]; exact h.opens.2)
    have HU4 : Hid (unpE s = 4) := Lib.hid (if_pos h0)
    have HSL : Hid (∀ sd d x m a b, (openV s).data.toList = packB sd d x m a b → s.data.toList = sealB (packB sd d x m a b)) := Lib.hid (fun sd d x m a b h => by
      have h1 := h0
      unfold openE at h1
      split at h1
      · cases h1
      · split at h1
        · rename_i h2
          rw [openV_ok h0, extract_take] at h
          rw [h] at h2
          exact h2
        · cases h1)
    obtain ⟨B, hB⟩ : ∃ B, openV s = B := ⟨_, rfl⟩
    rw [h0, hB] at HOP
    rw [hB] at hbs HIS HSL
    unfold UnpQ
    rw [HU4.out]
    clear h0 hB
    go_enter Tryz.func43, Tryz.ntmps43
    go_upto_region 1 with fail
    refine named1 (F := fun W => Code.wp _ _ _ _ W) ?_
    intro w1 k0 hb1 hz1
    have K0 := Lib.hid k0
    have HB1 := Lib.hid hb1
    clear k0 hb1 hz1
    go_upto_region 5 with (first | (go_at_call 98; refine (HOP.out _).mono ?_; rintro e w2 ⟨rfl, hb2⟩; have K2 := Lib.hid (K0.out.on hb2); have HB2 := Lib.hid (bTrans HB1.out hb2); clear hb2))
    refine named1 (F := fun W => Code.wp _ _ _ _ W) ?_
    intro w3 k3 hb3 hz3
    have R3 : Hid (RdB w3 w2.heap.size B false) := Lib.hid k3
    have K3 := Lib.hid (K2.out.on hb3)
    have HB3 := Lib.hid (bTrans HB2.out hb3)
    have hg0 : w.heap.size < w2.heap.size := K2.out.lt
    obtain ⟨g, hg⟩ : ∃ g, w2.heap.size = g := ⟨_, rfl⟩
    rw [hg] at R3 hg0 ⊢
    clear k3 hb3 hz3 hg K2 HB2 K0 HB1 HOP
    have hkg : some g ≠ some w.heap.size := fun e => by injection e with e; omega
    have HBG : Hid (∀ {a b : World}, Below w.heap.size w a → a.grownBy b (some g) → Below w.heap.size w b) := Lib.hid (fun ha hab => ha.grown hab ha.size (fun k e => by cases e; omega))
    by_cases h3 : B.size < 3
    · have HT := Lib.hid (take_no g B false 3 w3 R3.out (.inr h3))
      have HNO : Hid (∀ sd d x m a b, ¬ IsTp s sd d x m a b) := Lib.hid (fun sd d x m a b h => by
        have := HIS.out sd d x m a b h
        have h5 := congrArg List.length this
        rw [ba_len, List.length_append] at h5
        simp at h5
        omega)
      clear HIS HSL
      go_upto_region 6 with (first | (go_at_call 99; refine HT.out.mono ?_; rintro e w4 ⟨rfl, -, hg4⟩; have K4 := K3.out.grown hg4 hkg; have HB4 := HBG.out HB3.out hg4; clear hg4))
      obtain ⟨wx, hwx, hth, hres, -, hgx⟩ := tape_put (C := C0) K4 rfl HZ7.out
      have HTH := Lib.hid hth
      have HRES := Lib.hid hres
      have HWX := Lib.hid hwx
      have HGX := Lib.hid hgx
      clear hwx hth hres hgx
      go_wp2_with (first
        | (refine wpList_built rfl 76 [] rfl C0 [] rfl HBT.out ?_)
        | (refine wpList_store_mid rfl 76 (.tmp 2) (.tmp 26) rfl w.heap.size 0 C0 rfl rfl HTH.out HSZ.out H1C.out ?_; rw [HWX.out]))
      exact bodyPost_ret (results_c1 (a := 2) (t := 76) (x := 3) rfl rfl (HRES.out _ rfl)) rfl ⟨((HB4).grown HGX.out (HB4).size (fun k e => by cases e; exact Nat.le_refl _)), .inr ⟨HNO.out, by rw [HC0.out]; rfl⟩⟩
    · have HT := Lib.hid (take_ok g B 3 w3 R3.out (by omega))
      by_cases hm3 : B.data.toList.take 3 = [80, 66, 49]
      · have hq : ((B.extract 0 3).toList == [80, 66, 49]) = true := by
          rw [ByteArray.toList_eq, extract_take, hm3]
          rfl
        have HIR : Hid (∀ sd d x m a b, IsTp s sd d x m a b → (B.extract 3 B.size).data.toList = numB sd.toNat ++ (numB d.toNat ++ (numB x.toNat ++ (numB a.length ++ (insB a ++ (insB b ++ be4 m.toNat)))))) := Lib.hid (fun sd d x m a b h => by
          rw [extract_drop, HIS.out sd d x m a b h]; rfl)
        have hrs : (B.extract 3 B.size).size ≤ 1000000 := by simp; omega
        obtain ⟨R0, hR0⟩ : ∃ R0, B.extract 3 B.size = R0 := ⟨_, rfl⟩
        rw [hR0] at HT HIR hrs
        have HPK : Hid ([80, 66, 49] ++ R0.data.toList = B.data.toList) := Lib.hid (by rw [← hR0, extract_drop, ← hm3, List.take_append_drop])
        clear HIS hm3 hR0
        go_upto_region 7 with (first | (go_at_call 99; refine HT.out.mono ?_; rintro e w4 ⟨rfl, hr4, hg4⟩; have R4 := Lib.hid hr4; have K4 := Lib.hid (K3.out.grown hg4 hkg); have HB4 := Lib.hid (HBG.out HB3.out hg4); clear hg4 hr4))
        clear hq HT R3 K3 HB3 h3
        go_upto_region 8 with (first
          | (go_at_call 100; refine (number_q g R2 b2 16 _ R6.out (by omega) (by decide)).mono ?_; rintro e w7 ⟨x, R3, b3, rfl, hx, hr7, hg7, hs3, hf3⟩; have R7 := Lib.hid hr7; have K7 := Lib.hid (K6.out.grown hg7 hkg); have HB7 := Lib.hid (HBG.out HB6.out hg7); have HF3 := Lib.hid hf3; clear hg7 hr7 hf3)
          | (go_at_call 100; refine (number_q g R1 b1 8 _ R5.out (by omega) (by decide)).mono ?_; rintro e w6 ⟨d, R2, b2, rfl, hd, hr6, hg6, hs2, hf2⟩; have R6 := Lib.hid hr6; have K6 := Lib.hid (K5.out.grown hg6 hkg); have HB6 := Lib.hid (HBG.out HB5.out hg6); have HF2 := Lib.hid hf2; clear hg6 hr6 hf2)
          | (go_at_call 100; refine (number_q g R0 false 4294967295 _ R4.out (by omega) (by decide)).mono ?_; rintro e w5 ⟨sd, R1, b1, rfl, hsd, hr5, hg5, hs1, hf1⟩; have R5 := Lib.hid hr5; have K5 := Lib.hid (K4.out.grown hg5 hkg); have HB5 := Lib.hid (HBG.out HB4.out hg5); have HF1 := Lib.hid hf1; clear hg5 hr5 hf1)
          | (refine wpList_built rfl 24 [(0, .tmp 29), (1, .tmp 31), (2, .tmp 33)] rfl #[.int .u32 (sd : Nat), .int .i64 (d : Nat), .int .i64 (x : Nat), .int .i64 0] [(0, .int .u32 (sd : Nat)), (1, .int .i64 (d : Nat)), (2, .int .i64 (x : Nat))] ?hv1 (built_cfg (sd : Nat) (d : Nat) (x : Nat)) ?_; (case' hv1 => rfl))
          | (refine wpList_built rfl 76 [(0, .tmp 34)] rfl #[.int .u32 (sd : Nat), .int .i64 (d : Nat), .int .i64 (x : Nat), .int .i64 0, .slice none 0 0, .slice none 0 0, .int .u32 0] [(0, .agg #[.int .u32 (sd : Nat), .int .i64 (d : Nat), .int .i64 (x : Nat), .int .i64 0])] ?hv2 (built_tp1 (sd : Nat) (d : Nat) (x : Nat) 0) ?_; (case' hv2 => rfl))
          | (refine wpList_store_mid rfl 76 (.tmp 7) (.tmp 35) rfl w7.heap.size 0 #[.int .u32 (sd : Nat), .int .i64 (d : Nat), .int .i64 (x : Nat), .int .i64 0, .slice none 0 0, .slice none 0 0, .int .u32 0] rfl rfl (there_new _ _ _ rfl) (by kernel_rfl) (by simp [Value.oneCell']) ?_))
        refine named_put (F := fun W => Code.wp _ _ _ _ W) rfl ?_
        intro w8 k8 hb8 hz8
        have R8 := Lib.hid (R7.out.on hb8)
        have K8 := Lib.hid (K7.out.on hb8)
        have HB8 := Lib.hid (bTrans HB7.out hb8)
        have hgt0 : g < w7.heap.size := R7.out.lt
        obtain ⟨gt, hgt⟩ : ∃ gt, w7.heap.size = gt := ⟨_, rfl⟩
        rw [hgt] at k8 hgt0 ⊢
        have T8 := Lib.hid k8
        have hkt : some g ≠ some gt := fun e => by injection e with e; omega
        clear hgt k8 hb8 hz8 K7 HB7 R7 K6 HB6 R6 K5 HB5 R5 K4 HB4 R4
        go_upto_region 9 with (first
          | (go_at_call 100; refine (number_q g R3 b3 20000 _ R8.out (by omega) (by decide)).mono ?_; rintro e w9 ⟨n, R4, b4, rfl, hn, hr9, hg9, hs4, hf4⟩; have R9 := Lib.hid hr9; have K9 := Lib.hid (K8.out.grown hg9 hkg); have T9 := Lib.hid (T8.out.grown hg9 hkt); have HB9 := Lib.hid (HBG.out HB8.out hg9); have HF4 := Lib.hid hf4; clear hg9 hr9 hf4))
        have hw9 := HB9.out.size
        have hg9 : g < w9.heap.size := R9.out.lt
        clear K8 HB8 R8 T8
        go_upto_region 10 with (first
          | (go_at_call 101; refine (rinp_any g R4 b4 n _ R9.out (by omega) hn).mono ?_; rintro e w10 ⟨A, cA, a, R5, b5, rfl, hoa, hla, hza, hr10, hg10, hs5, hf5⟩; have OA10 := Lib.hid hoa; have HZA := Lib.hid hza; have R10 := Lib.hid hr10; have K10 := Lib.hid (K9.out.grown hg10 hkg); have T10 := Lib.hid (T9.out.grown hg10 hkt); have HB10 := Lib.hid (HBG.out HB9.out hg10); have HF5 := Lib.hid hf5; have t4 := T10.out.cell 4; have f4 := T10.out.frozen 4; have l4 := T10.out.lt; simp only [List.getElem?_toArray, List.getElem?_cons_zero, List.getElem?_cons_succ] at t4; clear hg10 hr10 hf5 hoa hza))
        have hw10 := HB10.out.size
        have kk := K10.out.farG (show w.heap.size ≠ gt by omega) 4 (.slice A a.length cA)
        have rr : RdB (w10.setCell ⟨gt, 4, none⟩ (.slice A a.length cA)) g R5 b5 := Blk.farG R10.out (show g ≠ gt by omega) 4 (.slice A a.length cA)
        have tt : Blk (w10.setCell ⟨gt, 4, none⟩ (.slice A a.length cA)) gt 76 #[.int .u32 (sd : Nat), .int .i64 (d : Nat), .int .i64 (x : Nat), .int .i64 0, .slice A a.length cA, .slice none 0 0, .int .u32 0] := T10.out.set 4 (.slice A a.length cA)
        have bb := bSetG HB10.out (show w.heap.size ≤ gt by omega) 4 (.slice A a.length cA)
        have oo := OA10.out.farG (T10.out.apart OA10.out (by decide)) 4 (.slice A a.length cA)
        obtain ⟨w11, hw11⟩ : ∃ w11, w10.setCell ⟨gt, 4, none⟩ (.slice A a.length cA) = w11 := ⟨_, rfl⟩
        rw [hw11] at kk rr tt bb oo ⊢
        have K11 := Lib.hid kk
        have R11 := Lib.hid rr
        have T11 := Lib.hid tt
        have HB11 := Lib.hid bb
        have OA11 := Lib.hid oo
        have hg11 : g < w11.heap.size := rr.lt
        have hw11' := bb.size
        clear kk rr tt bb oo hw11 K10 R10 T10 HB10 OA10 t4 f4 l4 K9 R9 T9 HB9
        go_upto_region 11 with (first
          | (go_at_call 101; refine (rinp_any g R5 b5 n _ R11.out (by omega) hn).mono ?_; rintro e w12 ⟨A', cB, b, R6, b6, rfl, hob, hlb, hzb, hr12, hg12, hs6, hf6⟩; have OA12 := Lib.hid (own_turn OA11.out hg12 hg9); have OB12 := Lib.hid hob; have HZB := Lib.hid hzb; have R12 := Lib.hid hr12; have K12 := Lib.hid (K11.out.grown hg12 hkg); have T12 := Lib.hid (T11.out.grown hg12 hkt); have HB12 := Lib.hid (HBG.out HB11.out hg12); have HF6 := Lib.hid hf6; have t5 := T12.out.cell 5; have f5 := T12.out.frozen 5; have l5 := T12.out.lt; simp only [List.getElem?_toArray, List.getElem?_cons_zero, List.getElem?_cons_succ] at t5; clear hg12 hr12 hf6 hob hzb))
        have hw12 := HB12.out.size
        have kk := K12.out.farG (show w.heap.size ≠ gt by omega) 5 (.slice A' b.length cB)
        have rr : RdB (w12.setCell ⟨gt, 5, none⟩ (.slice A' b.length cB)) g R6 b6 := Blk.farG R12.out (show g ≠ gt by omega) 5 (.slice A' b.length cB)
        have tt : Blk (w12.setCell ⟨gt, 5, none⟩ (.slice A' b.length cB)) gt 76 #[.int .u32 (sd : Nat), .int .i64 (d : Nat), .int .i64 (x : Nat), .int .i64 0, .slice A a.length cA, .slice A' b.length cB, .int .u32 0] := T12.out.set 5 (.slice A' b.length cB)
        have bb := bSetG HB12.out (show w.heap.size ≤ gt by omega) 5 (.slice A' b.length cB)
        have oo := OA12.out.farG (T12.out.apart OA12.out (by decide)) 5 (.slice A' b.length cB)
        have pp := OB12.out.farG (T12.out.apart OB12.out (by decide)) 5 (.slice A' b.length cB)
        obtain ⟨w13, hw13⟩ : ∃ w13, w12.setCell ⟨gt, 5, none⟩ (.slice A' b.length cB) = w13 := ⟨_, rfl⟩
        rw [hw13] at kk rr tt bb oo pp ⊢
        have K13 := Lib.hid kk
        have R13 := Lib.hid rr
        have T13 := Lib.hid tt
        have HB13 := Lib.hid bb
        have OA13 := Lib.hid oo
        have OB13 := Lib.hid pp
        clear kk rr tt bb oo pp hw13 K12 R12 T12 HB12 OA12 OB12 t5 f5 l5 K11 R11 T11 HB11 OA11
        go_upto_region 12 with (first
          | (go_at_call 102; refine (rword_any g R6 b6 _ R13.out).mono ?_; rintro e w14 ⟨m, R7, b7, rfl, hm, hr14, hg14, hf7⟩; have OA14 := Lib.hid (own_turn OA13.out hg14 hg9); have OB14 := Lib.hid (own_turn OB13.out hg14 hg11); have R14 := Lib.hid hr14; have K14 := Lib.hid (K13.out.grown hg14 hkg); have T14 := Lib.hid (T13.out.grown hg14 hkt); have HB14 := Lib.hid (HBG.out HB13.out hg14); have HF7 := Lib.hid hf7; have t6 := T14.out.cell 6; have f6 := T14.out.frozen 6; have l6 := T14.out.lt; simp only [List.getElem?_toArray, List.getElem?_cons_zero, List.getElem?_cons_succ] at t6; clear hg14 hr14 hf7))
        have kk := K14.out.farG (show w.heap.size ≠ gt by omega) 6 (.int .u32 (m : Nat))
        have rr : RdB (w14.setCell ⟨gt, 6, none⟩ (.int .u32 (m : Nat))) g R7 b7 := Blk.farG R14.out (show g ≠ gt by omega) 6 (.int .u32 (m : Nat))
        have tt : Blk (w14.setCell ⟨gt, 6, none⟩ (.int .u32 (m : Nat))) gt 76 #[.int .u32 (sd : Nat), .int .i64 (d : Nat), .int .i64 (x : Nat), .int .i64 0, .slice A a.length cA, .slice A' b.length cB, .int .u32 (m : Nat)] := T14.out.set 6 (.int .u32 (m : Nat))
        have bb := bSetG HB14.out (show w.heap.size ≤ gt by omega) 6 (.int .u32 (m : Nat))
        have oo := (OA14.out.farG (T14.out.apart OA14.out (by decide)) 6 (.int .u32 (m : Nat))).more hw9
        have pp := (OB14.out.farG (T14.out.apart OB14.out (by decide)) 6 (.int .u32 (m : Nat))).more hw11'
        obtain ⟨w15, hw15⟩ : ∃ w15, w14.setCell ⟨gt, 6, none⟩ (.int .u32 (m : Nat)) = w15 := ⟨_, rfl⟩
        rw [hw15] at kk rr tt bb oo pp ⊢
        have K15 := Lib.hid kk
        have R15 := Lib.hid rr
        have T15 := Lib.hid tt
        have HB15 := Lib.hid bb
        have OA15 := Lib.hid oo
        have OB15 := Lib.hid pp
        have hca := oo.cap
        have hcb := pp.cap
        clear kk rr tt bb oo pp hw15 K14 R14 T14 HB14 OA14 OB14 t6 f6 l6 K13 R13 T13 HB13 OA13 OB13
        have HCH : Hid (∀ sd' d' x' m' a' b', IsTp s sd' d' x' m' a' b' → (sd' = (sd : Nat) ∧ d' = (d : Nat) ∧ x' = (x : Nat) ∧ m' = (m : Nat) ∧ a' = a ∧ b' = b) ∧ b7 = false ∧ R7.data.toList = []) := Lib.hid (fun sd' d' x' m' a' b' h => by
          have h1 := HIR.out _ _ _ _ _ _ h
          obtain ⟨g1, g2, g3, g4, -⟩ := h
          obtain ⟨⟨q1, q2⟩, -, q3, ⟨q4, q5⟩, q6, q7⟩ := right_parts (rightTq_tp g4)
          obtain ⟨e1, h2, c1⟩ := HF1.out _ _ trivial (by have := g1.1; have := g1.2; omega) h1
          obtain ⟨e2, h3, c2⟩ := HF2.out _ _ c1 (by omega) h2
          obtain ⟨e3, h4, c3⟩ := HF3.out _ _ c2 (by omega) h3
          obtain ⟨e4, h5, c4⟩ := HF4.out _ _ c3 (by omega) h4
          obtain ⟨e5, h6, c5⟩ := HF5.out _ _ ⟨c4, by omega, fun z hz => by have := q6 z hz; omega, h5⟩
          obtain ⟨e6, h7, c6⟩ := HF6.out _ _ ⟨c5, by omega, fun z hz => by have := q7 z hz; omega, h6⟩
          obtain ⟨e7, h8, c7⟩ := HF7.out m'.toNat [] c6 (by have := g2.1; have := g2.2; omega) (by rw [h7, List.append_nil])
          have := g1.1
          have := g2.1
          exact ⟨⟨by omega, by omega, by omega, by omega, e5.symm, e6.symm⟩, c7, h8⟩)
        clear HF1 HF2 HF3 HF4 HF5 HF6 HF7 HIR hs1 hs2 hs3 hs4 hs5 hs6
        have hsd2 : U32 (sd : Nat) := ⟨by omega, by omega⟩
        have hm2 : U32 (m : Nat) := ⟨by omega, by omega⟩
        obtain ⟨P, f, HPC, HGD⟩ : ∃ (P : ByteArray) (f : Int), Hid (∀ V, Below w15.heap.size w15 V → Calls Tryz.prog 34 #[.agg #[.int .u32 (sd : Nat), .int .i64 (d : Nat), .int .i64 (x : Nat), .int .i64 0, .slice A a.length cA, .slice A' b.length cB, .int .u32 (m : Nat)]] V fun e w' => e = .returned (.tuple #[.string P, .int .i64 f]) ∧ Below V.heap.size V w') ∧ Hid ((f = 0 ∧ P = s) ↔ IsTp s (sd : Nat) (d : Nat) (x : Nat) (m : Nat) a b) := by
          have RA := fun (V : World) (hV : Below w15.heap.size w15 V) => (OA15.out.rd.below hV (Nat.le_refl _)).more hV.size
          have RB := fun (V : World) (hV : Below w15.heap.size w15 V) => (OB15.out.rd.below hV (Nat.le_refl _)).more hV.size
          by_cases hq : rightTq (d : Nat) (x : Nat) 0 a b = true
          · refine ⟨_, _, Lib.hid (fun V hV => pack_good20 (sd : Nat) (d : Nat) (x : Nat) (m : Nat) A A' cA cB a b V hsd2 hm2 hq (by omega) (by omega) hca hcb (RA V hV) (RB V hV)), Lib.hid ⟨fun h => ⟨hsd2, hm2, by omega, hq, by rw [← h.2]⟩, fun h => ⟨rfl, data_ext _ _ h.2.2.2.2.symm⟩⟩⟩
          · refine ⟨_, _, Lib.hid (fun V hV => pack_bad20 (sd : Nat) (d : Nat) (x : Nat) 0 (m : Nat) A A' cA cB a b V (by simpa using hq) (by omega) (by omega) (RA V hV) (RB V hV)), Lib.hid ⟨fun h => absurd h.1 (by decide), fun h => absurd h.2.2.2.1 hq⟩⟩
        obtain ⟨C1, hC1⟩ : ∃ C1 : Array Value, #[.int .u32 (sd : Nat), .int .i64 (d : Nat), .int .i64 (x : Nat), .int .i64 0, .slice A a.length cA, .slice A' b.length cB, .int .u32 (m : Nat)] = C1 := ⟨_, rfl⟩
        rw [hC1] at HPC
        have HT := T15.out
        rw [hC1] at HT
        have HC1 := Lib.hid hC1.symm
        have HY7 : Hid (C1.size = 7) := Lib.hid (by rw [← hC1]; rfl)
        have HY1 : Hid (C1.all (·.oneCell') = true) := Lib.hid (by rw [← hC1]; simp [Value.oneCell'])
        have HYZ : Hid ((Tryz.prog.info? 76).map (·.size) = some C1.size) := Lib.hid (by rw [HY7.out]; kernel_rfl)
        have T16 := Lib.hid HT
        have HRG : Hid (∀ V, Below w15.heap.size w15 V → V.rangeAt gt 0 C1.toList) := Lib.hid (fun V hV => Blk.range (by simpa using T16.out.on hV))
        clear hC1 HT T15 hsd2 hm2 hca hcb
        go_upto_region 13 with (first
          | (refine wpList_load_mid rfl 76 (.tmp 7) rfl gt 0 rfl C1.toList _ (HRG.out _ (Below.refl _ _)) Tryz.underlying76 rfl (by rw [Array.length_toList]; exact HYZ.out) ?_; rw [Array.toArray_toList])
          | (go_at_call 34; refine (HPC.out _ (Below.refl _ _)).mono ?_; rintro e w16 ⟨rfl, hb16⟩; have K16 := K15.out.on hb16; have HB16 := bTrans HB15.out hb16; have OA16 := Lib.hid (OA15.out.below hb16); have OB16 := Lib.hid (OB15.out.below hb16); have R16 := R15.out.on hb16; have HR16 := Lib.hid (HRG.out _ hb16); clear hb16))
        have ra := Blk.cell R16 0; have rb := Blk.cell R16 1; have rl := Blk.lt R16; have rf := Blk.frozen R16 0; have rg := Blk.frozen R16 1; simp only [List.getElem?_toArray, List.getElem?_cons_zero, List.getElem?_cons_succ] at ra rb
        by_cases hgood : (f = 0 ∧ P = s)
        · have hT := HGD.out.1 hgood
          obtain ⟨-, rfl, h7⟩ := HCH.out _ _ _ _ _ _ hT
          have h8 : R7 = ⟨#[]⟩ := data_ext _ _ h7
          obtain ⟨rfl, rfl⟩ := hgood
          subst h8
          have HUN : Hid (∀ sd' d' x' m' a' b', IsTp P sd' d' x' m' a' b' → sd' = (sd : Nat) ∧ d' = (d : Nat) ∧ x' = (x : Nat) ∧ m' = (m : Nat) ∧ a' = a ∧ b' = b) := Lib.hid (fun _ _ _ _ _ _ h => (HCH.out _ _ _ _ _ _ h).1)
          clear HGD HCH h7
          obtain ⟨wx, hwx, hth, hres, -, hgx⟩ := tape_put (C := C1) K16 rfl HY7.out
          have HTH := Lib.hid hth
          have HRES := Lib.hid hres
          have HWX := Lib.hid hwx
          have HGX := Lib.hid hgx
          have HOA := Lib.hid (OwnL.kept (row := some w.heap.size) OA16.out hgx (.inr (K16.apart OA16.out (by decide))))
          have HOB := Lib.hid (OwnL.kept (row := some w.heap.size) OB16.out hgx (.inr (K16.apart OB16.out (by decide))))
          have HTT := Lib.hid hT
          clear hwx hth hres hgx hT
          go_upto_region 15 with fail
          go_wp2_with (first
            | (refine wpList_load_mid rfl 76 (.tmp 7) rfl gt 0 rfl C1.toList _ HR16.out Tryz.underlying76 rfl (by rw [Array.length_toList]; exact HYZ.out) ?_; rw [Array.toArray_toList])
            | (refine wpList_store_mid rfl 76 (.tmp 2) (.tmp 75) rfl w.heap.size 0 C1 rfl rfl HTH.out HYZ.out HY1.out ?_; rw [HWX.out]))
          exact bodyPost_ret (results_c1 (a := 2) (t := 76) (x := 3) rfl rfl (HRES.out _ rfl)) rfl ⟨HB16.grown HGX.out HB16.size (fun k e => by cases e; exact Nat.le_refl _), .inl ⟨_, _, _, _, a, b, A, A', cA, cB, HTT.out, HUN.out, by rw [HC1.out]; rfl, HOA.out, HOB.out⟩⟩
        · have HNO : Hid (∀ sd d x m a b, ¬ IsTp s sd d x m a b) := Lib.hid (fun sd' d' x' m' a' b' h => by
            obtain ⟨⟨rfl, rfl, rfl, rfl, rfl, rfl⟩, -, -⟩ := HCH.out _ _ _ _ _ _ h
            exact hgood (HGD.out.2 h))
          clear HGD HCH
          cases b7
          · by_cases h7 : (R7.toList == []) = true
            · by_cases hf : f = 0
              · have hp : (P.toList == s.toList) = false := beq_no (fun h => hgood ⟨hf, h⟩)
                subst hf
                clear hgood
                go_upto_region 14 with fail
                obtain ⟨wx, hwx, hth, hres, -, hgx⟩ := tape_put (C := C0) K16 rfl HZ7.out
                have HTH := Lib.hid hth
                have HRES := Lib.hid hres
                have HWX := Lib.hid hwx
                have HGX := Lib.hid hgx
                clear hwx hth hres hgx
                go_wp2_with (first
                  | (refine wpList_built rfl 76 [] rfl C0 [] rfl HBT.out ?_)
                  | (refine wpList_store_mid rfl 76 (.tmp 2) (.tmp 74) rfl w.heap.size 0 C0 rfl rfl HTH.out HSZ.out H1C.out ?_; rw [HWX.out]))
                exact bodyPost_ret (results_c1 (a := 2) (t := 76) (x := 3) rfl rfl (HRES.out _ rfl)) rfl ⟨((HB16).grown HGX.out (HB16).size (fun k e => by cases e; exact Nat.le_refl _)), .inr ⟨HNO.out, by rw [HC0.out]; rfl⟩⟩
              · have hf2 : (f != 0) = true := by simpa using hf
                clear hgood hf
                go_upto_region 14 with fail
                obtain ⟨wx, hwx, hth, hres, -, hgx⟩ := tape_put (C := C0) K16 rfl HZ7.out
                have HTH := Lib.hid hth
                have HRES := Lib.hid hres
                have HWX := Lib.hid hwx
                have HGX := Lib.hid hgx
                clear hwx hth hres hgx
                go_wp2_with (first
                  | (refine wpList_built rfl 76 [] rfl C0 [] rfl HBT.out ?_)
                  | (refine wpList_store_mid rfl 76 (.tmp 2) (.tmp 74) rfl w.heap.size 0 C0 rfl rfl HTH.out HSZ.out H1C.out ?_; rw [HWX.out]))
                exact bodyPost_ret (results_c1 (a := 2) (t := 76) (x := 3) rfl rfl (HRES.out _ rfl)) rfl ⟨((HB16).grown HGX.out (HB16).size (fun k e => by cases e; exact Nat.le_refl _)), .inr ⟨HNO.out, by rw [HC0.out]; rfl⟩⟩
            · have h72 : (R7.toList == []) = false := by simpa using h7
              clear hgood h7
              go_upto_region 14 with fail
              obtain ⟨wx, hwx, hth, hres, -, hgx⟩ := tape_put (C := C0) K16 rfl HZ7.out
              have HTH := Lib.hid hth
              have HRES := Lib.hid hres
              have HWX := Lib.hid hwx
              have HGX := Lib.hid hgx
              clear hwx hth hres hgx
              go_wp2_with (first
                | (refine wpList_built rfl 76 [] rfl C0 [] rfl HBT.out ?_)
                | (refine wpList_store_mid rfl 76 (.tmp 2) (.tmp 74) rfl w.heap.size 0 C0 rfl rfl HTH.out HSZ.out H1C.out ?_; rw [HWX.out]))
              exact bodyPost_ret (results_c1 (a := 2) (t := 76) (x := 3) rfl rfl (HRES.out _ rfl)) rfl ⟨((HB16).grown HGX.out (HB16).size (fun k e => by cases e; exact Nat.le_refl _)), .inr ⟨HNO.out, by rw [HC0.out]; rfl⟩⟩
          · clear hgood
            go_upto_region 14 with fail
            obtain ⟨wx, hwx, hth, hres, -, hgx⟩ := tape_put (C := C0) K16 rfl HZ7.out
            have HTH := Lib.hid hth
            have HRES := Lib.hid hres
            have HWX := Lib.hid hwx
            have HGX := Lib.hid hgx
            clear hwx hth hres hgx
            go_wp2_with (first
              | (refine wpList_built rfl 76 [] rfl C0 [] rfl HBT.out ?_)
              | (refine wpList_store_mid rfl 76 (.tmp 2) (.tmp 74) rfl w.heap.size 0 C0 rfl rfl HTH.out HSZ.out H1C.out ?_; rw [HWX.out]))
            exact bodyPost_ret (results_c1 (a := 2) (t := 76) (x := 3) rfl rfl (HRES.out _ rfl)) rfl ⟨((HB16).grown HGX.out (HB16).size (fun k e => by cases e; exact Nat.le_refl _)), .inr ⟨HNO.out, by rw [HC0.out]; rfl⟩⟩
      · have HNO : Hid (∀ sd d x m a b, ¬ IsTp s sd d x m a b) := Lib.hid (fun sd d x m a b h => by
          have := HIS.out sd d x m a b h
          exact hm3 (by rw [this]; rfl))
        have hq : ((B.extract 0 3).toList == [80, 66, 49]) = false := by
          rw [beq_eq_false_iff_ne, ByteArray.toList_eq, extract_take]
          exact hm3
        clear HIS HSL hm3
        go_upto_region 6 with (first | (go_at_call 99; refine HT.out.mono ?_; rintro e w4 ⟨rfl, -, hg4⟩; have K4 := K3.out.grown hg4 hkg; have HB4 := HBG.out HB3.out hg4; clear hg4))
        obtain ⟨wx, hwx, hth, hres, -, hgx⟩ := tape_put (C := C0) K4 rfl HZ7.out
        have HTH := Lib.hid hth
        have HRES := Lib.hid hres
        have HWX := Lib.hid hwx
        have HGX := Lib.hid hgx
        clear hwx hth hres hgx
        go_wp2_with (first
          | (refine wpList_built rfl 76 [] rfl C0 [] rfl HBT.out ?_)
          | (refine wpList_store_mid rfl 76 (.tmp 2) (.tmp 26) rfl w.heap.size 0 C0 rfl rfl HTH.out HSZ.out H1C.out ?_; rw [HWX.out]))
        exact bodyPost_ret (results_c1 (a := 2) (t := 76) (x := 3) rfl rfl (HRES.out _ rfl)) rfl ⟨((HB4).grown HGX.out (HB4).size (fun k e => by cases e; exact Nat.le_refl _)), .inr ⟨HNO.out, by rw [HC0.out]; rfl⟩⟩
  · have HE : Hid (unpE s = openE s) := Lib.hid (if_neg h0)
    have HNO : Hid (∀ sd d x m a b, ¬ IsTp s sd d x m a b) := Lib.hid (fun sd d x m a b h => h0 h.opens.1)
    obtain ⟨er, her⟩ : ∃ er, openE s = er := ⟨_, rfl⟩
    rw [her] at HOP h0 HE
    have hne : (er != 0) = true := by simpa using h0
    unfold UnpQ
    rw [HE.out]
    clear her h0
    go_enter Tryz.func43, Tryz.ntmps43
    go_upto_region 1 with fail
    refine named1 (F := fun W => Code.wp _ _ _ _ W) ?_
    intro w1 k0 hb1 hz1
    go_upto_region 3 with (first | (go_at_call 98; refine (HOP.out _).mono ?_; rintro e w2 ⟨rfl, hb2⟩; have K2 := k0.on hb2; have HB2 := bTrans hb1 hb2; clear k0 hb1 hb2))
    obtain ⟨wx, hwx, hth, hres, -, hgx⟩ := tape_put (C := C0) K2 rfl HZ7.out
    have HTH := Lib.hid hth
    have HRES := Lib.hid hres
    have HWX := Lib.hid hwx
    have HGX := Lib.hid hgx
    clear hwx hth hres hgx
    go_wp2_with (first
      | (refine wpList_built rfl 76 [] rfl C0 [] rfl HBT.out ?_)
      | (refine wpList_store_mid rfl 76 (.tmp 2) (.tmp 18) rfl w.heap.size 0 C0 rfl rfl HTH.out HSZ.out H1C.out ?_; rw [HWX.out]))
    exact bodyPost_ret (results_c1 (a := 2) (t := 76) (x := 3) rfl rfl (HRES.out _ rfl)) rfl ⟨((HB2).grown HGX.out (HB2).size (fun k e => by cases e; exact Nat.le_refl _)), .inr ⟨HNO.out, by rw [HC0.out]; rfl⟩⟩
end
section
open Go.RowKit
set_option maxRecDepth 100000
set_option linter.unusedSimpArgs false
set_option maxHeartbeats 1000000 in
theorem word7_any (s : ByteArray) (hs : s.size ≤ 4) (w : World) : Calls Tryz.prog 169 #[.string s] w fun e w' => e = .returned (.int .u64 (wordV s.data.toList : Nat)) ∧ w = w' := by
  have HW : Hid (∀ k (h : k < s.size), wordV (s.data.toList.take (k + 1)) = wordV (s.data.toList.take k) * 256 + s[k].toNat) := Lib.hid (fun k h => by
    rw [wordV_take _ k h, bytes_get s k h])
  have HWL : Hid (∀ k, k ≤ 4 → wordV (s.data.toList.take k) < 4294967296) := Lib.hid (fun k hk => by
    refine Nat.lt_of_lt_of_le (wordV_lt (s.data.toList.take k)) ?_
    refine Nat.le_trans (Nat.pow_le_pow_right (n := 256) (j := 4) (by decide) ?_) (by decide)
    rw [List.length_take]; omega)
  go_enter Tryz.func169, Tryz.ntmps169
  go_wp2
  go_loop [3, 4] (fun nv i => ∃ k : Nat, k ≤ s.size ∧ i = .int .i64 k ∧ nv = .int .u64 (wordV (s.data.toList.take k) : Nat)) (fun _ i => s.size - (intOf i).toNat)
  case atStart => exact ⟨0, Nat.zero_le _, rfl, rfl⟩
  case round =>
    obtain ⟨k, hk, rfl, rfl⟩ := hrel
    by_cases hlt : k < s.size
    · have HWK := Lib.hid (HW.out k hlt)
      have hl := HWL.out k (by omega)
      have hb := UInt8.toNat_lt s[k]
      obtain ⟨q, hq⟩ : ∃ q, wordV (s.data.toList.take k) = q := ⟨_, rfl⟩
      rw [hq] at hl HWK ⊢
      clear hq
      go_wp2
      go_round
      case rel => exact ⟨k + 1, by omega, by go_num, by rw [HWK.out]; go_num⟩
      case measure => simp [intOf]; omega
    · obtain rfl : k = s.size := by omega
      have HT4 : Hid (s.data.toList.take s.size = s.data.toList) := Lib.hid (List.take_of_length_le (Nat.le_refl _))
      rw [HT4.out]
      go_wp2
      go_ret
      exact ⟨rfl, rfl⟩
theorem take_eq_succ {a b : List Nat} {k : Nat} (h1 : k < a.length) (h2 : k < b.length) (h : a.take k = b.take k) (he : a[k] = b[k]) : a.take (k + 1) = b.take (k + 1) := by
  rw [List.take_succ_eq_append_getElem h1, List.take_succ_eq_append_getElem h2, h, he]
set_option maxHeartbeats 2000000 in
theorem same06_any (A B : Option Addr) (c c' : Nat) (a b : List Nat) (w : World) (ha : a.length ≤ 20000) (ra : Rd w w.heap.size A (a.flatMap btC)) (rb : Rd w w.heap.size B (b.flatMap btC)) :
    Calls Tryz.prog 97 #[.slice A a.length c, .slice B b.length c'] w fun e w' => e = .returned (.bool (decide (a = b))) ∧ Below w.heap.size w w' := by
  by_cases hn : a.length = b.length
  · have HRA := Lib.hid ra
    have HRB := Lib.hid rb
    obtain ⟨n, hna⟩ : ∃ n, a.length = n := ⟨_, rfl⟩
    have HNA := Lib.hid hna
    have HNB : Hid (b.length = n) := Lib.hid (by rw [← hn]; exact hna)
    rw [← hn, hna]
    rw [hna] at ha
    clear ra rb hn hna
    go_enter Tryz.func97, Tryz.ntmps97
    go_wp2
    go_loopw [5] (fun i wr => ∃ k : Nat, k ≤ n ∧ i = .int .i64 k ∧ Hid (a.take k = b.take k) ∧ Hid (Below w.heap.size w wr)) (fun i _ => n - (intOf i).toNat)
    case atStart => exact ⟨0, Nat.zero_le _, rfl, Lib.hid rfl, Lib.hid (Below.refl _ _)⟩
    case round =>
      obtain ⟨k, hk, rfl, HT, HB⟩ := hrel
      by_cases hlt : k < n
      · have hka : k < a.length := by rw [HNA.out]; exact hlt
        have hkb : k < b.length := by rw [HNB.out]; exact hlt
        obtain ⟨ga, oa, rfl, hga, ca⟩ := HRA.out.at_ btC_length (by omega) hka
        replace ca := ca 0 _ rfl
        rw [Nat.add_zero, Nat.mul_one] at ca
        have ca1 := (HB.out.cell (p := ⟨ga, oa + k, none⟩) hga).trans ca
        have hla : ga < wr.heap.size := Nat.lt_of_lt_of_le hga HB.out.size
        obtain ⟨gb, ob, rfl, hgb, cb⟩ := HRB.out.at_ btC_length (by omega) hkb
        replace cb := cb 0 _ rfl
        rw [Nat.add_zero, Nat.mul_one] at cb
        have cb1 := (HB.out.cell (p := ⟨gb, ob + k, none⟩) hgb).trans cb
        have hlb : gb < wr.heap.size := Nat.lt_of_lt_of_le hgb HB.out.size
        have HTS := Lib.hid (take_eq_succ hka hkb HT.out)
        have HNE : Hid (a[k] ≠ b[k] → a ≠ b) := Lib.hid (fun h e => h (by simp only [e]))
        obtain ⟨xa, hxa⟩ : ∃ xa, a[k] = xa := ⟨_, rfl⟩
        obtain ⟨xb, hxb⟩ : ∃ xb, b[k] = xb := ⟨_, rfl⟩
        rw [hxa, hxb] at HTS HNE
        rw [hxa] at ca1
        rw [hxb] at cb1
        clear hxa hxb ca cb hka hkb
        by_cases hx : xa = xb
        · have hq : ((xa : Int) != (xb : Int)) = false := by rw [hx]; simp
          have HT2 := Lib.hid (HTS.out hx)
          clear HTS HNE hx
          go_wp2_with fail
          refine wp_region_mild (by kernel_rfl) (by kernel_rfl) ?_
          repeat (go_big_quiet_step (fail))
          refine wpQuiet_nil ?_
          intro w4 hw'
          obtain ⟨⟨wq, k4⟩, hw''⟩ := hw'
          subst hw''
          have HB4 := Lib.hid (bTrans HB.out k4)
          clear k4
          go_wp2
          go_roundw
          case rel => exact ⟨k + 1, by omega, by go_num, HT2, HB4⟩
          case measure => simp [intOf]; omega
        · have hq : ((xa : Int) != (xb : Int)) = true := by simp; omega
          have HNN : Hid (decide (a = b) = false) := Lib.hid (decide_eq_false (HNE.out hx))
          clear HTS HNE hx
          go_wp2_with fail
          refine wp_region_mild (by kernel_rfl) (by kernel_rfl) ?_
          repeat (go_big_quiet_step (fail))
          refine wpQuiet_nil ?_
          intro w4 hw'
          obtain ⟨⟨wq, k4⟩, hw''⟩ := hw'
          subst hw''
          have HB4 := Lib.hid (bTrans HB.out k4)
          clear k4
          go_wp2
          go_ret
          exact ⟨by rw [HNN.out]; rfl, HB4.out⟩
      · have HE : Hid (decide (a = b) = true) := Lib.hid (decide_eq_true (by
          have := HT.out
          rwa [List.take_of_length_le (by rw [HNA.out]; omega), List.take_of_length_le (by rw [HNB.out]; omega)] at this))
        go_wp2
        go_ret
        exact ⟨by rw [HE.out]; rfl, HB.out⟩
  · have HNN : Hid (decide (a = b) = false) := Lib.hid (decide_eq_false (fun e => hn (by rw [e])))
    have hq : ((a.length : Int) != (b.length : Int)) = true := by simp; omega
    clear ra rb
    go_enter Tryz.func97, Tryz.ntmps97
    go_wp2
    go_ret
    exact ⟨by rw [HNN.out]; rfl, Below.refl _ _⟩
set_option maxHeartbeats 4000000 in
theorem same28_yes (s d x y m : Int) (A B A' B' : Option Addr) (c c' k k' : Nat) (a b : List Nat) (w : World) (ha : a.length ≤ 20000) (hb : b.length ≤ 20000) (ra : Rd w w.heap.size A (a.flatMap btC)) (rb : Rd w w.heap.size B (b.flatMap btC)) (ra' : Rd w w.heap.size A' (a.flatMap btC)) (rb' : Rd w w.heap.size B' (b.flatMap btC)) :
    Calls Tryz.prog 42 #[.agg #[.int .u32 s, .int .i64 d, .int .i64 x, .int .i64 y, .slice A a.length c, .slice B b.length c', .int .u32 m], .agg #[.int .u32 s, .int .i64 d, .int .i64 x, .int .i64 y, .slice A' a.length k, .slice B' b.length k', .int .u32 m]] w fun e w' => e = .returned (.bool true) ∧ Below w.heap.size w w' := by
  have HA := Lib.hid (fun (V : World) (hV : Below w.heap.size w V) => same06_any A A' c k a a V ha ((ra.below hV (Nat.le_refl _)).more hV.size) ((ra'.below hV (Nat.le_refl _)).more hV.size))
  have HB := Lib.hid (fun (V : World) (hV : Below w.heap.size w V) => same06_any B B' c' k' b b V hb ((rb.below hV (Nat.le_refl _)).more hV.size) ((rb'.below hV (Nat.le_refl _)).more hV.size))
  rw [decide_eq_true rfl] at HA
  rw [decide_eq_true rfl] at HB
  obtain ⟨na, hna⟩ : ∃ na, a.length = na := ⟨_, rfl⟩
  obtain ⟨nb, hnb⟩ : ∃ nb, b.length = nb := ⟨_, rfl⟩
  rw [hna] at HA ⊢
  rw [hnb] at HB ⊢
  clear ra rb ra' rb' hna hnb ha hb
  go_enter Tryz.func42, Tryz.ntmps42
  go_upto_region 1 with fail
  refine named2 (F := fun W => Code.wp _ _ _ _ W) ?_
  intro w1 k0 k1 hb1 hz1
  have q7 := k0; have r0a := q7.cell 0; have r0b := q7.cell 1; have r0c := q7.cell 2; have r0d := q7.cell 3; have r0e := q7.cell 4; have r0f := q7.cell 5; have r0g := q7.cell 6; have r0l := q7.lt; simp only [List.getElem?_toArray, List.getElem?_cons_zero, List.getElem?_cons_succ] at r0a r0b r0c r0d r0e r0f r0g; clear q7
  have q7 := k1; have r1a := q7.cell 0; have r1b := q7.cell 1; have r1c := q7.cell 2; have r1d := q7.cell 3; have r1e := q7.cell 4; have r1f := q7.cell 5; have r1g := q7.cell 6; have r1l := q7.lt; simp only [List.getElem?_toArray, List.getElem?_cons_zero, List.getElem?_cons_succ] at r1a r1b r1c r1d r1e r1f r1g; clear q7
  have K0 := Lib.hid k0
  have K1 := Lib.hid k1
  have HB1 := Lib.hid hb1
  clear k0 k1 hb1 hz1
  go_wp2_with (first
    | (go_at_call 97; first
      | (refine (HB.out _ HB2.out).mono ?_; rintro e w3 ⟨rfl, hb3⟩; have HB3 := Lib.hid (bTrans HB2.out hb3); have q7 := (K0.out.on (bTrans hb2x hb3)); have u0a := q7.cell 0; have u0b := q7.cell 1; have u0c := q7.cell 2; have u0d := q7.cell 3; have u0e := q7.cell 4; have u0f := q7.cell 5; have u0g := q7.cell 6; have u0l := q7.lt; simp only [List.getElem?_toArray, List.getElem?_cons_zero, List.getElem?_cons_succ] at u0a u0b u0c u0d u0e u0f u0g; clear q7; have q7 := (K1.out.on (bTrans hb2x hb3)); have u1a := q7.cell 0; have u1b := q7.cell 1; have u1c := q7.cell 2; have u1d := q7.cell 3; have u1e := q7.cell 4; have u1f := q7.cell 5; have u1g := q7.cell 6; have u1l := q7.lt; simp only [List.getElem?_toArray, List.getElem?_cons_zero, List.getElem?_cons_succ] at u1a u1b u1c u1d u1e u1f u1g; clear q7; clear hb3)
      | (refine (HA.out _ HB1.out).mono ?_; rintro e w2 ⟨rfl, hb2⟩; have HB2 := Lib.hid (bTrans HB1.out hb2); have hb2x := hb2; have q7 := (K0.out.on hb2); have t0a := q7.cell 0; have t0b := q7.cell 1; have t0c := q7.cell 2; have t0d := q7.cell 3; have t0e := q7.cell 4; have t0f := q7.cell 5; have t0g := q7.cell 6; have t0l := q7.lt; simp only [List.getElem?_toArray, List.getElem?_cons_zero, List.getElem?_cons_succ] at t0a t0b t0c t0d t0e t0f t0g; clear q7; have q7 := (K1.out.on hb2); have t1a := q7.cell 0; have t1b := q7.cell 1; have t1c := q7.cell 2; have t1d := q7.cell 3; have t1e := q7.cell 4; have t1f := q7.cell 5; have t1g := q7.cell 6; have t1l := q7.lt; simp only [List.getElem?_toArray, List.getElem?_cons_zero, List.getElem?_cons_succ] at t1a t1b t1c t1d t1e t1f t1g; clear q7; clear hb2)))
  go_ret
  exact ⟨rfl, HB3.out⟩
end
section
open Go.RowKit
set_option maxRecDepth 100000
set_option linter.unusedSimpArgs false
theorem Tryz.infoU64 : (Tryz.prog.info? 163).map (fun i => (i.zero, i.size, i.bytes)) = some (some (.int .u64 0), 1, 8) := by kernel_rfl
def u6C (n : Nat) : List Value := [.int .u64 (n : Int)]
/-- A body that stands for a tape. -/
def IsPk (u : ByteArray) (sd d x m : Int) (a b : List Nat) : Prop := U32 sd ∧ U32 m ∧ a.length ≤ 20000 ∧ rightTq d x 0 a b = true ∧ u.data.toList = packB sd d x m a b
def FldQ (w : World) (u : ByteArray) (e : Ending) (w' : World) : Prop := Below w.heap.size w w' ∧
  ((∃ (sd d x m : Nat) (a b : List Nat) (A B : Option Addr) (c c' : Nat), e = .returned (.tuple #[.agg #[.int .u32 (sd : Nat), .int .i64 (d : Nat), .int .i64 (x : Nat), .int .i64 0, .slice A a.length c, .slice B b.length c', .int .u32 (m : Nat)], .bool true]) ∧
      sd ≤ 4294967295 ∧ m ≤ 4294967295 ∧ a.length ≤ 20000 ∧ b.length ≤ 20000 ∧ OwnL w' w.heap.size 5 1 (.slice A a.length c) btC a ∧ OwnL w' w.heap.size 5 1 (.slice B b.length c') btC b ∧
      (∀ sd' d' x' m' a' b', IsPk u sd' d' x' m' a' b' → sd' = (sd : Nat) ∧ d' = (d : Nat) ∧ x' = (x : Nat) ∧ m' = (m : Nat) ∧ a' = a ∧ b' = b)) ∨
   (e = .returned (.tuple #[.agg #[.int .u32 0, .int .i64 0, .int .i64 0, .int .i64 0, .slice none 0 0, .slice none 0 0, .int .u32 0], .bool false]) ∧ ∀ sd d x m a b, ¬ IsPk u sd d x m a b))
/-- Numbers ahead of the rest. -/
def NumsAt (U0 : ByteArray) (l : List Nat) (U : ByteArray) : Prop := ∀ (NS : List Nat) (rest : List UInt8), NS.length = 4 → (∀ z ∈ NS, z ≤ 4294967295) → U0.data.toList = NS.flatMap numB ++ rest → l = NS.take l.length ∧ U.data.toList = (NS.drop l.length).flatMap numB ++ rest
theorem NumsAt.start (U0 : ByteArray) : NumsAt U0 [] U0 := fun _ _ _ _ h => ⟨rfl, h⟩
theorem NumsAt.next {U0 U : ByteArray} {l NS : List Nat} {rest : List UInt8} (h : NumsAt U0 l U) (hl : l.length < 4) (h1 : NS.length = 4) (h2 : ∀ z ∈ NS, z ≤ 4294967295) (h3 : U0.data.toList = NS.flatMap numB ++ rest) :
    ∃ z, NS.take (l.length + 1) = l ++ [z] ∧ z ≤ 4294967295 ∧ rdN U.data.toList = (z, (numB z).length, 0) ∧ (U.extract (numB z).length U.size).data.toList = (NS.drop (l.length + 1)).flatMap numB ++ rest := by
  obtain ⟨e1, e2⟩ := h NS rest h1 h2 h3
  have hk : l.length < NS.length := by omega
  have hz := h2 NS[l.length] (List.getElem_mem hk)
  rw [List.drop_eq_getElem_cons hk, List.flatMap_cons, List.append_assoc] at e2
  refine ⟨NS[l.length], ?_, hz, ?_, ?_⟩
  · rw [List.take_succ_eq_append_getElem hk, ← e1]
  · rw [e2]; exact rdN_numB _ (by omega)
  · rw [extract_drop, e2, List.drop_left]
theorem NumsAt.more {U0 U : ByteArray} {l : List Nat} (h : NumsAt U0 l U) (hl : l.length < 4) : NumsAt U0 (l ++ [(rdN U.data.toList).1]) (U.extract (rdN U.data.toList).2.1 U.size) := fun NS rest h1 h2 h3 => by
  obtain ⟨z, e1, -, e2, e3⟩ := h.next hl h1 h2 h3
  rw [e2, List.length_append, List.length_singleton]
  exact ⟨e1.symm, e3⟩
theorem NumsAt.no {U0 U : ByteArray} {l : List Nat} (h : NumsAt U0 l U) (hl : l.length < 4) (hx : (rdN U.data.toList).2.2 ≠ 0 ∨ 4294967295 < (rdN U.data.toList).1) (NS : List Nat) (rest : List UInt8) (h1 : NS.length = 4) (h2 : ∀ z ∈ NS, z ≤ 4294967295) : U0.data.toList ≠ NS.flatMap numB ++ rest := fun h3 => by
  obtain ⟨z, -, e1, e2, -⟩ := h.next hl h1 h2 h3
  rw [e2] at hx
  rcases hx with hx | hx
  · exact hx rfl
  · have hx : 4294967295 < z := hx
    omega
theorem IsPk.nums {u : ByteArray} {sd d x m : Int} {a b : List Nat} (h : IsPk u sd d x m a b) : u.data.toList.take 3 = [80, 66, 49] ∧ 3 ≤ u.size ∧ (u.extract 3 u.size).data.toList = [sd.toNat, d.toNat, x.toNat, a.length].flatMap numB ++ (insB a ++ (insB b ++ be4 m.toNat)) ∧ (∀ z ∈ [sd.toNat, d.toNat, x.toNat, a.length], z ≤ 4294967295) := by
  obtain ⟨h1, h2, h3, h4, h5⟩ := h
  obtain ⟨⟨q1, q2⟩, -, q3, ⟨q4, q5⟩, -, -⟩ := right_parts (rightTq_tp h4)
  rw [pack_split] at h5
  refine ⟨by rw [h5]; rfl, ?_, ?_, ?_⟩
  · rw [← ba_len, h5, List.length_append]; simp
  · rw [extract_drop, h5]
    simp only [List.flatMap_cons, List.flatMap_nil, List.append_nil, List.append_assoc]
    rfl
  · have := h1.1
    have := h1.2
    intro z hz
    simp only [List.mem_cons, List.not_mem_nil, or_false] at hz
    rcases hz with rfl | rfl | rfl | rfl <;> omega
end
section
open Go.RowKit
set_option maxRecDepth 100000
structure FK (w W : World) (gt gn c : Nat) (NS : List Nat) (C : Array Value) : Prop where
  res : Blk W w.heap.size 76 #[.int .u32 0, .int .i64 0, .int .i64 0, .int .i64 0, .slice none 0 0, .slice none 0 0, .int .u32 0]
  tp : Blk W gt 76 C
  num : OwnL W w.heap.size 163 1 (.slice (some ⟨gn, 0, none⟩) 4 c) u6C NS
  below : Below w.heap.size w W
section
variable {w W W' : World} {gt gn c : Nat} {NS : List Nat} {C : Array Value}
theorem FK.on (h : FK w W gt gn c NS C) (k : Below W.heap.size W W') : FK w W' gt gn c NS C := ⟨h.res.on k, h.tp.on k, h.num.below k, bTrans h.below k⟩
theorem FK.byte (h : FK w W gt gn c NS C) {m : Nat} {v : Value} {l : List Nat} (ho : OwnL W m 5 1 v btC l) (hm : w.heap.size ≤ m) (hg : W.grownBy W' v.ownBlock) : FK w W' gt gn c NS C :=
  ⟨h.res.grown hg (h.res.apart ho (by decide)), h.tp.grown hg (h.tp.apart ho (by decide)), h.num.kept hg (by
    cases hv : (Value.slice (some ⟨gn, 0, none⟩) 4 c).ownBlock with
    | none => exact .inl rfl
    | some q => exact .inr (fun e => ho.apart h.num (by decide) hv e.symm)), h.below.grown hg h.below.size (fun k e => Nat.le_trans hm (ho.base_le k e))⟩
theorem FK.put (h : FK w W gt gn c NS C) (i : Nat) (v : Value) (hgt : w.heap.size < gt) : FK w (W.setCell ⟨gt, i, none⟩ v) gt gn c NS (C.setIfInBounds i v) :=
  ⟨h.res.farG (by omega) i v, h.tp.set i v, h.num.farG (h.tp.apart h.num (by decide)) i v, bSetG h.below (by omega) i v⟩
end
/-- In the loop over the two lists. -/
def FL2 (u : ByteArray) (w : World) (gt gn c sd d x n : Nat) (i : Nat) (U : ByteArray) (W : World) : Prop :=
  (i = 0 ∧ FK w W gt gn c [sd, d, x, n] #[.int .u32 (sd : Nat), .int .i64 (d : Nat), .int .i64 (x : Nat), .int .i64 0, .slice none 0 0, .slice none 0 0, .int .u32 0] ∧ (∀ sd' d' x' m' a' b', IsPk u sd' d' x' m' a' b' → Stands U false n a' (insB b' ++ be4 m'.toNat))) ∨
  (i = 1 ∧ ∃ (A : Option Addr) (cA : Nat) (a : List Nat), FK w W gt gn c [sd, d, x, n] #[.int .u32 (sd : Nat), .int .i64 (d : Nat), .int .i64 (x : Nat), .int .i64 0, .slice A a.length cA, .slice none 0 0, .int .u32 0] ∧ OwnL W w.heap.size 5 1 (.slice A a.length cA) btC a ∧ a.length = n ∧ (∀ sd' d' x' m' a' b', IsPk u sd' d' x' m' a' b' → a' = a ∧ Stands U false n b' (be4 m'.toNat))) ∨
  (i = 2 ∧ ∃ (A B : Option Addr) (cA cB : Nat) (a b : List Nat), FK w W gt gn c [sd, d, x, n] #[.int .u32 (sd : Nat), .int .i64 (d : Nat), .int .i64 (x : Nat), .int .i64 0, .slice A a.length cA, .slice B b.length cB, .int .u32 0] ∧ OwnL W w.heap.size 5 1 (.slice A a.length cA) btC a ∧ OwnL W w.heap.size 5 1 (.slice B b.length cB) btC b ∧ a.length = n ∧ b.length = n ∧
    (∀ sd' d' x' m' a' b', IsPk u sd' d' x' m' a' b' → a' = a ∧ b' = b ∧ U.data.toList = be4 m'.toNat))
theorem FL2.open_ {u : ByteArray} {w : World} {gt gn c sd d x n i : Nat} {U : ByteArray} {W : World} (h : FL2 u w gt gn c sd d x n i U W) (hgt : w.heap.size < gt) (hi : i < 2) :
    ∃ KEEP : World → Prop, KEEP W ∧ (∀ V, KEEP V → ∃ C, C.size = 7 ∧ FK w V gt gn c [sd, d, x, n] C) ∧ (∀ V V', KEEP V → Below V.heap.size V V' → KEEP V') ∧
      (∀ V V' v l, KEEP V → OwnL V W.heap.size 5 1 v btC l → V.grownBy V' v.ownBlock → KEEP V') ∧
      ((∀ L rest, ¬ Stands U false n L rest) → ∀ sd' d' x' m' a' b', ¬ IsPk u sd' d' x' m' a' b') ∧
      (∀ V A cA l U', KEEP V → OwnL V W.heap.size 5 1 (.slice A l.length cA) btC l → l.length = n → (∀ L rest, Stands U false n L rest → l = L ∧ U'.data.toList = rest) →
        FL2 u w gt gn c sd d x n (i + 1) U' (V.setCell ⟨gt, 4 + i, none⟩ (.slice A l.length cA))) := by
  rcases h with ⟨rfl, hK, hS⟩ | ⟨rfl, A, cA, a, hK, hO, hn, hS⟩ | ⟨rfl, -⟩
  · refine ⟨fun V => FK w V gt gn c [sd, d, x, n] #[.int .u32 (sd : Nat), .int .i64 (d : Nat), .int .i64 (x : Nat), .int .i64 0, .slice none 0 0, .slice none 0 0, .int .u32 0], hK, fun V h => ⟨_, rfl, h⟩, fun V V' h k => h.on k, fun V V' v l h ho hg => h.byte ho hK.below.size hg, fun h sd' d' x' m' a' b' hp => h _ _ (hS _ _ _ _ _ _ hp), fun V A cA l U' h ho hl hst => ?_⟩
    refine .inr (.inl ⟨rfl, A, cA, l, h.put 4 _ hgt, (ho.farG (h.tp.apart ho (by decide)) _ _).more hK.below.size, hl, fun sd' d' x' m' a' b' hp => ?_⟩)
    obtain ⟨e1, e2⟩ := hst _ _ (hS _ _ _ _ _ _ hp)
    have hs := hS _ _ _ _ _ _ hp
    obtain ⟨-, -, -, h4, -⟩ := hp
    obtain ⟨-, -, q3, -, -, q7⟩ := right_parts (rightTq_tp h4)
    exact ⟨e1.symm, rfl, by rw [← q3]; exact hs.2.1, fun z hz => by have := q7 z hz; omega, e2⟩
  · refine ⟨fun V => FK w V gt gn c [sd, d, x, n] #[.int .u32 (sd : Nat), .int .i64 (d : Nat), .int .i64 (x : Nat), .int .i64 0, .slice A a.length cA, .slice none 0 0, .int .u32 0] ∧ OwnL V w.heap.size 5 1 (.slice A a.length cA) btC a ∧ (∀ k, (Value.slice A a.length cA).ownBlock = some k → k < W.heap.size), ⟨hK, hO, fun k e => hO.block_lt k e⟩, fun V h => ⟨_, rfl, h.1⟩, fun V V' h k => ⟨h.1.on k, h.2.1.below k, h.2.2⟩, fun V V' v l h ho hg => ⟨h.1.byte ho hK.below.size hg, h.2.1.kept hg (by
      cases hv : (Value.slice A a.length cA).ownBlock with
      | none => exact .inl rfl
      | some q => exact .inr (fun e => by
        have h1 := h.2.2 q hv
        have h2 := ho.base_le q e.symm
        omega)), h.2.2⟩, fun h sd' d' x' m' a' b' hp => h _ _ (hS _ _ _ _ _ _ hp).2, fun V B cB l U' h ho hl hst => ?_⟩
    refine .inr (.inr ⟨rfl, A, B, cA, cB, a, l, h.1.put 5 _ hgt, h.2.1.farG (h.1.tp.apart h.2.1 (by decide)) _ _, (ho.farG (h.1.tp.apart ho (by decide)) _ _).more hK.below.size, hn, hl, fun sd' d' x' m' a' b' hp => ?_⟩)
    obtain ⟨e0, hs⟩ := hS _ _ _ _ _ _ hp
    obtain ⟨e1, e2⟩ := hst _ _ hs
    exact ⟨e0, e1.symm, e2⟩
  · omega
end
end Go.Proofs.YtibeihcpehikoaaGreat
