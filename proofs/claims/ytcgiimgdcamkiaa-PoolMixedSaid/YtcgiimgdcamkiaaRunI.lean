/-
  The walks over 'run' and 'incs' of the statements of layer 22.
-/
import Derived.Test.YtcgiimgdcamkiaaLawI
namespace Go.Proofs.Ytcgiimgdcamkiaa
open Go.RowKit
set_option linter.unusedVariables false

/-- What a run of an act, alone, leaves. -/
def RunI (w : World) (L : IncL) (ab : Nat) (who : Int) (xv : Value) (cost c st : Int) (xs X : List Int) (e : Ending) (w' : World) : Prop :=
  e = .returned (.bool true) ∧ ∃ rd had k' X' st', st ≤ st' ∧ st' ≤ st + 2 ∧ Blk w' ab (actI L.ib who xv cost rd had true (decide (cost < c))) 101 ∧
    IncSt w' L st' (if cost < c then cost else c) k' X' ∧ (cost < c → X' = xs) ∧ (¬ cost < c → X' = X) ∧ Only [ab, L.mb, L.cb, L.pb] w w'

/-- The act's state at a round's head. -/
def AtI (w wr : World) (L : IncL) (ab : Nat) (vs : List Value) (st c : Int) (k : Nat) (X : List Int) : Prop :=
  Blk wr ab vs 101 ∧ IncSt wr L st c k X ∧ Only [ab, L.mb, L.cb, L.pb] w wr

set_option maxHeartbeats 800000 in
theorem runI_no (L : IncL) (ab : Nat) (who cost : Int) (xv : Value) (xs : List Int) (st c : Int) (k : Nat) (X : List Int) (w : World)
    (ha : Blk w ab (actI L.ib who xv cost false 0 false false) 101) (hI : IncSt w L st c k X) (hst : 0 ≤ st ∧ st < 9223372036854775000) (hc : c ≤ cost) :
    Calls Try.prog 25 #[.pointer (some ⟨ab, 0, none⟩)] w (RunI w L ab who xv cost c st xs X) := by
  have hd : decide (cost < c) = false := by simp; omega
  have hd' : decide (c ≤ cost) = true := by simp; omega
  have HD := Lib.hid hd
  have HD' := Lib.hid hd'
  clear hd hd'
  have HS := Lib.hid (stepA_look L ab who cost 0 false xv st c k X w ha hI (by omega))
  rw [HD'.out] at HS
  have HO := Lib.hid (overI_any ab L.ib who cost 0 false false false xv w ha)
  have hA0 : AtI w w L ab (actI L.ib who xv cost false 0 false false) st c k X := ⟨ha, hI, Only.refl _ _⟩
  go_enter Try.func25, Try.ntmps25
  go_wp2_with fail
  go_loopw [3] (fun i wr => (i = .int .i64 0 ∧ wr = w) ∨ (i = .int .i64 1 ∧ AtI w wr L ab (actI L.ib who xv cost true (c * 64 + k) true false) (st + 1) c k X)) (fun i _ => 2 - (intOf i).toNat)
  case atStart => exact Or.inl ⟨rfl, rfl⟩
  case round =>
    rcases hrel with ⟨rfl, rfl⟩ | ⟨rfl, hA1, hI1, hO1⟩
    · go_wp2_with (first | (go_at_call 17; refine HO.out.mono ?_; rintro e w' ⟨rfl, rfl⟩) | (go_at_call 18; refine HS.out.mono ?_; rintro e w1 ⟨rfl, hA1, hI1, hO1⟩))
      go_roundw
      case rel => exact Or.inr ⟨by go_num, hA1, hI1, hO1⟩
      case measure => simp [intOf]
    · have HO2 := Lib.hid (overI_any ab L.ib who cost _ true true false xv wr hA1)
      go_wp2_with (go_at_call 17; refine HO2.out.mono ?_; rintro e w' ⟨rfl, rfl⟩)
      go_ret
      have hd := HD.out
      have hn : ¬ cost < c := by omega
      refine ⟨rfl, true, _, k, X, st + 1, by omega, by omega, by rw [hd]; exact hA1, by rw [if_neg hn]; exact hI1, fun h => absurd h hn, fun _ => rfl, hO1⟩

set_option maxHeartbeats 800000 in
theorem runI_yes (L : IncL) (ab : Nat) (who cost : Int) (xa : Option Addr) (xl xc : Nat) (xs : List Int) (st c : Int) (k : Nat) (X : List Int) (w : World)
    (ha : Blk w ab (actI L.ib who (.slice xa xl xc) cost false 0 false false) 101) (hI : IncSt w L st c k X) (hst : 0 ≤ st ∧ st < 9223372036854775000)
    (hy : Ints w L.lo (.slice xa xl xc) xs) (hyl : xs.length ≤ 1099511627776) (hw : 0 ≤ who ∧ who < L.W) (hcc : 0 ≤ cost ∧ cost ≤ 1125899906842624) (hc : cost < c) :
    Calls Try.prog 25 #[.pointer (some ⟨ab, 0, none⟩)] w (RunI w L ab who (.slice xa xl xc) cost c st xs X) := by
  have hd : decide (cost < c) = true := by simp; omega
  have hd' : decide (c ≤ cost) = false := by simp; omega
  have HD := Lib.hid hd
  have HD' := Lib.hid hd'
  clear hd hd'
  have HS := Lib.hid (stepA_look L ab who cost 0 false (.slice xa xl xc) st c k X w ha hI (by omega))
  rw [HD'.out] at HS
  have HO := Lib.hid (overI_any ab L.ib who cost 0 false false false (.slice xa xl xc) w ha)
  have hloc := hI.memlt
  obtain ⟨_, _, _, hMw, hiw, hpw, _, _, _, _, _, _, _, _, _, _, _, hl1, hl2, _, _⟩ := id hI
  go_enter Try.func25, Try.ntmps25
  go_wp2_with fail
  go_loopw [3] (fun i wr => (i = .int .i64 0 ∧ wr = w) ∨ (i = .int .i64 1 ∧ AtI w wr L ab (actI L.ib who (.slice xa xl xc) cost true (c * 64 + k) false false) (st + 1) c k X) ∨
      (i = .int .i64 2 ∧ AtI w wr L ab (actI L.ib who (.slice xa xl xc) cost false (c * 64 + k) true true) (st + 1 + 1) cost (freeP who (c * 64 + k)).toNat xs)) (fun i _ => 2 - (intOf i).toNat)
  case atStart => exact Or.inl ⟨rfl, rfl⟩
  case round =>
    rcases hrel with ⟨rfl, rfl⟩ | ⟨rfl, hA1, hI1, hO1⟩ | ⟨rfl, hA2, hI2, hO2⟩
    · go_wp2_with (first | (go_at_call 17; refine HO.out.mono ?_; rintro e w' ⟨rfl, rfl⟩) | (go_at_call 18; refine HS.out.mono ?_; rintro e w1 ⟨rfl, hA1, hI1, hO1⟩))
      go_roundw
      case rel => exact Or.inr (Or.inl ⟨by go_num, hA1, hI1, hO1⟩)
      case measure => simp [intOf]
    · have hy1 : Ints wr L.lo (.slice xa xl xc) xs := by
        refine hy.only hO1 ?_
        intro b hb
        simp at hb
        rcases hb with rfl | rfl | rfl | rfl
        · exact Or.inr (Or.inr ⟨_, _, ha, by decide⟩)
        · exact Or.inl (by omega)
        · exact Or.inl (by omega)
        · exact Or.inr (Or.inr ⟨_, _, hpw, by decide⟩)
      have HS2 := Lib.hid (stepA_take L ab who cost false xa xl xc xs (st + 1) c k X wr hA1 hI1 (by omega) hy1 hyl hw hcc)
      have HO2 := Lib.hid (overI_any ab L.ib who cost _ true false false _ wr hA1)
      go_wp2_with (first | (go_at_call 17; refine HO2.out.mono ?_; rintro e w' ⟨rfl, rfl⟩) | (go_at_call 18; refine HS2.out.mono ?_; rintro e w2 ⟨rfl, hA2, hI2, hO2⟩))
      go_roundw
      case rel => exact Or.inr (Or.inr ⟨by go_num, hA2, hI2, hO1.trans hO2⟩)
      case measure => simp [intOf]
    · go_wp2_with fail
      have HO3 := Lib.hid (overI_any ab L.ib who cost _ false true true _ wr hA2)
      go_wp2_with (go_at_call 17; refine HO3.out.mono ?_; rintro e w' ⟨rfl, rfl⟩)
      go_ret
      have hd := HD.out
      refine ⟨rfl, false, _, _, xs, st + 1 + 1, by omega, by omega, by rw [hd]; exact hA2, by rw [if_pos hc]; exact hI2, fun _ => rfl, fun h => absurd hc h, hO2⟩

theorem runI_any (L : IncL) (ab : Nat) (who cost : Int) (xa : Option Addr) (xl xc : Nat) (xs : List Int) (st c : Int) (k : Nat) (X : List Int) (w : World)
    (ha : Blk w ab (actI L.ib who (.slice xa xl xc) cost false 0 false false) 101) (hI : IncSt w L st c k X) (hst : 0 ≤ st ∧ st < 9223372036854775000)
    (hy : Ints w L.lo (.slice xa xl xc) xs) (hyl : xs.length ≤ 1099511627776) (hw : 0 ≤ who ∧ who < L.W) (hcc : 0 ≤ cost ∧ cost ≤ 1125899906842624) :
    Calls Try.prog 25 #[.pointer (some ⟨ab, 0, none⟩)] w (RunI w L ab who (.slice xa xl xc) cost c st xs X) := by
  by_cases hc : cost < c
  · exact runI_yes L ab who cost xa xl xc xs st c k X w ha hI hst hy hyl hw hcc hc
  · exact runI_no L ab who cost _ xs st c k X w ha hI hst (by omega)

theorem Ints.lit (w : World) (xs : List Int) (h : xs.length ≤ 1099511627776) : Ints (w.alloc (.cells (xs.map (Value.int .i64)).toArray 3)) w.heap.size (.slice (some ⟨w.heap.size, 0, none⟩) xs.length xs.length) xs := by
  have := World.ownsRow_lit (base := w.heap.size) (e := 3) (size := 1) w (xs.map (Value.int .i64)).toArray xs.length (Nat.le_refl _) (by unfold maxLen; omega) (by simp)
  simpa [Ints] using this

/-- 'incs' answers true; of what there was nothing turns. -/
def Incs (w : World) (e : Ending) (w' : World) : Prop := e = .returned (.bool true) ∧ Only [] w w'

set_option maxHeartbeats 800000 in
theorem incs_any (w : World) : Calls Try.prog 14 #[] w (Incs w) := by
  go_enter Try.func14, Try.ntmps14
  go_wp2_with fail
  refine (freshI_any 2 9 w.heap.size (.slice (some ⟨w.heap.size, 0, none⟩) 1 1) [1] _ (Ints.lit w [1] (by simp)) (by simp) (by omega) (by omega)).mono ?_
  rintro e w1 ⟨L, rfl, q1, q2, q3, q4, q5, q6, hI1, hO1⟩
  have hO1' := ((Only.refl [] w).alloc (.cells #[.int .i64 1] 3)).trans hO1
  have hq : w.heap.size ≤ L.mb ∧ w.heap.size ≤ L.cb ∧ w.heap.size ≤ L.pb := by simp at q3 q4 q6; omega
  have Q2 := Lib.hid q2
  clear q1 q2 q3 q4 q5 q6
  go_wp2_with fail
  have hI2 := hI1.only ((Only.refl [] w1).alloc (.cells #[.int .i64 2] 3)) (by simp)
  refine (offerA L w1.heap.size 0 7 (.slice (some ⟨w1.heap.size, 0, none⟩) 1 1) [2] _ _ _ _ _ hI2 (Ints.lit w1 [2] (by simp)) (by simp) (by rw [Q2.out]; omega) (by omega)).mono ?_
  rintro e w2 ⟨ab, xa, xl, xc, rfl, hab, hA2, hx2, hO2⟩
  have hI3 := hI2.only hO2 (by simp)
  have hO2' := hO1'.trans (((Only.refl [] w1).alloc (.cells #[.int .i64 2] 3)).trans hO2)
  have hab' : w.heap.size ≤ ab := by have := hO1'.size; simp at hab; omega
  have HR := Lib.hid (runI_any L ab 0 7 xa xl xc [2] 1 9 _ _ w2 hA2 hI3 (by omega) (hx2.mono hI2.lole) (by simp) (by rw [Q2.out]; omega) (by omega))
  clear hI1 hI2 hI3 hA2 hx2 hO2 hO1 hab hO1'
  go_wp2_with fail
  refine HR.out.mono ?_
  rintro e w3 ⟨rfl, rd, had, k', X', st', hs1, hs2, hA3, hI3, hX, -, hO3⟩
  obtain rfl := hX (by omega)
  rw [if_pos (by omega)] at hI3
  have hO3' : Only [] w w3 := hO2'.behind hO3 (by simp; omega)
  have HT := Lib.hid (takenI_any ab L.ib 0 7 had rd true _ _ w3 hA3)
  rw [show decide ((7 : Int) < 9) = true from rfl] at HT
  clear hO3 hA3 HR hO2'
  go_wp2_with fail
  refine HT.out.mono ?_
  rintro e w' ⟨rfl, rfl⟩
  clear HT
  go_wp2_with fail
  have hI4 := hI3.only ((Only.refl [] w3).alloc (.cells #[.int .i64 3] 3)) (by simp)
  refine (offerA L w3.heap.size 1 8 (.slice (some ⟨w3.heap.size, 0, none⟩) 1 1) [3] _ _ _ _ _ hI4 (Ints.lit w3 [3] (by simp)) (by simp) (by rw [Q2.out]; omega) (by omega)).mono ?_
  rintro e w4 ⟨ab4, xa4, xl4, xc4, rfl, hab4, hA4, hx4, hO4⟩
  have hI5 := hI4.only hO4 (by simp)
  have hO4' := hO3'.trans (((Only.refl [] w3).alloc (.cells #[.int .i64 3] 3)).trans hO4)
  have hab4' : w.heap.size ≤ ab4 := by have := hO3'.size; simp at hab4; omega
  have HR4 := Lib.hid (runI_any L ab4 1 8 xa4 xl4 xc4 [3] st' 7 _ _ w4 hA4 hI5 (by omega) (hx4.mono hI4.lole) (by simp) (by rw [Q2.out]; omega) (by omega))
  clear hI3 hI4 hI5 hA4 hx4 hO4 hab4 hO3'
  go_wp2_with fail
  refine HR4.out.mono ?_
  rintro e w5 ⟨rfl, rd5, had5, k5, X5, st5, hs51, hs52, hA5, hI5, -, hX5, hO5⟩
  obtain rfl := hX5 (by omega)
  rw [if_neg (by omega)] at hI5
  have hO5' : Only [] w w5 := hO4'.behind hO5 (by simp; omega)
  have HT5 := Lib.hid (takenI_any ab4 L.ib 1 8 had5 rd5 true _ _ w5 hA5)
  rw [show decide ((8 : Int) < 7) = false from rfl] at HT5
  clear hO5 hA5 HR4 hO4'
  go_wp2_with fail
  refine HT5.out.mono ?_
  rintro e w' ⟨rfl, rfl⟩
  clear HT5
  go_wp2_with fail
  refine (bestA L _ _ _ _ w5 hI5).mono ?_
  rintro e w6 ⟨v6, rfl, hx6, hO6⟩
  have hI6 := hI5.only hO6 (by simp)
  have hO6' := hO5'.trans hO6
  clear hO6 hI5 hO5'
  obtain ⟨va, vl, vc, rfl⟩ := hx6.slice
  go_wp2_with fail
  have hx7 := hx6.only ((Only.refl [] w6).alloc (.cells #[.int .i64 2] 3)) (by simp)
  refine (same_yes _ _ _ _ [2] _ hx7 (Ints.lit w6 [2] (by simp)) (by simp)).mono ?_
  rintro e w7 ⟨rfl, n, rfl⟩
  have hO7' : Only [] w ((w6.alloc (.cells #[.int .i64 2] 3)).drewN n) := (hO6'.alloc _).drewN n
  have hI7 : IncSt ((w6.alloc (.cells #[.int .i64 2] 3)).drewN n) L st5 7 k5 [2] := hI6.only (((Only.refl [] w6).alloc _).drewN n) (by simp)
  go_wp2_with fail
  refine (lookA L _ _ _ _ _ hI7 (by omega)).mono ?_
  rintro e w8 ⟨rfl, hI8, hO8⟩
  have hO8' : Only [] w w8 := hO7'.behind hO8 (by simp; omega)
  go_wp2
  go_ret
  exact ⟨rfl, hO8'⟩
end Go.Proofs.Ytcgiimgdcamkiaa
