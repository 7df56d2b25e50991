/-
  A fresh pool; an act's Steps to its end, alone.
-/
import Derived.Test.YtcgiimgdcamkiaaPoolN
namespace Go.Proofs.Ytcgiimgdcamkiaa
open Go.RowKit
set_option linter.unusedVariables false

/-- A fresh pool with its memory, as the statements make it. -/
def FreshP (w : World) (n W : Nat) (e : Ending) (w' : World) : Prop :=
  ∃ (L : PoolL) (cs : List Int), e = .returned (.tuple #[.pointer (some ⟨L.pp, 0, none⟩), .pointer (some ⟨L.mb, 0, none⟩), .bool true]) ∧ L.base = 3 ∧ L.n = n ∧ L.W = W ∧ (w.heap.size ≤ L.pp ∧ w.heap.size ≤ L.nb ∧ w.heap.size ≤ L.ob ∧ w.heap.size ≤ L.mb ∧ w.heap.size ≤ L.cb ∧ w.heap.size ≤ L.lo) ∧
    PoolSt w' L (1 + n) 0 cs (List.range' 0 n) (List.replicate W nilS) (List.replicate W []) (nodesZ n) ∧ Only [] w w'

set_option maxHeartbeats 400000 in
theorem freshP_any (n W : Nat) (w : World) (hn : 1 ≤ n ∧ n ≤ 4096) (hW : 1 ≤ W ∧ W ≤ 16) : Calls Try.prog 26 #[.int .i64 n, .int .i64 W] w (FreshP w n W) := by
  have HC := cells_any n w
  rw [if_neg (by omega)] at HC
  have HC := Lib.hid HC
  have HN := Lib.hid (cellNew_yes (3 + ((n : Int) + 1)) w (by omega) (by omega))
  go_enter Try.func26, Try.ntmps26
  go_wp2_with (first | (go_at_call 41; refine HC.out.mono ?_; rintro e w' ⟨rfl, rfl⟩) | (go_at_call 10; refine HN.out.mono ?_; rintro e w1 ⟨mb, cb, rfl, hmb, hcb, hM1, hO1⟩))
  have hml := hM1.lt
  have hlen : (3 : Int) + 1 + n ≤ (List.replicate (3 + ((n : Int) + 1)).toNat (0 : Int)).length := by simp; omega
  generalize List.replicate (3 + ((n : Int) + 1)).toNat (0 : Int) = cs0 at *
  refine (poolNew_yes mb cb cs0 0 3 n W w1 hM1 (by omega) (by omega) hlen hn hW).mono ?_
  intro e w2 hN2
  obtain ⟨L, cs', rfl, q1, q2, q3, q4, q5, q6, q7, q8, q9, hP, hO2⟩ := hN2
  go_wp2
  go_ret3
  have hsz := hO1.size
  have hO3 : Only [] w w2 := ((hO1.mono (by simp)).trans hO2).drop (by intro k hk; simp at hk; rcases hk with rfl | rfl <;> left <;> omega)
  refine ⟨L, cs', by rw [q1]; rfl, q3, q4, q5, ⟨by omega, by omega, by omega, by omega, by omega, by omega⟩, by rw [show (1 : Int) + n = 0 + 1 + n by omega]; exact hP, hO3⟩

/-- How an act is over. -/
def EndCase (i : Nat) (give : Bool) (s : Int) (stk : List Nat) (os : List (List Int)) (s' : Int) (stk' : List Nat) (os' : List (List Int)) : Prop :=
  (give = false ∧ (∃ ys, os.getD i [] = ys ++ [s'] ∧ os' = os.set i ys) ∧ stk' = stk) ∨
  (give = false ∧ s' = -1 ∧ os.getD i [] = [] ∧ stk = [] ∧ stk' = [] ∧ os' = os) ∨
  (give = false ∧ (∃ t : Nat, s' = t ∧ stk = t :: stk') ∧ os' = os) ∨
  (give = true ∧ s' = s ∧ os' = os.set i (os.getD i [] ++ [s]) ∧ stk' = stk) ∨
  (give = true ∧ s' = s ∧ stk' = s.toNat :: stk ∧ os' = os)

section
variable (w : World) (L : PoolL) (st ver : Int) (cs : List Int) (stk : List Nat) (ow : List Value) (os : List (List Int)) (ns : List Value) (i ab : Nat) (give : Bool) (s ph0 T0 : Int)

def MidP (k : Nat) (wr : World) : Prop :=
  ∃ ph T nx st1 cs1, (ph = 0 ∨ ph = 1 ∨ ph = 2) ∧ Blk wr ab (actP L.pp i give s ph T nx) 108 ∧ PoolSt wr L st1 ver cs1 stk ow os ns ∧ ActInv L ver stk cs1 give s ph T nx ∧ st ≤ st1 ∧ st1 ≤ st + k ∧ rank ver ph T + k ≤ rank ver ph0 T0 ∧
    Only ([ab, L.mb, L.cb, L.ob] ++ blkOf (ow.getD i nilS)) w wr ∧ (∀ t : Int, 0 ≤ t → t < L.n → t ≠ s → lk cs1 L.base t = lk cs L.base t)
def FinP (k : Nat) (wr : World) : Prop :=
  ∃ s' T nx st1 ver1 cs1 stk1 ow1 os1, Blk wr ab (actP L.pp i give s' 3 T nx) 108 ∧ PoolSt wr L st1 ver1 cs1 stk1 ow1 os1 ns ∧ st ≤ st1 ∧ st1 ≤ st + k ∧ k ≤ rank ver ph0 T0 ∧
    Only ([ab, L.mb, L.cb, L.ob] ++ blkOf (ow.getD i nilS)) w wr ∧ (∀ j, j ≠ i → ow1.getD j nilS = ow.getD j nilS) ∧ ((ow1.getD i nilS).ownBlock = (ow.getD i nilS).ownBlock ∨ ∃ g, (ow1.getD i nilS).ownBlock = some g ∧ w.heap.size ≤ g) ∧
    (∀ t : Int, 0 ≤ t → t < L.n → t ≠ s → lk cs1 L.base t = lk cs L.base t) ∧ ((ver1 = ver ∧ stk1 = stk) ∨ ver1 = ver + 1) ∧ EndCase i give s stk os s' stk1 os1

theorem rank_pos {ver ph T : Int} (h : ph = 0 ∨ ph = 1 ∨ ph = 2) : 1 ≤ rank ver ph T ∧ rank ver ph T ≤ 5 := by
  rcases h with rfl | rfl | rfl <;> simp [rank] <;> split <;> omega

theorem MidP.start (h : PoolSt w L st ver cs stk ow os ns) (hp : ph0 = 0 ∨ ph0 = 1 ∨ ph0 = 2) (nx0 : Int) (hI : ActInv L ver stk cs give s ph0 T0 nx0) (ha : Blk w ab (actP L.pp i give s ph0 T0 nx0) 108) : MidP w L st ver cs stk ow os ns i ab give s ph0 T0 0 w :=
  ⟨ph0, T0, nx0, st, cs, hp, ha, h, hI, by omega, by omega, by omega, Only.refl _ _, fun _ _ _ _ => rfl⟩

theorem MidP.step {k : Nat} {wr : World} (h : MidP w L st ver cs stk ow os ns i ab give s ph0 T0 k wr) (hst : 0 ≤ st ∧ st < 900000) (hk : k ≤ 5) (hi : i < L.W) (hs : give = true → 0 ≤ s ∧ s < L.n ∧ s.toNat ∉ stk) (hs' : give = false → s = -1) :
    Calls Try.prog 39 #[.pointer (some ⟨ab, 0, none⟩)] wr fun e w' => ∃ b, e = .returned (.bool b) ∧ ((b = false ∧ MidP w L st ver cs stk ow os ns i ab give s ph0 T0 (k + 1) w') ∨ (b = true ∧ FinP w L st ver cs stk ow os ns i ab give s ph0 T0 (k + 1) w')) := by
  obtain ⟨ph, T, nx, st1, cs1, hph, ha, hP, hI, h1, h2, h3, hO, hlk⟩ := h
  refine (stepPool hP (by omega) ab i hi give s ph T nx hs hs' hph hI ha).mono ?_
  rintro e w' ⟨s', ph', T', nx', st', ver', cs', stk', ow', os', rfl, hrk, ha', hP', g1, g2, hO', how, hob, hlk', hc⟩
  have hO2 := hO.trans hO'
  have hlk2 : ∀ t : Int, 0 ≤ t → t < L.n → t ≠ s → lk cs' L.base t = lk cs L.base t := fun t a b c => (hlk' t a b c).trans (hlk t a b c)
  have hob2 : (ow'.getD i nilS).ownBlock = (ow.getD i nilS).ownBlock ∨ ∃ g, (ow'.getD i nilS).ownBlock = some g ∧ w.heap.size ≤ g := hob.imp id (fun ⟨g, a, b⟩ => ⟨g, a, by have := hO.size; omega⟩)
  have fin : ph' = 3 → ((ver' = ver ∧ stk' = stk) ∨ ver' = ver + 1) → EndCase i give s stk os s' stk' os' →
      ∃ b, Ending.returned (.bool (ph' == 3)) = .returned (.bool b) ∧ ((b = false ∧ MidP w L st ver cs stk ow os ns i ab give s ph0 T0 (k + 1) w') ∨ (b = true ∧ FinP w L st ver cs stk ow os ns i ab give s ph0 T0 (k + 1) w')) := by
    rintro rfl hv hE
    exact ⟨true, rfl, Or.inr ⟨rfl, s', T', nx', st', ver', cs', stk', ow', os', ha', hP', by omega, by omega, by omega, hO2, how, hob2, hlk2, hv, hE⟩⟩
  rcases hc with ⟨rfl, rfl, rfl, rfl, rfl, hI', hph'⟩ | ⟨rfl, rfl, hy, rfl, rfl⟩ | ⟨rfl, rfl, rfl, hy, hz, rfl, rfl, rfl⟩ | ⟨rfl, rfl, hy, rfl, rfl⟩ | ⟨rfl, rfl, rfl, rfl, rfl, rfl⟩ | ⟨rfl, rfl, rfl, rfl, rfl, rfl⟩
  · refine ⟨false, ?_, Or.inl ⟨rfl, ph', T', nx', st', cs', hph', ha', hP', hI', by omega, by omega, by omega, hO2, hlk2⟩⟩
    rcases hph' with rfl | rfl | rfl <;> rfl
  · exact fin rfl (Or.inl ⟨rfl, rfl⟩) (Or.inl ⟨rfl, hy, rfl⟩)
  · exact fin rfl (Or.inl ⟨rfl, hz.symm⟩) (Or.inr (Or.inl ⟨rfl, rfl, hy, hz, rfl, rfl⟩))
  · exact fin rfl (Or.inr rfl) (Or.inr (Or.inr (Or.inl ⟨rfl, hy, rfl⟩)))
  · exact fin rfl (Or.inl ⟨rfl, rfl⟩) (Or.inr (Or.inr (Or.inr (Or.inl ⟨rfl, rfl, rfl, rfl⟩))))
  · exact fin rfl (Or.inr rfl) (Or.inr (Or.inr (Or.inr (Or.inr ⟨rfl, rfl, rfl, rfl⟩))))

/-- What 'run' leaves. -/
def RanP (e : Ending) (w' : World) : Prop := ∃ (r : Int) (k : Nat), e = .returned (.int .i64 r) ∧ (rank ver ph0 T0 ≤ 4 → 0 ≤ r) ∧ FinP w L st ver cs stk ow os ns i ab give s ph0 T0 k w'

set_option maxRecDepth 100000 in
set_option maxHeartbeats 400000 in
theorem runP_any (h : PoolSt w L st ver cs stk ow os ns) (hst : 0 ≤ st ∧ st < 900000) (hp : ph0 = 0 ∨ ph0 = 1 ∨ ph0 = 2) (nx0 : Int) (hI : ActInv L ver stk cs give s ph0 T0 nx0) (ha : Blk w ab (actP L.pp i give s ph0 T0 nx0) 108)
    (hi : i < L.W) (hs : give = true → 0 ≤ s ∧ s < L.n ∧ s.toNat ∉ stk) (hs' : give = false → s = -1) :
    Calls Try.prog 43 #[.pointer (some ⟨ab, 0, none⟩)] w (RanP w L st ver cs stk ow os ns i ab give s ph0 T0) := by
  have H0 := Lib.hid (MidP.start w L st ver cs stk ow os ns i ab give s ph0 T0 h hp nx0 hI ha)
  have Hs := Lib.hid (And.intro hs hs')
  have Hr := Lib.hid (rank_pos (ver := ver) (T := T0) hp)
  clear h hI ha hs hs' hp
  go_enter Try.func43, Try.ntmps43
  go_wp2_with fail
  go_loopw [3] (fun i' wr => ∃ k : Nat, k ≤ 5 ∧ i' = .int .i64 k ∧ (MidP w L st ver cs stk ow os ns i ab give s ph0 T0 k wr ∨ FinP w L st ver cs stk ow os ns i ab give s ph0 T0 k wr)) (fun i _ => 5 - (intOf i).toNat)
  case atStart => exact ⟨0, by omega, rfl, Or.inl H0.out⟩
  case round =>
    obtain ⟨k, hk, rfl, hM | hF⟩ := hrel
    · have hk4 : k ≤ 4 := by
        obtain ⟨ph, T, nx, st1, cs1, hph, _, _, _, _, _, h3, _⟩ := hM
        have := (rank_pos (ver := ver) (T := T) hph).1
        have := Hr.out.2
        omega
      have hkk : (k : Int) ≤ 4 := by omega
      have HS := Lib.hid (hM.step w L st ver cs stk ow os ns i ab give s ph0 T0 hst hk hi Hs.out.1 Hs.out.2)
      obtain ⟨ph, T, nx, st1, cs1, hph, ha, _⟩ := hM
      have HO := Lib.hid (overP_any ab L.pp i s ph T nx give wr ha false (by rcases hph with rfl | rfl | rfl <;> rfl))
      clear ha hph
      go_wp2_with (first | (go_at_call 38; refine HO.out.mono ?_; rintro e w' ⟨rfl, rfl⟩) | (go_at_call 39; refine HS.out.mono ?_; rintro e w2 ⟨b, rfl, hD⟩))
      go_roundw
      case rel => exact ⟨k + 1, by omega, by go_num, hD.imp (·.2) (·.2)⟩
      case measure => simp [intOf]; omega
    · by_cases hk4 : k ≤ 4
      · have hkk : (k : Int) ≤ 4 := by omega
        have HF := Lib.hid hF
        obtain ⟨s', T, nx, st1, ver1, cs1, stk1, ow1, os1, ha, _⟩ := hF
        have HO := Lib.hid (overP_any ab L.pp i s' 3 T nx give wr ha true rfl)
        clear ha
        go_wp2_with (first | (go_at_call 38; refine HO.out.mono ?_; rintro e w' ⟨rfl, rfl⟩))
        go_ret
        exact ⟨k, k, rfl, fun _ => by omega, HF.out⟩
      · have hkk : ¬ (k : Int) ≤ 4 := by omega
        have hr : 5 ≤ rank ver ph0 T0 := by
          obtain ⟨s', T, nx, st1, ver1, cs1, stk1, ow1, os1, _, _, _, _, h5, _⟩ := hF
          omega
        have HF := Lib.hid hF
        have HR := Lib.hid hr
        clear hr hF
        go_wp2_with fail
        go_ret
        exact ⟨-1, k, rfl, fun h => by have := HR.out; omega, HF.out⟩
end
end Go.Proofs.Ytcgiimgdcamkiaa
