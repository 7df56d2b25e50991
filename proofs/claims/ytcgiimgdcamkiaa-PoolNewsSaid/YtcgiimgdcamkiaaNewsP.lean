/-
  The walk over the statement PoolNews.
-/
import Derived.Test.YtcgiimgdcamkiaaPoolK
import Derived.Test.YtcgiimgdcamkiaaArgs
namespace Go.Proofs.Ytcgiimgdcamkiaa
open Go.RowKit
set_option linter.unusedVariables false

theorem poolNew_nil (base n W : Int) (w : World) : Calls Try.prog 31 #[.pointer none, .int .i64 base, .int .i64 n, .int .i64 W] w fun e w' => e = .returned (.tuple #[.pointer none, .int .i64 1]) ∧ w = w' := by
  have hc := cells_any n w
  generalize (if n < 1 ∨ 4096 < n then 0 else n + 1) = c at hc
  have HC := Lib.hid hc
  clear hc
  go_enter Try.func31, Try.ntmps31
  go_wp2_with (go_at_call 41; refine HC.out.mono ?_; rintro e w' ⟨rfl, rfl⟩)
  go_ret2
  exact ⟨rfl, rfl⟩

set_option maxHeartbeats 800000 in
theorem poolNew_no (mb cb : Nat) (cs : List Int) (st : Int) (n W : Int) (w : World) (hM : Mem w mb cb cs st)
    (h : n < 1 ∨ 4096 < n ∨ W < 1 ∨ 16 < W ∨ (cs.length : Int) < n + 3) :
    Calls Try.prog 31 #[.pointer (some ⟨mb, 0, none⟩), .int .i64 2, .int .i64 n, .int .i64 W] w fun e w' => e = .returned (.tuple #[.pointer none, .int .i64 1]) ∧ w = w' := by
  have HS := Lib.hid (size_any mb cb cs st w hM)
  have hl := hM.len
  have hc := cells_any n w
  by_cases h1 : n < 1 ∨ 4096 < n
  · rw [if_pos h1] at hc
    have HC := Lib.hid hc
    clear h h1 hc
    go_enter Try.func31, Try.ntmps31
    go_wp2_with (first | (go_at_call 41; refine HC.out.mono ?_; rintro e w' ⟨rfl, rfl⟩) | (go_at_call 45; refine HS.out.mono ?_; rintro e w' ⟨rfl, rfl⟩))
    go_ret2
    exact ⟨rfl, rfl⟩
  rw [if_neg h1] at hc
  have HC := Lib.hid hc
  have n5 : (n + 1 == 0) = false := by simp; omega
  by_cases h3 : W < 1
  · clear h hc
    go_enter Try.func31, Try.ntmps31
    go_wp2_with (first | (go_at_call 41; refine HC.out.mono ?_; rintro e w' ⟨rfl, rfl⟩) | (go_at_call 45; refine HS.out.mono ?_; rintro e w' ⟨rfl, rfl⟩))
    go_ret2
    exact ⟨rfl, rfl⟩
  by_cases h4 : 16 < W
  · clear h hc
    go_enter Try.func31, Try.ntmps31
    go_wp2_with (first | (go_at_call 41; refine HC.out.mono ?_; rintro e w' ⟨rfl, rfl⟩) | (go_at_call 45; refine HS.out.mono ?_; rintro e w' ⟨rfl, rfl⟩))
    go_ret2
    exact ⟨rfl, rfl⟩
  have h6 : (cs.length : Int) - (n + 1) < 2 := by omega
  clear h hc
  go_enter Try.func31, Try.ntmps31
  go_wp2_with (first | (go_at_call 41; refine HC.out.mono ?_; rintro e w' ⟨rfl, rfl⟩) | (go_at_call 45; refine HS.out.mono ?_; rintro e w' ⟨rfl, rfl⟩))
  go_ret2
  exact ⟨rfl, rfl⟩

set_option maxRecDepth 100000 in
set_option maxHeartbeats 800000 in
theorem poolNews_walk (slots W room : Int) (w : World) (hs : -9223372036854775808 ≤ slots ∧ slots ≤ 9223372036854775807) (hr : -9223372036854775808 ≤ room ∧ room ≤ 9223372036854775807) :
    Calls Try.prog 7 #[.int .i64 slots, .int .i64 W, .int .i64 room] w (True0 w) := by
  go_enter Try.func7, Try.ntmps7
  go_upto_region 0 with fail
  iterate 8 go_step
  go_cut [0] from 16 (fun u w2 => ∃ n : Int, u = .int .i64 n ∧ (-9223372036854775808 ≤ n ∧ n ≤ 9223372036854775807) ∧ w2 = w)
  case first =>
    by_cases h1 : 50 < slots
    · by_cases h2 : slots ≤ 4096
      · have h3 : slots.tmod 3 = slots % 3 := Int.tmod_eq_emod_of_nonneg (by omega)
        go_wp2_with fail
        go_meet
        case rel => exact ⟨_, rfl, by omega, rfl⟩
      · go_wp2_with fail
        go_meet
        case rel => exact ⟨_, rfl, hs, rfl⟩
    · go_wp2_with fail
      go_meet
      case rel => exact ⟨_, rfl, hs, rfl⟩
  case rest =>
  obtain ⟨n, rfl, hn, rfl⟩ := hcut
  clear hs
  have hmb := umod_bd room 5000 (by omega) (by omega)
  go_upto_region 4 with fail
  generalize wrap64 ((IntKind.u64.wrap room).tmod 5000) = m0 at *
  have H32 := fun w => Lib.hid (noneP w)
  have H33 := fun w => Lib.hid (slotsP_nil w)
  have H34 := fun w => Lib.hid (takeP_nil 0 w)
  have H35 := fun w => Lib.hid (giveP_nil 0 0 w)
  have H36 := fun w => Lib.hid (ownP_nil 0 w)
  have H37 := fun w => Lib.hid (sharedP_nil w)
  have H38 := fun w => Lib.hid (overP_nil w)
  have H39 := fun w => Lib.hid (stepP_nil w)
  have H40 := fun w => Lib.hid (slotP_nil w)
  go_wp2_with fail
  refine (cellNew_yes m0 wc hmb.1 (by omega)).mono ?_
  rintro e w1 ⟨mb, cb, rfl, hmb2, hcb2, hM1, hO1⟩
  have hlen : ((List.replicate m0.toNat (0 : Int)).length : Int) = m0 := by simp; omega
  generalize List.replicate m0.toNat (0 : Int) = cs at *
  go_wp2_with fail
  by_cases hgood : 1 ≤ n ∧ n ≤ 4096 ∧ 1 ≤ W ∧ W ≤ 16 ∧ n + 3 ≤ m0
  · obtain ⟨N, rfl⟩ : ∃ N : Nat, n = N := ⟨n.toNat, by omega⟩
    obtain ⟨V, rfl⟩ : ∃ V : Nat, W = V := ⟨W.toNat, by omega⟩
    refine (poolNew_yes mb cb cs 0 2 N V w1 hM1 (by omega) (by omega) (by omega) (by omega) (by omega)).mono ?_
    rintro e w2 ⟨L, cs', rfl, q1, q2, q3, q4, q5, q6, q7, q8, q9, hP2, hO2⟩
    have hml := hM1.lt
    have hO12 : Only [] wc w2 := hO1.behind hO2 (by intro k hk; simp at hk; left; omega)
    have HO12 := Lib.hid hO12
    have HQ := Lib.hid (And.intro q4 q5)
    clear hM1 hO1 hO2 hml q6 q7 q8 q9 hO12 q1 q2 q3
    go_wp2_with fail
    refine (poolNew_nil 0 1 1 w2).mono ?_
    rintro e w' ⟨rfl, rfl⟩
    go_wp2_with fail
    refine (pools_any w2).mono ?_
    rintro e w3 ⟨rfl, hO3⟩
    have hP3 := hP2.only hO3 (by simp)
    have HO3 := Lib.hid (HO12.out.trans hO3)
    have HP3 := Lib.hid hP3
    clear hP2 hO3 hP3 q4 q5
    go_upto_region 10 with (first | (go_at_call 32; refine (H32 _).out.mono ?_; rintro e w' ⟨rfl, rfl⟩) | (go_at_call 33; refine (H33 _).out.mono ?_; rintro e w' ⟨rfl, rfl⟩) | (go_at_call 34; refine (H34 _).out.mono ?_; rintro e w' ⟨rfl, rfl⟩) | (go_at_call 35; refine (H35 _).out.mono ?_; rintro e w' ⟨rfl, rfl⟩) | (go_at_call 36; refine (H36 _).out.mono ?_; rintro e w' ⟨rfl, rfl⟩) | (go_at_call 37; refine (H37 _).out.mono ?_; rintro e w' ⟨rfl, rfl⟩) | (go_at_call 38; refine (H38 _).out.mono ?_; rintro e w' ⟨rfl, rfl⟩) | (go_at_call 39; refine (H39 _).out.mono ?_; rintro e w' ⟨rfl, rfl⟩) | (go_at_call 40; refine (H40 _).out.mono ?_; rintro e w' ⟨rfl, rfl⟩))
    clear H32 H33 H34 H35 H36 H37 H38 H39 H40
    have hq1 := HQ.out.1
    have hq2 := HQ.out.2
    have hp3 := HP3.out.pool
    have hn := HP3.out.n1
    have hn2 := HP3.out.n2
    have hW := HP3.out.W1
    have hW2 := HP3.out.W2
    rw [hq1] at hn hn2 hp3
    rw [hq2] at hW hW2 hp3
    have g1 : (1 : Int) ≤ (N : Int) := by omega
    have g2 : (N : Int) ≤ 4096 := by omega
    have g3 : (1 : Int) ≤ (V : Int) := by omega
    have g4 : (V : Int) ≤ 16 := by omega
    have g5 : decide (2 + (N : Int) + 1 ≤ m0) = true := by simp; omega
    have S1 := Lib.hid (slotsP_any L.pp L.mb L.nb N L.ob V L.base w3 hp3)
    have S2 := Lib.hid (sharedP_any HP3.out (by omega))
    have hlen2 : (intsOf (List.range' 0 N)).length = N := by simp [intsOf]
    have S3 := fun w' (h : Blk w' L.pp (poolB L.mb L.base L.nb N L.ob V) 105) => Lib.hid (takeP_no L.pp L.mb L.nb N L.ob V L.base w' h V (Or.inr (Int.le_refl _)) hW2)
    have S4 := fun w' (h : Blk w' L.pp (poolB L.mb L.base L.nb N L.ob V) 105) => Lib.hid (takeP_no L.pp L.mb L.nb N L.ob V L.base w' h (-1) (Or.inl (by decide)) hW2)
    have S5 := fun w' (h : Blk w' L.pp (poolB L.mb L.base L.nb N L.ob V) 105) => Lib.hid (giveP_noslot L.pp L.mb L.nb N L.ob V L.base w' h hn2 0 N (Or.inr (Int.le_refl _)))
    have S6 := fun w' (h : Blk w' L.pp (poolB L.mb L.base L.nb N L.ob V) 105) => Lib.hid (giveP_nowho L.pp L.mb L.nb N L.ob V L.base w' h hn2 V 0 (Int.le_refl _) (by omega) hW2 (by omega) (by omega))
    have Hp3 := Lib.hid hp3
    have Hlen2 := Lib.hid hlen2
    clear hp3 hq1 hq2 hlen2 hgood
    go_wp2_with (first
      | (go_at_call 33; refine S1.out.mono ?_; rintro e w' ⟨rfl, rfl⟩)
      | (go_at_call 37; refine S2.out.mono ?_; rintro e w4 ⟨v, rfl, hI4, hO4⟩; obtain ⟨va, vc, rfl⟩ := hI4.slice'; rw [Hlen2.out]; have T3 := S3 w4 (hO4.blk Hp3.out (by simp)); have T4 := S4 w4 (hO4.blk Hp3.out (by simp)); have T5 := S5 w4 (hO4.blk Hp3.out (by simp)); have T6 := S6 w4 (hO4.blk Hp3.out (by simp)); have HO4 := Lib.hid (HO3.out.trans hO4))
      | (go_at_call 34; with_reducible refine T3.out.mono ?_; rintro e w' ⟨rfl, rfl⟩)
      | (go_at_call 34; with_reducible refine T4.out.mono ?_; rintro e w' ⟨rfl, rfl⟩)
      | (go_at_call 35; with_reducible refine T5.out.mono ?_; rintro e w' ⟨rfl, rfl⟩)
      | (go_at_call 35; with_reducible refine T6.out.mono ?_; rintro e w' ⟨rfl, rfl⟩))
    go_ret
    exact ⟨rfl, HO4.out⟩
  · have hbad : n < 1 ∨ 4096 < n ∨ W < 1 ∨ 16 < W ∨ (cs.length : Int) < n + 3 := by omega
    refine (poolNew_no mb cb cs 0 n W w1 hM1 hbad).mono ?_
    rintro e w2 ⟨rfl, rfl⟩
    have HO12 := Lib.hid hO1
    clear hM1 hO1 hgood
    have Hbad := Lib.hid hbad
    clear hbad
    go_wp2_with fail
    refine (poolNew_nil 0 1 1 w1).mono ?_
    rintro e w' ⟨rfl, rfl⟩
    go_wp2_with fail
    refine (pools_any w1).mono ?_
    rintro e w3 ⟨rfl, hO3⟩
    have HO := Lib.hid (HO12.out.trans hO3)
    clear hO3
    go_upto_region 10 with (first | (go_at_call 32; refine (H32 _).out.mono ?_; rintro e w' ⟨rfl, rfl⟩) | (go_at_call 33; refine (H33 _).out.mono ?_; rintro e w' ⟨rfl, rfl⟩) | (go_at_call 34; refine (H34 _).out.mono ?_; rintro e w' ⟨rfl, rfl⟩) | (go_at_call 35; refine (H35 _).out.mono ?_; rintro e w' ⟨rfl, rfl⟩) | (go_at_call 36; refine (H36 _).out.mono ?_; rintro e w' ⟨rfl, rfl⟩) | (go_at_call 37; refine (H37 _).out.mono ?_; rintro e w' ⟨rfl, rfl⟩) | (go_at_call 38; refine (H38 _).out.mono ?_; rintro e w' ⟨rfl, rfl⟩) | (go_at_call 39; refine (H39 _).out.mono ?_; rintro e w' ⟨rfl, rfl⟩) | (go_at_call 40; refine (H40 _).out.mono ?_; rintro e w' ⟨rfl, rfl⟩))
    clear H32 H33 H34 H35 H36 H37 H38 H39 H40
    have hc := cells_any n w3
    by_cases h1 : n < 1
    · rw [if_pos (Or.inl h1)] at hc
      have HC := Lib.hid hc
      clear hc
      go_wp2_with (go_at_call 41; refine HC.out.mono ?_; rintro e w' ⟨rfl, rfl⟩)
      all_goals (go_ret; exact ⟨rfl, HO.out⟩)
    by_cases h2 : 4096 < n
    · rw [if_pos (Or.inr h2)] at hc
      have HC := Lib.hid hc
      clear hc
      go_wp2_with (go_at_call 41; refine HC.out.mono ?_; rintro e w' ⟨rfl, rfl⟩)
      all_goals (go_ret; exact ⟨rfl, HO.out⟩)
    rw [if_neg (by omega)] at hc
    have HC := Lib.hid hc
    clear hc
    by_cases h3 : W < 1
    · go_wp2_with (go_at_call 41; refine HC.out.mono ?_; rintro e w' ⟨rfl, rfl⟩)
      all_goals (go_ret; exact ⟨rfl, HO.out⟩)
    by_cases h4 : 16 < W
    · go_wp2_with (go_at_call 41; refine HC.out.mono ?_; rintro e w' ⟨rfl, rfl⟩)
      all_goals (go_ret; exact ⟨rfl, HO.out⟩)
    · have h5 : m0 < n + 3 := by have := Hbad.out; omega
      have h6 : decide (2 + n + 1 ≤ m0) = false := by simp; omega
      go_wp2_with (go_at_call 41; refine HC.out.mono ?_; rintro e w' ⟨rfl, rfl⟩)
      all_goals (go_ret; exact ⟨rfl, HO.out⟩)
end Go.Proofs.Ytcgiimgdcamkiaa
