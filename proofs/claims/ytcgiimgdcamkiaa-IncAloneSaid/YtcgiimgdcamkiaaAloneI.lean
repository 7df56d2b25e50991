/-
  The walk over the statement IncAlone.
-/
import Derived.Test.YtcgiimgdcamkiaaRunI
import Derived.Test.YtcgiimgdcamkiaaArgs
namespace Go.Proofs.Ytcgiimgdcamkiaa
open Go.RowKit
set_option linter.unusedVariables false

theorem stepsA (L : IncL) (st c : Int) (k : Nat) (X : List Int) (w : World) (hI : IncSt w L st c k X) :
    Calls Try.prog 23 #[.pointer (some ⟨L.mb, 0, none⟩)] w fun e w' => e = .returned (.int .i64 st) ∧ w = w' := by
  obtain ⟨cs, P, v, hM, _⟩ := hI
  exact steps_any L.mb L.cb cs st w hM

set_option maxRecDepth 100000 in
set_option maxHeartbeats 800000 in
theorem incAlone_walk (first : Int) (cv : Value) (zs : List Int) (w : World) (hz : ArgI w cv zs) (hl : zs.length ≤ 9223372036854775807) (hf : -9223372036854775808 ≤ first ∧ first ≤ 9223372036854775807) :
    Calls Try.prog 5 #[.int .i64 first, cv] w (True0 w) := by
  obtain ⟨a, cap, rfl, hc⟩ := id hz
  have Hz := Lib.hid hz
  clear hz hc
  go_enter Try.func5, Try.ntmps5
  go_wp2_with fail
  have hcb := umod_bd first 1125899906842624 (by omega) (by omega)
  generalize wrap64 ((IntKind.u64.wrap first).tmod 1125899906842624) = c0 at *
  refine (freshI_any 1 c0 0 (.slice none 0 0) [] w (Ints.nil _ _) (by simp) (by omega) (by omega)).mono ?_
  rintro e w1 ⟨L, rfl, -, q2, q3, q4, q5, q6, hI1, hO1⟩
  have Q2 := Lib.hid q2
  have Hq := Lib.hid (And.intro q3 (And.intro q4 q6))
  clear q2 q3 q4 q5 q6
  go_wp2_with fail
  refine (incs_any w1).mono ?_
  rintro e w2 ⟨rfl, hO2⟩
  have hI2 := hI1.only hO2 (by simp)
  have HO := Lib.hid (hO1.trans hO2)
  clear hI1 hO1 hO2
  go_wp2_with fail
  go_loopw [8, 9] (fun l i wr => ∃ (n : Nat) (least st : Int) (k : Nat) (X : List Int), n ≤ 50 ∧ n ≤ zs.length ∧ l = .int .i64 least ∧ i = .int .i64 n ∧ IncSt wr L st least k X ∧ 0 ≤ st ∧ st ≤ 1 + 3 * n ∧ Only [] w wr) (fun _ i _ => 50 - (intOf i).toNat)
  case atStart => exact ⟨0, c0, 1, _, _, by omega, by omega, rfl, rfl, hI2, by omega, by omega, HO.out⟩
  case round =>
    obtain ⟨n, least, st, k, X, hn1, hn2, rfl, rfl, hI, hs0, hs1, hO⟩ := hrel
    have hz := Hz.out.only hO
    have HOr := Lib.hid hO
    clear HO hO hI2
    by_cases h1 : n < zs.length
    · by_cases h2 : n < 50
      · obtain ⟨a', cap', e1, hc⟩ := hz
        obtain ⟨b, off, e2, hd⟩ := hc (by rintro rfl; simp at h1)
        simp only [Value.slice.injEq] at e1
        obtain ⟨rfl, -, rfl⟩ := e1
        subst e2
        have d := hd n h1
        generalize zs.getD n 0 = x at *
        clear hc hd
        go_wp2_with fail
        have hcb := umod_bd x 1125899906842624 (by omega) (by omega)
        generalize wrap64 ((IntKind.u64.wrap x).tmod 1125899906842624) = c at *
        have hI2 := hI.only ((Only.refl [] wr).alloc (.cells #[.int .i64 n] 3)) (by simp)
        refine (offerA L wr.heap.size 0 c (.slice (some ⟨wr.heap.size, 0, none⟩) 1 1) [(n : Int)] _ _ _ _ _ hI2 (Ints.lit wr [(n : Int)] (by simp)) (by simp) (by rw [Q2.out]; omega) (by omega)).mono ?_
        rintro e w3 ⟨ab, xa, xl, xc, rfl, hab, hA2, hx2, hO2⟩
        have hI3 := hI2.only hO2 (by simp)
        have hO2' : Only [] w w3 := HOr.out.trans (((Only.refl [] wr).alloc (.cells #[.int .i64 n] 3)).trans hO2)
        have hab' : w.heap.size ≤ ab := by have := HOr.out.size; simp at hab; omega
        have HR := Lib.hid (runI_any L ab 0 c xa xl xc [(n : Int)] st least _ _ w3 hA2 hI3 (by omega) (hx2.mono hI2.lole) (by simp) (by rw [Q2.out]; omega) (by omega))
        clear hI hI2 hI3 hA2 hx2 hO2 hab HOr d
        go_wp2_with fail
        refine HR.out.mono ?_
        rintro e w4 ⟨rfl, rd, had, k', X', st', hs1', hs2', hA3, hI4, -, -, hO3⟩
        have hO4 : Only [] w w4 := hO2'.behind hO3 (by have := Hq.out; simp; omega)
        have hT := takenI_any ab L.ib 0 c had rd true _ _ w4 hA3
        have HS := Lib.hid (stepsA L _ _ _ _ w4 hI4)
        clear hO3 hA3 HR hO2'
        have HO4 := Lib.hid hO4
        clear hO4
        by_cases hlt : c < least
        · rw [if_pos hlt] at hI4
          rw [show decide (c < least) = true from decide_eq_true hlt] at hT
          have HT := Lib.hid hT
          clear hT
          go_wp2_with (first | (go_at_call 19; refine HT.out.mono ?_; rintro e w' ⟨rfl, rfl⟩) | (go_at_call 23; refine HS.out.mono ?_; rintro e w' ⟨rfl, rfl⟩))
          refine (lookA L _ _ _ _ w4 hI4 (by omega)).mono ?_
          rintro e w5 ⟨rfl, hI5, hO5⟩
          have hO6 : Only [] w w5 := HO4.out.behind hO5 (by have := Hq.out; simp; omega)
          have HS5 := Lib.hid (stepsA L _ _ _ _ w5 hI5)
          clear hO5
          go_wp2_with (go_at_call 23; refine HS5.out.mono ?_; rintro e w' ⟨rfl, rfl⟩)
          go_roundw
          case rel => exact ⟨n + 1, c, st' + 1, k', X', by omega, by omega, rfl, by go_num, hI5, by omega, by omega, hO6⟩
          case measure => simp [intOf]; omega
        · rw [if_neg hlt] at hI4
          rw [show decide (c < least) = false from decide_eq_false hlt] at hT
          have HT := Lib.hid hT
          clear hT
          go_wp2_with (first | (go_at_call 19; refine HT.out.mono ?_; rintro e w' ⟨rfl, rfl⟩) | (go_at_call 23; refine HS.out.mono ?_; rintro e w' ⟨rfl, rfl⟩))
          refine (lookA L _ _ _ _ w4 hI4 (by omega)).mono ?_
          rintro e w5 ⟨rfl, hI5, hO5⟩
          have hO6 : Only [] w w5 := HO4.out.behind hO5 (by have := Hq.out; simp; omega)
          have HS5 := Lib.hid (stepsA L _ _ _ _ w5 hI5)
          clear hO5
          go_wp2_with (go_at_call 23; refine HS5.out.mono ?_; rintro e w' ⟨rfl, rfl⟩)
          go_roundw
          case rel => exact ⟨n + 1, least, st' + 1, k', X', by omega, by omega, rfl, by go_num, hI5, by omega, by omega, hO6⟩
          case measure => simp [intOf]; omega
      · go_wp2_with fail
        refine (bestA L _ _ _ _ wr hI).mono ?_
        rintro e w6 ⟨v6, rfl, hx6, hO6⟩
        go_wp2
        go_ret
        exact ⟨rfl, HOr.out.trans hO6⟩
    · go_wp2_with fail
      refine (bestA L _ _ _ _ wr hI).mono ?_
      rintro e w6 ⟨v6, rfl, hx6, hO6⟩
      go_wp2
      go_ret
      exact ⟨rfl, HOr.out.trans hO6⟩
end Go.Proofs.Ytcgiimgdcamkiaa
