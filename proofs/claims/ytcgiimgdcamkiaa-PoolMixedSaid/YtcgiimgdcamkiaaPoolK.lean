/-
  The walk over 'pools', which all statements of the pool ask first.
-/
import Derived.Test.YtcgiimgdcamkiaaPoolH
namespace Go.Proofs.Ytcgiimgdcamkiaa
open Go.RowKit
set_option linter.unusedVariables false

/-- All blocks of a pool lie past a place. -/
def PoolL.past (L : PoolL) (B : Nat) : Prop := B ≤ L.pp ∧ B ≤ L.nb ∧ B ≤ L.ob ∧ B ≤ L.mb ∧ B ≤ L.cb ∧ B ≤ L.lo

theorem PoolSt.behind {w0 w w' : World} {L : PoolL} {st ver : Int} {cs : List Int} {stk : List Nat} {ow : List Value} {os : List (List Int)} {ns : List Value} (h : PoolSt w L st ver cs stk ow os ns)
    {i ab : Nat} (hi : i < L.W) (hL : L.past w0.heap.size) (ha : w0.heap.size ≤ ab) (h0 : Only [] w0 w) (h1 : Only ([ab, L.mb, L.cb, L.ob] ++ blkOf (ow.getD i nilS)) w w') : Only [] w0 w' := by
  refine h0.behind h1 (fun k hk => Or.inl ?_)
  obtain ⟨q1, q2, q3, q4, q5, q6⟩ := hL
  rcases List.mem_append.1 hk with hk | hk
  · simp only [List.mem_cons, List.not_mem_nil, or_false] at hk
    omega
  · have := ((h.ints i hi).blk3 (mem_blkOf.1 hk)).2.1
    omega

set_option maxRecDepth 100000 in
set_option maxHeartbeats 800000 in
theorem pools_any (w : World) : Calls Try.prog 27 #[] w fun e w' => e = .returned (.bool true) ∧ Only [] w w' := by
  go_enter Try.func27, Try.ntmps27
  go_wp2_with fail
  refine (freshP_any 1 2 w (by decide) (by decide)).mono ?_
  rintro e w1 ⟨L, cs, rfl, q1, q2, q3, q4, hP1, hO1⟩
  have HQ := Lib.hid (And.intro q2 (And.intro q3 (show L.past w.heap.size from q4)))
  clear q1 q4
  go_wp2_with fail
  refine (takeP_yes L.pp L.mb L.nb L.n L.ob L.W L.base w1 hP1.pool 0 (by omega) (by omega) hP1.W2).mono ?_
  rintro e w2 ⟨ab, rfl, rfl, ha2, hO2⟩
  have hP2 := hP1.only hO2 (by simp)
  have hw2 : w.heap.size ≤ w1.heap.size := hO1.size
  have HR := Lib.hid (runP_any w2 L _ _ _ _ _ _ _ 0 w1.heap.size false (-1) 0 0 hP2 (by omega) (Or.inl rfl) 0 (Or.inl rfl) ha2 (by omega) (by simp) (by simp))
  have HO2 := Lib.hid (hO1.trans hO2)
  have HP2 := Lib.hid hP2
  clear hP1 hP2 ha2 hO1 hO2 q2 q3
  go_wp2_with fail
  refine HR.out.mono ?_
  rintro e w3 ⟨r, k, rfl, hr, s', T, nx, st1, ver1, cs1, stk1, ow1, os1, ha3, hP3, h31, h32, h33, hO3, -, -, -, -, hE⟩
  have hr0 : 0 ≤ r := hr (by simp [rank])
  have hw3 : Only [] w w3 := HP2.out.behind (by have := HQ.out; omega) HQ.out.2.2 hw2 HO2.out hO3
  have hk5 : k ≤ 3 := by simpa [rank] using h33
  have hE2 : s' = 0 ∧ stk1 = [] ∧ os1 = List.replicate 2 [] := by
    rcases hE with ⟨_, ⟨ys, h, _⟩, _⟩ | ⟨_, _, _, h, _⟩ | ⟨_, ⟨t, rfl, h⟩, rfl⟩ | ⟨h, _⟩ | ⟨h, _⟩
    · simp [List.getD] at h
    · simp at h
    · simp at h; exact ⟨by omega, h.2, rfl⟩
    · cases h
    · cases h
  obtain ⟨rfl, rfl, rfl⟩ := hE2
  clear hE
  have HS := Lib.hid (slotP_over w1.heap.size L.pp _ 0 3 T nx false w3 ha3 rfl)
  have HP3 := Lib.hid hP3
  have HO3 := Lib.hid hw3
  clear ha3 hP3 hO3 hw3 HR hr
  go_wp2_with (first | (go_at_call 40; refine HS.out.mono ?_; rintro e w' ⟨rfl, rfl⟩))
  refine (takeP_yes L.pp L.mb L.nb L.n L.ob L.W L.base w3 HP3.out.pool 1 (by omega) (by have := HQ.out; omega) HP3.out.W2).mono ?_
  rintro e w4 ⟨ab, rfl, rfl, ha4, hO4⟩
  have hP4 := HP3.out.only hO4 (by simp)
  have hw4 : w.heap.size ≤ w3.heap.size := HO3.out.size
  have HR := Lib.hid (runP_any w4 L _ _ _ _ _ _ _ 1 w3.heap.size false (-1) 0 0 hP4 (by omega) (Or.inl rfl) 0 (Or.inl rfl) ha4 (by have := HQ.out; omega) (by simp) (by simp))
  have HO4 := Lib.hid (HO3.out.trans hO4)
  have HP4 := Lib.hid hP4
  clear hP4 ha4 hO4 HS HP3 HO2 HP2
  go_wp2_with fail
  refine HR.out.mono ?_
  rintro e w5 ⟨r', k', rfl, hr', s', T', nx', st2, ver2, cs2, stk2, ow2, os2, ha5, hP5, h51, h52, h53, hO5, -, -, -, -, hE⟩
  have hr1 : 0 ≤ r' := hr' (by simp [rank])
  have hw5 : Only [] w w5 := HP4.out.behind (by have := HQ.out; omega) HQ.out.2.2 hw4 HO4.out hO5
  have hk6 : k' ≤ 3 := by simpa [rank] using h53
  have hE2 : s' = -1 ∧ stk2 = [] ∧ os2 = List.replicate 2 [] := by
    rcases hE with ⟨_, ⟨ys, h, _⟩, _⟩ | ⟨_, h1, _, _, h, h2⟩ | ⟨_, ⟨t, rfl, h⟩, rfl⟩ | ⟨h, _⟩ | ⟨h, _⟩
    · simp [List.getD] at h
    · exact ⟨h1, h, h2⟩
    · simp at h
    · cases h
    · cases h
  obtain ⟨rfl, rfl, rfl⟩ := hE2
  clear hE
  have HS := Lib.hid (slotP_over w3.heap.size L.pp _ (-1) 3 T' nx' false w5 ha5 rfl)
  have HP5 := Lib.hid hP5
  have HO5 := Lib.hid hw5
  clear ha5 hP5 hO5 hw5 HR hr'
  go_wp2_with (first | (go_at_call 40; refine HS.out.mono ?_; rintro e w' ⟨rfl, rfl⟩))
  refine (giveP_yes L.pp L.mb L.nb L.n L.ob L.W L.base w5 HP5.out.pool HP5.out.n2 0 0 (by omega) (by have := HQ.out; omega) HP5.out.W2 (by omega) (by have := HQ.out; omega)).mono ?_
  rintro e w6 ⟨ab, rfl, rfl, ha6, hO6⟩
  have hP6 := HP5.out.only hO6 (by simp)
  have hw6 : w.heap.size ≤ w5.heap.size := HO5.out.size
  have HR := Lib.hid (runP_any w6 L _ _ _ _ _ _ _ 0 w5.heap.size true 0 0 0 hP6 (by omega) (Or.inl rfl) 0 (Or.inl rfl) ha6 (by have := HQ.out; omega) (by have := HQ.out; simp; omega) (by simp))
  have HO6 := Lib.hid (HO5.out.trans hO6)
  have HP6 := Lib.hid hP6
  clear hP6 ha6 hO6 HS HP5 HO4 HP4
  go_wp2_with fail
  refine HR.out.mono ?_
  rintro e w7 ⟨r', k', rfl, hr', s', T', nx', st2, ver2, cs2, stk2, ow2, os2, ha7, hP7, h71, h72, h73, hO7, -, -, -, -, hE⟩
  have hr2 : 0 ≤ r' := hr' (by simp [rank])
  have hw7 : Only [] w w7 := HP6.out.behind (by have := HQ.out; omega) HQ.out.2.2 hw6 HO6.out hO7
  have hE2 : s' = 0 := by
    rcases hE with ⟨h, _⟩ | ⟨h, _⟩ | ⟨h, _⟩ | ⟨_, h, _⟩ | ⟨_, h, _⟩
    · cases h
    · cases h
    · cases h
    · exact h
    · exact h
  subst hE2
  have hn := slotsP_any L.pp L.mb L.nb L.n L.ob L.W L.base w7 hP7.pool
  rw [HQ.out.1] at hn
  have HN := Lib.hid hn
  have HS := Lib.hid (slotP_over w5.heap.size L.pp _ 0 3 T' nx' true w7 ha7 rfl)
  clear hE ha7 hP7 hO7 HR hr' hn
  go_wp2_with (first | (go_at_call 40; refine HS.out.mono ?_; rintro e w' ⟨rfl, rfl⟩) | (go_at_call 33; refine HN.out.mono ?_; rintro e w' ⟨rfl, rfl⟩))
  go_ret
  exact ⟨rfl, hw7⟩
end Go.Proofs.Ytcgiimgdcamkiaa
