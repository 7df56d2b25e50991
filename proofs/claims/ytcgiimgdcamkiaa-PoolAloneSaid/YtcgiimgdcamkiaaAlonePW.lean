/-
  The walk over the statement PoolAlone.
-/
import Derived.Test.YtcgiimgdcamkiaaAloneP
import Derived.Deep.RegionLaw
namespace Go.Proofs.Ytcgiimgdcamkiaa
open Go.RowKit
set_option linter.unusedVariables false

set_option maxRecDepth 100000 in
set_option maxHeartbeats 800000 in
theorem poolAlone_walk (slots : Int) (v : Value) (zs : List Int) (w : World) (hz : ArgI w v zs) (hs : -9223372036854775808 ≤ slots ∧ slots ≤ 9223372036854775807) (hzl : zs.length ≤ 9223372036854775807) :
    Calls Try.prog 8 #[.int .i64 slots, v] w (True0 w) := by
  obtain ⟨za, zc, rfl, -⟩ := id hz
  have Hz := Lib.hid hz
  clear hz
  have hmb := umod_bd slots 30 (by omega) (by omega)
  go_enter Try.func8, Try.ntmps8
  go_wp2_with fail
  obtain ⟨n, hn⟩ : ∃ n : Nat, 1 + wrap64 ((IntKind.u64.wrap slots).tmod 30) = n := ⟨(1 + wrap64 ((IntKind.u64.wrap slots).tmod 30)).toNat, by omega⟩
  rw [hn]
  have hn1 : 1 ≤ n ∧ n ≤ 30 := by omega
  generalize wrap64 ((IntKind.u64.wrap slots).tmod 30) = m0 at *
  refine (freshP_any n 1 w (by omega) (by decide)).mono ?_
  rintro e w1 ⟨L, cs, rfl, q1, q2, q3, q4, hP1, hO1⟩
  go_wp2_with fail
  refine (pools_any w1).mono ?_
  rintro e w2 ⟨rfl, hO2⟩
  have hP2 := hP1.only hO2 (by simp)
  have HO2 := Lib.hid (hO1.trans hO2)
  clear hP1 hO1 hO2
  go_wp2_with fail
  refine (worldNew_any n w2 (by omega)).mono ?_
  rintro e w3 ⟨wb, hvv, rfl, hwb, hB3, hI3, hO3⟩
  have hP3 := hP2.only hO3 (by simp)
  have hI3' := hI3
  obtain ⟨hb, hc, rfl⟩ : ∃ hb hc, hvv = .slice (some ⟨hb, 0, none⟩) n hc := by
    rcases hI3.form with ⟨rfl, h⟩ | ⟨g, c, h, _⟩
    · have := congrArg List.length h
      simp at this
      omega
    · exact ⟨g, c, by rw [h]; simp⟩
  have hlo := (hI3.blk3 (g := hb) rfl).2.1
  have hwb' : w.heap.size ≤ w2.heap.size := HO2.out.size
  have hst3 : BSt w L (nodesZ n) wb hb hc n (1 + n) (List.replicate n (-1)) (intsOf (List.range' 0 n)) w3 := by
    refine ⟨_, _, _, _, _, hP3, hB3, hI3.mono hP2.lw, fun i hi => ?_, by simp, ?_, HO2.out.trans hO3⟩
    · have : (List.replicate 1 nilS).getD i nilS = nilS := by cases i <;> rfl
      rw [this]
      simp [Value.ownBlock]
    · simp [allOf]
  have Hst3 := Lib.hid hst3
  have HQ := Lib.hid (And.intro q2 (And.intro q3 (show L.past w.heap.size from q4)))
  have hhb : w.heap.size ≤ hb := by omega
  have hwb2 : w.heap.size ≤ wb := by omega
  clear hP2 hP3 hB3 hI3 hI3' hO3 HO2 hst3 q1 q2 q3 q4 hwb hlo hwb'
  go_wp2_with fail
  go_loopw [9] (fun i wr => ∃ (r : Nat) (st : Int) (hd F : List Int), r ≤ 2 ∧ i = .int .i64 r ∧ BSt w L (nodesZ n) wb hb hc n st hd F wr ∧ Free n hd F ∧ F.length = n ∧ 0 ≤ st ∧ st ≤ 100 + 1000 * r) (fun i _ => 2 - (intOf i).toNat)
  case atStart => exact ⟨0, _, _, _, by omega, rfl, Hst3.out, Free.start n, by simp [intsOf], by omega, by omega⟩
  case round =>
    obtain ⟨r, st, hd, F, hr, rfl, hB, hF, hFl, hs0, hs1⟩ := hrel
    obtain ⟨wo, rfl⟩ : ∃ wo : World, wo = wr := ⟨_, rfl⟩
    have HB := Lib.hid hB
    have HF := Lib.hid hF
    clear hB hF Hst3
    by_cases hlt : r < 2
    · have br : (r : Int) < 2 := by omega
      go_wp2_with fail
      go_loopw [10] (fun i wr => ∃ (k : Nat) (st2 : Int) (hd F : List Int), k ≤ n ∧ i = .int .i64 k ∧ BSt w L (nodesZ n) wb hb hc n st2 hd F wr ∧ Free n hd F ∧ F.length + k = n ∧ 0 ≤ st2 ∧ st2 ≤ 100 + 1000 * r + 3 * k) (fun i _ => n - (intOf i).toNat)
      case atStart => exact ⟨0, st, hd, F, by omega, rfl, HB.out, HF.out, by omega, hs0, by omega⟩
      case round =>
        obtain ⟨k, st2, hd2, F2, hk, rfl, hB2, hF2, hFl2, hs20, hs21⟩ := hrel
        have HB2 := Lib.hid hB2
        have HF2 := Lib.hid hF2
        clear hB2 hF2
        by_cases hlt2 : k < n
        · have bk : (k : Int) < (n : Int) := by omega
          have hne : F2 ≠ [] := by rintro rfl; simp at hFl2; omega
          go_wp2_with fail
          refine HB2.out.take.mono ?_
          rintro e w4 ⟨ab, rfl, hab, hA4, hB4⟩
          have HR := Lib.hid (hB4.drew'.runTakeYes HQ.out.2.1 (by omega) HQ.out.2.2 hab HF2.out hne hA4.drew)
          have c0 := hB4.cells.1
          obtain ⟨f, hf⟩ : ∃ f : Nat → Int, ∀ s, hd2.getD s 0 = f s := ⟨_, fun _ => rfl⟩
          have c1 : ∀ s, s < n → w4.drew.cell? ⟨hb, s, none⟩ = some (.int .i64 (f s)) := fun s hs => by rw [(hB4.drew'.cells.2 s hs).1, hf]
          have Hf := Lib.hid hf
          have C1 := Lib.hid (And.intro hB4.drew'.cells.1 c1)
          clear hB4 hA4 hf c1
          go_wp2_with fail
          go_region_held3 (fun w' => w'.cell? ⟨wb, 0, none⟩ = some (.slice (some ⟨hb, 0, none⟩) n hc) ∧ ∀ s, s < n → w'.cell? ⟨hb, s, none⟩ = some (.int .i64 (f s)))
            (first | exact C1.out | exact D1.out | assumption | go_keep)
            (first | (go_at_call 43; refine HR.out.mono ?_; rintro e w5 ⟨r5, s, T, nx, st5, F5, rfl, hr0, e1, e2, hA5, hsn, hds, hl5, hf5, hB5⟩; have d0 := hB5.cells.1; have d1 : ∀ s, s < n → w5.cell? ⟨hb, s, none⟩ = some (.int .i64 (f s)) := (fun s hs => (by rw [(hB5.cells.2 s hs).1, Hf.out])); have D1 := Lib.hid (And.intro d0 d1); have d2 : f s = -1 := (by rw [← Hf.out]; exact hds); have HS := Lib.hid (slotP_over ab L.pp _ s 3 T nx false w5 hA5 rfl); have g1 : decide (r5 < 0) = false := decide_eq_false (Int.not_lt.2 hr0); have g2 : decide ((s : Int) < 0) = false := decide_eq_false (by omega); have g3 : decide ((n : Int) ≤ (s : Int)) = false := decide_eq_false (by omega); have g4 : (s : Int) < (n : Int) := (by omega); have g5 : decide (n ≤ s) = false := decide_eq_false (by omega)) | (go_at_call 40; refine HS.out.mono ?_; rintro e w' ⟨rfl, rfl⟩))
          have HS2 := Lib.hid (slotP_over ab L.pp _ s 3 T nx false w5.drew hA5.drew rfl)
          have HB5 := Lib.hid hB5
          have Hf5 := Lib.hid hf5
          have p0 := hB5.drew'.cells.1
          have p1 := (hB5.drew'.cells.2 s hsn).1
          have p2 := (hB5.drew'.cells.2 s hsn).2
          have p3 := (hB5.store hhb s 0).drew'.cells.1
          have p4 := (hB5.store hhb s 0).cells.1
          clear d1 D1 C1 c0 HS hA5 hB5 hf5 HR
          go_wp2_with fail
          go_region_held3 (fun w' => w'.cell? ⟨wb, 0, none⟩ = some (.slice (some ⟨hb, 0, none⟩) n hc))
            (first | assumption | go_keep)
            (first | (go_at_call 40; refine HS2.out.mono ?_; rintro e w' ⟨rfl, rfl⟩))
          go_wp2_with fail
          go_roundw
          case rel =>
            exact ⟨k + 1, st5, hd2.set s 0, F5, by omega, by go_num, (HB5.out.store hhb s 0).drew', Hf5.out 0 (by decide), by omega, by omega, by omega⟩
          case measure => simp [intOf]; omega
        · have bk : ¬ (k : Int) < (n : Int) := by omega
          have hF0 : F2 = [] := List.length_eq_zero_iff.1 (by omega)
          rw [hF0] at HB2 HF2
          have hk' : k = n := by omega
          clear hF0 hFl2
          go_wp2_with fail
          refine HB2.out.take.mono ?_
          rintro e w4 ⟨ab, rfl, hab, hA4, hB4⟩
          have HR := Lib.hid (hB4.runTakeNo HQ.out.2.1 (by omega) HQ.out.2.2 hab hA4)
          clear hB4 hA4
          go_wp2_with fail
          refine HR.out.mono ?_
          rintro e w5 ⟨r5, T, nx, st5, rfl, hr0, e1, e2, hA5, hB5⟩
          have HS := Lib.hid (slotP_over ab L.pp _ (-1) 3 T nx false w5 hA5 rfl)
          have HB5 := Lib.hid hB5
          have g1 : decide (r5 < 0) = false := decide_eq_false (Int.not_lt.2 hr0)
          have g1' : ¬ (r5 < 0) := Int.not_lt.2 hr0
          clear hA5 hB5 HR
          go_wp2_with (go_at_call 40; refine HS.out.mono ?_; rintro e w' ⟨rfl, rfl⟩)
          clear HS HB HB2
          obtain ⟨wq, rfl⟩ : ∃ wq : World, wq = wr := ⟨_, rfl⟩
          go_loopw [13] (fun i wr => ∃ (k3 : Nat) (st3 : Int) (hd F : List Int), k3 ≤ n ∧ i = .int .i64 k3 ∧ BSt w L (nodesZ n) wb hb hc n st3 hd F wr ∧ Free n hd F ∧ F.length = k3 ∧ 0 ≤ st3 ∧ st3 ≤ 200 + 1000 * r + 3 * k3) (fun i _ => n - (intOf i).toNat)
          case atStart => exact ⟨0, st5, hd2, [], by omega, rfl, HB5.out, HF2.out, rfl, by omega, by omega⟩
          case round =>
            obtain ⟨k3, st3, hd3, F3, hk3, rfl, hB6, hF6, hFl6, hs30, hs31⟩ := hrel
            have HB6 := Lib.hid hB6
            have HF6 := Lib.hid hF6
            clear hB6 hF6
            by_cases hlt3 : k3 < n
            · have bk3 : (k3 : Int) < (n : Int) := by omega
              obtain ⟨th, ht, hth⟩ := HF6.out.held (by omega)
              have Hth := Lib.hid hth
              clear hth
              obtain ⟨wp, rfl⟩ : ∃ wp : World, wp = wr := ⟨_, rfl⟩
              have z0 := HB6.out.cells.1
              have Z := Lib.hid HB6.out.cells.2
              rcases Nat.lt_or_ge k3 zs.length with hlen | hlen
              case' inl =>
                have bl : (k3 : Int) < (zs.length : Int) := by omega
                obtain ⟨a', cap', e1', hc'⟩ := Hz.out.only (show Only [] w wp by obtain ⟨_, _, _, _, _, _, _, _, _, _, _, h7⟩ := HB6.out; exact h7)
                obtain ⟨bb, off, e2', hd'⟩ := hc' (by rintro rfl; simp at hlen)
                simp only [Value.slice.injEq] at e1'
                obtain ⟨rfl, -, rfl⟩ := e1'
                subst e2'
                have d := hd' k3 hlen
                generalize zs.getD k3 0 = x at *
                clear hc' hd'
                have hun : IntKind.u64.wrap (n : Int) = n := by simp [IntKind.wrap, IntKind.bits, IntKind.signed]; omega
                have hnz : ((n : Int) == 0) = false := by simp; omega
                have hum := umod_bd x n (by omega) (by omega)
                go_wp2_with fail
                obtain ⟨s0, hs0⟩ : ∃ s0 : Nat, wrap64 ((IntKind.u64.wrap x).tmod (n : Int)) = s0 := ⟨_, (Int.toNat_of_nonneg hum.1).symm⟩
                rw [hs0]
                have hs0n : s0 < n := by omega
              case' inr =>
                have bl : ¬ (k3 : Int) < (zs.length : Int) := by omega
                go_wp2_with fail
                obtain ⟨s0, hs0⟩ : ∃ s0 : Nat, k3 = s0 := ⟨_, rfl⟩
                have hs0n : s0 < n := by omega
              all_goals
                clear HB5 HF2
                go_loopw [14] (fun sl wr => ∃ s : Nat, s < n ∧ sl = .int .i64 s ∧ wr = wp) (fun sl _ => (th + n - (intOf sl).toNat) % n)
                case atStart => exact ⟨s0, hs0n, by first | rfl | rw [hs0], rfl⟩
                case round =>
                  obtain ⟨s, hsn, rfl, rfl⟩ := hrel
                  have z1 := (Z.out s hsn).1
                  have zf := (Z.out s hsn).2
                  have e3 : (s : Int) < (n : Int) := by omega
                  have e4 : ¬ ((s : Int) < 0) := by omega
                  by_cases hfree : hd3.getD s 0 = -1
                  · rw [hfree] at z1
                    have hne : s ≠ th := by rintro rfl; exact Hth.out hfree
                    have hnz : ((n : Int) == 0) = false := by simp; omega
                    obtain ⟨s2, hs2, hs2n⟩ : ∃ s2 : Nat, ((s : Int) + 1).tmod (n : Int) = s2 ∧ s2 = (s + 1) % n := ⟨(s + 1) % n, by rw [Int.tmod_eq_emod_of_nonneg (by omega)]; push_cast; rfl, rfl⟩
                    have hs2l : s2 < n := by rw [hs2n]; exact Nat.mod_lt _ (by omega)
                    have hmeas : (th + n - s2) % n < (th + n - s) % n := by
                      by_cases hw : s + 1 = n
                      · have : s2 = 0 := by rw [hs2n, hw]; exact Nat.mod_self n
                        subst this
                        rw [show th + n - 0 = th + n by omega, Nat.add_mod_right, Nat.mod_eq_of_lt ht, show th + n - s = th + 1 by omega]
                        rw [Nat.mod_eq_of_lt (by omega)]
                        omega
                      · have : s2 = s + 1 := by rw [hs2n]; exact Nat.mod_eq_of_lt (by omega)
                        subst this
                        by_cases hlt' : s < th
                        · rw [show th + n - (s + 1) = (th - (s + 1)) + n by omega, show th + n - s = (th - s) + n by omega, Nat.add_mod_right, Nat.add_mod_right, Nat.mod_eq_of_lt (by omega), Nat.mod_eq_of_lt (by omega)]
                          omega
                        · rw [Nat.mod_eq_of_lt (by omega), Nat.mod_eq_of_lt (by omega)]
                          omega
                    have Hm := Lib.hid hmeas
                    clear hmeas hs2n
                    go_wp2_with fail
                    go_roundw
                    case rel => first | exact ⟨s2, hs2l, rfl, rfl⟩ | exact ⟨s2, hs2l, rfl, trivial⟩
                    case measure => simpa [intOf] using Hm.out
                  · have hneq : (hd3.getD s 0 == -1) = false := by simpa using hfree
                    have hnot : (s : Int) ∉ F3 := fun hm => hfree ((HF6.out.2.2.2 s hsn).2 hm)
                    obtain ⟨z, hz⟩ : ∃ z, hd3.getD s 0 = z := ⟨_, rfl⟩
                    rw [hz] at z1 hneq
                    clear hfree hz
                    go_wp2_with fail
                    refine (HB6.out.give HQ.out.1 s (by omega) e3).mono ?_
                    rintro e w7 ⟨ab2, rfl, hab2, hA7, hB7⟩
                    have HR := Lib.hid (hB7.runGive HQ.out.1 (by omega) HQ.out.2.2 hab2 s (by omega) e3 hnot hA7)
                    have Hnot := Lib.hid hnot
                    clear hA7 hB7 hnot z0 z1 zf
                    go_wp2_with fail
                    refine HR.out.mono ?_
                    rintro e w8 ⟨r8, T8, nx8, st8, rfl, hr8, f1, f2, hA8, hB8⟩
                    have HS := Lib.hid (slotP_over ab2 L.pp _ s 3 T8 nx8 true w8 hA8 rfl)
                    have HB8 := Lib.hid hB8
                    have g3 : decide (r8 < 0) = false := decide_eq_false (Int.not_lt.2 hr8)
                    have g3' : ¬ (r8 < 0) := Int.not_lt.2 hr8
                    have g4 : ((s : Int) != (s : Int)) = false := by simp
                    have y0 := hB8.cells.1
                    have y1 := (hB8.cells.2 s hsn).1
                    have y2 := (hB8.cells.2 s hsn).2
                    clear hA8 hB8 HR
                    go_wp2_with (go_at_call 40; refine HS.out.mono ?_; rintro e w' ⟨rfl, rfl⟩)
                    go_roundw
                    case rel =>
                      have h9 := HB8.out.store hhb s (-1)
                      have h10 := HF6.out.give (x := (s : Int)) (by omega) e3 Hnot.out
                      rw [show ((s : Nat) : Int).toNat = s by omega] at h10
                      exact ⟨k3 + 1, st8, hd3.set s (-1), (s : Int) :: F3, by omega, by go_num, h9, h10, by simp; omega, by omega, by omega⟩
                    case measure => simp [intOf]; omega
            · have e : k3 = n := by omega
              have bk3 : ¬ (k3 : Int) < (n : Int) := by omega
              obtain ⟨ver, cs', stk, ow, os, h1, h2, h3, h4, h5, h6, h7⟩ := HB6.out
              have hl := h1.slen
              rw [HQ.out.2.1] at hl
              obtain ⟨o, rfl⟩ : ∃ o, os = [o] := List.length_eq_one_iff.1 hl
              have hW1 : 0 < L.W := by have := h1.W1; omega
              have hv0 := getD_of nilS (show 0 < ow.length by rw [h1.olen]; exact hW1)
              have hi0 : Ints wr L.lo (ow.getD 0 nilS) o := h1.ints 0 hW1
              have ho2 : o.length ≤ 2 := h1.two 0 hW1
              have hown : Calls Try.prog 36 #[.pointer (some ⟨L.pp, 0, none⟩), .int .i64 0] wr (Cloned wr o) := ownP_any L.pp L.mb L.nb L.n L.ob L.W L.base wr h1.pool 0 hW1 h1.W2 L.lo ow _ o h1.own hv0 hi0 (by omega)
              have HOwn := Lib.hid hown
              have H1 := Lib.hid h1
              have H2 := Lib.hid h2
              have H3 := Lib.hid h3
              have H6 := Lib.hid h6
              have Hv := Lib.hid (show ver < 1073741824 by have := h1.vst; omega)
              have Hst := Lib.hid (nodup_len L.n stk h1.nodup h1.inn)
              have Hnn := Lib.hid h1.n2
              clear h1 h2 h3 h6 h7 hl hown hv0 hi0 h4
              go_wp2_with fail
              refine HOwn.out.mono ?_
              rintro e w9 ⟨v1, rfl, hI9, hO9⟩
              obtain ⟨a1, c1, rfl⟩ := hI9.slice'
              have HSh := Lib.hid (sharedP_any (H1.out.only hO9 (by simp)) Hv.out)
              have HI9 := Lib.hid hI9
              have HO9 := Lib.hid hO9
              clear hI9 hO9
              go_wp2_with fail
              refine HSh.out.mono ?_
              rintro e w10 ⟨v2, rfl, hI10, hO10⟩
              obtain ⟨a2, c2, rfl⟩ := hI10.slice'
              have hN := Blk.new w10 [.slice a1 o.length c1, .slice a2 (intsOf stk).length c2] 29
              have hO11 := (Only.refl [] w10).alloc (.cells #[.slice a1 o.length c1, .slice a2 (intsOf stk).length c2] 29)
              have hO12 := (HO9.out.trans hO10).trans hO11
              have hl10 : (intsOf stk).length ≤ 4096 := by rw [intsOf_len]; have := Hst.out; have := Hnn.out; omega
              have hperm : ([o, intsOf stk].flatten).Perm F3 := by
                refine List.Perm.trans ?_ H6.out
                simp only [allOf, List.flatten_cons, List.flatten_nil, List.append_nil]
                exact List.perm_append_comm
              have HOn := Lib.hid (once_any wb w10.heap.size 2 n _ hd3 [.slice a1 o.length c1, .slice a2 (intsOf stk).length c2] [o, intsOf stk] L.lo _ (hO12.blk H2.out (by simp)) (H3.out.only hO12 (by simp)) h5 (by omega) hN rfl (by decide)
                (fun a ha => by
                  rcases a with _ | _ | a
                  · exact ⟨_, _, rfl, (HI9.out.only hO10 (by simp)).only hO11 (by simp), by show o.length ≤ 1000000; omega⟩
                  · exact ⟨_, _, rfl, hI10.only hO11 (by simp), by show (intsOf stk).length ≤ 1000000; omega⟩
                  · omega)
                (fun x hx => HF6.out.2.2.1 x (hperm.mem_iff.1 hx))
                (fun s hs => by rw [hperm.count_eq]; exact HF6.out.count s hs))
              have HO12 := Lib.hid hO12
              clear hN hO10 hO11 hO12 hI10 hperm HSh HOwn
              go_wp2_with fail
              refine HOn.out.mono ?_
              rintro e w13 ⟨rfl, hO13⟩
              have hBe := (HB6.out.only HO12.out).only hO13
              have HBe := Lib.hid hBe
              clear hBe hO13
              go_wp2_with fail
              go_roundw
              case rel => exact ⟨r + 1, st3, hd3, F3, by omega, by go_num, HBe.out, HF6.out, by omega, by omega, by omega⟩
              case measure => simp [intOf]; omega
    · have br : ¬ (r : Int) < 2 := by omega
      go_wp2_with fail
      go_ret
      obtain ⟨ver, cs', stk, ow, os, h1, h2, h3, h4, h5, h6, h7⟩ := HB.out
      exact ⟨rfl, h7⟩
end Go.Proofs.Ytcgiimgdcamkiaa
