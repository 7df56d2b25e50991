/-
  The walk over pool.New.
-/
import Derived.Test.YtcgiimgdcamkiaaPoolT
import Derived.Test.YtcgiimgdcamkiaaIncC
import Derived.Deep.CutRange
namespace Go.Proofs.Ytcgiimgdcamkiaa
open Go.RowKit
set_option linter.unusedVariables false

theorem Try.info61 : (Try.prog.info? 61).map (fun i => (i.zero, i.size, i.bytes)) = some (some (.agg #[.slice none 0 0, .int .i64 0]), 2, 32) := by kernel_rfl

/-- The cells of so many nodes of which each is empty. -/
def nodesZ (n : Nat) : List Value := (madeCells #[.slice none 0 0, .int .i64 0] (n * 2)).toList
theorem nodesZ_len (n : Nat) : (nodesZ n).length = 2 * n := by simp [nodesZ, madeCells]; omega
theorem nodesZ_path (n k : Nat) (h : k < n) : (nodesZ n)[2 * k]? = some (.slice none 0 0) := by
  have h2 : 2 * k < n * 2 := by omega
  have h3 : (2 * k) % 2 = 0 := by omega
  simp [nodesZ, madeCells, h2, h3]
theorem nodesZ_bound (n k : Nat) (h : k < n) : (nodesZ n)[2 * k + 1]? = some (.int .i64 0) := by
  have h2 : 2 * k + 1 < n * 2 := by omega
  have h3 : (2 * k + 1) % 2 = 1 := by omega
  simp [nodesZ, madeCells, h2, h3]

theorem run_make_nodes {P : Program} (i : TypeInfo) (ht : P.underlying 103 = some (.slice 61)) (hi : P.info? 61 = some i) (hz : i.zero = some (.agg #[.slice none 0 0, .int .i64 0])) (hs : i.size = 2) (hby : i.bytes = 32)
    (kl kc : IntKind) (n : Int) (h0 : 0 ≤ n) (h1 : n ≤ 4096) (w : World) :
    (Instr.makeSlice 103 (.int kl n) (.int kc n)).run P w = .ok (.slice (some ⟨w.heap.size, 0, none⟩) n.toNat n.toNat) (w.alloc (.cells (rowA (nodesZ n.toNat)) 61)) := by
  rw [run_make w 103 61 i _ ht hi hz kl kc n n h0 (Int.le_refl _) (by rw [hby]; omega) (by omega), hs]
  rfl

/-- The links of a new pool. -/
theorem chain_range (cs : List Int) (b : Int) (n : Nat) : ∀ k a : Nat, a + k = n → (∀ s : Nat, a ≤ s → s < n → lk cs b s = if s + 1 = n then -1 else (s : Int) + 1) → Chain cs b (List.range' a k)
  | 0, a, _, _ => trivial
  | k + 1, a, e, h => by
    refine ⟨?_, chain_range cs b n k (a + 1) (by omega) (fun s h1 h2 => h s (by omega) h2)⟩
    rw [h a (by omega) (by omega)]
    cases k with
    | zero => rw [if_pos (by omega)]; rfl
    | succ k => rw [if_neg (by omega)]; simp [List.range', topOf]

/-- A new pool. -/
def PoolNew (w : World) (mb cb : Nat) (cs : List Int) (st base : Int) (n W : Nat) (e : Ending) (w' : World) : Prop :=
  ∃ (L : PoolL) (cs' : List Int), e = .returned (.tuple #[.pointer (some ⟨L.pp, 0, none⟩), .int .i64 0]) ∧ L.mb = mb ∧ L.cb = cb ∧ L.base = base ∧ L.n = n ∧ L.W = W ∧ w.heap.size ≤ L.pp ∧ w.heap.size ≤ L.nb ∧ w.heap.size ≤ L.ob ∧ w.heap.size ≤ L.lo ∧
    PoolSt w' L (st + 1 + n) 0 cs' (List.range' 0 n) (List.replicate W nilS) (List.replicate W []) (nodesZ n) ∧ Only [mb, cb] w w'

set_option maxRecDepth 100000 in
set_option maxHeartbeats 1000000 in
theorem poolNew_yes (mb cb : Nat) (cs : List Int) (st base : Int) (n W : Nat) (w : World) (hM : Mem w mb cb cs st) (hst : 0 ≤ st ∧ st < 1000000)
    (h0 : 0 ≤ base) (h1 : base + 1 + n ≤ cs.length) (hn : 1 ≤ n ∧ n ≤ 4096) (hW : 1 ≤ W ∧ W ≤ 16) :
    Calls Try.prog 31 #[.pointer (some ⟨mb, 0, none⟩), .int .i64 base, .int .i64 n, .int .i64 W] w (PoolNew w mb cb cs st base n W) := by
  have HS := Lib.hid (size_any mb cb cs st w hM)
  have hl := hM.len
  have HC := cells_any n w
  rw [if_neg (by omega)] at HC
  have HC := Lib.hid HC
  obtain ⟨i0, hi, hz0, hz1, hz2⟩ := info_parts Try.info29
  have hmk := fun w => run_make_row (P := Try.prog) 79 29 i0 (.slice none 0 0) 24 Try.underlying79 hi hz0 hz1 hz2 rfl .i64 .i64 (W : Int) (by omega) (by omega) (by omega) w
  clear hi hz0 hz1 hz2
  obtain ⟨i1, hi, hz0, hz1, hz2⟩ := info_parts Try.info61
  have hmn := fun w => run_make_nodes (P := Try.prog) i1 Try.underlying103 hi hz0 hz1 hz2 .i64 .i64 (n : Int) (by omega) (by omega) w
  clear hi hz0 hz1 hz2
  have n1 : ¬ ((W : Int) < 1) := by omega
  have n2 : ¬ (16 < (W : Int)) := by omega
  have n3 : ¬ (base < 0) := by omega
  have n4 : ¬ ((cs.length : Int) - ((n : Int) + 1) < base) := by omega
  have n5 : ((n : Int) + 1 == 0) = false := by simp; omega
  go_enter Try.func31, Try.ntmps31
  go_upto_region 4 with (first | (go_at_call 41; refine HC.out.mono ?_; rintro e w' ⟨rfl, rfl⟩) | (go_at_call 45; refine HS.out.mono ?_; rintro e w' ⟨rfl, rfl⟩))
  go_cut [11] from 42 (fun u w2 => ∃ pp nb ob : Nat, u = .pointer (some ⟨pp, 0, none⟩) ∧ w.heap.size ≤ pp ∧ w.heap.size ≤ nb ∧ w.heap.size ≤ ob ∧ Blk w2 pp (poolB mb base nb n ob W) 105 ∧ Blk w2 nb (nodesZ n) 61 ∧ Blk w2 ob (List.replicate W nilS) 29 ∧ Only [] w w2)
  case first =>
    go_region <;> (go_wp2_with fail; go_meet)
    case' rel => refine ⟨_, w.heap.size, w.heap.size + 1, rfl, ?_, ?_, ?_, Blk.drew ?_, Blk.drew ?_, Blk.drew ?_, Only.drew ((((Only.refl _ _).alloc _).alloc _).alloc _)⟩
    rotate_left 6
    case' rel => refine ⟨_, w.heap.size + 1, w.heap.size, rfl, ?_, ?_, ?_, Blk.drew ?_, Blk.drew ?_, Blk.drew ?_, Only.drew ((((Only.refl _ _).alloc _).alloc _).alloc _)⟩
    rotate_left 6
    · omega
    · exact Nat.le_refl _
    · omega
    · have hb := Blk.new ((w.alloc (.cells (rowA (nodesZ n)) 61)).alloc (.cells (rowA (List.replicate W (.slice none 0 0))) 29)) (poolB mb base w.heap.size n (w.heap.size + 1) W) 105
      simpa using hb
    · exact (((Blk.newRow w (nodesZ n) 61).alloc _).alloc _)
    · have hb := (Blk.newRow (w.alloc (.cells (rowA (nodesZ n)) 61)) (List.replicate W nilS) 29)
      simp only [World.size_alloc] at hb
      exact hb.alloc _
    · omega
    · omega
    · exact Nat.le_refl _
    · have hb := Blk.new ((w.alloc (.cells (rowA (List.replicate W (.slice none 0 0))) 29)).alloc (.cells (rowA (nodesZ n)) 61)) (poolB mb base (w.heap.size + 1) n w.heap.size W) 105
      simpa using hb
    · have hb := (Blk.newRow (w.alloc (.cells (rowA (List.replicate W nilS)) 29)) (nodesZ n) 61)
      simp only [World.size_alloc] at hb
      exact hb.alloc _
    · exact (((Blk.newRow w (List.replicate W nilS) 29).alloc _).alloc _)
  case rest =>
    obtain ⟨pp, nb, ob, rfl, g1, g2, g3, hP, hN, hO, hW0⟩ := hcut
    have hM2 := hM.only hW0 (by simp) (by simp)
    have hl2 := hM.lt
    clear hmk hmn HC HS n1 n2 n4 n5
    have HP := Lib.hid (packc_any 0 0 wc (by decide) (by decide))
    have HS := Lib.hid (set_any mb cb cs st base 1 wc hM2 (by omega) h0 (by omega))
    go_upto_region 6 with (first | (go_at_call 55; refine HP.out.mono ?_; rintro e w' ⟨rfl, rfl⟩) | (go_at_call 47; refine HS.out.mono ?_; rintro e w3 ⟨rfl, hM3, hO3⟩))
    clear HP HS
    have q1 := hM2.notin hP (by decide) (by decide)
    have q2 := hM2.notin hN (by decide) (by decide)
    have q3 := hM2.notin hO (by decide) (by decide)
    have hP3 := hO3.blk hP q1
    have hN3 := hO3.blk hN q2
    have hO3' := hO3.blk hO q3
    have hO4 : Only [mb, cb] w w3 := (hW0.mono (by simp)).trans hO3
    have Hn := Lib.hid hn
    have HW := Lib.hid hW
    have Hg := Lib.hid (And.intro g1 (And.intro g2 g3))
    clear hP hN hO hW0 hM2 hO3 hn hW g1 g2 g3
    go_wp2_with fail
    go_loopw [55] (fun i wr => ∃ k : Nat, k ≤ n ∧ i = .int .i64 k ∧ ∃ csk, Mem wr mb cb csk (st + 1 + k) ∧ csk.length = cs.length ∧ csk.getD base.toNat 0 = 1 ∧ (∀ s : Nat, s < k → lk csk base s = if s + 1 = n then -1 else (s : Int) + 1) ∧
      Blk wr pp (poolB mb base nb n ob W) 105 ∧ Blk wr nb (nodesZ n) 61 ∧ Blk wr ob (List.replicate W nilS) 29 ∧ Only [mb, cb] w wr) (fun i _ => n - (intOf i).toNat)
    case atStart => exact ⟨0, by omega, rfl, _, by simpa using hM3, by simp, getD_set_eq (by omega), by intro s hs; omega, hP3, hN3, hO3', hO4⟩
    case round =>
      obtain ⟨k, hk, rfl, csk, hMk, hlen, hb0, hlk, hPk, hNk, hOk, hWk⟩ := hrel
      have Hlk := Lib.hid hlk
      have Hlen := Lib.hid hlen
      have Hb0 := Lib.hid hb0
      clear hlk hlen hb0 hM3 hP3 hN3 hO3' hO4
      have hn := Hn.out
      have hset : ∀ v : Int, v = (if k + 1 = n then -1 else (k : Int) + 1) → (csk.set (base + 1 + k).toNat v).length = cs.length ∧ (csk.set (base + 1 + k).toNat v).getD base.toNat 0 = 1 ∧ (∀ s : Nat, s < k + 1 → k < n → lk (csk.set (base + 1 + k).toNat v) base s = if s + 1 = n then -1 else (s : Int) + 1) := by
        intro v hv
        refine ⟨by rw [List.length_set]; exact Hlen.out, by rw [getD_set_ne (by omega)]; exact Hb0.out, fun s hs hkn => ?_⟩
        by_cases e : s = k
        · subst e
          rw [lk_eq (by have := Hlen.out; omega), hv]
        · rw [lk_ne h0 (by omega) (by omega) (by omega)]
          exact Hlk.out s (by omega)
      have Hset := Lib.hid hset
      clear hset
      have HL := Lib.hid (linkP_any pp mb nb n ob W base wr hPk (by omega) k (by omega))
      have r1 := hMk.notin hPk (by decide) (by decide)
      have r2 := hMk.notin hNk (by decide) (by decide)
      have r3 := hMk.notin hOk (by decide) (by decide)
      by_cases hlt : k < n
      · have b1 : (k : Int) < (n : Int) := by omega
        by_cases he : k + 1 = n
        · have b2 : ((k : Int) + 1 == (n : Int)) = true := by simp; omega
          have HS := Lib.hid (set_any mb cb csk (st + 1 + k) (base + 1 + k) (-1) wr hMk (by omega) (by omega) (by have := Hlen.out; omega))
          go_wp2_with (first | (go_at_call 56; refine HL.out.mono ?_; rintro e w' ⟨rfl, rfl⟩) | (go_at_call 47; refine HS.out.mono ?_; rintro e w5 ⟨rfl, hM5, hO5⟩))
          go_roundw
          case rel =>
            obtain ⟨s1, s2, s3⟩ := Hset.out (-1) (by rw [if_pos he])
            exact ⟨k + 1, by omega, by go_num, _, by rw [show st + 1 + ((k + 1 : Nat) : Int) = st + 1 + k + 1 by omega]; exact hM5, s1, s2, fun s hs => s3 s hs hlt, hO5.blk hPk r1, hO5.blk hNk r2, hO5.blk hOk r3, hWk.trans hO5⟩
          case measure => simp [intOf]; omega
        · have b2 : ((k : Int) + 1 == (n : Int)) = false := by simp; omega
          have HS := Lib.hid (set_any mb cb csk (st + 1 + k) (base + 1 + k) (k + 1) wr hMk (by omega) (by omega) (by have := Hlen.out; omega))
          go_wp2_with (first | (go_at_call 56; refine HL.out.mono ?_; rintro e w' ⟨rfl, rfl⟩) | (go_at_call 47; refine HS.out.mono ?_; rintro e w5 ⟨rfl, hM5, hO5⟩))
          go_roundw
          case rel =>
            obtain ⟨s1, s2, s3⟩ := Hset.out (k + 1) (by rw [if_neg he])
            exact ⟨k + 1, by omega, by go_num, _, by rw [show st + 1 + ((k + 1 : Nat) : Int) = st + 1 + k + 1 by omega]; exact hM5, s1, s2, fun s hs => s3 s hs hlt, hO5.blk hPk r1, hO5.blk hNk r2, hO5.blk hOk r3, hWk.trans hO5⟩
          case measure => simp [intOf]; omega
      · go_wp2_with fail
        go_ret2
        have e : k = n := by omega
        subst e
        have hlk := Hlk.out
        have hlen := Hlen.out
        have hW := HW.out
        have hg := Hg.out
        have hsz := hWk.size
        refine ⟨⟨mb, cb, pp, nb, ob, wr.heap.size, base, k, W⟩, csk, rfl, rfl, rfl, rfl, rfl, rfl, hg.1, hg.2.1, hg.2.2, hsz, ?_, hWk⟩
        have hget : ∀ i, (List.replicate W nilS).getD i nilS = nilS := by intro i; simp [List.getD, List.getElem?_replicate]; split <;> rfl
        have hget2 : ∀ i, (List.replicate W ([] : List Int)).getD i [] = [] := by intro i; simp [List.getD, List.getElem?_replicate]; split <;> rfl
        exact {
          mem := hMk
          pool := hPk
          nodes := hNk
          own := hOk
          nlen := nodesZ_len k
          olen := by simp
          slen := by simp
          W1 := hW.1
          W2 := hW.2
          n1 := hn.1
          n2 := hn.2
          b0 := h0
          b1 := by rw [hlen]; exact h1
          ints := fun i hi => by rw [hget, hget2]; exact Ints.nil _ _
          two := fun i hi => by rw [hget2]; simp
          apart := fun i j g hi hj hij hg => by rw [hget] at hg; simp [Value.ownBlock] at hg
          top := by
            rw [Hb0.out]
            cases k with
            | zero => omega
            | succ k => simp [List.range', topOf]
          v0 := Int.le_refl _
          vst := by omega
          chain := chain_range csk base k k 0 (by omega) (fun s _ h2 => hlk s h2)
          nodup := List.nodup_range'
          inn := fun s hs => by simp at hs; exact hs
          links := fun s q0 q1 => by
            have e : ((s.toNat : Nat) : Int) = s := by omega
            have := hlk s.toNat (by simp at q1; omega)
            rw [e] at this
            rw [this]
            show -1 ≤ _ ∧ _ < (k : Int)
            simp at q1
            split <;> omega
          lmb := hMk.lt.1
          lcb := hMk.lt.2
          lw := Nat.le_refl _ }
end Go.Proofs.Ytcgiimgdcamkiaa
