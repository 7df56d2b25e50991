/-
  The walk over World.Once, where it answers true.
-/
import Derived.Test.YtcgiimgdcamkiaaRefP
namespace Go.Proofs.Ytcgiimgdcamkiaa
open Go.RowKit
set_option linter.unusedVariables false

theorem Ints.set {w : World} {lo g n cap : Nat} {xs : List Int} (h : Ints w lo (.slice (some ⟨g, 0, none⟩) n cap) xs) (hn : xs.length = n) (j : Nat) (u : Int) :
    Ints (w.setCell ⟨g, j, none⟩ (.int .i64 u)) lo (.slice (some ⟨g, 0, none⟩) n cap) (xs.set j u) := by
  subst hn
  have := (World.ownsRow.stored h j (.int .i64 u)).1
  unfold Ints
  rw [List.length_set, List.map_set]
  exact this

theorem Ints.cell {w : World} {lo : Nat} {a : Option Addr} {l c : Nat} {xs : List Int} (h : Ints w lo (.slice a l c) xs) (k : Nat) (hk : k < xs.length) :
    ∃ g, a = some ⟨g, 0, none⟩ ∧ w.cell? ⟨g, k, none⟩ = some (.int .i64 (xs.getD k 0)) ∧ w.frozen? ⟨g, k, none⟩ = false ∧ l = xs.length := by
  rcases h.form with ⟨h1, h2⟩ | ⟨g, cap, h1, _, _, _, _, hf, hc⟩
  · subst h2; simp at hk
  · simp only [Value.slice.injEq] at h1
    obtain ⟨rfl, rfl, rfl⟩ := h1
    exact ⟨g, rfl, hc k hk, hf k, rfl⟩

set_option maxRecDepth 100000 in
set_option maxHeartbeats 800000 in
theorem once_any (wb lb m n : Nat) (hv : Value) (hd : List Int) (lvs : List Value) (xss : List (List Int)) (lo : Nat) (w : World) (hB : Blk w wb [hv] 77) (hH : Ints w lo hv hd) (hn : hd.length = n) (hn2 : n ≤ 4096)
    (hL : Blk w lb lvs 29) (hm : xss.length = m) (hm2 : m ≤ 16) (hx : ∀ a, a < m → ∃ v lo', lvs[a]? = some v ∧ Ints w lo' v (xss.getD a []) ∧ (xss.getD a []).length ≤ 1000000) (hr : ∀ x, x ∈ xss.flatten → 0 ≤ x ∧ x < n)
    (hc : ∀ s : Nat, s < n → (hd.getD s 0 = -1 → xss.flatten.count (s : Int) = 1) ∧ (hd.getD s 0 ≠ -1 → xss.flatten.count (s : Int) = 0)) :
    Calls Try.prog 44 #[.pointer (some ⟨wb, 0, none⟩), .slice (some ⟨lb, 0, none⟩) m m] w (True0 w) := by
  obtain ⟨ha, hcap, rfl⟩ := hH.slice'
  rw [hn] at hB hH
  obtain ⟨i0, hi, hz0, hz1, hz2⟩ := info_parts Try.info3
  have hmk := fun w => run_make_row (P := Try.prog) 29 3 i0 (.int .i64 0) 8 Try.underlying29 hi hz0 hz1 hz2 rfl .i64 .i64 (n : Int) (by omega) (by omega) (by omega) w
  clear hi hz0 hz1 hz2
  have b0 := hB.cell (o := 0) rfl
  have hS1 : Ints (w.alloc (.cells (rowA (List.replicate n (Value.int .i64 0))) 3)) w.heap.size (.slice (some ⟨w.heap.size, 0, none⟩) n n) (List.replicate n 0) := by
    have := Ints.lit w (List.replicate n 0) (by simp; omega)
    simpa [rowA] using this
  have hO1 := (Only.refl [] w).alloc (.cells (rowA (List.replicate n (Value.int .i64 0))) 3)
  have HB := Lib.hid (hO1.blk hB (by simp))
  have HH := Lib.hid (hH.only hO1 (by simp))
  have HL := Lib.hid (hO1.blk hL (by simp))
  have HX := Lib.hid (show ∀ a, a < m → ∃ v lo', lvs[a]? = some v ∧ Ints (w.alloc (.cells (rowA (List.replicate n (Value.int .i64 0))) 3)) lo' v (xss.getD a []) ∧ (xss.getD a []).length ≤ 1000000 ∧ ∀ g, v.ownBlock = some g → g < w.heap.size from fun a h => by
    obtain ⟨v, lo', h1, h2, h3⟩ := hx a h
    exact ⟨v, lo', h1, h2.only hO1 (by simp), h3, fun g hg => (h2.blk3 hg).2.2⟩)
  have Hr := Lib.hid hr
  have Hc := Lib.hid hc
  have hHlt : ∀ g, (Value.slice ha n hcap).ownBlock = some g → g < w.heap.size := fun g hg => (hH.blk3 hg).2.2
  have HHlt := Lib.hid hHlt
  have Hn := Lib.hid hn
  have hwb := hB.lt
  have hlb := hL.lt
  clear hB hH hL hx hr hc hHlt hn
  go_enter Try.func44, Try.ntmps44
  go_wp2_with fail
  clear hmk b0
  generalize w.alloc (.cells (rowA (List.replicate n (Value.int .i64 0))) 3) = w1 at *
  generalize hsb : w.heap.size = sb at *
  go_loopw [6] (fun i wr => ∃ (a : Nat) (ss : List Int), a ≤ m ∧ i = .int .i64 a ∧ Counted ss n (ahead xss a 0) ∧ Ints wr sb (.slice (some ⟨sb, 0, none⟩) n n) ss ∧ Only [sb] w1 wr) (fun i _ => m - (intOf i).toNat)
  case atStart => exact ⟨0, _, by omega, rfl, by simpa [ahead] using Counted.start n, hS1, Only.refl _ _⟩
  case round =>
    obtain ⟨a, ss, hac, rfl, hct, hSr, hOr⟩ := hrel
    have HCt := Lib.hid hct
    have HSr := Lib.hid hSr
    have HOr := Lib.hid hOr
    clear hct hSr hOr hS1
    obtain ⟨wo, rfl⟩ : ∃ wo : World, wo = wr := ⟨_, rfl⟩
    by_cases hlt : a < m
    · have ba : (a : Int) < (m : Int) := by omega
      obtain ⟨v, lo', hv1, hv2, hv3, hv4⟩ := HX.out a hlt
      obtain ⟨row, hrow⟩ : ∃ row, xss.getD a [] = row := ⟨_, rfl⟩
      have R1 := Lib.hid (fun b (h : b < row.length) => hrow ▸ (ahead_next xss a b (by rw [hrow]; exact h)))
      have R2 := Lib.hid (hrow ▸ (ahead_row xss a))
      rw [hrow] at hv2 hv3
      clear hrow
      obtain ⟨va, vc, rfl⟩ := hv2.slice'
      have Hv1 := Lib.hid hv1
      have Hv2 := Lib.hid hv2
      have Hv4 := Lib.hid hv4
      clear hv1 hv2 hv4
      go_wp2_with fail
      go_loopw [7] (fun i wr => ∃ (b : Nat) (ss : List Int), b ≤ (row).length ∧ i = .int .i64 b ∧ Counted ss n (ahead xss a b) ∧ Ints wr sb (.slice (some ⟨sb, 0, none⟩) n n) ss ∧ Only [sb] w1 wr) (fun i _ => (row).length - (intOf i).toNat)
      case atStart => exact ⟨0, ss, by omega, rfl, HCt.out, HSr.out, HOr.out⟩
      case round =>
        obtain ⟨b, ss2, hbc, rfl, hct2, hSr2, hOr2⟩ := hrel
        have HOr2 := Lib.hid hOr2
        have c0 := (hOr2.blk HL.out (by simp; omega)).cell Hv1.out
        have hvr := Hv2.out.own hOr2 (fun g hg => by have := Hv4.out g hg; simp; omega)
        have Hvr := Lib.hid hvr
        have HSr2 := Lib.hid hSr2
        have HCt2 := Lib.hid hct2
        clear hvr hSr2 hct2 hOr2
        by_cases hlt2 : b < (row).length
        · have bb : (b : Int) < ((row).length : Int) := by omega
          obtain ⟨g, rfl, d, -, -⟩ := Hvr.out.cell b hlt2
          have hmem : (row).getD b 0 ∈ xss.flatten := ahead_mem xss a (b + 1) _ (by rw [R1.out b hlt2]; simp)
          have hx0 := Hr.out _ hmem
          have hcnt := HCt2.out.2 ((row).getD b 0).toNat (by omega)
          have hcb := ahead_count xss a b ((row).getD b 0)
          have hnx := R1.out b hlt2
          have hc1 : xss.flatten.count ((row).getD b 0) ≤ 1 := by
            have q := Hc.out ((row).getD b 0).toNat (by omega)
            rw [show ((((row).getD b 0).toNat : Nat) : Int) = (row).getD b 0 by omega] at q
            by_cases e : hd.getD ((row).getD b 0).toNat 0 = -1
            · rw [q.1 e]; omega
            · rw [q.2 e]; omega
          have Hnx := Lib.hid hnx
          obtain ⟨x, hxx⟩ : ∃ x : Nat, (row).getD b 0 = x := ⟨_, (Int.toNat_of_nonneg hx0.1).symm⟩
          rw [hxx] at d hcnt hcb hc1 hx0 hnx
          simp only [Int.toNat_natCast] at hcnt
          have hxn : x < n := by omega
          obtain ⟨g', hg', d2, f2, -⟩ := HSr2.out.cell x (by rw [HCt2.out.1]; exact hxn)
          obtain rfl : g' = sb := by simpa using hg'.symm
          have Hxx := Lib.hid hxx
          obtain ⟨y, hy⟩ : ∃ y, ss2.getD x 0 = y := ⟨_, rfl⟩
          rw [hy] at d2 hcnt
          have Hy := Lib.hid hy
          have hy0 : 0 ≤ y ∧ y ≤ 1 := by omega
          have e1 : ¬ ((x : Int) < 0) := by omega
          have e2 : ¬ ((n : Int) ≤ (x : Int)) := by omega
          have e3 : (x : Int) < (n : Int) := by omega
          clear hx0 hcnt hcb hc1 hnx hmem hxx hy hg'
          go_wp2_with fail
          go_roundw
          case rel =>
            refine ⟨b + 1, ss2.set x (y + 1), by omega, by go_num, ?_, HSr2.out.set HCt2.out.1 x _, HOr2.out.setCell (by simp) _⟩
            have h9 := HCt2.out.step x hxn
            rw [Hy.out, ← Hxx.out] at h9
            rw [Hnx.out]
            exact h9
          case measure => simp [intOf]; omega
        · have eb : b = (row).length := by omega
          have bb : ¬ (b : Int) < ((row).length : Int) := by omega
          have ea := R2.out
          rw [← eb] at ea
          have Hea := Lib.hid ea
          clear ea
          go_wp2_with fail
          go_roundw
          case rel => exact ⟨a + 1, ss2, by omega, by go_num, by rw [Hea.out]; exact HCt2.out, HSr2.out, HOr2.out⟩
          case measure => simp [intOf]; omega
    · have ea : a = m := by omega
      have ba : ¬ (a : Int) < (m : Int) := by omega
      have hfl := HCt.out
      rw [ea, ← hm, ahead_all] at hfl
      have Hfl := Lib.hid hfl
      have b1 := (HOr.out.blk HB.out (by simp; omega)).cell (o := 0) rfl
      have hh := HH.out.own HOr.out (fun g hg => by have := HHlt.out g hg; simp; omega)
      have Hh := Lib.hid hh
      clear hfl hh
      go_wp2_with fail
      go_loopw [9] (fun i wr => ∃ s : Nat, s ≤ n ∧ i = .int .i64 s ∧ wr = wo) (fun i _ => n - (intOf i).toNat)
      case atStart => exact ⟨0, by omega, rfl, rfl⟩
      case round =>
        obtain ⟨s, hs, rfl, rfl⟩ := hrel
        by_cases hlt3 : s < n
        · have bs : (s : Int) < (n : Int) := by omega
          obtain ⟨g, rfl, d1, -, -⟩ := Hh.out.cell s (by rw [Hn.out]; exact hlt3)
          obtain ⟨g', hg', d2, -, -⟩ := HSr.out.cell s (by rw [HCt.out.1]; exact hlt3)
          obtain rfl : g' = sb := by simpa using hg'.symm
          have q1 := Hfl.out.2 s hlt3
          have q2 := Hc.out s hlt3
          by_cases e : hd.getD s 0 = -1
          · rw [q2.1 e] at q1
            rw [q1] at d2
            rw [e] at d1
            clear q1 q2 e hg'
            go_wp2_with fail
            go_roundw
            case rel => first | exact ⟨s + 1, by omega, by go_num, rfl⟩ | exact ⟨s + 1, by omega, by go_num, trivial⟩ | ((repeat apply Exists.intro); exact ⟨⟨s + 1, by omega, by go_num, trivial⟩, rfl⟩)
            case measure => simp [intOf]; omega
          · rw [q2.2 e] at q1
            rw [q1] at d2
            have e' : (hd.getD s 0 == -1) = false := by simpa using e
            generalize hd.getD s 0 = z at *
            clear q1 q2 hg'
            go_wp2_with fail
            go_roundw
            case rel => first | exact ⟨s + 1, by omega, by go_num, rfl⟩ | exact ⟨s + 1, by omega, by go_num, trivial⟩ | ((repeat apply Exists.intro); exact ⟨⟨s + 1, by omega, by go_num, trivial⟩, rfl⟩)
            case measure => simp [intOf]; omega
        · have bs : ¬ (s : Int) < (n : Int) := by omega
          go_wp2_with fail
          go_ret
          exact ⟨rfl, hO1.behind HOr.out (by intro k hk; simp at hk; subst hk; left; omega)⟩
end Go.Proofs.Ytcgiimgdcamkiaa
