/-
  The walks over the small functions of the statements of layer 22: Same, World.Take, run, fresh.
-/
import Derived.Test.YtcgiimgdcamkiaaIncS
namespace Go.Proofs.Ytcgiimgdcamkiaa
open Go.RowKit
set_option linter.unusedVariables false

theorem Ints.read {w : World} {lo : Nat} {v : Value} {xs : List Int} (h : Ints w lo v xs) :
    ∃ a cap, v = .slice a xs.length cap ∧ (xs ≠ [] → ∃ g, a = some ⟨g, 0, none⟩ ∧ ∀ j, j < xs.length → w.cell? ⟨g, j, none⟩ = some (.int .i64 (xs.getD j 0))) := by
  rcases h.form with ⟨rfl, rfl⟩ | ⟨g, cap, rfl, _, _, _, _, _, hc⟩
  · exact ⟨none, 0, rfl, fun h => absurd rfl h⟩
  · exact ⟨_, cap, rfl, fun _ => ⟨g, rfl, hc⟩⟩

set_option maxRecDepth 100000 in
set_option maxHeartbeats 800000 in
theorem same_yes (lo lo' : Nat) (v v' : Value) (xs : List Int) (w : World) (h : Ints w lo v xs) (h' : Ints w lo' v' xs) (hl : xs.length ≤ 1099511627776) :
    Calls Try.prog 24 #[v, v'] w fun e w' => e = .returned (.bool true) ∧ ∃ n, w' = w.drewN n := by
  obtain ⟨a, cap, rfl, hr⟩ := h.read
  obtain ⟨a', cap', rfl, hr'⟩ := h'.read
  have Hr := Lib.hid hr
  have Hr' := Lib.hid hr'
  clear hr hr' h h'
  have e0 : ((xs.length : Int) != (xs.length : Int)) = false := by simp
  generalize hn : xs.length = n at *
  have Hn := Lib.hid hn
  clear hn
  go_enter Try.func24, Try.ntmps24
  go_wp2
  go_loopw [5] (fun i wr => ∃ k : Nat, k ≤ n ∧ i = .int .i64 k ∧ ∃ m, wr = w.drewN m) (fun i _ => n - (intOf i).toNat)
  case atStart => exact ⟨0, by omega, rfl, 0, rfl⟩
  case round =>
    obtain ⟨k, hk, rfl, m, rfl⟩ := hrel
    by_cases hlt : k < n
    · have hne : xs ≠ [] := by
        have := Hn.out
        rintro rfl
        simp at this
        omega
      obtain ⟨g, rfl, hc⟩ := Hr.out hne
      obtain ⟨g', rfl, hc'⟩ := Hr'.out hne
      have d := hc k hlt
      have d' := hc' k hlt
      generalize xs.getD k 0 = x at *
      have HC := Lib.hid hc
      have HC' := Lib.hid hc'
      clear hc hc'
      have ex : (x != x) = false := by simp
      have b1 : (k : Int) < (n : Int) := by omega
      go_wp2_with fail
      go_quiet (fail)
      go_wp2
      go_roundw
      case rel => exact ⟨k + 1, by omega, by go_num, _, rfl⟩
      case measure => simp [intOf]; omega
    · go_wp2
      go_ret
      exact ⟨rfl, m, rfl⟩

/-- What World.Take leaves. -/
def TookW (w : World) (wb : Nat) (cost : Int) (xs : List Int) (e : Ending) (w' : World) : Prop :=
  e = .returned (.tuple #[]) ∧ ∃ v, Blk w' wb [.int .i64 cost, v] 45 ∧ Ints w' w.heap.size v xs ∧ Only [wb] w w'

set_option maxRecDepth 100000 in
set_option maxHeartbeats 400000 in
theorem takeW_any (wb lo : Nat) (c0 cost : Int) (v0 v : Value) (xs : List Int) (w : World) (hb : Blk w wb [.int .i64 c0, v0] 45) (h : Ints w lo v xs) (hne : xs ≠ []) (hl : xs.length ≤ 1099511627776) :
    Calls Try.prog 22 #[.pointer (some ⟨wb, 0, none⟩), v, .int .i64 cost] w (TookW w wb cost xs) := by
  obtain ⟨i0, hi, hz0, hz1, hz2⟩ := info_parts Try.info3
  have H := Lib.hid h
  rcases h.form with ⟨rfl, rfl⟩ | ⟨g, cap, rfl, _, hg, hc, -, -, hcell⟩
  · exact absurd rfl hne
  have hpos : 0 < xs.length := List.length_pos_iff.2 hne
  have hown : (w.alloc (.cells #[] 3)).ownsRow w.heap.size 3 1 (.slice (some ⟨w.heap.size, 0, none⟩) 0 0) 0 [] := World.ownsRow_made w #[] 0 (Nat.le_refl _) (by unfold maxLen; omega) rfl
  have H0 := Lib.hid hcell
  clear h hcell hne
  go_enter Try.func22, Try.ntmps22
  go_wp2_with (at_builtin; (refine wpList_append_own _ rfl (.tmp 8) (.tmp 9) 29 rfl w.heap.size 3 i0 (.int .i64 0) 1 8 Try.underlying29 hi hz0 hz1 hz2 rfl (by decide) _ _ _ rfl hown ⟨g, 0, none⟩ xs.length cap (xs.map (Value.int .i64)) rfl ?c0 ?c1 ?c2 ?c3 ?c4 ?c5 ?_))
  case c0 => simp
  case c1 =>
    intro j u hj
    have hjl : j < xs.length := by have := (List.getElem?_eq_some_iff.1 hj).1; simpa using this
    rw [addr_zero]
    rw [World.cell?_alloc_past _ _ _ hg, H0.out j (by omega)]
    simp [hjl] at hj ⊢
    exact hj
  case c2 => intro u hu; simp at hu; obtain ⟨a, _, rfl⟩ := hu; rfl
  case c3 => unfold maxLen; omega
  case c4 => omega
  case c5 => simp
  intro v' w1 hown' hgrow _
  have hO1 : Only [] w w1 := ((Only.refl _ _).alloc _).grown hgrow (fun k hk => by simp [Value.ownBlock] at hk; omega)
  have hi1 : Ints w1 w.heap.size v' xs := by unfold Ints; simpa using hown'
  obtain ⟨xa, xl, xc, rfl⟩ := hi1.slice
  have hb1 := hO1.blk hb (by simp)
  have b0 := hb1.cell (o := 0) rfl
  have b1 := hb1.cell (o := 1) rfl
  have bf := hb1.froz
  clear hown' hgrow hown hb
  have HI := Lib.hid hi1
  clear hi1
  go_wp2
  go_end0
  refine ⟨rfl, .slice xa xl xc, (hb1.set 1 (.slice xa xl xc)).set 0 (.int .i64 cost), HI.out.only (S := [wb]) (((Only.refl _ _).setCell (by simp) _).setCell (by simp) _) ?_, ((hO1.mono (by simp)).setCell (by simp) _).setCell (by simp) _⟩
  intro b hb
  simp at hb
  subst hb
  exact Or.inr (Or.inr ⟨_, _, hb1, by decide⟩)

/-- A fresh Inc with its memory, as the statements make it. -/
def FreshI (w : World) (W cost : Int) (xs : List Int) (e : Ending) (w' : World) : Prop :=
  ∃ L : IncL, e = .returned (.tuple #[.pointer (some ⟨L.ib, 0, none⟩), .pointer (some ⟨L.mb, 0, none⟩), .bool true]) ∧ L.at_ = 1 ∧ L.W = W ∧ w.heap.size ≤ L.mb ∧ w.heap.size ≤ L.cb ∧ w.heap.size ≤ L.ib ∧ w.heap.size ≤ L.pb ∧
    IncSt w' L 1 cost (2 * W).toNat xs ∧ Only [] w w'

/-- A new Inc's state, out of what New leaves. -/
theorem IncNew.st {w w' : World} {mb cb : Nat} {cs : List Int} {st at_ W cost : Int} {xs : List Int} {e : Ending} (h : IncNew w mb cb cs st at_ W cost xs e w') (hW : 1 ≤ W ∧ W ≤ 16) (ha : 0 ≤ at_ ∧ at_ < cs.length)
    (hc : 0 ≤ cost ∧ cost ≤ 1125899906842624) (hxl : xs.length ≤ 1099511627776) (hmb : mb < w.heap.size) (hcb : cb < w.heap.size) :
    ∃ L : IncL, e = .returned (.tuple #[.pointer (some ⟨L.ib, 0, none⟩), .int .i64 0]) ∧ L.at_ = at_ ∧ L.W = W ∧ L.mb = mb ∧ L.cb = cb ∧ w.heap.size ≤ L.ib ∧ w.heap.size ≤ L.pb ∧ IncSt w' L (st + 1) cost (2 * W).toNat xs ∧ Only [mb, cb] w w' := by
  obtain ⟨ib, pb, P, v, rfl, h1, h2, hi, hp, hP, hv, hx, hM, hO⟩ := h
  refine ⟨⟨mb, cb, ib, pb, w.heap.size, at_, W⟩, rfl, rfl, rfl, rfl, rfl, h1, h2, ⟨_, P, v, hM, hi, hp, hP, hW.1, hW.2, ha.1, by simpa using ha.2, ?_, ?_, hc.1, hc.2, hv, hx, hmb, hcb, hO.size, hxl⟩, hO⟩
  · have : at_.toNat < cs.length := by omega
    simp [this]
    omega
  · show ((2 * W).toNat : Int) ≤ 2 * W
    omega

set_option maxHeartbeats 400000 in
theorem freshI_any (W cost : Int) (lo : Nat) (v : Value) (xs : List Int) (w : World) (h : Ints w lo v xs) (hl : xs.length ≤ 1099511627776) (hW : 1 ≤ W ∧ W ≤ 16) (hc : 0 ≤ cost ∧ cost ≤ 1125899906842624) :
    Calls Try.prog 21 #[.int .i64 W, v, .int .i64 cost] w (FreshI w W cost xs) := by
  have HN := Lib.hid (cellNew_yes 3 w (by omega) (by omega))
  go_enter Try.func21, Try.ntmps21
  go_wp2_with (go_at_call 10; refine HN.out.mono ?_; rintro e w1 ⟨mb, cb, rfl, hmb, hcb, hM1, hO1⟩)
  have hx1 := h.only hO1 (by simp)
  have hml := hM1.lt
  refine (incNew_yes mb cb lo _ 0 1 W cost v xs w1 hM1 (by omega) hx1 hl (by omega) (by simp) hW hc).mono ?_
  intro e w2 hN2
  obtain ⟨L, rfl, q1, q2, rfl, rfl, q5, q6, hS, hO2⟩ := hN2.st hW (by simp) hc hl hml.1 hml.2
  go_wp2
  go_ret3
  have hsz := hO1.size
  refine ⟨L, rfl, q1, q2, by omega, by omega, by omega, by omega, hS, ((hO1.mono (by simp)).trans hO2).drop ?_⟩
  intro k hk
  simp at hk
  rcases hk with rfl | rfl <;> left <;> omega
end Go.Proofs.Ytcgiimgdcamkiaa
