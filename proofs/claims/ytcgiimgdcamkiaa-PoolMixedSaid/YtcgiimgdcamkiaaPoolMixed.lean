/-
  PoolMixed answers true for every number of slots and every list of turns, and leaves what there was as it was. Conditions: none.
-/
import Derived.Test.YtcgiimgdcamkiaaMixW
import Derived.ShutString
import Derived.ChangeOld
import Derived.Deep.Slices
namespace Go.Proofs.Ytcgiimgdcamkiaa.poolMixed
open Go.ChangeShapes Go.WideShapes Go.ChangeAt Go.RowKit Go.Deep
set_option linter.unusedVariables false
theorem laidOut : laidOutB Try.prog = true := by kernel_rfl

theorem list3 {α : Type} {l : List α} (h : l.length = 3) : ∃ a b c, l = [a, b, c] := by
  match l, h with
  | [a, b, c], _ => exact ⟨a, b, c, rfl⟩

/-- What one turn reads as: three numbers, a cell each. -/
theorem turn {H : Type} {enc : TypeId × Value → H} {W : World} {n : Nat} {cs : List Value} {x : DataW H × List MemPlace} (h : DataW.trod enc Try.prog W 0 (fun _ => true) true n 84 cs = some x) :
    ∃ p q r : Int, cs = [.int .i64 p, .int .i64 q, .int .i64 r] := by
  obtain ⟨ys, k, -, -, hl, hyl, hf⟩ := DataW.trod_struct Try.underlying84 h
  have three : Try.prog.cellsOf 84 = 3 := by kernel_rfl
  have one : Try.prog.cellsOf 3 = 1 := by kernel_rfl
  rw [three] at hl
  have hyl3 : ys.length = 3 := hyl
  obtain ⟨c0, c1, c2, rfl⟩ := list3 hl
  obtain ⟨y0, y1, y2, rfl⟩ := list3 hyl3
  have r0 : DataW.trod enc Try.prog W 0 (fun _ => true) true k 3 ([c0, c1, c2].take (Try.prog.cellsOf 3)) = some y0 := hf 0 _ rfl
  have r1 : DataW.trod enc Try.prog W 0 (fun _ => true) true k 3 ([c1, c2].take (Try.prog.cellsOf 3)) = some y1 := hf 1 _ rfl
  have r2 : DataW.trod enc Try.prog W 0 (fun _ => true) true k 3 ([c2].take (Try.prog.cellsOf 3)) = some y2 := hf 2 _ rfl
  clear hf hyl hyl3 hl h
  rw [one] at r0 r1 r2
  obtain ⟨p, e0, _, _⟩ := DataW.trod_int Try.underlying3 r0
  obtain ⟨q, e1, _, _⟩ := DataW.trod_int Try.underlying3 r1
  obtain ⟨r, e2, _, _⟩ := DataW.trod_int Try.underlying3 r2
  simp at e0 e1 e2
  exact ⟨p, q, r, by rw [e0, e1, e2]⟩

/-- The list of turns, opened. -/
theorem turns {H : Type} {enc : TypeId × Value → H} {W : World} {a : Option Addr} {len cap : Nat} {d : DataW H} {p : List MemPlace}
    (h : DataW.Trod enc Try.prog W 0 (fun _ => true) true 80 (.slice a len cap) d p) : ArgT3 W (.slice a len cap) len ∧ len ≤ 9223372036854775807 := by
  obtain ⟨fuel, hf⟩ := h
  have three : Try.prog.cellsOf 84 = 3 := by kernel_rfl
  rcases open_slice Try.underlying80 hf with ⟨hcs, _⟩ | ⟨x, l, c, m, n, D, Pl, hcs, hb, hl, hm, hmm, _, hi⟩
  · simp [Value.cells] at hcs
    obtain ⟨rfl, rfl, rfl⟩ := hcs
    exact ⟨⟨none, 0, rfl, fun h => by omega⟩, by omega⟩
  · simp [Value.cells] at hcs
    obtain ⟨rfl, rfl, rfl⟩ := hcs
    have hml : len ≤ m := by rw [hmm]; split <;> omega
    have hat : ∀ j, j < len → ∃ p q r : Int, ∀ k, k < 3 → W.cell? (x.add (j * 3 + k)) = [Value.int .i64 p, .int .i64 q, .int .i64 r][k]? := by
      intro j hj
      obtain ⟨cs, hc, ht⟩ := hi j (by omega)
      obtain ⟨p, q, r, rfl⟩ := turn ht
      rw [three] at hc
      obtain ⟨_, _, hk⟩ := World.cells?_some hc
      exact ⟨p, q, r, fun k hk3 => by rw [← Go.Deep.add_add]; exact hk k hk3⟩
    refine ⟨⟨_, cap, rfl, fun hpos => ?_⟩, by unfold maxLen at hm; omega⟩
    obtain ⟨b, off, spot⟩ := x
    obtain ⟨_, _, _, h0⟩ := hat 0 hpos
    have hs : spot = none := by simpa [Addr.add] using World.cell?_spot (h0 0 (by omega))
    subst hs
    refine ⟨b, off, rfl, fun j hj => ?_⟩
    obtain ⟨p, q, r, hk⟩ := hat j hj
    have g0 := hk 0 (by omega)
    have g1 := hk 1 (by omega)
    have g2 := hk 2 (by omega)
    rw [WideShapes.add_plain] at g0 g1 g2
    rw [← Nat.add_assoc] at g1 g2
    exact ⟨p, q, r, g0, g1, g2⟩

theorem walk (a0 : Int) (v : Value) (m : Nat) (w : World) (w0 : (Lit.int .i64 a0).wf = true) (h : ArgT3 w v m) (hl : m ≤ 9223372036854775807) :
    Calls Try.prog 9 #[.int .i64 a0, v] w fun e w' => e = .returned (.bool true) ∧ Below w.heap.size w w' := by
  have hx : -9223372036854775808 ≤ a0 ∧ a0 ≤ 9223372036854775807 := by simpa [Lit.wf, IntKind.min, IntKind.max, IntKind.signed, IntKind.bits] using w0
  exact (poolMixed_walk a0 v m w h hl hx).mono fun e w' ⟨he, hO⟩ => ⟨he, hO.toBelow⟩

set_option maxRecDepth 100000 in
theorem lifted (os : Os) (started : os.Started) (H : Type) (enc : TypeId × Value → H) :
    ReturnsInHanded {} Try.checked os 9 .any (Rows.poolMixedSpec.pre6 enc Try.prog Try.f9 Rows.poolMixedRow.domain false) (Rows.poolMixedSpec.post enc Try.prog Try.f9 false true false false) := by
  refine returnsInHanded_of_change (C := Try.checked) Try.own started (by kernel_rfl) Try.func9
    (ChangeSpec.witness6 (enc := enc) (C := Try.checked) false ⟨#[], #[.int .i64 0, .slice none 0 0], []⟩ 8 (by kernel_rfl) (by kernel_rfl) (by kernel_rfl) (by kernel_rfl)) ?_
  intro W base args ds gs before hval0 hW hcnd _
  have hval : ∀ (j : Nat) t v, Try.f9.params[j]? = some t → args[j]? = some v → Value.okWide Try.prog W .any base t v := hval0
  have hW' := hW
  obtain ⟨p, q, hA0, hV, rfl, hfz, hnd⟩ := hW
  have hA : DataW.TrodAll enc Try.prog W 0 (fun _ => true) true Try.f9.params.toList args.toList ds p := hA0
  rw [Try.params9] at hA hval
  obtain ⟨v0, vs0, d0, ds0, p0, q0, hargs, rfl, rfl, h0, r0⟩ := trodAll_cons hA
  obtain ⟨v1, vs1, d1, ds1, p1, q1, rfl, rfl, rfl, h1, r1⟩ := trodAll_cons r0
  obtain ⟨rfl, rfl, rfl⟩ := trodAll_nil r1
  obtain rfl : args = #[v0, v1] := by cases args; simp_all
  obtain ⟨rfl, rfl⟩ := trodVars_none hV
  obtain ⟨a0, rfl, rfl, rfl, w0⟩ := open_int Try.underlying3 (hval 0 3 v0 rfl rfl) h0
  obtain ⟨a1, len1, cap1, rfl⟩ := okWide_slice Try.underlying80 (hval 1 80 v1 rfl rfl)
  have k1 := h1
  have lt1 : ∀ x ∈ p1, x.block < W.heap.size := by obtain ⟨m, hm⟩ := k1; exact DataW.trod_lt m _ _ _ hm
  have ht := turns h1
  clear hA0 hval0
  refine (walk a0 _ len1 W w0 ht.1 ht.2).mono fun e W' ⟨he, bel⟩ => ?_
  subst he
  exact ⟨_, rfl, _, _, _, [], _, [], hW', trodAll_mk1 (shut_bool Try.underlying4 _), (trodAll_cons_mk (shut_int Try.underlying3 w0) (trodAll_cons_mk (Below.trod laidOut (by kernel_rfl) (of_decide_eq_true (by kernel_rfl)) k1 bel lt1) trodAll_mk0)), rfl, bel.frame _, fun h => by cases h⟩

theorem over : Rows.poolMixedRow.holds Try.pinned (OpenSpec.ofChange Rows.poolMixedSpec) :=
  OpenClaim.holds_of_wide 9 Try.f9 rfl rfl rfl rfl rfl rfl rfl ⟨rfl, rfl, rfl, rfl, rfl⟩ rfl rfl rfl rfl rfl (by kernel_rfl) Try.func9 (by kernel_rfl)
    (of_decide_eq_true (by kernel_rfl)) (by unfold Func.isWrapper; first | (rw [if_pos (by decide +kernel)]; kernel_rfl) | (rw [if_neg (by decide +kernel)]; exact ⟨rfl, rfl⟩))
    (fun os started H enc _ => lifted os started H enc)

theorem proved : Rows.PoolMixedSaid := over
#print axioms proved
end Go.Proofs.Ytcgiimgdcamkiaa.poolMixed
