/-
  The document's answer of layer 18: New, Once.
-/
import Derived.Test.YtcgiimgdcamkiaaPoolK
import Derived.Test.YtcgiimgdcamkiaaArgs
import Derived.Test.YtcgiimgdcamkiaaRunI
namespace Go.Proofs.Ytcgiimgdcamkiaa
open Go.RowKit
set_option linter.unusedVariables false

/-- A new World: all are free. -/
def WorldNew (w : World) (n : Nat) (e : Ending) (w' : World) : Prop :=
  ∃ wb v, e = .returned (.pointer (some ⟨wb, 0, none⟩)) ∧ w.heap.size ≤ wb ∧ Blk w' wb [v] 77 ∧ Ints w' w.heap.size v (List.replicate n (-1)) ∧ Only [] w w'

set_option maxRecDepth 100000 in
set_option maxHeartbeats 400000 in
theorem worldNew_any (n : Nat) (w : World) (hn : n ≤ 4096) : Calls Try.prog 42 #[.int .i64 n] w (WorldNew w n) := by
  obtain ⟨i0, hi, hz0, hz1, hz2⟩ := info_parts Try.info3
  go_enter Try.func42, Try.ntmps42
  go_wp2_with fail
  have hB := Blk.new w [.slice none 0 0] 77
  have hO := (Only.refl [] w).alloc (.cells #[.slice none 0 0] 77)
  change Only [] w (w.alloc (.cells #[.slice none 0 0] 77)) at hO
  change Blk (w.alloc (.cells #[.slice none 0 0] 77)) w.heap.size [.slice none 0 0] 77 at hB
  go_loopw [4] (fun i wr => ∃ (k : Nat) (va : Option Addr) (vc : Nat), k ≤ n ∧ i = .int .i64 k ∧ Blk wr w.heap.size [.slice va k vc] 77 ∧ Ints wr w.heap.size (.slice va k vc) (List.replicate k (-1)) ∧ Only [] w wr) (fun i _ => n - (intOf i).toNat)
  case atStart => exact ⟨0, none, 0, by omega, rfl, hB, by simpa using Ints.nil _ _, hO⟩
  case round =>
    obtain ⟨k, va, vc, hk, rfl, hBr, hIr, hOr⟩ := hrel
    have HBr := Lib.hid hBr
    have HIr := Lib.hid hIr
    have HOr := Lib.hid hOr
    have b0 := hBr.cell (o := 0) rfl
    have hsz := hOr.size
    clear hIr hOr hBr hB hO
    by_cases hlt : k < n
    · have b1 : (k : Int) < (n : Int) := by omega
      have hlen : (List.replicate k (-1 : Int)).length = k := by simp
      have hown := HIr.out
      unfold Ints at hown
      rw [hlen] at hown
      have N0 := Lib.hid (hown.alloc (.cells #[.int .i64 (-1)] 3))
      have N2 := Lib.hid (show ∀ u, u ∈ [Value.int .i64 (-1)] → u.oneCell' = true by simp [Value.oneCell'])
      have N5 := Lib.hid (show w.heap.size ≤ (wr.alloc (.cells #[.int .i64 (-1)] 3)).heap.size by simp; omega)
      have N6 := Lib.hid (show (wr.alloc (.cells #[.int .i64 (-1)] 3)).heap.size = wr.heap.size + 1 by simp)
      clear hown
      go_wp2_with (at_builtin; (refine wpList_append_lies _ rfl (.tmp 16) (.tmp 17) 29 rfl w.heap.size 3 i0 (.int .i64 0) 1 8 Try.underlying29 hi hz0 hz1 hz2 rfl (by decide) (.slice va k vc) k ((List.replicate k (-1)).map (Value.int .i64)) rfl N0.out ⟨wr.heap.size, 0, none⟩ 1 1 [.int .i64 (-1)] rfl rfl (World.news_of_block (cs := #[.int .i64 (-1)]) (t := 3) (fr := (0, 0)) (heap_alloc_new wr _)) N2.out (by omega) (by unfold maxLen; omega) (by omega) N5.out (wr.heap.size + 1) N6.out ?_); intro g cap w2 hown2 hgrow hat hg2; have hO2 : Only [] w w2 := (HOr.out.alloc _).grown hgrow (fun b hb => Or.inr (HIr.out.blk3 hb).2.1); have hB2 := (HBr.out.alloc (.cells #[.int .i64 (-1)] 3)); have hB3 : Blk w2 w.heap.size [.slice va k vc] 77 := (Only.grown (Only.refl (blkOf (.slice va k vc)) _) hgrow (fun b hb => Or.inl (mem_blkOf.2 hb))).blk hB2 (fun hm => by obtain ⟨⟨us, q⟩, _⟩ := HIr.out.blk3 (mem_blkOf.1 hm); exact absurd rfl (q.ty HBr.out (by decide))); have c0 := hB3.cell (o := 0) rfl; have cf := hB3.froz)
      have HO2 := Lib.hid hO2
      go_wp2_with fail
      go_roundw
      case rel =>
        have hIs : Ints w2 w.heap.size (.slice (some ⟨g, 0, none⟩) (k + 1) cap) (List.replicate (k + 1) (-1)) := by
          unfold Ints
          rw [List.replicate_succ']
          simpa using hown2
        exact ⟨k + 1, _, _, by omega, by go_num, hB3.set 0 _, hIs.only (S := [w.heap.size]) ((Only.refl _ _).setCell (by simp) _) (by intro b hb; simp at hb; subst hb; exact Or.inr (Or.inr ⟨_, _, hB3, by decide⟩)), HO2.out.setCell (Or.inr (Nat.le_refl _)) _⟩
      case measure => simp [intOf]; omega
    · have e : k = n := by omega
      subst e
      go_wp2_with fail
      go_ret
      exact ⟨_, _, rfl, Nat.le_refl _, HBr.out, HIr.out, HOr.out⟩

/-- The elements of some lists ahead of a place. -/
def ahead (xss : List (List Int)) (a b : Nat) : List Int := (xss.take a).flatten ++ (xss.getD a []).take b
theorem ahead_split (xss : List (List Int)) (a b : Nat) : ∃ r, xss.flatten = ahead xss a b ++ r := by
  by_cases h : a < xss.length
  · refine ⟨(xss.getD a []).drop b ++ (xss.drop (a + 1)).flatten, ?_⟩
    have h1 : xss = xss.take a ++ xss.getD a [] :: xss.drop (a + 1) := by
      have h2 : xss.getD a [] = xss[a] := by simp [List.getD, h]
      rw [h2, List.getElem_cons_drop, List.take_append_drop]
    unfold ahead
    have h3 : xss.flatten = (xss.take a).flatten ++ (xss.getD a [] ++ (xss.drop (a + 1)).flatten) := by
      have := congrArg List.flatten h1
      rw [this]
      simp
    rw [h3]
    have h4 : xss.getD a [] = (xss.getD a []).take b ++ (xss.getD a []).drop b := (List.take_append_drop _ _).symm
    calc (xss.take a).flatten ++ (xss.getD a [] ++ (xss.drop (a + 1)).flatten) = (xss.take a).flatten ++ (((xss.getD a []).take b ++ (xss.getD a []).drop b) ++ (xss.drop (a + 1)).flatten) := by rw [← h4]
      _ = _ := by simp only [List.append_assoc]
  · refine ⟨[], ?_⟩
    unfold ahead
    have h1 : xss.take a = xss := List.take_of_length_le (by omega)
    have h2 : xss.getD a [] = [] := by simp [List.getD, show ¬ a < xss.length from h]
    rw [h1, h2]
    simp
theorem ahead_count (xss : List (List Int)) (a b : Nat) (s : Int) : (ahead xss a b).count s ≤ xss.flatten.count s := by
  obtain ⟨r, hr⟩ := ahead_split xss a b
  rw [hr, List.count_append]
  omega
theorem ahead_mem (xss : List (List Int)) (a b : Nat) (s : Int) (h : s ∈ ahead xss a b) : s ∈ xss.flatten := by
  obtain ⟨r, hr⟩ := ahead_split xss a b
  rw [hr]
  simp [h]
theorem ahead_next (xss : List (List Int)) (a b : Nat) (h : b < (xss.getD a []).length) : ahead xss a (b + 1) = ahead xss a b ++ [(xss.getD a []).getD b 0] := by
  unfold ahead
  have e : (xss.getD a []).getD b 0 = (xss.getD a [])[b] := by rw [List.getD, List.getElem?_eq_getElem h]; rfl
  rw [List.take_add_one, List.getElem?_eq_getElem h, List.append_assoc, e]
  rfl
theorem ahead_row (xss : List (List Int)) (a : Nat) : ahead xss (a + 1) 0 = ahead xss a (xss.getD a []).length := by
  unfold ahead
  rw [List.take_zero, List.append_nil, List.take_length]
  by_cases h : a < xss.length
  · have e : xss.getD a [] = xss[a] := by simp [List.getD, h]
    rw [List.take_add_one, List.getElem?_eq_getElem h, List.flatten_append, e]
    simp only [Option.toList_some, List.flatten_cons, List.flatten_nil, List.append_nil]
  · rw [List.take_of_length_le (by omega), List.take_of_length_le (by omega)]
    simp [List.getD, show ¬ a < xss.length from h]
theorem ahead_all (xss : List (List Int)) : ahead xss xss.length 0 = xss.flatten := by simp [ahead]

/-- What has been counted. -/
def Counted (ss : List Int) (n : Nat) (xs : List Int) : Prop := ss.length = n ∧ ∀ s : Nat, s < n → ss.getD s 0 = (xs.count (s : Int) : Nat)
theorem Counted.start (n : Nat) : Counted (List.replicate n 0) n [] := ⟨by simp, fun s hs => by simp [List.getD, hs]⟩
theorem Counted.step {ss : List Int} {n : Nat} {xs : List Int} (h : Counted ss n xs) (x : Nat) (hx : x < n) : Counted (ss.set x (ss.getD x 0 + 1)) n (xs ++ [(x : Int)]) := by
  refine ⟨by rw [List.length_set]; exact h.1, fun s hs => ?_⟩
  rw [List.count_append]
  by_cases e : s = x
  · subst e
    rw [getD_set_eq (by rw [h.1]; exact hs), h.2 s hs]
    simp
  · rw [getD_set_ne (Ne.symm e), h.2 s hs]
    have : ([(x : Int)]).count (s : Int) = 0 := by
      rw [List.count_singleton]
      simp
      omega
    rw [this]
    simp
end Go.Proofs.Ytcgiimgdcamkiaa
