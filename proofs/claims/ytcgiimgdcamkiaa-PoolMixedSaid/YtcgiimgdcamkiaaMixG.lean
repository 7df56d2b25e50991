/-
  PoolMixed: the state that the turns begin with; what a worker holds, less one; the last look. Plain laws: no walk.
-/
import Derived.Test.YtcgiimgdcamkiaaMixF
import Derived.Test.YtcgiimgdcamkiaaMixX
namespace Go.Proofs.Ytcgiimgdcamkiaa
open Go.RowKit
set_option linter.unusedVariables false

theorem mid_start {w w2 w3 : World} {L : PoolL} {cs : List Int} {n wb hb hc : Nat} (q1 : L.base = 3) (q2 : L.n = n) (q3 : L.W = 4) (q4 : w.heap.size ≤ L.pp ∧ w.heap.size ≤ L.nb ∧ w.heap.size ≤ L.ob ∧ w.heap.size ≤ L.mb ∧ w.heap.size ≤ L.cb ∧ w.heap.size ≤ L.lo)
    (hP2 : PoolSt w2 L (1 + n) 0 cs (List.range' 0 n) (List.replicate 4 nilS) (List.replicate 4 []) (nodesZ n)) (hO2 : Only [] w w2) (hO3 : Only [] w2 w3) (hwb : w2.heap.size ≤ wb) (hB3 : Blk w3 wb [.slice (some ⟨hb, 0, none⟩) n hc] 77)
    (hI3 : Ints w3 w2.heap.size (.slice (some ⟨hb, 0, none⟩) n hc) (List.replicate n (-1))) (hn : 1 ≤ n ∧ n ≤ 12) :
    MixFix w L ⟨wb, hb, hc, w3.heap.size, w3.heap.size + 1, n⟩ ∧ Mid w ((w3.alloc (.cells #[.pointer none, .pointer none, .pointer none, .pointer none] 82)).alloc (.cells #[.slice none 0 0, .slice none 0 0, .slice none 0 0, .slice none 0 0] 49)) L ⟨wb, hb, hc, w3.heap.size, w3.heap.size + 1, n⟩ (nodesZ n) (1 + n) (List.range' 0 n) (List.replicate 4 []) (List.replicate n (-1)) [nilP, nilP, nilP, nilP] [nilS, nilS, nilS, nilS] [[], [], [], []] (fun _ => True) ∧
    Free n (List.replicate n (-1)) (allOf (List.range' 0 n) (List.replicate 4 [])) ∧ HoldsAll n (List.replicate n (-1)) [[], [], [], []] := by
  have e2 := hO2.size
  have e3 := hO3.size
  have hlw := hP2.lw
  obtain ⟨_, g1, g2⟩ := hI3.blk3 (g := hb) rfl
  have hA : Blk ((w3.alloc (.cells #[.pointer none, .pointer none, .pointer none, .pointer none] 82)).alloc (.cells #[.slice none 0 0, .slice none 0 0, .slice none 0 0, .slice none 0 0] 49)) w3.heap.size [nilP, nilP, nilP, nilP] 82 := (Blk.new w3 [nilP, nilP, nilP, nilP] 82).alloc _
  have hX : Blk ((w3.alloc (.cells #[.pointer none, .pointer none, .pointer none, .pointer none] 82)).alloc (.cells #[.slice none 0 0, .slice none 0 0, .slice none 0 0, .slice none 0 0] 49)) (w3.heap.size + 1) [nilS, nilS, nilS, nilS] 49 := by
    have := Blk.new (w3.alloc (.cells #[.pointer none, .pointer none, .pointer none, .pointer none] 82)) [nilS, nilS, nilS, nilS] 49
    rw [World.size_alloc] at this
    exact this
  have hO4 := (((Only.refl [] w3).alloc (.cells #[.pointer none, .pointer none, .pointer none, .pointer none] 82))).alloc (.cells #[.slice none 0 0, .slice none 0 0, .slice none 0 0, .slice none 0 0] 49)
  generalize (w3.alloc (.cells #[.pointer none, .pointer none, .pointer none, .pointer none] 82)).alloc (.cells #[.slice none 0 0, .slice none 0 0, .slice none 0 0, .slice none 0 0] 49) = w4 at *
  have hgetS : ∀ k : Nat, k < 4 → [nilS, nilS, nilS, nilS].getD k nilS = nilS := by
    intro k hk
    match k, hk with
    | 0, _ => rfl
    | 1, _ => rfl
    | 2, _ => rfl
    | 3, _ => rfl
  have hgetP : ∀ k : Nat, k < 4 → [nilP, nilP, nilP, nilP].getD k nilP = nilP := by
    intro k hk
    match k, hk with
    | 0, _ => rfl
    | 1, _ => rfl
    | 2, _ => rfl
    | 3, _ => rfl
  have hgetX : ∀ k : Nat, k < 4 → ([[], [], [], []] : List (List Int)).getD k [] = [] := by
    intro k hk
    match k, hk with
    | 0, _ => rfl
    | 1, _ => rfl
    | 2, _ => rfl
    | 3, _ => rfl
  have hgetO : ∀ k : Nat, k < 4 → (List.replicate 4 nilS).getD k nilS = nilS := by
    intro k hk
    match k, hk with
    | 0, _ => rfl
    | 1, _ => rfl
    | 2, _ => rfl
    | 3, _ => rfl
  refine ⟨⟨q2, q3, q4, by show w.heap.size ≤ wb; omega, by show w.heap.size ≤ hb; omega, by show w.heap.size ≤ w3.heap.size; omega, by show w.heap.size ≤ w3.heap.size + 1; omega, hn.1, hn.2⟩,
    ⟨0, cs, List.replicate 4 nilS, {
      pool := hP2.only (hO3.trans hO4) (by simp)
      world := hO4.blk hB3 (by simp)
      hold := (hI3.only hO4 (by simp)).mono hlw
      acts := hA
      holds := hX
      plen := rfl
      hlen := rfl
      xlen := rfl
      hints := fun k hk => by rw [hgetS k hk, hgetX k hk]; exact Ints.nil _ _
      ownh := fun i hi => by rw [hgetO i (by omega)]; simp [Value.ownBlock]
      hvh := fun k hk => by rw [hgetS k hk]; simp [Value.ownBlock]
      hvo := fun i k g hi hk hg => by rw [hgetS k hk]; simp [Value.ownBlock]
      hvv := fun j k g hj hk _ hg => by rw [hgetS k hk]; simp [Value.ownBlock]
      only := (hO2.trans hO3).trans hO4 }, fun k hk _ => Or.inl (hgetP k hk)⟩, ?_, fun k hk => ?_⟩
  · have e : allOf (List.range' 0 n) (List.replicate 4 []) = intsOf (List.range' 0 n) := by simp [allOf, List.replicate]
    rw [e]
    exact Free.start n
  · rw [hgetX k hk]
    exact ⟨List.nodup_nil, fun x hx => by simp at hx⟩

/-- An act begins: the law's own block is made last. -/
theorem Mid.begun {w0 wr : World} {L : PoolL} {M : MixL} {ns : List Value} {st : Int} {stk : List Nat} {os : List (List Int)} {hd : List Int} {ps hvs : List Value} {hxs : List (List Int)}
    (h : Mid w0 wr L M ns st stk os hd ps hvs hxs (fun _ => True)) (fx : MixFix w0 L M) {i : Nat} (hi : i < 4) {ab : Nat} {give : Bool} {slot from_ s : Int} (hab : w0.heap.size ≤ ab) (ha : Blk wr ab (actP L.pp i give s 0 0 0) 108)
    (hg : give = true → s = slot ∧ 0 ≤ s ∧ s < M.n ∧ hd.getD s.toNat 0 = i ∧ s ∉ hxs.getD i []) (hg' : give = false → s = -1) :
    Mid w0 ((wr.setCell ⟨M.pb, i, none⟩ (.pointer (some ⟨wr.heap.size, 0, none⟩))).alloc (.cells #[.pointer (some ⟨ab, 0, none⟩), .bool give, .int .i64 slot, .int .i64 from_] 86)) L M ns st stk os hd (ps.set i (.pointer (some ⟨wr.heap.size, 0, none⟩))) hvs hxs (fun _ => True) := by
  rw [← World.setCell_alloc_past _ _ _ _ h.blks.2.2.1.lt]
  exact (h.fresh ((Only.refl [] wr).alloc _)).begin_ fx hi h.only0.size hab (Blk.new wr [.pointer (some ⟨ab, 0, none⟩), .bool give, .int .i64 slot, .int .i64 from_] 86) (ha.alloc _) hg hg'

/-- The numbers of a slice, one cell for each. -/
theorem Ints.reads {w : World} {lo : Nat} {a : Option Addr} {l c : Nat} {xs : List Int} (h : Ints w lo (.slice a l c) xs) : (a = none ∧ l = 0 ∧ c = 0 ∧ xs = []) ∨ ∃ g, a = some ⟨g, 0, none⟩ ∧ lo ≤ g ∧ g < w.heap.size ∧ l = xs.length ∧ xs.length ≤ c ∧ ∀ j, j < xs.length → w.cell? ⟨g, j, none⟩ = some (.int .i64 (xs.getD j 0)) := by
  rcases h.form with ⟨h1, h2⟩ | ⟨g, cap, h1, q1, q2, q3, _, _, hc⟩
  · simp only [Value.slice.injEq] at h1
    exact Or.inl ⟨h1.1, h1.2.1, h1.2.2, h2⟩
  · simp only [Value.slice.injEq] at h1
    obtain ⟨rfl, rfl, rfl⟩ := h1
    exact Or.inr ⟨g, rfl, q1, q2, rfl, q3, hc⟩

/-- A list's head and tail, as sources of an append. -/
theorem Ints.cutL {w : World} {lo g c : Nat} {xs : List Int} (h : Ints w lo (.slice (some ⟨g, 0, none⟩) xs.length c) xs) {j : Nat} (hj : j ≤ xs.length) : Src w (some ⟨g, 0, none⟩) (xs.take j) := by
  rcases h.reads with ⟨e, _⟩ | ⟨g', e, _, _, _, _, hc⟩
  · cases e
  · simp only [Option.some.injEq, Addr.mk.injEq, and_true] at e
    subst e
    refine ⟨_, rfl, fun k hk => ?_⟩
    rw [List.length_take] at hk
    rw [addr_zero, hc k (by omega)]
    simp [List.getD, show k < j by omega]
theorem Ints.cutR {w : World} {lo g c : Nat} {xs : List Int} (h : Ints w lo (.slice (some ⟨g, 0, none⟩) xs.length c) xs) {j : Nat} (hj : j ≤ xs.length) : Src w (if c = j then some ⟨g, 0, none⟩ else some ⟨g, j, none⟩) (xs.drop j) := by
  rcases h.reads with ⟨e, _⟩ | ⟨g', e, _, _, _, q4, hc⟩
  · cases e
  · simp only [Option.some.injEq, Addr.mk.injEq, and_true] at e
    subst e
    by_cases hcj : c = j
    · rw [if_pos hcj]
      refine ⟨_, rfl, fun k hk => ?_⟩
      rw [List.length_drop] at hk
      omega
    · rw [if_neg hcj]
      refine ⟨_, rfl, fun k hk => ?_⟩
      rw [List.length_drop] at hk
      have e2 : (⟨g, j, none⟩ : Addr).add k = ⟨g, j + k, none⟩ := by unfold Addr.add; split <;> simp_all
      rw [e2, hc (j + k) (by omega)]
      simp [List.getD, List.getElem?_drop]
theorem own_at {w : World} {v : Value} {o : Obj} {n c : Nat} (h : v.ownBlock = (Value.slice (some ⟨w.heap.size, 0, none⟩) n c).ownBlock ∨ v.ownBlock = some (w.drew.alloc o).heap.size) : ∃ g, v.ownBlock = some g ∧ w.heap.size ≤ g := by
  rcases h with e | e
  · exact ⟨_, e, Nat.le_refl _⟩
  · exact ⟨_, e, by rw [World.size_alloc]; exact Nat.le_succ _⟩

/-- All that is free is found once, in the pool alone. -/
theorem perm_all {stk : List Nat} {os : List (List Int)} {a b c d : List Int} (h : os = [a, b, c, d]) : ([a, b, c, d, intsOf stk].flatten).Perm (allOf stk os) := by
  subst h
  have e : [a, b, c, d, intsOf stk].flatten = [a, b, c, d].flatten ++ intsOf stk := by simp
  rw [e]
  exact List.perm_append_comm

theorem list4 {α : Type} {l : List α} (h : l.length = 4) : ∃ a b c d, l = [a, b, c, d] := by
  match l, h with
  | [a, b, c, d], _ => exact ⟨a, b, c, d, rfl⟩
end Go.Proofs.Ytcgiimgdcamkiaa
