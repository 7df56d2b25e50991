/-
  Small laws on whole blocks of memory: what a block known whole gives cell by cell, and what a store, a new block and a draw leave of it. No program is named here.
-/
import Derived.WalkKit
import Derived.WalkSpells
import Derived.WalkLawsBesides
import Derived.Lib.Hide
namespace Go.Proofs.Ytcgiimgdcamkiaa
open Go.RowKit

/-- Block b holds exactly these cells, and none of them is frozen. -/
def Blk (w : World) (b : Nat) (vs : List Value) (t : TypeId) : Prop := w.heap[b]? = some (.cells vs.toArray t (0, 0))

theorem Blk.lt {w : World} {b : Nat} {vs : List Value} {t : TypeId} (h : Blk w b vs t) : b < w.heap.size := (Array.getElem?_eq_some_iff.1 h).1
theorem Blk.cell {w : World} {b : Nat} {vs : List Value} {t : TypeId} (h : Blk w b vs t) {o : Nat} {v : Value} (hv : vs[o]? = some v) : w.cell? ⟨b, o, none⟩ = some v := by
  unfold Blk at h; simp [World.cell?, h, hv]
theorem Blk.froz {w : World} {b : Nat} {vs : List Value} {t : TypeId} (h : Blk w b vs t) (o : Nat) : w.frozen? ⟨b, o, none⟩ = false := by
  unfold Blk at h; simp [World.frozen?, h]
theorem Blk.set {w : World} {b : Nat} {vs : List Value} {t : TypeId} (h : Blk w b vs t) (o : Nat) (v : Value) : Blk (w.setCell ⟨b, o, none⟩ v) b (vs.set o v) t := by
  unfold Blk at *; simp [World.setCell, Array.getElem?_modify, h]
theorem Blk.ne {w : World} {b : Nat} {vs : List Value} {t : TypeId} (h : Blk w b vs t) (a : Addr) (v : Value) (hn : b ≠ a.block) : Blk (w.setCell a v) b vs t := by
  unfold Blk at *; rw [Below.heap_setCell _ _ _ _ hn]; exact h
theorem Blk.alloc {w : World} {b : Nat} {vs : List Value} {t : TypeId} (h : Blk w b vs t) (o : Obj) : Blk (w.alloc o) b vs t := by
  have hl := h.lt
  unfold Blk at *; rw [Below.heap_alloc _ _ _ hl]; exact h
theorem Blk.new (w : World) (vs : List Value) (t : TypeId) : Blk (w.alloc (.cells vs.toArray t)) w.heap.size vs t := by
  unfold Blk; exact heap_alloc_new w _
theorem Blk.drew {w : World} {b : Nat} {vs : List Value} {t : TypeId} (h : Blk w b vs t) : Blk w.drew b vs t := h

/-- Of the blocks that there were only those of the list may have been written. -/
structure Only (S : List Nat) (w w' : World) : Prop where
  os : w'.os = w.os
  tape : w'.tape = w.tape
  output : w'.output = w.output
  size : w.heap.size ≤ w'.heap.size
  block : ∀ k, k < w.heap.size → k ∉ S → w'.heap[k]? = w.heap[k]?

theorem Only.refl (S : List Nat) (w : World) : Only S w w := ⟨rfl, rfl, rfl, Nat.le_refl _, fun _ _ _ => rfl⟩
theorem Only.trans {S : List Nat} {a b c : World} (h : Only S a b) (k : Only S b c) : Only S a c :=
  ⟨k.os.trans h.os, k.tape.trans h.tape, k.output.trans h.output, Nat.le_trans h.size k.size, fun i hi hs => (k.block i (Nat.lt_of_lt_of_le hi h.size) hs).trans (h.block i hi hs)⟩
theorem Only.mono {S T : List Nat} {w w' : World} (h : Only S w w') (hs : ∀ k, k < w.heap.size → k ∈ S → k ∈ T) : Only T w w' :=
  ⟨h.os, h.tape, h.output, h.size, fun k hk hT => h.block k hk (fun hS => hT (hs k hk hS))⟩
/-- Blocks that were not there need not be named. -/
theorem Only.drop {S T : List Nat} {w w' : World} (h : Only S w w') (hs : ∀ k, k ∈ S → w.heap.size ≤ k ∨ k ∈ T) : Only T w w' :=
  h.mono fun k hk hS => by rcases hs k hS with h1 | h1 <;> first | exact h1 | omega
/-- What was not there when the call began may be written. -/
theorem Only.behind {S T : List Nat} {w a b : World} (h1 : Only T w a) (h2 : Only S a b) (hs : ∀ k, k ∈ S → w.heap.size ≤ k ∨ k ∈ T) : Only T w b :=
  (Only.trans (S := S ++ T) (h1.mono (by simp +contextual)) (h2.mono (by simp +contextual))).drop (fun k hk => by
    rcases List.mem_append.1 hk with h | h
    · exact hs k h
    · exact Or.inr h)
theorem Only.drew {S : List Nat} {a w : World} (h : Only S a w) : Only S a w.drew := ⟨h.os, h.tape, h.output, h.size, h.block⟩
theorem Only.drewN {S : List Nat} {a w : World} (h : Only S a w) (n : Nat) : Only S a (w.drewN n) := ⟨h.os, h.tape, h.output, h.size, h.block⟩
theorem Only.alloc {S : List Nat} {a w : World} (h : Only S a w) (o : Obj) : Only S a (w.alloc o) :=
  h.trans ⟨rfl, rfl, rfl, by simp, fun k hk _ => Below.heap_alloc _ _ _ hk⟩
theorem Only.setCell {S : List Nat} {a w : World} (h : Only S a w) {p : Addr} (hp : p.block ∈ S ∨ a.heap.size ≤ p.block) (u : Value) : Only S a (w.setCell p u) := by
  refine ⟨h.os, h.tape, h.output, by simpa [World.setCell] using h.size, fun k hk hs => ?_⟩
  rw [Below.heap_setCell _ _ _ _ (by rintro rfl; rcases hp with hp | hp <;> first | exact hs hp | omega)]
  exact h.block k hk hs
theorem Only.blk {S : List Nat} {w w' : World} (h : Only S w w') {b : Nat} {vs : List Value} {t : TypeId} (hb : Blk w b vs t) (hs : b ∉ S) : Blk w' b vs t := by
  have hl := hb.lt
  unfold Blk at *; rw [h.block b hl hs]; exact hb
theorem Only.below {S : List Nat} {w w' : World} (h : Only S w w') {B : Nat} (hB : B ≤ w.heap.size) (hs : ∀ k, k ∈ S → B ≤ k) : Below B w w' :=
  ⟨h.os, h.tape, h.output, h.size, fun k hk => h.block k (by omega) (fun hS => by have := hs k hS; omega)⟩
theorem Only.of_below {B : Nat} {w w' : World} (h : Below B w w') (hB : w.heap.size ≤ B) (S : List Nat) : Only S w w' :=
  ⟨h.os, h.tape, h.output, h.size, fun k hk _ => h.block k (by omega)⟩
theorem Only.grown {S : List Nat} {a w w' : World} (h : Only S a w) {row : Option Nat} (hg : w.grownBy w' row) (hr : ∀ k, row = some k → k ∈ S ∨ a.heap.size ≤ k) : Only S a w' :=
  ⟨hg.os.trans h.os, hg.tape.trans h.tape, hg.output.trans h.output, Nat.le_trans h.size hg.size, fun k hk hs =>
    (hg.block k (Nat.lt_of_lt_of_le hk h.size) (fun e => by rcases hr k e.symm with hp | hp <;> first | exact hs hp | omega)).trans (h.block k hk hs)⟩

/-- The row of these cells, behind a name that the walk does not open. -/
def rowA (vs : List Value) : Array Value := vs.toArray
theorem Blk.newRow (w : World) (vs : List Value) (t : TypeId) : Blk (w.alloc (.cells (rowA vs) t)) w.heap.size vs t := Blk.new w vs t
theorem madeCells_row (z : Value) (n : Nat) : madeCells #[z] n = rowA (List.replicate n z) := by
  unfold rowA; rw [← toList_madeCells_one]

/-- 'make' of so many elements of one cell each: the run, the world written out. -/
theorem run_make_row {P : Program} (t e : TypeId) (i : TypeInfo) (z : Value) (bytes : Nat) (ht : P.underlying t = some (.slice e)) (hi : P.info? e = some i) (hz : i.zero = some z) (hs : i.size = 1) (hby : i.bytes = bytes) (hzc : z.cells = #[z])
    (kl kc : IntKind) (n : Int) (h0 : 0 ≤ n) (hb : (bytes : Int) * n ≤ 281474976710656) (h63 : n ≤ 9223372036854775807) (w : World) :
    (Instr.makeSlice t (.int kl n) (.int kc n)).run P w = .ok (.slice (some ⟨w.heap.size, 0, none⟩) n.toNat n.toNat) (w.alloc (.cells (rowA (List.replicate n.toNat z)) e)) := by
  rw [run_make w t e i z ht hi hz kl kc n n h0 (Int.le_refl _) (by rw [hby]; exact hb) h63, hs, hzc, Nat.mul_one, madeCells_row]

theorem wraps_i64 (n : Int) (h₀ : 0 ≤ n) (h₁ : n < 2 ^ 63) : IntKind.i64.wrap n = n := by rw [IntKind.wrap_i64]; omega
theorem and_6 (x : Int) (h₀ : 0 ≤ x) (h₁ : x < 9223372036854775808) : bits .and .i64 x 63 = x % 64 := bits_mask .i64 63 (by decide) wraps_i64 6 (by decide) x h₀ h₁
theorem and_30 (x : Int) (h₀ : 0 ≤ x) (h₁ : x < 9223372036854775808) : bits .and .i64 x 1073741823 = x % 1073741824 := bits_mask .i64 63 (by decide) wraps_i64 30 (by decide) x h₀ h₁
theorem and_32 (x : Int) (h₀ : 0 ≤ x) (h₁ : x < 9223372036854775808) : bits .and .i64 x 4294967295 = x % 4294967296 := bits_mask .i64 63 (by decide) wraps_i64 32 (by decide) x h₀ h₁
theorem or_6 (x y : Int) (hx₀ : 0 ≤ x) (hx₁ : x < 72057594037927936) (hy₀ : 0 ≤ y) (hy : y < 64) : bits .or .i64 (x * 64) y = x * 64 + y :=
  bits_join .i64 63 (by decide) wraps_i64 6 (x * 64) y (by omega) (by omega) (by omega) hy₀ (by omega) (by omega)

/-- Two blocks of different kinds are not one. -/
theorem Blk.ty {w : World} {a b : Nat} {vs us : List Value} {t s : TypeId} (ha : Blk w a vs t) (hb : Blk w b us s) (h : t ≠ s) : a ≠ b := by
  rintro rfl
  unfold Blk at ha hb
  rw [ha] at hb
  simp only [Option.some.injEq, Obj.cells.injEq] at hb
  exact h hb.2.1

theorem addr_zero (g j : Nat) : (⟨g, 0, none⟩ : Addr).add j = ⟨g, j, none⟩ := by unfold Addr.add; split <;> simp_all
end Go.Proofs.Ytcgiimgdcamkiaa
