/-
  Four workers over one Inc: the state at a round's head, and what a Step makes of it. Plain laws: no walk.
-/
import Derived.Test.YtcgiimgdcamkiaaRunI
import Derived.Test.YtcgiimgdcamkiaaArgs
namespace Go.Proofs.Ytcgiimgdcamkiaa
open Go.RowKit
set_option linter.unusedVariables false

/-- What a worker is about: nothing, or an act that is not over. -/
def SlotOK (w : World) (L : IncL) (c : Int) (k : Nat) (i : Nat) (p : Value) (ci : Int) (xi : Value) : Prop :=
  p = .pointer none ∨ ∃ ab xa xl xc xs rd had, p = .pointer (some ⟨ab, 0, none⟩) ∧ Blk w ab (actI L.ib i (.slice xa xl xc) ci rd had false false) 101 ∧ Ints w L.lo (.slice xa xl xc) xs ∧ Ints w L.lo xi xs ∧ xs.length = 2 ∧
    0 ≤ ci ∧ ci < 1000 ∧ L.mb < ab ∧ (rd = true → ci < had / 64 ∧ 0 ≤ had ∧ had < 9223372036854775808 ∧ (had = c * 64 + k ∨ (k : Int) / 2 ≠ i))

/-- A block that may be written without harm to worker j. -/
def Harmless (w : World) (L : IncL) (j b : Nat) : Prop := w.heap.size ≤ b ∨ ∃ vs t, Blk w b vs t ∧ (t = 101 → vs[1]? ≠ some (.int .i64 j)) ∧ (t = 3 → b < L.lo)

theorem SlotOK.keep {w w' : World} {L : IncL} {c : Int} {k j : Nat} {p : Value} {cj : Int} {xj : Value} (h : SlotOK w L c k j p cj xj) {S : List Nat} (hO : Only S w w') (hS : ∀ b, b ∈ S → Harmless w L j b) : SlotOK w' L c k j p cj xj := by
  rcases h with rfl | ⟨ab, xa, xl, xc, xs, rd, had, rfl, ha, hx, hy, r⟩
  · exact Or.inl rfl
  have hI : ∀ b, b ∈ S → b < L.lo ∨ w.heap.size ≤ b ∨ ∃ vs t, Blk w b vs t ∧ t ≠ 3 := by
    intro b hb
    rcases hS b hb with h1 | ⟨vs, t, h1, h2, h3⟩
    · exact Or.inr (Or.inl h1)
    · by_cases ht : t = 3
      · exact Or.inl (h3 ht)
      · exact Or.inr (Or.inr ⟨vs, t, h1, ht⟩)
  refine Or.inr ⟨ab, xa, xl, xc, xs, rd, had, rfl, hO.blk ha ?_, hx.only hO hI, hy.only hO hI, r⟩
  intro hab
  have hl := ha.lt
  rcases hS ab hab with h1 | ⟨vs, t, h1, h2, h3⟩
  · omega
  · have e : vs = actI L.ib j (.slice xa xl xc) cj rd had false false ∧ t = 101 := by
      unfold Blk at h1 ha
      rw [ha] at h1
      simp only [Option.some.injEq, Obj.cells.injEq] at h1
      exact ⟨by have := h1.1; simp at this; exact this.symm, h1.2.1.symm⟩
    obtain ⟨rfl, rfl⟩ := e
    exact h2 rfl rfl

/-- What a Step of worker i leaves. -/
def MixCase (i : Nat) (ci c : Int) (k : Nat) (X xs : List Int) (over taken rd : Bool) (had c' : Int) (k' : Nat) (X' : List Int) : Prop :=
  (over = false ∧ taken = false ∧ c' = c ∧ k' = k ∧ X' = X ∧ (rd = true → ci < had / 64 ∧ 0 ≤ had ∧ had < 9223372036854775808 ∧ (had = c * 64 + k ∨ (k : Int) / 2 ≠ i))) ∨
  (over = true ∧ taken = true ∧ ci < c ∧ c' = ci ∧ X' = xs ∧ (k' : Int) / 2 = i) ∨ (over = true ∧ taken = false ∧ c ≤ ci ∧ c' = c ∧ k' = k ∧ X' = X)
def StepMix (w : World) (L : IncL) (ab i : Nat) (xv : Value) (ci st c : Int) (k : Nat) (X xs : List Int) (e : Ending) (w' : World) : Prop :=
  ∃ over taken rd had c' k' X', e = .returned (.bool over) ∧ Blk w' ab (actI L.ib i xv ci rd had over taken) 101 ∧ IncSt w' L (st + 1) c' k' X' ∧ Only [ab, L.mb, L.cb, L.pb] w w' ∧ MixCase i ci c k X xs over taken rd had c' k' X'

theorem stepMix (L : IncL) (i : Nat) (hi : i < 4) (hW : L.W = 4) (ab : Nat) (xa : Option Addr) (xl xc : Nat) (ci : Int) (xs : List Int) (rd : Bool) (had st c : Int) (k : Nat) (X : List Int) (w : World)
    (ha : Blk w ab (actI L.ib i (.slice xa xl xc) ci rd had false false) 101) (hI : IncSt w L st c k X) (hst : 0 ≤ st ∧ st < 9223372036854775000) (hy : Ints w L.lo (.slice xa xl xc) xs) (hxl : xs.length = 2) (hc : 0 ≤ ci ∧ ci < 1000)
    (hr : rd = true → ci < had / 64 ∧ 0 ≤ had ∧ had < 9223372036854775808 ∧ (had = c * 64 + k ∨ (k : Int) / 2 ≠ i)) :
    Calls Try.prog 18 #[.pointer (some ⟨ab, 0, none⟩)] w (StepMix w L ab i (.slice xa xl xc) ci st c k X xs) := by
  have hb := hI.bounds
  cases rd with
  | false =>
    refine (stepA_look L ab i ci had false _ st c k X w ha hI (by omega)).mono ?_
    rintro e w' ⟨rfl, hA, hI', hO⟩
    by_cases h : c ≤ ci
    · rw [show decide (c ≤ ci) = true from decide_eq_true h] at *
      exact ⟨true, false, true, _, c, k, X, rfl, hA, hI', hO, Or.inr (Or.inr ⟨rfl, rfl, h, rfl, rfl, rfl⟩)⟩
    · rw [show decide (c ≤ ci) = false from decide_eq_false h] at *
      exact ⟨false, false, true, _, c, k, X, rfl, hA, hI', hO, Or.inl ⟨rfl, rfl, rfl, rfl, rfl, fun _ => ⟨by omega, by omega, by omega, Or.inl rfl⟩⟩⟩
  | true =>
    obtain ⟨h1, h2, h3, h4⟩ := hr rfl
    by_cases he : had = c * 64 + k
    · subst he
      have hf := freeP_bd i (c * 64 + k) (by omega)
      refine (stepA_take L ab i ci false xa xl xc xs st c k X w ha hI (by omega) hy (by omega) (by rw [hW]; omega) (by omega)).mono ?_
      rintro e w' ⟨rfl, hA, hI', hO⟩
      exact ⟨true, true, false, _, ci, _, xs, rfl, hA, hI', hO, Or.inr (Or.inl ⟨rfl, rfl, by omega, rfl, rfl, by omega⟩)⟩
    · have h5 : (k : Int) / 2 ≠ i := by rcases h4 with h | h <;> first | exact absurd h he | exact h
      have hf := freeP_bd i had (by omega)
      refine (stepA_miss L ab i ci had false xa xl xc st c k X w ha hI (by omega) (by rw [hW]; omega) (by omega) he ⟨h2, h3⟩ (by omega)).mono ?_
      rintro e w' ⟨rfl, hA, hI', hO⟩
      exact ⟨false, false, false, _, c, k, X, rfl, hA, hI', hO, Or.inl ⟨rfl, rfl, rfl, rfl, rfl, fun h => by cases h⟩⟩

/-- The state at a round's head: the Inc's, the reference's, and the four workers'. -/
def MixSt (w : World) (L : IncL) (st c : Int) (k : Nat) (X : List Int) (wb ba bc bx : Nat) (ps : List Value) (cl : List Int) (xl : List Value) : Prop :=
  IncSt w L st c k X ∧ X.length = 2 ∧ (∃ vX, Blk w wb [.int .i64 c, vX] 45 ∧ Ints w L.lo vX X) ∧ Blk w ba ps 47 ∧ Blk w bc (cl.map (Value.int .i64)) 48 ∧ Blk w bx xl 49 ∧ ps.length = 4 ∧ cl.length = 4 ∧ xl.length = 4 ∧
    ∀ j, j < 4 → SlotOK w L c k j (ps.getD j (.pointer none)) (cl.getD j 0) (xl.getD j (.slice none 0 0))

/-- A pair of numbers a turn: a list of turns that came in. -/
def ArgT (w : World) (v : Value) (m : Nat) : Prop :=
  ∃ a cap, v = .slice a m cap ∧ (0 < m → ∃ b off, a = some ⟨b, off, none⟩ ∧ ∀ j, j < m → ∃ x y : Int, w.cell? ⟨b, off + j * 2, none⟩ = some (.int .i64 x) ∧ w.cell? ⟨b, off + j * 2 + 1, none⟩ = some (.int .i64 y))
theorem ArgT.only {w w' : World} {v : Value} {m : Nat} (h : ArgT w v m) (hO : Only [] w w') : ArgT w' v m := by
  obtain ⟨a, cap, rfl, hc⟩ := h
  refine ⟨a, cap, rfl, fun hz => ?_⟩
  obtain ⟨b, off, rfl, hd⟩ := hc hz
  refine ⟨b, off, rfl, fun j hj => ?_⟩
  obtain ⟨x, y, h1, h2⟩ := hd j hj
  have hl := World.block_lt_of_cell? w _ h1
  have hb := hO.block b hl (by simp)
  exact ⟨x, y, (World.cell?_of_block (a := ⟨b, off + j * 2, none⟩) hb).trans h1, (World.cell?_of_block (a := ⟨b, off + j * 2 + 1, none⟩) hb).trans h2⟩

theorem MixSt.only {w w' : World} {L : IncL} {st c : Int} {k : Nat} {X : List Int} {wb ba bc bx : Nat} {ps : List Value} {cl : List Int} {xl : List Value} (h : MixSt w L st c k X wb ba bc bx ps cl xl) (hO : Only [] w w') : MixSt w' L st c k X wb ba bc bx ps cl xl := by
  obtain ⟨h1, h2, ⟨vX, h3, h4⟩, h5, h6, h7, h8, h9, h10, h11⟩ := h
  exact ⟨h1.only hO (by simp), h2, ⟨vX, hO.blk h3 (by simp), h4.only hO (by simp)⟩, hO.blk h5 (by simp), hO.blk h6 (by simp), hO.blk h7 (by simp), h8, h9, h10, fun j hj => (h11 j hj).keep hO (by simp)⟩

theorem SlotOK.turn {w : World} {L : IncL} {c c' : Int} {k k' j i : Nat} {p : Value} {cj : Int} {xj : Value} (h : SlotOK w L c k j p cj xj) (hji : j ≠ i) (hck : (c' = c ∧ k' = k) ∨ (k' : Int) / 2 = i) : SlotOK w L c' k' j p cj xj := by
  rcases hck with ⟨rfl, rfl⟩ | hk
  · exact h
  · rcases h with rfl | ⟨ab, xa, xl, xc, xs, rd, had, rfl, ha, hx, hy, r1, r2, r3, r5, r4⟩
    · exact Or.inl rfl
    · refine Or.inr ⟨ab, xa, xl, xc, xs, rd, had, rfl, ha, hx, hy, r1, r2, r3, r5, fun hr => ?_⟩
      obtain ⟨h1, h2, h3, _⟩ := r4 hr
      exact ⟨h1, h2, h3, Or.inr (by omega)⟩

theorem getD_set_eq {α : Type} (l : List α) (i : Nat) (v d : α) (h : i < l.length) : (l.set i v).getD i d = v := by simp [List.getD, h]
theorem getD_set_ne {α : Type} (l : List α) (i j : Nat) (v d : α) (h : j ≠ i) : (l.set i v).getD j d = l.getD j d := by simp [List.getD, List.getElem?_set_ne (Ne.symm h)]

theorem MixSt.offer {w w' : World} {L : IncL} {st c : Int} {k : Nat} {X : List Int} {wb ba bc bx : Nat} {ps : List Value} {cl : List Int} {xl : List Value} (h : MixSt w L st c k X wb ba bc bx ps cl xl) {i : Nat} (hi : i < 4) {ab : Nat} {xa : Option Addr} {xl' xc : Nat} {ci : Int} {sl : Value} {xs : List Int}
    (hc : 0 ≤ ci ∧ ci < 1000) (hO : Only [bc, bx, ba] w w') (hC : Blk w' bc ((cl.set i ci).map (Value.int .i64)) 48) (hx : Blk w' bx (xl.set i sl) 49) (hA : Blk w' ba (ps.set i (.pointer (some ⟨ab, 0, none⟩))) 47)
    (hab : Blk w' ab (actI L.ib i (.slice xa xl' xc) ci false 0 false false) 101) (hy : Ints w' L.lo (.slice xa xl' xc) xs) (hz : Ints w' L.lo sl xs) (hxs : xs.length = 2) (hmb : L.mb < ab) :
    MixSt w' L st c k X wb ba bc bx (ps.set i (.pointer (some ⟨ab, 0, none⟩))) (cl.set i ci) (xl.set i sl) := by
  obtain ⟨h1, h2, ⟨vX, h3, h4⟩, h5, h6, h7, h8, h9, h10, h11⟩ := h
  have hS : ∀ b, b ∈ [bc, bx, ba] → ∃ vs t, Blk w b vs t ∧ t ≠ 91 ∧ t ≠ 3 ∧ t ≠ 93 ∧ t ≠ 29 ∧ t ≠ 101 := by
    intro b hb
    simp at hb
    rcases hb with rfl | rfl | rfl
    · exact ⟨_, _, h6, by decide, by decide, by decide, by decide, by decide⟩
    · exact ⟨_, _, h7, by decide, by decide, by decide, by decide, by decide⟩
    · exact ⟨_, _, h5, by decide, by decide, by decide, by decide, by decide⟩
  have hwb : wb ∉ [bc, bx, ba] := by
    have e1 := h3.ty h6 (by decide)
    have e2 := h3.ty h7 (by decide)
    have e3 := h3.ty h5 (by decide)
    simp [e1, e2, e3]
  refine ⟨h1.only hO (fun b hb => ?_), h2, ⟨vX, hO.blk h3 hwb, h4.only hO (fun b hb => ?_)⟩, hA, hC, hx, by simpa using h8, by simpa using h9, by simpa using h10, fun j hj => ?_⟩
  · obtain ⟨vs, t, q1, q2, q3, q4, q5, q6⟩ := hS b hb
    exact Or.inr ⟨vs, t, q1, q2, q3, q4, q5⟩
  · obtain ⟨vs, t, q1, q2, q3, q4, q5, q6⟩ := hS b hb
    exact Or.inr (Or.inr ⟨vs, t, q1, q3⟩)
  · by_cases hji : j = i
    · subst hji
      rw [getD_set_eq _ _ _ _ (by omega), getD_set_eq _ _ _ _ (by omega), getD_set_eq _ _ _ _ (by omega)]
      exact Or.inr ⟨ab, xa, xl', xc, xs, false, 0, rfl, hab, hy, hz, hxs, hc.1, hc.2, hmb, fun hr => by cases hr⟩
    · rw [getD_set_ne _ _ _ _ _ hji, getD_set_ne _ _ _ _ _ hji, getD_set_ne _ _ _ _ _ hji]
      refine (h11 j hj).keep hO (fun b hb => ?_)
      obtain ⟨vs, t, q1, q2, q3, q4, q5, q6⟩ := hS b hb
      exact Or.inr ⟨vs, t, q1, fun ht => absurd ht q6, fun ht => absurd ht q3⟩

/-- The other workers stand as they were when worker i has made a Step. -/
theorem MixSt.others {w w' : World} {L : IncL} {st c : Int} {k : Nat} {X : List Int} {wb ba bc bx : Nat} {ps : List Value} {cl : List Int} {xl : List Value} (h : MixSt w L st c k X wb ba bc bx ps cl xl) {i ab : Nat} {xv : Value} {ci had : Int} {rd : Bool}
    (ha : Blk w ab (actI L.ib i xv ci rd had false false) 101) (hO : Only [ab, L.mb, L.cb, L.pb] w w') :
    (∃ vX, Blk w' wb [.int .i64 c, vX] 45 ∧ Ints w' L.lo vX X) ∧ Blk w' ba ps 47 ∧ Blk w' bc (cl.map (Value.int .i64)) 48 ∧ Blk w' bx xl 49 ∧
    (∀ j, j < 4 → j ≠ i → SlotOK w' L c k j (ps.getD j (.pointer none)) (cl.getD j 0) (xl.getD j (.slice none 0 0))) ∧ ∀ v xs, Ints w L.lo v xs → Ints w' L.lo v xs := by
  obtain ⟨h1, h2, ⟨vX, h3, h4⟩, h5, h6, h7, h8, h9, h10, h11⟩ := h
  obtain ⟨cs, P, v, hM, hi, hp, _, _, _, _, _, _, _, _, _, _, _, r11, r12, _⟩ := id h1
  have hn : ∀ b vs t, Blk w b vs t → t ≠ 101 → t ≠ 91 → t ≠ 3 → t ≠ 29 → b ∉ [ab, L.mb, L.cb, L.pb] := by
    intro b vs t hb q1 q2 q3 q4
    have e1 := hb.ty ha q1
    have e2 := hM.notin hb q2 q3
    have e3 := hb.ty hp q4
    simp at e2 ⊢
    omega
  have hI : ∀ v xs, Ints w L.lo v xs → Ints w' L.lo v xs := by
    intro v xs hx
    refine hx.only hO (fun b hb => ?_)
    simp at hb
    rcases hb with rfl | rfl | rfl | rfl
    · exact Or.inr (Or.inr ⟨_, _, ha, by decide⟩)
    · exact Or.inl r11
    · exact Or.inl r12
    · exact Or.inr (Or.inr ⟨_, _, hp, by decide⟩)
  refine ⟨⟨vX, hO.blk h3 (hn _ _ _ h3 (by decide) (by decide) (by decide) (by decide)), hI _ _ h4⟩, hO.blk h5 (hn _ _ _ h5 (by decide) (by decide) (by decide) (by decide)), hO.blk h6 (hn _ _ _ h6 (by decide) (by decide) (by decide) (by decide)), hO.blk h7 (hn _ _ _ h7 (by decide) (by decide) (by decide) (by decide)), fun j hj hji => ?_, hI⟩
  refine (h11 j hj).keep hO (fun b hb => ?_)
  obtain ⟨_, _, x2, x3, x4, x5, x6, hm, hc⟩ := hM
  simp at hb
  rcases hb with rfl | rfl | rfl | rfl
  · refine Or.inr ⟨_, _, ha, fun _ => ?_, fun ht => absurd ht (by decide)⟩
    simp
    omega
  · exact Or.inr ⟨_, _, hm, fun ht => absurd ht (by decide), fun ht => absurd ht (by decide)⟩
  · exact Or.inr ⟨_, _, hc, fun ht => absurd ht (by decide), fun _ => r12⟩
  · exact Or.inr ⟨_, _, hp, fun ht => absurd ht (by decide), fun ht => absurd ht (by decide)⟩

/-- A Step that is not the act's last. -/
theorem MixSt.goesOn {w w' : World} {L : IncL} {st c : Int} {k : Nat} {X : List Int} {wb ba bc bx : Nat} {ps : List Value} {cl : List Int} {xl : List Value} (h : MixSt w L st c k X wb ba bc bx ps cl xl) {i : Nat} (hi : i < 4) {ab : Nat} {xa : Option Addr} {xl' xc : Nat} {xs : List Int} {rd rd' : Bool} {had had' : Int}
    (hp : ps.getD i (.pointer none) = .pointer (some ⟨ab, 0, none⟩)) (ha : Blk w ab (actI L.ib i (.slice xa xl' xc) (cl.getD i 0) rd had false false) 101) (hx : Ints w L.lo (.slice xa xl' xc) xs) (hy : Ints w L.lo (xl.getD i (.slice none 0 0)) xs) (hxs : xs.length = 2) (hc : 0 ≤ cl.getD i 0 ∧ cl.getD i 0 < 1000) (hmb : L.mb < ab)
    (hA : Blk w' ab (actI L.ib i (.slice xa xl' xc) (cl.getD i 0) rd' had' false false) 101) (hI : IncSt w' L (st + 1) c k X) (hO : Only [ab, L.mb, L.cb, L.pb] w w')
    (hr : rd' = true → cl.getD i 0 < had' / 64 ∧ 0 ≤ had' ∧ had' < 9223372036854775808 ∧ (had' = c * 64 + k ∨ (k : Int) / 2 ≠ i)) : MixSt w' L (st + 1) c k X wb ba bc bx ps cl xl := by
  obtain ⟨q1, q2, q3, q4, q5, q6⟩ := h.others ha hO
  obtain ⟨h1, h2, _, h5, h6, h7, h8, h9, h10, h11⟩ := h
  refine ⟨hI, h2, q1, q2, q3, q4, h8, h9, h10, fun j hj => ?_⟩
  by_cases hji : j = i
  · subst hji
    exact Or.inr ⟨ab, xa, xl', xc, xs, rd', had', hp, hA, q6 _ _ hx, q6 _ _ hy, hxs, hc.1, hc.2, hmb, hr⟩
  · exact q5 j hj hji

/-- An act's last Step, and the worker is free again. -/
theorem MixSt.done {w w1 w' : World} {L : IncL} {st c c' : Int} {k k' : Nat} {X X' : List Int} {wb ba bc bx : Nat} {ps : List Value} {cl : List Int} {xl : List Value} (h : MixSt w L st c k X wb ba bc bx ps cl xl) {i : Nat} (hi : i < 4) {ab : Nat} {xv : Value} {ci had : Int} {rd : Bool} {v : Value}
    (ha : Blk w ab (actI L.ib i xv ci rd had false false) 101) (hI : IncSt w1 L (st + 1) c' k' X') (hO : Only [ab, L.mb, L.cb, L.pb] w w1) (hO' : Only [wb, ba] w1 w') (hB : Blk w' wb [.int .i64 c', v] 45) (hV : Ints w' L.lo v X') (hA : Blk w' ba (ps.set i (.pointer none)) 47)
    (hXl : X'.length = 2) (hck : (c' = c ∧ k' = k) ∨ (k' : Int) / 2 = i) : MixSt w' L (st + 1) c' k' X' wb ba bc bx (ps.set i (.pointer none)) cl xl := by
  obtain ⟨⟨vX, q1, _⟩, q2, q3, q4, q5, q6⟩ := h.others ha hO
  obtain ⟨h1, h2, _, h5, h6, h7, h8, h9, h10, h11⟩ := h
  have n1 := q3.ty q1 (by decide)
  have n2 := q3.ty q2 (by decide)
  have n3 := q4.ty q1 (by decide)
  have n4 := q4.ty q2 (by decide)
  have hS : ∀ b, b ∈ [wb, ba] → ∃ vs t, Blk w1 b vs t ∧ t ≠ 91 ∧ t ≠ 3 ∧ t ≠ 93 ∧ t ≠ 29 ∧ t ≠ 101 := by
    intro b hb
    simp at hb
    rcases hb with rfl | rfl
    · exact ⟨_, _, q1, by decide, by decide, by decide, by decide, by decide⟩
    · exact ⟨_, _, q2, by decide, by decide, by decide, by decide, by decide⟩
  refine ⟨hI.only hO' (fun b hb => ?_), hXl, ⟨v, hB, hV⟩, hA, hO'.blk q3 (by simp [n1, n2]), hO'.blk q4 (by simp [n3, n4]), by simpa using h8, h9, h10, fun j hj => ?_⟩
  · obtain ⟨vs, t, r1, r2, r3, r4, r5, r6⟩ := hS b hb
    exact Or.inr ⟨vs, t, r1, r2, r3, r4, r5⟩
  · by_cases hji : j = i
    · subst hji
      rw [getD_set_eq _ _ _ _ (by omega)]
      exact Or.inl rfl
    · rw [getD_set_ne _ _ _ _ _ hji]
      refine ((q5 j hj hji).keep hO' (fun b hb => ?_)).turn hji hck
      obtain ⟨vs, t, r1, r2, r3, r4, r5, r6⟩ := hS b hb
      exact Or.inr ⟨vs, t, r1, fun ht => absurd ht r6, fun ht => absurd ht r3⟩

theorem Ints.own {w w' : World} {lo : Nat} {v : Value} {xs : List Int} (h : Ints w lo v xs) {S : List Nat} (hO : Only S w w') (hS : ∀ b, v.ownBlock = some b → b ∉ S) : Ints w' lo v xs := by
  refine ⟨h.1, ?_⟩
  rcases h.2 with h2 | ⟨g, cap, cur, rfl, hb, hg, r⟩
  · exact Or.inl h2
  · have hl := (Array.getElem?_eq_some_iff.1 hg).1
    refine Or.inr ⟨g, cap, cur, rfl, hb, ?_, r⟩
    rw [hO.block g hl (hS g rfl)]
    exact hg

theorem stepsB (L : IncL) (st c : Int) (k : Nat) (X : List Int) (w : World) (hI : IncSt w L st c k X) :
    Calls Try.prog 23 #[.pointer (some ⟨L.mb, 0, none⟩)] w fun e w' => e = .returned (.int .i64 st) ∧ w = w' := by
  obtain ⟨cs, P, v, hM, _⟩ := hI
  exact steps_any L.mb L.cb cs st w hM
end Go.Proofs.Ytcgiimgdcamkiaa
