/-
  The state of an Inc as a whole: the least cost, the place and the answer that has it; what an act's Step, Offer, Best, Look do to it.
-/
import Derived.Test.YtcgiimgdcamkiaaIncD
namespace Go.Proofs.Ytcgiimgdcamkiaa
open Go.RowKit
set_option linter.unusedVariables false

/-- Where an Inc lies: its memory's two blocks, its own two, and from which block on the answers lie; its cell and its workers. -/
structure IncL where
  mb : Nat
  cb : Nat
  ib : Nat
  pb : Nat
  lo : Nat
  at_ : Int
  W : Int

/-- The Inc's state: the memory made st steps; the least cost is c, place k has its answer X. -/
def IncSt (w : World) (L : IncL) (st c : Int) (k : Nat) (X : List Int) : Prop :=
  ∃ cs P v, Mem w L.mb L.cb cs st ∧ Blk w L.ib (incB L.mb L.at_ L.W L.pb P.length) 93 ∧ Blk w L.pb P 29 ∧ (P.length : Int) = 2 * L.W + 1 ∧ 1 ≤ L.W ∧ L.W ≤ 16 ∧ 0 ≤ L.at_ ∧ L.at_ < cs.length ∧
    cs.getD L.at_.toNat 0 = c * 64 + k ∧ (k : Int) ≤ 2 * L.W ∧ 0 ≤ c ∧ c ≤ 1125899906842624 ∧ P[k]? = some v ∧ Ints w L.lo v X ∧ L.mb < L.lo ∧ L.cb < L.lo ∧ L.lo ≤ w.heap.size ∧ X.length ≤ 1099511627776

theorem IncSt.bounds {w : World} {L : IncL} {st c : Int} {k : Nat} {X : List Int} (h : IncSt w L st c k X) : 0 ≤ c ∧ c ≤ 1125899906842624 ∧ (k : Int) ≤ 32 := by
  obtain ⟨cs, P, v, _, _, _, _, _, h1, _, _, _, h2, h3, h4, _⟩ := h; omega
theorem IncSt.lole {w : World} {L : IncL} {st c : Int} {k : Nat} {X : List Int} (h : IncSt w L st c k X) : L.lo ≤ w.heap.size := by
  obtain ⟨cs, P, v, _, _, _, _, _, h1, _, _, _, h2, h3, h4, _, _, _, _, h5, _⟩ := h; exact h5
theorem IncSt.memlt {w : World} {L : IncL} {st c : Int} {k : Nat} {X : List Int} (h : IncSt w L st c k X) : L.mb < w.heap.size ∧ L.cb < w.heap.size := by
  obtain ⟨cs, P, v, h, _⟩ := h; exact h.lt
theorem IncSt.only {w w' : World} {L : IncL} {st c : Int} {k : Nat} {X : List Int} (h : IncSt w L st c k X) {S : List Nat} (hO : Only S w w')
    (hS : ∀ b, b ∈ S → w.heap.size ≤ b ∨ ∃ vs t, Blk w b vs t ∧ t ≠ 91 ∧ t ≠ 3 ∧ t ≠ 93 ∧ t ≠ 29) : IncSt w' L st c k X := by
  obtain ⟨cs, P, v, hM, hi, hp, r1, r2, r3, r4, r5, r6, r7, r8, r9, r10, hx, r11, r12, r14, r13⟩ := h
  have hn : ∀ b vs t, Blk w b vs t → (t = 91 ∨ t = 3 ∨ t = 93 ∨ t = 29) → b ∉ S := by
    intro b vs t hb ht hs
    have hl := hb.lt
    rcases hS b hs with h1 | ⟨us, s, h1, h2, h3, h4, h5⟩
    · omega
    · refine absurd rfl (hb.ty h1 ?_)
      rintro rfl
      rcases ht with h | h | h | h <;> contradiction
  have hMO := hM
  obtain ⟨_, _, x2, x3, x4, x5, x6, hm, hc⟩ := hM
  refine ⟨cs, P, v, hMO.only hO (hn _ _ _ hm (by simp)) (hn _ _ _ hc (by simp)), hO.blk hi (hn _ _ _ hi (by simp)), hO.blk hp (hn _ _ _ hp (by simp)), r1, r2, r3, r4, r5, r6, r7, r8, r9, r10, ?_, r11, r12, Nat.le_trans r14 hO.size, r13⟩
  refine hx.only hO (fun b hb => ?_)
  rcases hS b hb with h1 | ⟨us, s, h1, h2, h3, h4, h5⟩
  · exact Or.inr (Or.inl h1)
  · exact Or.inr (Or.inr ⟨us, s, h1, h3⟩)

/-- What a Step leaves: what it answers, the act's cells, the Inc's state. -/
def StepI (w : World) (L : IncL) (ab : Nat) (b : Bool) (vs : List Value) (st c : Int) (k : Nat) (X : List Int) (e : Ending) (w' : World) : Prop :=
  e = .returned (.bool b) ∧ Blk w' ab vs 101 ∧ IncSt w' L st c k X ∧ Only [ab, L.mb, L.cb, L.pb] w w'

theorem stepA_look (L : IncL) (ab : Nat) (who cost had : Int) (taken : Bool) (xv : Value) (st c : Int) (k : Nat) (X : List Int) (w : World)
    (ha : Blk w ab (actI L.ib who xv cost false had false taken) 101) (hI : IncSt w L st c k X) (hst : 0 ≤ st ∧ st < 9223372036854775807) :
    Calls Try.prog 18 #[.pointer (some ⟨ab, 0, none⟩)] w (StepI w L ab (decide (c ≤ cost)) (actI L.ib who xv cost true (c * 64 + k) (decide (c ≤ cost)) taken) (st + 1) c k X) := by
  obtain ⟨cs, P, v, hM, hi, hp, r1, r2, r3, r4, r5, r6, r7, r8, r9, r10, hx, r11, r12, r14, r13⟩ := hI
  have h64 : (c * 64 + k) / 64 = c := by omega
  have hL := stepI_look ab L.ib L.mb L.cb L.pb P.length who cost had L.at_ L.W taken xv cs st w ha hi hM hst r4 r5 _ r6 (by omega)
  rw [h64] at hL
  refine hL.mono ?_
  rintro e w' ⟨rfl, hA1, hM1, hO1⟩
  have hn1 := hM.notin hi (by decide) (by decide)
  have hn2 := hM.notin hp (by decide) (by decide)
  have e1 : L.ib ≠ ab := hi.ty ha (by decide)
  have e2 : L.pb ≠ ab := hp.ty ha (by decide)
  refine ⟨rfl, hA1, ⟨cs, P, v, hM1, hO1.blk hi ?_, hO1.blk hp ?_, r1, r2, r3, r4, r5, r6, r7, r8, r9, r10, ?_, r11, r12, Nat.le_trans r14 hO1.size, r13⟩, hO1.mono (by simp; omega)⟩
  · simp at hn1 ⊢; omega
  · simp at hn2 ⊢; omega
  · refine hx.only hO1 ?_
    intro b hb
    simp at hb
    rcases hb with rfl | rfl | rfl
    · exact Or.inr (Or.inr ⟨_, _, ha, by decide⟩)
    · exact Or.inl (by omega)
    · exact Or.inl (by omega)

theorem freeP_bd (who had : Int) (hw : 0 ≤ who) : 0 ≤ freeP who had ∧ freeP who had ≤ 2 * who + 1 ∧ 2 * who ≤ freeP who had := by unfold freeP; split <;> omega

theorem stepA_take (L : IncL) (ab : Nat) (who cost : Int) (taken : Bool) (xa : Option Addr) (xl xc : Nat) (xs : List Int) (st c : Int) (k : Nat) (X : List Int) (w : World)
    (ha : Blk w ab (actI L.ib who (.slice xa xl xc) cost true (c * 64 + k) false taken) 101) (hI : IncSt w L st c k X) (hst : 0 ≤ st ∧ st < 9223372036854775807)
    (hy : Ints w L.lo (.slice xa xl xc) xs) (hyl : xs.length ≤ 1099511627776) (hw : 0 ≤ who ∧ who < L.W) (hc : 0 ≤ cost ∧ cost ≤ 1125899906842624) :
    Calls Try.prog 18 #[.pointer (some ⟨ab, 0, none⟩)] w (StepI w L ab true (actI L.ib who (.slice xa xl xc) cost false (c * 64 + k) true true) (st + 1) cost (freeP who (c * 64 + k)).toNat xs) := by
  obtain ⟨cs, P, v, hM, hi, hp, r1, r2, r3, r4, r5, r6, r7, r8, r9, r10, hx, r11, r12, r14, r13⟩ := hI
  have hf := freeP_bd who (c * 64 + k) hw.1
  refine (stepI_swap ab L.ib L.mb L.cb L.pb who cost (c * 64 + k) L.at_ L.W taken true xa xl xc P cs _ st w ha hi hp hM hst r4 r5 (by omega) (by omega) hc (by omega) (Or.inl ⟨rfl, r6, rfl⟩)).mono ?_
  generalize freeP who (c * 64 + k) = fp at *
  rintro e w' ⟨rfl, hA1, hP1, hM1, hO1⟩
  have hn1 := hM.notin hi (by decide) (by decide)
  have e1 : L.ib ≠ ab := hi.ty ha (by decide)
  have e3 : L.ib ≠ L.pb := hi.ty hp (by decide)
  refine ⟨rfl, hA1, ⟨_, P.set fp.toNat (.slice xa xl xc), .slice xa xl xc, hM1, ?_, hP1, by simpa using r1, r2, r3, r4, by simpa using r5, ?_, by omega, hc.1, hc.2, ?_, ?_, r11, r12, Nat.le_trans r14 hO1.size, hyl⟩, hO1⟩
  · simpa using hO1.blk hi (by simp at hn1 ⊢; omega)
  · have hl : L.at_.toNat < cs.length := by omega
    simp [hl]
    omega
  · exact List.getElem?_set_self (by omega)
  · refine hy.only hO1 ?_
    intro b hb
    simp at hb
    rcases hb with rfl | rfl | rfl | rfl
    · exact Or.inr (Or.inr ⟨_, _, ha, by decide⟩)
    · exact Or.inl (by omega)
    · exact Or.inl (by omega)
    · exact Or.inr (Or.inr ⟨_, _, hp, by decide⟩)

theorem stepA_miss (L : IncL) (ab : Nat) (who cost had : Int) (taken : Bool) (xa : Option Addr) (xl xc : Nat) (st c : Int) (k : Nat) (X : List Int) (w : World)
    (ha : Blk w ab (actI L.ib who (.slice xa xl xc) cost true had false taken) 101) (hI : IncSt w L st c k X) (hst : 0 ≤ st ∧ st < 9223372036854775807)
    (hw : 0 ≤ who ∧ who < L.W) (hc : 0 ≤ cost ∧ cost ≤ 1125899906842624) (hne : had ≠ c * 64 + k) (hh : 0 ≤ had ∧ had < 9223372036854775808) (hk : (k : Int) ≠ freeP who had) :
    Calls Try.prog 18 #[.pointer (some ⟨ab, 0, none⟩)] w (StepI w L ab false (actI L.ib who (.slice xa xl xc) cost false had false false) (st + 1) c k X) := by
  obtain ⟨cs, P, v, hM, hi, hp, r1, r2, r3, r4, r5, r6, r7, r8, r9, r10, hx, r11, r12, r14, r13⟩ := hI
  have hf := freeP_bd who had hw.1
  refine (stepI_swap ab L.ib L.mb L.cb L.pb who cost had L.at_ L.W taken false xa xl xc P cs _ st w ha hi hp hM hst r4 r5 (by omega) (by omega) hc hh (Or.inr ⟨rfl, by rw [r6]; omega, rfl⟩)).mono ?_
  generalize freeP who had = fp at *
  rintro e w' ⟨rfl, hA1, hP1, hM1, hO1⟩
  have hn1 := hM.notin hi (by decide) (by decide)
  have e1 : L.ib ≠ ab := hi.ty ha (by decide)
  have e3 : L.ib ≠ L.pb := hi.ty hp (by decide)
  refine ⟨rfl, hA1, ⟨_, P.set fp.toNat (.slice xa xl xc), v, hM1, ?_, hP1, by simpa using r1, r2, r3, r4, r5, r6, r7, r8, r9, ?_, ?_, r11, r12, Nat.le_trans r14 hO1.size, r13⟩, hO1⟩
  · simpa using hO1.blk hi (by simp at hn1 ⊢; omega)
  · rw [List.getElem?_set_ne (by omega)]; exact r10
  · refine hx.only hO1 ?_
    intro b hb
    simp at hb
    rcases hb with rfl | rfl | rfl | rfl
    · exact Or.inr (Or.inr ⟨_, _, ha, by decide⟩)
    · exact Or.inl (by omega)
    · exact Or.inl (by omega)
    · exact Or.inr (Or.inr ⟨_, _, hp, by decide⟩)

theorem lookA (L : IncL) (st c : Int) (k : Nat) (X : List Int) (w : World) (hI : IncSt w L st c k X) (hst : 0 ≤ st ∧ st < 9223372036854775807) :
    Calls Try.prog 15 #[.pointer (some ⟨L.ib, 0, none⟩)] w fun e w' => e = .returned (.int .i64 c) ∧ IncSt w' L (st + 1) c k X ∧ Only [L.mb, L.cb] w w' := by
  obtain ⟨cs, P, v, hM, hi, hp, r1, r2, r3, r4, r5, r6, r7, r8, r9, r10, hx, r11, r12, r14, r13⟩ := hI
  have h64 : (c * 64 + k) / 64 = c := by omega
  have hL := lookI_any L.ib L.mb L.cb L.pb P.length L.at_ L.W cs st w hi hM hst r4 r5 _ r6 (by omega)
  rw [h64] at hL
  refine hL.mono ?_
  rintro e w' ⟨rfl, hM1, hO1⟩
  have hn1 := hM.notin hi (by decide) (by decide)
  have hn2 := hM.notin hp (by decide) (by decide)
  refine ⟨rfl, ⟨cs, P, v, hM1, hO1.blk hi hn1, hO1.blk hp hn2, r1, r2, r3, r4, r5, r6, r7, r8, r9, r10, hx.only hO1 ?_, r11, r12, Nat.le_trans r14 hO1.size, r13⟩, hO1⟩
  intro b hb
  simp at hb
  rcases hb with rfl | rfl
  · exact Or.inl (by omega)
  · exact Or.inl (by omega)

theorem bestA (L : IncL) (st c : Int) (k : Nat) (X : List Int) (w : World) (hI : IncSt w L st c k X) :
    Calls Try.prog 13 #[.pointer (some ⟨L.ib, 0, none⟩)] w (BestOf w c X) := by
  obtain ⟨cs, P, v, hM, hi, hp, r1, r2, r3, r4, r5, r6, r7, r8, r9, r10, hx, r11, r12, r14, r13⟩ := hI
  have h64 : (c * 64 + k) / 64 = c := by omega
  have hmod : ((c * 64 + k) % 64).toNat = k := by omega
  have hL := bestI_any L.ib L.mb L.cb L.pb L.lo L.at_ L.W P cs st v X w hi hp hM r4 r5 _ r6 (by omega) (by rw [hmod]; exact r10) hx r13
  rw [h64] at hL
  exact hL

theorem offerA (L : IncL) (lo : Nat) (who cost : Int) (xv : Value) (xs : List Int) (st c : Int) (k : Nat) (X : List Int) (w : World) (hI : IncSt w L st c k X) (hx : Ints w lo xv xs) (hl : xs.length ≤ 1099511627776)
    (hw : 0 ≤ who ∧ who < L.W) (hc : 0 ≤ cost ∧ cost ≤ 1125899906842624) :
    Calls Try.prog 16 #[.pointer (some ⟨L.ib, 0, none⟩), .int .i64 who, xv, .int .i64 cost] w (Offered w L.ib who cost xs) := by
  obtain ⟨cs, P, v, hM, hi, hp, r⟩ := hI
  exact offerI_yes L.ib L.mb L.pb P.length lo L.at_ L.W who cost xv xs w hi hx hl hw hc

theorem offerA_no (L : IncL) (who cost : Int) (xv : Value) (st c : Int) (k : Nat) (X : List Int) (w : World) (hI : IncSt w L st c k X) (h : who < 0 ∨ L.W ≤ who ∨ cost < 0 ∨ 1125899906842624 < cost) :
    Calls Try.prog 16 #[.pointer (some ⟨L.ib, 0, none⟩), .int .i64 who, xv, .int .i64 cost] w fun e w' => e = .returned (.pointer none) ∧ w = w' := by
  obtain ⟨cs, P, v, hM, hi, hp, r⟩ := hI
  exact offerI_no L.ib L.mb L.pb P.length L.at_ L.W who cost xv w hi h
end Go.Proofs.Ytcgiimgdcamkiaa
