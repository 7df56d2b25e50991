/-
  One worker alone: what Take, Give and run make of the pool and of what the document's answer holds.
-/
import Derived.Test.YtcgiimgdcamkiaaFreeP
namespace Go.Proofs.Ytcgiimgdcamkiaa
open Go.RowKit
set_option linter.unusedVariables false

section
variable (w0 : World) (L : PoolL) (ns : List Value) (wb hb hc n : Nat)

/-- The pool and the Holder: F is free in the pool, hd is what Holder says. -/
def BSt (st : Int) (hd F : List Int) (wr : World) : Prop :=
  ∃ ver cs stk ow os, PoolSt wr L st ver cs stk ow os ns ∧ Blk wr wb [.slice (some ⟨hb, 0, none⟩) n hc] 77 ∧ Ints wr L.lo (.slice (some ⟨hb, 0, none⟩) n hc) hd ∧ (∀ i, i < L.W → (ow.getD i nilS).ownBlock ≠ some hb) ∧ hd.length = n ∧
    (allOf stk os).Perm F ∧ Only [] w0 wr

variable {w0 L ns wb hb hc n} {st : Int} {hd F : List Int} {wr w' : World}

theorem BSt.only (h : BSt w0 L ns wb hb hc n st hd F wr) (hO : Only [] wr w') : BSt w0 L ns wb hb hc n st hd F w' := by
  obtain ⟨ver, cs, stk, ow, os, h1, h2, h3, h4, h5, h6, h7⟩ := h
  exact ⟨ver, cs, stk, ow, os, h1.only hO (by simp), hO.blk h2 (by simp), h3.only hO (by simp), h4, h5, h6, h7.trans hO⟩

theorem BSt.drew' (h : BSt w0 L ns wb hb hc n st hd F wr) : BSt w0 L ns wb hb hc n st hd F wr.drew := h.only (Only.refl _ _).drew

theorem BSt.perm {F' : List Int} (h : BSt w0 L ns wb hb hc n st hd F wr) (hp : F.Perm F') : BSt w0 L ns wb hb hc n st hd F' wr := by
  obtain ⟨ver, cs, stk, ow, os, h1, h2, h3, h4, h5, h6, h7⟩ := h
  exact ⟨ver, cs, stk, ow, os, h1, h2, h3, h4, h5, h6.trans hp, h7⟩

theorem BSt.len (h : BSt w0 L ns wb hb hc n st hd F wr) : hd.length = n := by
  obtain ⟨ver, cs, stk, ow, os, h1, h2, h3, h4, h5, h6, h7⟩ := h
  exact h5

theorem BSt.cells (h : BSt w0 L ns wb hb hc n st hd F wr) : wr.cell? ⟨wb, 0, none⟩ = some (.slice (some ⟨hb, 0, none⟩) n hc) ∧ ∀ s, s < n → wr.cell? ⟨hb, s, none⟩ = some (.int .i64 (hd.getD s 0)) ∧ wr.frozen? ⟨hb, s, none⟩ = false := by
  obtain ⟨ver, cs, stk, ow, os, h1, h2, h3, h4, h5, h6, h7⟩ := h
  refine ⟨h2.cell (o := 0) rfl, fun s hs => ?_⟩
  obtain ⟨g, hg, h8, h9, -⟩ := h3.cell s (by omega)
  simp at hg
  subst hg
  exact ⟨h8, h9⟩

theorem BSt.store (h : BSt w0 L ns wb hb hc n st hd F wr) (hhb : w0.heap.size ≤ hb) (s : Nat) (v : Int) : BSt w0 L ns wb hb hc n st (hd.set s v) F (wr.setCell ⟨hb, s, none⟩ (.int .i64 v)) := by
  obtain ⟨ver, cs, stk, ow, os, h1, h2, h3, h4, h5, h6, h7⟩ := h
  have hO : Only [hb] wr (wr.setCell ⟨hb, s, none⟩ (.int .i64 v)) := (Only.refl _ _).setCell (by simp) _
  obtain ⟨⟨us, q⟩, qlo, _⟩ := h3.blk3 (g := hb) rfl
  refine ⟨ver, cs, stk, ow, os, h1.only hO ?_, hO.blk h2 (by simp; exact h2.ty q (by decide)), h3.set h5 s v, h4, by rw [List.length_set]; exact h5, h6, h7.behind hO (by intro k hk; simp at hk; subst hk; exact Or.inl hhb)⟩
  intro b hb'
  simp at hb'
  subst hb'
  exact Or.inr ⟨us, 3, q, by decide, by decide, by decide, by decide, fun _ => ⟨by have := h1.lcb; omega, h4⟩⟩

/-- A new act of worker 0. -/
theorem BSt.take (h : BSt w0 L ns wb hb hc n st hd F wr) : Calls Try.prog 34 #[.pointer (some ⟨L.pp, 0, none⟩), .int .i64 0] wr fun e w2 => ∃ ab, e = .returned (.pointer (some ⟨ab, 0, none⟩)) ∧ w0.heap.size ≤ ab ∧ Blk w2 ab (actP L.pp ((0 : Nat) : Int) false (-1) 0 0 0) 108 ∧ BSt w0 L ns wb hb hc n st hd F w2 := by
  have h' := h
  obtain ⟨ver, cs, stk, ow, os, h1, h2, h3, h4, h5, h6, h7⟩ := h
  refine (takeP_yes L.pp L.mb L.nb L.n L.ob L.W L.base wr h1.pool 0 (by omega) (by have := h1.W1; omega) h1.W2).mono ?_
  rintro e w2 ⟨ab, rfl, rfl, q1, q2⟩
  exact ⟨_, rfl, h7.size, q1, h'.only q2⟩
theorem BSt.give (h : BSt w0 L ns wb hb hc n st hd F wr) (hn : L.n = n) (s : Int) (s0 : 0 ≤ s) (s1 : s < n) : Calls Try.prog 35 #[.pointer (some ⟨L.pp, 0, none⟩), .int .i64 0, .int .i64 s] wr fun e w2 => ∃ ab, e = .returned (.pointer (some ⟨ab, 0, none⟩)) ∧ w0.heap.size ≤ ab ∧ Blk w2 ab (actP L.pp ((0 : Nat) : Int) true s 0 0 0) 108 ∧ BSt w0 L ns wb hb hc n st hd F w2 := by
  have h' := h
  obtain ⟨ver, cs, stk, ow, os, h1, h2, h3, h4, h5, h6, h7⟩ := h
  refine (giveP_yes L.pp L.mb L.nb L.n L.ob L.W L.base wr h1.pool h1.n2 0 s (by omega) (by have := h1.W1; omega) h1.W2 s0 (by omega)).mono ?_
  rintro e w2 ⟨ab, rfl, rfl, q1, q2⟩
  exact ⟨_, rfl, h7.size, q1, h'.only q2⟩

/-- What is left of the state behind a run. -/
theorem FinP.behindB {ver : Int} {cs : List Int} {stk : List Nat} {ow : List Value} {os : List (List Int)} {ab : Nat} {give : Bool} {s ph0 T0 : Int} {k : Nat} {vs : List Value}
    (hF : FinP wr L st ver cs stk ow os ns 0 ab give s ph0 T0 k w') (h1 : PoolSt wr L st ver cs stk ow os ns) (h2 : Blk wr wb [.slice (some ⟨hb, 0, none⟩) n hc] 77) (h3 : Ints wr L.lo (.slice (some ⟨hb, 0, none⟩) n hc) hd)
    (h4 : ∀ i, i < L.W → (ow.getD i nilS).ownBlock ≠ some hb) (h5 : hd.length = n) (h7 : Only [] w0 wr) (hL : L.past w0.heap.size) (hab : w0.heap.size ≤ ab) (ha : Blk wr ab vs 108) :
    ∃ s' T nx st' stk' os', st ≤ st' ∧ st' ≤ st + k ∧ Blk w' ab (actP L.pp ((0 : Nat) : Int) give s' 3 T nx) 108 ∧ EndCase 0 give s stk os s' stk' os' ∧ BSt w0 L ns wb hb hc n st' hd (allOf stk' os') w' := by
  obtain ⟨s', T, nx, st1, ver1, cs1, stk1, ow1, os1, hA, hP, e1, e2, -, hO, how, hob, -, -, hE⟩ := hF
  obtain ⟨⟨us, q⟩, qlo, qlt⟩ := h3.blk3 (g := hb) rfl
  have hnb : ∀ b us t, Blk wr b us t → t ≠ 108 → t ≠ 91 → t ≠ 29 → t ≠ 3 → b ∉ [ab, L.mb, L.cb, L.ob] ++ blkOf (ow.getD 0 nilS) := by
    intro b us' t hb' g1 g2 g3 g4 hm
    rcases List.mem_append.1 hm with hm | hm
    · have r1 := hb'.ty ha g1
      have r2 := h1.mem.notin hb' g2 g4
      have r3 := hb'.ty h1.own g3
      simp at hm r2
      omega
    · obtain ⟨⟨us2, r⟩, _⟩ := (h1.ints 0 (by have := h1.W1; omega)).blk3 (mem_blkOf.1 hm)
      exact absurd rfl (hb'.ty r g4)
  have hhb : hb ∉ [ab, L.mb, L.cb, L.ob] ++ blkOf (ow.getD 0 nilS) := by
    intro hm
    rcases List.mem_append.1 hm with hm | hm
    · have r1 := q.ty ha (by decide)
      have r3 := q.ty h1.own (by decide)
      have r4 := h1.lmb
      have r5 := h1.lcb
      simp at hm
      omega
    · exact h4 0 (by have := h1.W1; omega) (mem_blkOf.1 hm)
  refine ⟨s', T, nx, st1, stk1, os1, e1, e2, hA, hE, ver1, cs1, stk1, ow1, os1, hP, hO.blk h2 (hnb _ _ _ h2 (by decide) (by decide) (by decide) (by decide)), h3.own hO (fun b hb' => by simp [Value.ownBlock] at hb'; subst hb'; exact hhb), fun i hi => ?_, h5, List.Perm.refl _, h1.behind (by have := h1.W1; omega) hL hab h7 hO⟩
  by_cases e : i = 0
  · subst e
    rcases hob with r | ⟨g, r, rl⟩
    · rw [r]; exact h4 0 hi
    · rw [r]; simp; omega
  · rw [how i e]; exact h4 i hi

theorem BSt.runTake (h : BSt w0 L ns wb hb hc n st hd F wr) (hW : L.W = 1) (hst : 0 ≤ st ∧ st < 900000) (hL : L.past w0.heap.size) {ab : Nat} (hab : w0.heap.size ≤ ab) (ha : Blk wr ab (actP L.pp ((0 : Nat) : Int) false (-1) 0 0 0) 108) :
    Calls Try.prog 43 #[.pointer (some ⟨ab, 0, none⟩)] wr fun e w' => ∃ r s' T nx st', e = .returned (.int .i64 r) ∧ 0 ≤ r ∧ st ≤ st' ∧ st' ≤ st + 3 ∧ Blk w' ab (actP L.pp ((0 : Nat) : Int) false s' 3 T nx) 108 ∧
      ((s' = -1 ∧ F = [] ∧ BSt w0 L ns wb hb hc n st' hd [] w') ∨ ∃ F', F.Perm (s' :: F') ∧ BSt w0 L ns wb hb hc n st' hd F' w') := by
  obtain ⟨ver, cs, stk, ow, os, h1, h2, h3, h4, h5, h6, h7⟩ := h
  refine (runP_any wr L st ver cs stk ow os ns 0 ab false (-1) 0 0 h1 hst (Or.inl rfl) 0 (Or.inl rfl) ha (by have := h1.W1; omega) (by simp) (by simp)).mono ?_
  rintro e w' ⟨r, k, rfl, hr, hF⟩
  have hk : k ≤ 3 := by
    obtain ⟨s', T, nx, st1, ver1, cs1, stk1, ow1, os1, _, _, _, _, e3, _⟩ := hF
    simpa [rank] using e3
  obtain ⟨s', T, nx, st', stk', os', e1, e2, hA, hE, hB⟩ := hF.behindB h1 h2 h3 h4 h5 h7 hL hab ha
  refine ⟨r, s', T, nx, st', rfl, hr (by simp [rank]), e1, by omega, hA, ?_⟩
  rcases hE.take (by rw [h1.slen]; have := h1.W1; omega) with ⟨r1, r2, r3, r4, r5⟩ | r1
  · have hl := h1.slen
    rw [hW] at hl
    obtain ⟨o, rfl⟩ : ∃ o, os = [o] := List.length_eq_one_iff.1 hl
    have ho : o = [] := by simpa [List.getD] using r2
    subst ho r3 r4 r5
    have hF0 : F = [] := by
      have := h6.length_eq
      simp [allOf, intsOf] at this
      exact List.length_eq_zero_iff.1 this.symm
    exact Or.inl ⟨r1, hF0, by simpa [allOf, intsOf] using hB⟩
  · exact Or.inr ⟨_, h6.symm.trans r1, hB⟩

theorem BSt.runGive (h : BSt w0 L ns wb hb hc n st hd F wr) (hn : L.n = n) (hst : 0 ≤ st ∧ st < 900000) (hL : L.past w0.heap.size) {ab : Nat} (hab : w0.heap.size ≤ ab) (s : Int) (s0 : 0 ≤ s) (s1 : s < n) (hs : s ∉ F) (ha : Blk wr ab (actP L.pp ((0 : Nat) : Int) true s 0 0 0) 108) :
    Calls Try.prog 43 #[.pointer (some ⟨ab, 0, none⟩)] wr fun e w' => ∃ r T nx st', e = .returned (.int .i64 r) ∧ 0 ≤ r ∧ st ≤ st' ∧ st' ≤ st + 3 ∧ Blk w' ab (actP L.pp ((0 : Nat) : Int) true s 3 T nx) 108 ∧ BSt w0 L ns wb hb hc n st' hd (s :: F) w' := by
  obtain ⟨ver, cs, stk, ow, os, h1, h2, h3, h4, h5, h6, h7⟩ := h
  have hsn : s.toNat ∉ stk := fun hm => hs (h6.mem_iff.1 (by
    have : s ∈ intsOf stk := mem_intsOf.2 ⟨s.toNat, hm, by omega⟩
    simp [allOf, this]))
  refine (runP_any wr L st ver cs stk ow os ns 0 ab true s 0 0 h1 hst (Or.inl rfl) 0 (Or.inl rfl) ha (by have := h1.W1; omega) (fun _ => ⟨s0, by omega, hsn⟩) (by simp)).mono ?_
  rintro e w' ⟨r, k, rfl, hr, hF⟩
  have hk : k ≤ 3 := by
    obtain ⟨s', T, nx, st1, ver1, cs1, stk1, ow1, os1, _, _, _, _, e3, _⟩ := hF
    simpa [rank] using e3
  obtain ⟨s', T, nx, st', stk', os', e1, e2, hA, hE, hB⟩ := hF.behindB h1 h2 h3 h4 h5 h7 hL hab ha
  obtain ⟨rfl, hp⟩ := hE.give (by rw [h1.slen]; have := h1.W1; omega) s0
  exact ⟨r, T, nx, st', rfl, hr (by simp [rank]), e1, by omega, hA, hB.perm (hp.trans (h6.cons _))⟩

/-- A Take that finds a slot. -/
theorem BSt.runTakeYes (h : BSt w0 L ns wb hb hc n st hd F wr) (hW : L.W = 1) (hst : 0 ≤ st ∧ st < 900000) (hL : L.past w0.heap.size) {ab : Nat} (hab : w0.heap.size ≤ ab) (hf : Free n hd F) (hF : F ≠ []) (ha : Blk wr ab (actP L.pp ((0 : Nat) : Int) false (-1) 0 0 0) 108) :
    Calls Try.prog 43 #[.pointer (some ⟨ab, 0, none⟩)] wr fun e w' => ∃ (r : Int) (s : Nat) (T nx st' : Int) (F' : List Int), e = .returned (.int .i64 r) ∧ 0 ≤ r ∧ st ≤ st' ∧ st' ≤ st + 3 ∧ Blk w' ab (actP L.pp ((0 : Nat) : Int) false s 3 T nx) 108 ∧
      s < n ∧ hd.getD s 0 = -1 ∧ F'.length + 1 = F.length ∧ (∀ v, v ≠ -1 → Free n (hd.set s v) F') ∧ BSt w0 L ns wb hb hc n st' hd F' w' := by
  refine (h.runTake hW hst hL hab ha).mono ?_
  rintro e w' ⟨r, s', T, nx, st', rfl, hr, e1, e2, hA, ⟨_, h9, _⟩ | ⟨F', hp, hB⟩⟩
  · exact absurd h9 hF
  · have hf' := hf.perm hp
    have hx := hf'.2.2.1 s' (by simp)
    obtain ⟨s, rfl⟩ : ∃ s : Nat, s' = s := ⟨s'.toNat, by omega⟩
    refine ⟨r, s, T, nx, st', F', rfl, hr, e1, e2, hA, by omega, (hf'.2.2.2 s (by omega)).2 (by simp), by rw [hp.length_eq]; simp, fun v hv => ?_, hB⟩
    have := hf'.take hv
    simpa using this
/-- A Take that finds none. -/
theorem BSt.runTakeNo (h : BSt w0 L ns wb hb hc n st hd [] wr) (hW : L.W = 1) (hst : 0 ≤ st ∧ st < 900000) (hL : L.past w0.heap.size) {ab : Nat} (hab : w0.heap.size ≤ ab) (ha : Blk wr ab (actP L.pp ((0 : Nat) : Int) false (-1) 0 0 0) 108) :
    Calls Try.prog 43 #[.pointer (some ⟨ab, 0, none⟩)] wr fun e w' => ∃ r T nx st', e = .returned (.int .i64 r) ∧ 0 ≤ r ∧ st ≤ st' ∧ st' ≤ st + 3 ∧ Blk w' ab (actP L.pp ((0 : Nat) : Int) false (-1) 3 T nx) 108 ∧ BSt w0 L ns wb hb hc n st' hd [] w' := by
  refine (h.runTake hW hst hL hab ha).mono ?_
  rintro e w' ⟨r, s', T, nx, st', rfl, hr, e1, e2, hA, ⟨rfl, h9, hB⟩ | ⟨F', hp, hB⟩⟩
  · exact ⟨r, T, nx, st', rfl, hr, e1, e2, hA, hB⟩
  · have := hp.length_eq
    simp at this
end

theorem cover_len : ∀ (n : Nat) (F : List Int), (∀ s : Nat, s < n → (s : Int) ∈ F) → n ≤ F.length
  | 0, F, _ => Nat.zero_le _
  | n + 1, F, h => by
    have h1 := h n (by omega)
    have h2 := cover_len n (F.erase (n : Int)) (fun s hs => (List.mem_erase_of_ne (by omega)).2 (h s (by omega)))
    rw [List.length_erase_of_mem h1] at h2
    have := List.length_pos_of_mem h1
    omega
theorem Free.held {n : Nat} {hd F : List Int} (h : Free n hd F) (hl : F.length < n) : ∃ t, t < n ∧ hd.getD t 0 ≠ -1 := by
  by_cases hx : ∃ t, t < n ∧ hd.getD t 0 ≠ -1
  · exact hx
  · have := cover_len n F (fun s hs => (h.2.2.2 s hs).1 (by
      by_cases e : hd.getD s 0 = -1
      · exact e
      · exact absurd ⟨s, hs, e⟩ hx))
    omega
end Go.Proofs.Ytcgiimgdcamkiaa
