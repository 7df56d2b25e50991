/-
  PoolMixed: a worker's Step and run over the state as a whole; what the workers hold. Plain laws: no walk.
-/
import Derived.Test.YtcgiimgdcamkiaaMixE
namespace Go.Proofs.Ytcgiimgdcamkiaa
open Go.RowKit
set_option linter.unusedVariables false

section
variable {w0 wr w' : World} {L : PoolL} {M : MixL} {ns : List Value} {st : Int} {stk : List Nat} {os : List (List Int)} {hd : List Int} {ps hvs : List Value} {hxs : List (List Int)} {A B : Nat → Prop}

/-- A worker's list of what it holds turns. -/
theorem Mid.newHolds (h : Mid w0 wr L M ns st stk os hd ps hvs hxs A) (fx : MixFix w0 L M) {i : Nat} (hi : i < 4) (hn : A i → ps.getD i nilP = nilP) {v : Value} {xs : List Int} (hO : Only ([M.xb] ++ blkOf (hvs.getD i nilS)) wr w') (hB : Blk w' M.xb (hvs.set i v) 49)
    (hv : Ints w' L.lo v xs) (hb : v.ownBlock = (hvs.getD i nilS).ownBlock ∨ ∃ g, v.ownBlock = some g ∧ wr.heap.size ≤ g) : Mid w0 w' L M ns st stk os hd ps (hvs.set i v) (hxs.set i xs) A := by
  obtain ⟨ver, cs, ow, h1, hA⟩ := h
  have hin : ∀ b, b ∈ [M.xb] ++ blkOf (hvs.getD i nilS) → Blk wr b hvs 49 ∨ ((∃ us, Blk wr b us 3) ∧ L.lo ≤ b ∧ (hvs.getD i nilS).ownBlock = some b) := by
    intro b hb
    rcases List.mem_append.1 hb with hb | hb
    · simp at hb
      subst hb
      exact Or.inl h1.holds
    · obtain ⟨q1, q2, _⟩ := (h1.hints i hi).blk3 (mem_blkOf.1 hb)
      exact Or.inr ⟨q1, q2, mem_blkOf.1 hb⟩
  have hS : ∀ b us t, Blk wr b us t → t ≠ 49 → t ≠ 3 → b ∉ [M.xb] ++ blkOf (hvs.getD i nilS) := by
    intro b us t hb' q1 q2 hm
    rcases hin b hm with r | ⟨⟨us', r⟩, _⟩
    · exact absurd rfl (hb'.ty r q1)
    · exact absurd rfl (hb'.ty r q2)
  have hlt : ∀ k g, k < 4 → (hvs.getD k nilS).ownBlock = some g → g < wr.heap.size := fun k g hk hg => ((h1.hints k hk).blk3 hg).2.2
  have hlo : ∀ j g, j < L.W → (ow.getD j nilS).ownBlock = some g → g < wr.heap.size := fun j g hj hg => ((h1.pool.ints j hj).blk3 hg).2.2
  have hhb : M.hb < wr.heap.size := (h1.hold.blk3 (g := M.hb) rfl).2.2
  have e1 : ∀ j, j ≠ i → (hvs.set i v).getD j nilS = hvs.getD j nilS := fun j hj => getDv_ne hj
  have e2 : ∀ j, j ≠ i → (hxs.set i xs).getD j [] = hxs.getD j [] := fun j hj => getDx_ne hj
  have e3 : (hvs.set i v).getD i nilS = v := getDv_eq (by rw [h1.hlen]; exact hi)
  have e4 : (hxs.set i xs).getD i [] = xs := getDx_eq (by rw [h1.xlen]; exact hi)
  refine ⟨ver, cs, ow, { h1 with
    pool := h1.pool.only hO (fun b hb' => by
      rcases hin b hb' with r | ⟨⟨us, r⟩, r2, r3⟩
      · exact Or.inr ⟨_, _, r, by decide, by decide, by decide, by decide, fun e => absurd e (by decide)⟩
      · exact Or.inr ⟨_, _, r, by decide, by decide, by decide, by decide, fun _ => ⟨by have := h1.pool.lcb; omega, fun j hj e => h1.hvo j i b hj hi e r3⟩⟩)
    world := hO.blk h1.world (hS _ _ _ h1.world (by decide) (by decide))
    hold := h1.hold.own hO (fun b hb' hm => by
      have e : b = M.hb := by simp [Value.ownBlock] at hb'; exact hb'.symm
      subst e
      obtain ⟨⟨us, q⟩, _⟩ := h1.hold.blk3 (g := M.hb) rfl
      rcases hin _ hm with r | ⟨_, _, r3⟩
      · exact absurd rfl (q.ty r (by decide))
      · exact h1.hvh i hi r3)
    acts := hO.blk h1.acts (hS _ _ _ h1.acts (by decide) (by decide))
    holds := hB
    hlen := by rw [List.length_set]; exact h1.hlen
    xlen := by rw [List.length_set]; exact h1.xlen
    hints := fun j hj => by
      by_cases e : j = i
      · subst e; rw [e3, e4]; exact hv
      · rw [e1 j e, e2 j e]
        refine (h1.hints j hj).own hO (fun b hb' hm => ?_)
        obtain ⟨⟨us, q⟩, _⟩ := (h1.hints j hj).blk3 hb'
        rcases hin _ hm with r | ⟨_, _, r3⟩
        · exact absurd rfl (q.ty r (by decide))
        · exact h1.hvv j i b hj hi e hb' r3
    hvh := fun j hj => by
      by_cases e : j = i
      · subst e
        rw [e3]
        rcases hb with r | ⟨g, r, rl⟩
        · rw [r]; exact h1.hvh j hj
        · rw [r]; simp; omega
      · rw [e1 j e]; exact h1.hvh j hj
    hvo := fun a j g ha hj hg => by
      by_cases e : j = i
      · subst e
        rw [e3]
        rcases hb with r | ⟨g', r, rl⟩
        · rw [r]; exact h1.hvo a j g ha hj hg
        · have := hlo a g ha hg
          rw [r]; simp; omega
      · rw [e1 j e]; exact h1.hvo a j g ha hj hg
    hvv := fun a j g ha hj haj hg => by
      by_cases e : j = i
      · subst e
        rw [e1 a haj] at hg
        rw [e3]
        rcases hb with r | ⟨g', r, rl⟩
        · rw [r]; exact h1.hvv a j g ha hj haj hg
        · have := hlt a g ha hg
          rw [r]; simp; omega
      · rw [e1 j e]
        by_cases e' : a = i
        · subst e'
          rw [e3] at hg
          rcases hb with r | ⟨g', r, rl⟩
          · rw [r] at hg; exact h1.hvv a j g ha hj haj hg
          · intro hj2
            have := hlt j g hj hj2
            rw [r] at hg
            simp at hg
            omega
        · rw [e1 a e'] at hg
          exact h1.hvv a j g ha hj haj hg
    only := h1.only.behind hO (fun b hb' => by
      rcases List.mem_append.1 hb' with hb' | hb'
      · simp at hb'; subst hb'; exact Or.inl fx.xb
      · obtain ⟨_, q2, _⟩ := (h1.hints i hi).blk3 (mem_blkOf.1 hb')
        have := fx.past
        unfold PoolL.past at this
        exact Or.inl (by omega)) }, fun k hk hAk => ?_⟩
  by_cases e : k = i
  · subst e
    exact Or.inl (hn hAk)
  · rw [e2 k e]
    refine (hA k hk hAk).keep hO (fun b hb' => ?_) (Or.inl ⟨rfl, rfl⟩) (fun s _ _ e => ⟨e, rfl⟩)
    rcases hin b hb' with r | ⟨⟨us, r⟩, _⟩
    · exact Or.inr ⟨_, _, r, by decide, fun e => absurd e (by decide)⟩
    · exact Or.inr ⟨_, _, r, by decide, fun e => absurd e (by decide)⟩

/-- What is seen of a worker's act. -/
theorem Mid.look (h : Mid w0 wr L M ns st stk os hd ps hvs hxs A) {k : Nat} (hk : k < 4) (hA : A k) : ps.getD k nilP = nilP ∨ ∃ (lb ab : Nat) (v1 v2 : Value) (fr : Int) (give : Bool) (s ph T nx : Int),
    ps.getD k nilP = .pointer (some ⟨lb, 0, none⟩) ∧ w0.heap.size ≤ lb ∧ Blk wr lb [.pointer (some ⟨ab, 0, none⟩), v1, v2, .int .i64 fr] 86 ∧ Blk wr ab (actP L.pp k give s ph T nx) 108 := by
  obtain ⟨ver, cs, ow, h1, h2⟩ := h
  rcases h2 k hk hA with e | ⟨lb, ab, give, slot, fr, s, ph, T, nx, e1, e2, e3, e4, _⟩
  · exact Or.inl e
  · exact Or.inr ⟨lb, ab, _, _, fr, give, s, ph, T, nx, e1, e2.1, e3, e4⟩

/-- What a Step comes to, of the state as a whole. -/
def StepTo (w0 : World) (L : PoolL) (M : MixL) (ns : List Value) (st : Int) (stk : List Nat) (os : List (List Int)) (hd : List Int) (ps hvs : List Value) (hxs : List (List Int)) (i lb ab : Nat) (give : Bool) (slot fr s : Int) (e : Ending) (w' : World) : Prop :=
  ∃ (over : Bool) (s' ph' T' nx' st' : Int) (stk' : List Nat) (os' : List (List Int)), e = .returned (.bool over) ∧ (ph' == 3) = over ∧ st ≤ st' ∧ st' ≤ st + 1 ∧ Blk w' ab (actP L.pp i give s' ph' T' nx') 108 ∧
    Blk w' lb [.pointer (some ⟨ab, 0, none⟩), .bool give, .int .i64 slot, .int .i64 fr] 86 ∧ Mid w0 w' L M ns st' stk' os' hd ps hvs hxs (fun k => k ≠ i ∨ over = false) ∧ ((over = false ∧ stk' = stk ∧ os' = os) ∨ (over = true ∧ ph' = 3 ∧ EndCase i give s stk os s' stk' os'))

theorem StepCase.end_ {L : PoolL} {i : Nat} {give : Bool} {s ver : Int} {cs : List Int} {stk : List Nat} {ow : List Value} {os : List (List Int)} {s' T nx ver' : Int} {cs' : List Int} {stk' : List Nat} {ow' : List Value} {os' : List (List Int)}
    (h : StepCase L i give s ver cs stk ow os s' 3 T nx ver' cs' stk' ow' os') : EndCase i give s stk os s' stk' os' := by
  rcases h with ⟨_, _, _, _, _, _, r⟩ | ⟨_, h1, h2, h3, _⟩ | ⟨_, h1, h2, h3, h4, h5, h6, _⟩ | ⟨_, h1, h2, h3, _⟩ | ⟨_, h1, h2, h3, h4, _⟩ | ⟨_, h1, h2, h3, h4, _⟩
  · omega
  · exact Or.inl ⟨h1, h2, h3⟩
  · exact Or.inr (Or.inl ⟨h1, h2, h3, h4, h5, h6⟩)
  · exact Or.inr (Or.inr (Or.inl ⟨h1, h2, h3⟩))
  · exact Or.inr (Or.inr (Or.inr (Or.inl ⟨h1, h2, h3, h4⟩)))
  · exact Or.inr (Or.inr (Or.inr (Or.inr ⟨h1, h2, h3, h4⟩)))

theorem Mid.act (h : Mid w0 wr L M ns st stk os hd ps hvs hxs (fun _ => True)) (fx : MixFix w0 L M) (hst : 0 ≤ st ∧ st < 900000) (hF : Free M.n hd (allOf stk os)) {i : Nat} (hi : i < 4) :
    ps.getD i nilP = nilP ∨ ∃ (lb ab : Nat) (give : Bool) (slot fr s ph T nx : Int), ps.getD i nilP = .pointer (some ⟨lb, 0, none⟩) ∧ w0.heap.size ≤ lb ∧ Blk wr lb [.pointer (some ⟨ab, 0, none⟩), .bool give, .int .i64 slot, .int .i64 fr] 86 ∧ Blk wr ab (actP L.pp i give s ph T nx) 108 ∧
      (give = true → s = slot ∧ 0 ≤ s ∧ s < M.n ∧ hd.getD s.toNat 0 = i ∧ s ∉ hxs.getD i []) ∧ (give = false → s = -1) ∧ Calls Try.prog 39 #[.pointer (some ⟨ab, 0, none⟩)] wr (StepTo w0 L M ns st stk os hd ps hvs hxs i lb ab give slot fr s) := by
  obtain ⟨ver, cs, ow, h1, h2⟩ := h
  rcases h2 i hi trivial with e | ⟨lb, ab, give, slot, fr, s, ph, T, nx, e1, e2, e3, e4, e5, e6, e7, e8⟩
  · exact Or.inl e
  refine Or.inr ⟨lb, ab, give, slot, fr, s, ph, T, nx, e1, e2.1, e3, e4, e7, e8, ?_⟩
  refine (h1.step fx hst hF hi e2.2 give s ph T nx e5 e6 (fun e => by obtain ⟨_, q1, q2, q3, _⟩ := e7 e; exact ⟨q1, q2, q3⟩) e8 e4).mono ?_
  rintro e w' ⟨s', ph', T', nx', st', ver', cs', stk', ow', os', rfl, f1, f2, f3, f4, hc, f5, f6⟩
  by_cases hp : ph' = 3
  · subst hp
    refine ⟨true, s', 3, T', nx', st', stk', os', rfl, rfl, f1, f2, f3, f5 _ _ e3, ⟨ver', cs', ow', f4, fun k hk hA => ?_⟩, Or.inr ⟨rfl, rfl, hc.end_⟩⟩
    have hki : k ≠ i := by rcases hA with hA | hA <;> first | exact hA | cases hA
    exact f6 k _ _ hki (h2 k hk trivial)
  · rcases hc with ⟨rfl, rfl, rfl, rfl, rfl, hI, hph⟩ | ⟨hc, _⟩ | ⟨hc, _⟩ | ⟨hc, _⟩ | ⟨hc, _⟩ | ⟨hc, _⟩
    · have hf : (ph' == 3) = false := by simp; exact hp
      refine ⟨false, s', ph', T', nx', st', stk', os', by rw [hf], hf, f1, f2, f3, f5 _ _ e3, ⟨ver', cs', ow', f4, fun k hk hA => ?_⟩, Or.inl ⟨rfl, rfl, rfl⟩⟩
      by_cases hki : k = i
      · subst hki
        refine Or.inr ⟨lb, ab, give, slot, fr, s', ph', T', nx', e1, e2, f5 _ _ e3, f3, hph, ?_, e7, e8⟩
        exact hI
      · exact f6 k _ _ hki (h2 k hk trivial)
    · exact absurd hc hp
    · exact absurd hc hp
    · exact absurd hc hp
    · exact absurd hc hp
    · exact absurd hc hp

/-- What a run to an act's end comes to. -/
def RunTo (w0 : World) (L : PoolL) (M : MixL) (ns : List Value) (st : Int) (stk : List Nat) (os : List (List Int)) (hd : List Int) (ps hvs : List Value) (hxs : List (List Int)) (B : Nat → Prop) (i lb ab : Nat) (give : Bool) (slot fr s : Int) (e : Ending) (w' : World) : Prop :=
  ∃ (r s' T' nx' st' : Int) (stk' : List Nat) (os' : List (List Int)), e = .returned (.int .i64 r) ∧ st ≤ st' ∧ st' ≤ st + 5 ∧ Blk w' ab (actP L.pp i give s' 3 T' nx') 108 ∧
    Blk w' lb [.pointer (some ⟨ab, 0, none⟩), .bool give, .int .i64 slot, .int .i64 fr] 86 ∧ Mid w0 w' L M ns st' stk' os' hd ps hvs hxs B ∧ EndCase i give s stk os s' stk' os'

theorem Mid.runAct (h : Mid w0 wr L M ns st stk os hd ps hvs hxs A) (fx : MixFix w0 L M) (hst : 0 ≤ st ∧ st < 800000) (hF : Free M.n hd (allOf stk os)) {i : Nat} (hi : i < 4) (hA : A i) (hB : ∀ k, k < 4 → B k → k ≠ i ∧ A k) :
    ps.getD i nilP = nilP ∨ ∃ (lb ab : Nat) (give : Bool) (slot fr s : Int), ps.getD i nilP = .pointer (some ⟨lb, 0, none⟩) ∧ Blk wr lb [.pointer (some ⟨ab, 0, none⟩), .bool give, .int .i64 slot, .int .i64 fr] 86 ∧
      (give = true → 0 ≤ s ∧ s < M.n ∧ hd.getD s.toNat 0 = i) ∧ Calls Try.prog 43 #[.pointer (some ⟨ab, 0, none⟩)] wr (RunTo w0 L M ns st stk os hd ps hvs hxs B i lb ab give slot fr s) := by
  obtain ⟨ver, cs, ow, h1, h2⟩ := h
  rcases h2 i hi hA with e | ⟨lb, ab, give, slot, fr, s, ph, T, nx, e1, e2, e3, e4, e5, e6, e7, e8⟩
  · exact Or.inl e
  refine Or.inr ⟨lb, ab, give, slot, fr, s, e1, e3, fun e => (by obtain ⟨_, q1, q2, q3, _⟩ := e7 e; exact ⟨q1, q2, q3⟩), ?_⟩
  refine (h1.run fx hst hF hi e2.2 give s ph T nx e5 e6 (fun e => by obtain ⟨_, q1, q2, q3, _⟩ := e7 e; exact ⟨q1, q2, q3⟩) e8 e4).mono ?_
  rintro e w' ⟨r, s', T', nx', st', ver', cs', stk', ow', os', rfl, f1, f2, f3, f4, hc, f5, f6⟩
  exact ⟨r, s', T', nx', st', stk', os', rfl, f1, f2, f3, f5 _ _ e3, ⟨ver', cs', ow', f4, fun k hk hBk => f6 k _ _ (hB k hk hBk).1 (h2 k hk (hB k hk hBk).2)⟩, hc⟩
end

/-- What all workers hold. -/
def HoldsAll (n : Nat) (hd : List Int) (hxs : List (List Int)) : Prop := ∀ k, k < 4 → HoldsOK n hd k (hxs.getD k [])

theorem HoldsOK.len {n k : Nat} {hd hx : List Int} (h : HoldsOK n hd k hx) : hx.length ≤ n := by
  have := nodup_len n (hx.map Int.toNat) ?_ ?_
  · simpa using this
  · refine List.Pairwise.map _ ?_ (List.Pairwise.imp_of_mem (R := (· ≠ ·)) (S := fun a b : Int => a.toNat ≠ b.toNat) ?_ h.1)
    · intro a b hab; exact hab
    · intro a b ha hb hab
      have := (h.2 a ha).1
      have := (h.2 b hb).1
      omega
  · intro s hs
    obtain ⟨x, hx, rfl⟩ := List.mem_map.1 hs
    have := h.2 x hx
    omega

theorem HoldsAll.erase {n i j : Nat} {hd : List Int} {hxs : List (List Int)} (h : HoldsAll n hd hxs) (hi : i < 4) (hl : hxs.length = 4) (hj : j < (hxs.getD i []).length) :
    HoldsAll n hd (hxs.set i ((hxs.getD i []).take j ++ (hxs.getD i []).drop (j + 1))) ∧ 0 ≤ (hxs.getD i []).getD j 0 ∧ (hxs.getD i []).getD j 0 < n ∧ hd.getD ((hxs.getD i []).getD j 0).toNat 0 = i ∧
      (hxs.getD i []).getD j 0 ∉ (hxs.getD i []).take j ++ (hxs.getD i []).drop (j + 1) := by
  have h1 := h i hi
  generalize hxs.getD i [] = hx at *
  have hsub : (hx.take j ++ hx.drop (j + 1)).Sublist hx := by
    rw [← List.eraseIdx_eq_take_drop_succ]
    exact List.eraseIdx_sublist _ _
  have hmem : hx.getD j 0 ∈ hx := by
    have : hx.getD j 0 = hx[j] := by simp [List.getD, hj]
    rw [this]
    exact List.getElem_mem hj
  obtain ⟨q1, q2, q3⟩ := h1.2 _ hmem
  refine ⟨fun k hk => ?_, q1, q2, q3, fun hm => ?_⟩
  · by_cases e : k = i
    · subst e
      rw [getDx_eq (by omega)]
      exact ⟨h1.1.sublist hsub, fun x hx' => h1.2 x (hsub.subset hx')⟩
    · rw [getDx_ne e]
      exact h k hk
  · have hsp : hx = hx.take j ++ hx.getD j 0 :: hx.drop (j + 1) := by
      have : hx.getD j 0 = hx[j] := by simp [List.getD, hj]
      rw [this, List.getElem_cons_drop, List.take_append_drop]
    have h2 := h1.1
    rw [hsp] at h2
    have h3 := (List.perm_middle (a := hx.getD j 0) (l₁ := hx.take j) (l₂ := hx.drop (j + 1))).nodup_iff.1 h2
    exact (List.nodup_cons.1 h3).1 hm

theorem HoldsAll.give {n i : Nat} {hd : List Int} {hxs : List (List Int)} (h : HoldsAll n hd hxs) {s : Int} (h0 : 0 ≤ s) (h1 : hd.getD s.toNat 0 = i) (h2 : s ∉ hxs.getD i []) : HoldsAll n (hd.set s.toNat (-1)) hxs := by
  intro k hk
  refine ⟨(h k hk).1, fun x hx => ?_⟩
  obtain ⟨q1, q2, q3⟩ := (h k hk).2 x hx
  refine ⟨q1, q2, ?_⟩
  rw [getD_set_ne]
  · exact q3
  · intro e
    have e' : s = x := by omega
    subst e'
    have : i = k := by omega
    subst this
    exact h2 hx

theorem HoldsAll.take {n i : Nat} {hd : List Int} {hxs : List (List Int)} (h : HoldsAll n hd hxs) (hi : i < 4) (hl : hxs.length = 4) (hdl : hd.length = n) {s : Int} (h0 : 0 ≤ s) (hn : s < n) (h1 : hd.getD s.toNat 0 = -1) : HoldsAll n (hd.set s.toNat i) (hxs.set i (hxs.getD i [] ++ [s])) := by
  have hk0 : ∀ k, k < 4 → ∀ x, x ∈ hxs.getD k [] → 0 ≤ x ∧ x < n ∧ (hd.set s.toNat i).getD x.toNat 0 = k ∧ x ≠ s := by
    intro k hk x hx
    obtain ⟨q1, q2, q3⟩ := (h k hk).2 x hx
    have hne : x ≠ s := by rintro rfl; omega
    refine ⟨q1, q2, ?_, hne⟩
    rw [getD_set_ne (by omega)]
    exact q3
  intro k hk
  by_cases e : k = i
  · subst e
    rw [getDx_eq (by omega)]
    refine ⟨List.nodup_append.2 ⟨(h k hk).1, by simp, fun a ha b hb => ?_⟩, fun x hx => ?_⟩
    · simp at hb
      subst hb
      exact (hk0 k hk a ha).2.2.2
    · rcases List.mem_append.1 hx with hx | hx
      · obtain ⟨q1, q2, q3, _⟩ := hk0 k hk x hx
        exact ⟨q1, q2, q3⟩
      · simp at hx
        subst hx
        exact ⟨h0, hn, getD_set_eq (by omega)⟩
  · rw [getDx_ne e]
    exact ⟨(h k hk).1, fun x hx => by
      obtain ⟨q1, q2, q3, _⟩ := hk0 k hk x hx
      exact ⟨q1, q2, q3⟩⟩
end Go.Proofs.Ytcgiimgdcamkiaa
