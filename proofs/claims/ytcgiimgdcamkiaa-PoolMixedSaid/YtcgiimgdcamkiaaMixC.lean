/-
  PoolMixed: the state as a whole.
-/
import Derived.Test.YtcgiimgdcamkiaaMixB
namespace Go.Proofs.Ytcgiimgdcamkiaa
open Go.RowKit
set_option linter.unusedVariables false

/-- Where the statement's own things lie: Holder's World, Holder's row, the array of acts, the array of holds. -/
structure MixL where
  wb : Nat
  hb : Nat
  hc : Nat
  pb : Nat
  xb : Nat
  n : Nat

abbrev nilP : Value := .pointer none

/-- The blocks; what the numbers say (Free, HoldsOK) and what each worker is about (ActOK) is said beside it. -/
structure MixP (w0 wr : World) (L : PoolL) (M : MixL) (ns : List Value) (st ver : Int) (cs : List Int) (stk : List Nat) (ow : List Value) (os : List (List Int)) (hd : List Int) (ps hvs : List Value) (hxs : List (List Int)) : Prop where
  pool : PoolSt wr L st ver cs stk ow os ns
  world : Blk wr M.wb [.slice (some ⟨M.hb, 0, none⟩) M.n M.hc] 77
  hold : Ints wr L.lo (.slice (some ⟨M.hb, 0, none⟩) M.n M.hc) hd
  acts : Blk wr M.pb ps 82
  holds : Blk wr M.xb hvs 49
  plen : ps.length = 4
  hlen : hvs.length = 4
  xlen : hxs.length = 4
  hints : ∀ k, k < 4 → Ints wr L.lo (hvs.getD k nilS) (hxs.getD k [])
  ownh : ∀ i, i < L.W → (ow.getD i nilS).ownBlock ≠ some M.hb
  hvh : ∀ k, k < 4 → (hvs.getD k nilS).ownBlock ≠ some M.hb
  hvo : ∀ i k g, i < L.W → k < 4 → (ow.getD i nilS).ownBlock = some g → (hvs.getD k nilS).ownBlock ≠ some g
  hvv : ∀ j k g, j < 4 → k < 4 → j ≠ k → (hvs.getD j nilS).ownBlock = some g → (hvs.getD k nilS).ownBlock ≠ some g
  only : Only [] w0 wr

/-- What holds for good. -/
structure MixFix (w0 : World) (L : PoolL) (M : MixL) : Prop where
  nn : L.n = M.n
  W : L.W = 4
  past : L.past w0.heap.size
  wb : w0.heap.size ≤ M.wb
  hb : w0.heap.size ≤ M.hb
  pb : w0.heap.size ≤ M.pb
  xb : w0.heap.size ≤ M.xb
  n1 : 1 ≤ M.n
  n2 : M.n ≤ 12

section
variable {w0 wr w' : World} {L : PoolL} {M : MixL} {ns : List Value} {st ver : Int} {cs : List Int} {stk : List Nat} {ow : List Value} {os : List (List Int)} {hd : List Int} {ps ps' hvs : List Value} {hxs : List (List Int)}

/-- Nothing that was there is written. -/
theorem MixP.fresh (h : MixP w0 wr L M ns st ver cs stk ow os hd ps hvs hxs) (hO : Only [] wr w') : MixP w0 w' L M ns st ver cs stk ow os hd ps hvs hxs :=
  { h with
    pool := h.pool.only hO (by simp)
    world := hO.blk h.world (by simp)
    hold := h.hold.only hO (by simp)
    acts := hO.blk h.acts (by simp)
    holds := hO.blk h.holds (by simp)
    hints := fun k hk => (h.hints k hk).only hO (by simp)
    only := h.only.trans hO }

/-- Behind a Step or a run of one worker's act. -/
theorem MixP.behind (h : MixP w0 wr L M ns st ver cs stk ow os hd ps hvs hxs) (fx : MixFix w0 L M) {st' ver' : Int} {cs' : List Int} {stk' : List Nat} {ow' : List Value} {os' : List (List Int)} {i ab : Nat} {vs : List Value}
    (hP : PoolSt w' L st' ver' cs' stk' ow' os' ns) (ha : Blk wr ab vs 108) (hab : w0.heap.size ≤ ab) (hi : i < L.W) (hO : Only ([ab, L.mb, L.cb, L.ob] ++ blkOf (ow.getD i nilS)) wr w') (how : ∀ j, j ≠ i → ow'.getD j nilS = ow.getD j nilS)
    (hob : (ow'.getD i nilS).ownBlock = (ow.getD i nilS).ownBlock ∨ ∃ g, (ow'.getD i nilS).ownBlock = some g ∧ wr.heap.size ≤ g) : MixP w0 w' L M ns st' ver' cs' stk' ow' os' hd ps hvs hxs := by
  have h1 := h.pool
  have hnb : ∀ b us t, Blk wr b us t → t ≠ 108 → t ≠ 91 → t ≠ 29 → t ≠ 3 → b ∉ [ab, L.mb, L.cb, L.ob] ++ blkOf (ow.getD i nilS) := by
    intro b us' t hb' g1 g2 g3 g4 hm
    rcases List.mem_append.1 hm with hm | hm
    · have r1 := hb'.ty ha g1
      have r2 := h1.mem.notin hb' g2 g4
      have r3 := hb'.ty h1.own g3
      simp at hm r2
      omega
    · obtain ⟨⟨us2, r⟩, _⟩ := (h1.ints i hi).blk3 (mem_blkOf.1 hm)
      exact absurd rfl (hb'.ty r g4)
  have hn3 : ∀ b us, Blk wr b us 3 → L.lo ≤ b → (ow.getD i nilS).ownBlock ≠ some b → b ∉ [ab, L.mb, L.cb, L.ob] ++ blkOf (ow.getD i nilS) := by
    intro b us q ql qn hm
    rcases List.mem_append.1 hm with hm | hm
    · have r1 := q.ty ha (by decide)
      have r3 := q.ty h1.own (by decide)
      have r4 := h1.lmb
      have r5 := h1.lcb
      simp at hm
      omega
    · exact qn (mem_blkOf.1 hm)
  obtain ⟨⟨us, q⟩, qlo, qlt⟩ := h.hold.blk3 (g := M.hb) rfl
  have hlt : ∀ k g, k < 4 → (hvs.getD k nilS).ownBlock = some g → g < wr.heap.size := fun k g hk hg => ((h.hints k hk).blk3 hg).2.2
  exact { h with
    pool := hP
    world := hO.blk h.world (hnb _ _ _ h.world (by decide) (by decide) (by decide) (by decide))
    hold := h.hold.own hO (fun b hb => by simp [Value.ownBlock] at hb; subst hb; exact hn3 _ _ q qlo (h.ownh i hi))
    acts := hO.blk h.acts (hnb _ _ _ h.acts (by decide) (by decide) (by decide) (by decide))
    holds := hO.blk h.holds (hnb _ _ _ h.holds (by decide) (by decide) (by decide) (by decide))
    hints := fun k hk => (h.hints k hk).own hO (fun b hb => by
      obtain ⟨⟨us2, r⟩, rlo, _⟩ := (h.hints k hk).blk3 hb
      exact hn3 _ _ r rlo (fun e => h.hvo i k b hi hk e hb))
    ownh := fun j hj => by
      by_cases e : j = i
      · subst e
        rcases hob with r | ⟨g, r, rl⟩
        · rw [r]; exact h.ownh j hj
        · rw [r]; simp; omega
      · rw [how j e]; exact h.ownh j hj
    hvo := fun j k g hj hk hg hk2 => by
      by_cases e : j = i
      · subst e
        rcases hob with r | ⟨g', r, rl⟩
        · rw [r] at hg; exact h.hvo j k g hj hk hg hk2
        · rw [r] at hg
          simp at hg
          have := hlt k g hk hk2
          omega
      · rw [how j e] at hg; exact h.hvo j k g hj hk hg hk2
    only := h1.behind hi fx.past hab h.only hO }

/-- A block of a type that no list and no pool has is written. -/
theorem MixP.other (h : MixP w0 wr L M ns st ver cs stk ow os hd ps hvs hxs) {S : List Nat} (hO : Only S wr w') (hS : ∀ b, b ∈ S → w0.heap.size ≤ b ∧ ∃ vs t, Blk wr b vs t ∧ t ≠ 91 ∧ t ≠ 105 ∧ t ≠ 61 ∧ t ≠ 29 ∧ t ≠ 3 ∧ t ≠ 77 ∧ t ≠ 49) (hp : Blk w' M.pb ps' 82) : MixP w0 w' L M ns st ver cs stk ow os hd ps' hvs hxs ∨ ps'.length ≠ 4 := by
  by_cases hl : ps'.length = 4
  · have hn : ∀ b us t, Blk wr b us t → (t = 77 ∨ t = 49) → b ∉ S := by
      intro b us t hb ht hm
      obtain ⟨_, vs, t', q, r1, r2, r3, r4, r5, r6, r7⟩ := hS b hm
      have e : t = t' := by
        by_cases e : t = t'
        · exact e
        · exact absurd rfl (hb.ty q e)
      subst e
      rcases ht with ht | ht
      · exact r6 ht
      · exact r7 ht
    have hI : ∀ {v : Value} {xs : List Int}, Ints wr L.lo v xs → Ints w' L.lo v xs := fun hv => hv.only hO (fun b hb => by
      obtain ⟨_, vs, t', q, r1, r2, r3, r4, r5, r6, r7⟩ := hS b hb
      exact Or.inr (Or.inr ⟨vs, t', q, r5⟩))
    exact Or.inl { h with
      pool := h.pool.only hO (fun b hb => by
        obtain ⟨_, vs, t', q, r1, r2, r3, r4, r5, r6, r7⟩ := hS b hb
        exact Or.inr ⟨vs, t', q, r1, r2, r3, r4, fun e => absurd e r5⟩)
      world := hO.blk h.world (hn _ _ _ h.world (by simp))
      hold := hI h.hold
      acts := hp
      plen := hl
      holds := hO.blk h.holds (hn _ _ _ h.holds (by simp))
      hints := fun k hk => hI (h.hints k hk)
      only := h.only.behind hO (fun b hb => Or.inl (hS b hb).1) }
  · exact Or.inr hl

/-- A store into the array of acts. -/
theorem MixP.setActs (h : MixP w0 wr L M ns st ver cs stk ow os hd ps hvs hxs) (fx : MixFix w0 L M) (k : Nat) (v : Value) : MixP w0 (wr.setCell ⟨M.pb, k, none⟩ v) L M ns st ver cs stk ow os hd (ps.set k v) hvs hxs := by
  have hO : Only [M.pb] wr (wr.setCell ⟨M.pb, k, none⟩ v) := (Only.refl _ _).setCell (by simp) _
  rcases h.other (ps' := ps.set k v) hO (fun b hb => by
    simp at hb
    subst hb
    exact ⟨fx.pb, _, _, h.acts, by decide, by decide, by decide, by decide, by decide, by decide, by decide⟩) (h.acts.set k v) with r | r
  · exact r
  · rw [List.length_set] at r
    exact absurd h.plen r

/-- A store into Holder. -/
theorem MixP.setHolder (h : MixP w0 wr L M ns st ver cs stk ow os hd ps hvs hxs) (fx : MixFix w0 L M) (hl : hd.length = M.n) (s : Nat) (v : Int) : MixP w0 (wr.setCell ⟨M.hb, s, none⟩ (.int .i64 v)) L M ns st ver cs stk ow os (hd.set s v) ps hvs hxs := by
  have hO : Only [M.hb] wr (wr.setCell ⟨M.hb, s, none⟩ (.int .i64 v)) := (Only.refl _ _).setCell (by simp) _
  obtain ⟨⟨us, q⟩, qlo, _⟩ := h.hold.blk3 (g := M.hb) rfl
  have hn : ∀ b us' t, Blk wr b us' t → t ≠ 3 → b ∉ [M.hb] := fun b us' t hb ht => by simp; exact hb.ty q ht
  exact { h with
    pool := h.pool.only hO (fun b hb => by
      simp at hb
      subst hb
      exact Or.inr ⟨us, 3, q, by decide, by decide, by decide, by decide, fun _ => ⟨by have := h.pool.lcb; omega, h.ownh⟩⟩)
    world := hO.blk h.world (hn _ _ _ h.world (by decide))
    hold := h.hold.set hl s v
    acts := hO.blk h.acts (hn _ _ _ h.acts (by decide))
    holds := hO.blk h.holds (hn _ _ _ h.holds (by decide))
    hints := fun k hk => (h.hints k hk).own hO (fun b hb => by
      simp
      intro e
      subst e
      exact h.hvh k hk hb)
    only := h.only.behind hO (fun b hb => by simp at hb; subst hb; exact Or.inl fx.hb) }

/-- A store into the array of holds. -/
theorem MixP.setHolds (h : MixP w0 wr L M ns st ver cs stk ow os hd ps hvs hxs) (fx : MixFix w0 L M) (k : Nat) (hk : k < 4) (v : Value) (xs : List Int) (hv : Ints wr L.lo v xs) (h1 : v.ownBlock ≠ some M.hb)
    (h2 : ∀ i g, i < L.W → (ow.getD i nilS).ownBlock = some g → v.ownBlock ≠ some g) (h3 : ∀ j g, j < 4 → j ≠ k → (hvs.getD j nilS).ownBlock = some g → v.ownBlock ≠ some g) :
    MixP w0 (wr.setCell ⟨M.xb, k, none⟩ v) L M ns st ver cs stk ow os hd ps (hvs.set k v) (hxs.set k xs) := by
  have hO : Only [M.xb] wr (wr.setCell ⟨M.xb, k, none⟩ v) := (Only.refl _ _).setCell (by simp) _
  have hn : ∀ b us' t, Blk wr b us' t → t ≠ 49 → b ∉ [M.xb] := fun b us' t hb ht => by simp; exact hb.ty h.holds ht
  have hJ : ∀ {u : Value} {ys : List Int}, Ints wr L.lo u ys → Ints (wr.setCell ⟨M.xb, k, none⟩ v) L.lo u ys := fun hu => hu.only hO (fun b hb => by
    simp at hb
    subst hb
    exact Or.inr (Or.inr ⟨_, _, h.holds, by decide⟩))
  have e1 : ∀ j, j ≠ k → (hvs.set k v).getD j nilS = hvs.getD j nilS := fun j hj => by simp [List.getD, List.getElem?_set_ne (Ne.symm hj)]
  have e2 : ∀ j, j ≠ k → (hxs.set k xs).getD j [] = hxs.getD j [] := fun j hj => by simp [List.getD, List.getElem?_set_ne (Ne.symm hj)]
  have e3 : (hvs.set k v).getD k nilS = v := by simp [List.getD, h.hlen, hk]
  have e4 : (hxs.set k xs).getD k [] = xs := by simp [List.getD, h.xlen, hk]
  exact { h with
    pool := h.pool.only hO (fun b hb => by
      simp at hb
      subst hb
      exact Or.inr ⟨_, _, h.holds, by decide, by decide, by decide, by decide, fun e => absurd e (by decide)⟩)
    world := hO.blk h.world (hn _ _ _ h.world (by decide))
    hold := hJ h.hold
    acts := hO.blk h.acts (hn _ _ _ h.acts (by decide))
    holds := h.holds.set k v
    hlen := by rw [List.length_set]; exact h.hlen
    xlen := by rw [List.length_set]; exact h.xlen
    hints := fun j hj => by
      by_cases e : j = k
      · subst e; rw [e3, e4]; exact hJ hv
      · rw [e1 j e, e2 j e]; exact hJ (h.hints j hj)
    hvh := fun j hj => by
      by_cases e : j = k
      · subst e; rw [e3]; exact h1
      · rw [e1 j e]; exact h.hvh j hj
    hvo := fun i j g hi hj hg => by
      by_cases e : j = k
      · subst e; rw [e3]; exact h2 i g hi hg
      · rw [e1 j e]; exact h.hvo i j g hi hj hg
    hvv := fun i j g hi hj hij hg => by
      by_cases e : j = k
      · subst e
        rw [e1 i hij] at hg
        rw [e3]
        exact h3 i g hi hij hg
      · rw [e1 j e]
        by_cases e' : i = k
        · subst e'
          rw [e3] at hg
          intro hj2
          exact h3 j g hj e hj2 hg
        · rw [e1 i e'] at hg
          exact h.hvv i j g hi hj hij hg
    only := h.only.behind hO (fun b hb => by simp at hb; subst hb; exact Or.inl fx.xb) }
end
end Go.Proofs.Ytcgiimgdcamkiaa
