/-
  The state of a pool as a whole, and what a Step of one act makes of it: laws without a walk.
-/
import Derived.Test.YtcgiimgdcamkiaaPoolF
namespace Go.Proofs.Ytcgiimgdcamkiaa
open Go.RowKit
set_option linter.unusedVariables false

/-- Where a pool lies. -/
structure PoolL where
  mb : Nat
  cb : Nat
  pp : Nat
  nb : Nat
  ob : Nat
  lo : Nat
  base : Int
  n : Nat
  W : Nat

/-- The stack's top, as a place. -/
def topOf : List Nat → Int
  | [] => -1
  | s :: _ => s
/-- The cell of a slot's link. -/
def lk (cs : List Int) (base s : Int) : Int := cs.getD (base + 1 + s).toNat 0
def Chain (cs : List Int) (base : Int) : List Nat → Prop
  | [] => True
  | s :: r => lk cs base s = topOf r ∧ Chain cs base r
abbrev nilS : Value := .slice none 0 0

structure PoolSt (w : World) (L : PoolL) (st ver : Int) (cs : List Int) (stk : List Nat) (ow : List Value) (os : List (List Int)) (ns : List Value) : Prop where
  mem : Mem w L.mb L.cb cs st
  pool : Blk w L.pp (poolB L.mb L.base L.nb L.n L.ob L.W) 105
  nodes : Blk w L.nb ns 61
  own : Blk w L.ob ow 29
  nlen : ns.length = 2 * L.n
  olen : ow.length = L.W
  slen : os.length = L.W
  W1 : 1 ≤ L.W
  W2 : L.W ≤ 16
  n1 : 1 ≤ L.n
  n2 : L.n ≤ 4096
  b0 : 0 ≤ L.base
  b1 : L.base + 1 + L.n ≤ cs.length
  ints : ∀ i, i < L.W → Ints w L.lo (ow.getD i nilS) (os.getD i [])
  two : ∀ i, i < L.W → (os.getD i []).length ≤ 2
  apart : ∀ i j g, i < L.W → j < L.W → i ≠ j → (ow.getD i nilS).ownBlock = some g → (ow.getD j nilS).ownBlock ≠ some g
  top : cs.getD L.base.toNat 0 = ver * 4294967296 + topOf stk + 1
  v0 : 0 ≤ ver
  vst : ver ≤ st
  chain : Chain cs L.base stk
  nodup : stk.Nodup
  inn : ∀ s, s ∈ stk → s < L.n
  links : ∀ s : Int, 0 ≤ s → s < L.n → -1 ≤ lk cs L.base s ∧ lk cs L.base s < L.n
  lmb : L.mb < L.lo
  lcb : L.cb < L.lo
  lw : L.lo ≤ w.heap.size

theorem topOf_bd {stk : List Nat} {n : Nat} (h : ∀ s, s ∈ stk → s < n) : -1 ≤ topOf stk ∧ topOf stk < n := by
  cases stk with
  | nil => simp [topOf]; omega
  | cons s r => have := h s (by simp); simp [topOf]; omega

/-- What an act that is not over has read. -/
def ActInv (L : PoolL) (ver : Int) (stk : List Nat) (cs : List Int) (give : Bool) (s ph T nx : Int) : Prop :=
  ph = 0 ∨ ∃ vr pr : Int, T = vr * 4294967296 + pr + 1 ∧ 0 ≤ vr ∧ vr ≤ ver ∧ -1 ≤ pr ∧ pr < L.n ∧ (give = false → 0 ≤ pr) ∧ (vr = ver → pr = topOf stk) ∧
    (ph = 1 ∨ (ph = 2 ∧ (give = false → -1 ≤ nx ∧ nx < L.n ∧ (vr = ver → ∃ s' rest, stk = s' :: rest ∧ nx = topOf rest)) ∧ (give = true → lk cs L.base s = pr)))

theorem ActInv.other {L : PoolL} {ver ver' : Int} {stk stk' : List Nat} {cs cs' : List Int} {give : Bool} {s ph T nx : Int} (h : ActInv L ver stk cs give s ph T nx)
    (hv : (ver' = ver ∧ stk' = stk) ∨ ver' = ver + 1) (hl : give = true → lk cs' L.base s = lk cs L.base s) : ActInv L ver' stk' cs' give s ph T nx := by
  rcases h with h | ⟨vr, pr, h1, h2, h3, h4, h5, h6, h7, h8⟩
  · exact Or.inl h
  · refine Or.inr ⟨vr, pr, h1, h2, ?_, h4, h5, h6, ?_, ?_⟩
    · omega
    · rcases hv with ⟨rfl, rfl⟩ | rfl
      · exact h7
      · intro h; omega
    · rcases h8 with h8 | ⟨h8, h9, h10⟩
      · exact Or.inl h8
      · refine Or.inr ⟨h8, fun hg => ?_, fun hg => by rw [hl hg]; exact h10 hg⟩
        obtain ⟨q1, q2, q3⟩ := h9 hg
        refine ⟨q1, q2, fun h => ?_⟩
        rcases hv with ⟨rfl, rfl⟩ | rfl
        · exact q3 h
        · omega

/-- What a Step comes to. -/
def StepCase (L : PoolL) (i : Nat) (give : Bool) (s : Int) (ver : Int) (cs : List Int) (stk : List Nat) (ow : List Value) (os : List (List Int)) (s' ph T nx ver' : Int) (cs' : List Int) (stk' : List Nat) (ow' : List Value) (os' : List (List Int)) : Prop :=
  (s' = s ∧ ver' = ver ∧ stk' = stk ∧ os' = os ∧ ow' = ow ∧ ActInv L ver stk cs' give s ph T nx ∧ (ph = 0 ∨ ph = 1 ∨ ph = 2)) ∨
  (ph = 3 ∧ give = false ∧ (∃ ys, os.getD i [] = ys ++ [s'] ∧ os' = os.set i ys) ∧ stk' = stk ∧ ver' = ver) ∨
  (ph = 3 ∧ give = false ∧ s' = -1 ∧ os.getD i [] = [] ∧ stk = [] ∧ stk' = [] ∧ os' = os ∧ ver' = ver) ∨
  (ph = 3 ∧ give = false ∧ (∃ t : Nat, s' = t ∧ stk = t :: stk') ∧ os' = os ∧ ver' = ver + 1) ∨
  (ph = 3 ∧ give = true ∧ s' = s ∧ os' = os.set i (os.getD i [] ++ [s]) ∧ stk' = stk ∧ ver' = ver) ∨
  (ph = 3 ∧ give = true ∧ s' = s ∧ stk' = s.toNat :: stk ∧ os' = os ∧ ver' = ver + 1)
/-- How many Steps an act still makes, alone, at the most. -/
def rank (ver ph T : Int) : Nat :=
  if ph = 3 then 0 else if ph = 0 then 3 else if ph = 1 then (if T / 4294967296 = ver then 2 else 5) else (if T / 4294967296 = ver then 1 else 4)
def StepOut (w : World) (L : PoolL) (st ver : Int) (cs : List Int) (stk : List Nat) (ow : List Value) (os : List (List Int)) (ns : List Value) (i ab : Nat) (give : Bool) (s ph0 T0 : Int) (e : Ending) (w' : World) : Prop :=
  ∃ s' ph T nx st' ver' cs' stk' ow' os', e = .returned (.bool (ph == 3)) ∧ rank ver' ph T < rank ver ph0 T0 ∧ Blk w' ab (actP L.pp i give s' ph T nx) 108 ∧ PoolSt w' L st' ver' cs' stk' ow' os' ns ∧ st ≤ st' ∧ st' ≤ st + 1 ∧
    Only ([ab, L.mb, L.cb, L.ob] ++ blkOf (ow.getD i nilS)) w w' ∧ (∀ j, j ≠ i → ow'.getD j nilS = ow.getD j nilS) ∧
    ((ow'.getD i nilS).ownBlock = (ow.getD i nilS).ownBlock ∨ ∃ g, (ow'.getD i nilS).ownBlock = some g ∧ w.heap.size ≤ g) ∧
    (∀ t : Int, 0 ≤ t → t < L.n → t ≠ s → lk cs' L.base t = lk cs L.base t) ∧ StepCase L i give s ver cs stk ow os s' ph T nx ver' cs' stk' ow' os'

theorem blkOf_ne {v : Value} {b : Nat} (h : v.ownBlock ≠ some b) : b ∉ blkOf v := fun hb => h (mem_blkOf.1 hb)

/-- A block of an own list is a block of numbers. -/
theorem Ints.blk3 {w : World} {lo : Nat} {v : Value} {xs : List Int} (h : Ints w lo v xs) {g : Nat} (hg : v.ownBlock = some g) : (∃ vs, Blk w g vs 3) ∧ lo ≤ g ∧ g < w.heap.size := by
  rcases h.form with ⟨rfl, _⟩ | ⟨g', cap, rfl, h1, h2, _, h3, _⟩
  · simp [Value.ownBlock] at hg
  · simp [Value.ownBlock] at hg
    subst hg
    exact ⟨h3, h1, h2⟩

theorem Ints.own {w w' : World} {lo : Nat} {v : Value} {xs : List Int} (h : Ints w lo v xs) {S : List Nat} (hO : Only S w w') (hS : ∀ b, v.ownBlock = some b → b ∉ S) : Ints w' lo v xs := by
  refine ⟨h.1, ?_⟩
  rcases h.2 with h2 | ⟨g, cap, cur, rfl, hb, hg, r⟩
  · exact Or.inl h2
  · have hl := (Array.getElem?_eq_some_iff.1 hg).1
    refine Or.inr ⟨g, cap, cur, rfl, hb, ?_, r⟩
    rw [hO.block g hl (hS g rfl)]
    exact hg

section
variable {w w' : World} {L : PoolL} {st ver : Int} {cs : List Int} {stk : List Nat} {ow : List Value} {os : List (List Int)} {ns : List Value}

/-- None of the pool's own blocks is written. -/
theorem PoolSt.only (h : PoolSt w L st ver cs stk ow os ns) {S : List Nat} (hO : Only S w w')
    (hS : ∀ b, b ∈ S → w.heap.size ≤ b ∨ ∃ vs t, Blk w b vs t ∧ t ≠ 91 ∧ t ≠ 105 ∧ t ≠ 61 ∧ t ≠ 29 ∧ (t = 3 → b ≠ L.cb ∧ ∀ i, i < L.W → (ow.getD i nilS).ownBlock ≠ some b)) : PoolSt w' L st ver cs stk ow os ns := by
  have hn : ∀ b vs t, Blk w b vs t → (t = 91 ∨ t = 105 ∨ t = 61 ∨ t = 29 ∨ (t = 3 ∧ b = L.cb)) → b ∉ S := by
    intro b vs t hb ht hs
    have hl := hb.lt
    rcases hS b hs with h1 | ⟨us, s, h1, h2, h3, h4, h5, h6⟩
    · omega
    · have e : t = s := by
        by_cases e : t = s
        · exact e
        · exact absurd rfl (hb.ty h1 e)
      subst e
      rcases ht with ht | ht | ht | ht | ⟨ht, hb'⟩
      · exact h2 ht
      · exact h3 ht
      · exact h4 ht
      · exact h5 ht
      · exact (h6 ht).1 hb'
  obtain ⟨_, _, x2, x3, x4, x5, x6, hm, hc⟩ := id h.mem
  exact { h with
    mem := h.mem.only hO (hn _ _ _ hm (by simp)) (hn _ _ _ hc (by simp))
    pool := hO.blk h.pool (hn _ _ _ h.pool (by simp))
    nodes := hO.blk h.nodes (hn _ _ _ h.nodes (by simp))
    own := hO.blk h.own (hn _ _ _ h.own (by simp))
    ints := fun i hi => (h.ints i hi).own hO (fun b hb hs => by
      obtain ⟨⟨vs, h1⟩, _, hl⟩ := (h.ints i hi).blk3 hb
      rcases hS b hs with h2 | ⟨us, s, h2, _, _, _, _, h7⟩
      · omega
      · have e : s = 3 := by
          by_cases e : s = 3
          · exact e
          · exact absurd rfl (h2.ty h1 e)
        exact (h7 e).2 i hi hb)
    lw := Nat.le_trans h.lw hO.size }

/-- The memory makes a step. -/
theorem PoolSt.memStep (h : PoolSt w L st ver cs stk ow os ns) {ab : Nat} {vs : List Value} (ha : Blk w ab vs 108) {ver' : Int} {cs' : List Int} {stk' : List Nat} (hO : Only [ab, L.mb, L.cb] w w') (hM : Mem w' L.mb L.cb cs' (st + 1))
    (hlen : cs'.length = cs.length) (top : cs'.getD L.base.toNat 0 = ver' * 4294967296 + topOf stk' + 1) (v0 : 0 ≤ ver') (vst : ver' ≤ st + 1) (chain : Chain cs' L.base stk') (nodup : stk'.Nodup) (inn : ∀ s, s ∈ stk' → s < L.n)
    (links : ∀ s : Int, 0 ≤ s → s < L.n → -1 ≤ lk cs' L.base s ∧ lk cs' L.base s < L.n) : PoolSt w' L (st + 1) ver' cs' stk' ow os ns := by
  have hn : ∀ b us t, Blk w b us t → t ≠ 108 → t ≠ 91 → t ≠ 3 → b ∉ [ab, L.mb, L.cb] := by
    intro b us t hb h1 h2 h3
    have e1 := hb.ty ha h1
    have e2 := h.mem.notin hb h2 h3
    simp at e2 ⊢
    omega
  exact { h with
    mem := hM
    pool := hO.blk h.pool (hn _ _ _ h.pool (by decide) (by decide) (by decide))
    nodes := hO.blk h.nodes (hn _ _ _ h.nodes (by decide) (by decide) (by decide))
    own := hO.blk h.own (hn _ _ _ h.own (by decide) (by decide) (by decide))
    ints := fun i hi => (h.ints i hi).only hO (fun b hb => by
      simp at hb
      rcases hb with rfl | rfl | rfl
      · exact Or.inr (Or.inr ⟨_, _, ha, by decide⟩)
      · exact Or.inl h.lmb
      · exact Or.inl h.lcb)
    b1 := by rw [hlen]; exact h.b1
    top := top
    v0 := v0
    vst := vst
    chain := chain
    nodup := nodup
    inn := inn
    links := links
    lw := Nat.le_trans h.lw hO.size }

/-- A worker's own list turns. -/
theorem PoolSt.ownStep (h : PoolSt w L st ver cs stk ow os ns) {ab : Nat} {vs : List Value} (ha : Blk w ab vs 108) {i : Nat} (hi : i < L.W) {v' : Value} {ys : List Int} (hO : Only ([ab, L.ob] ++ blkOf (ow.getD i nilS)) w w')
    (hob : Blk w' L.ob (ow.set i v') 29) (hv : Ints w' L.lo v' ys) (hb : v'.ownBlock = (ow.getD i nilS).ownBlock ∨ ∃ g, v'.ownBlock = some g ∧ w.heap.size ≤ g) (h2 : ys.length ≤ 2) :
    PoolSt w' L st ver cs stk (ow.set i v') (os.set i ys) ns := by
  have hbl : ∀ g, g ∈ blkOf (ow.getD i nilS) → (∃ us, Blk w g us 3) ∧ L.lo ≤ g := by
    intro g hg
    obtain ⟨h1, h2, _⟩ := (h.ints i hi).blk3 (mem_blkOf.1 hg)
    exact ⟨h1, h2⟩
  have hn : ∀ b us t, Blk w b us t → t ≠ 108 → t ≠ 29 → (t ≠ 3 ∨ b < L.lo) → b ∉ [ab, L.ob] ++ blkOf (ow.getD i nilS) := by
    intro b us t hb h1 h2 h3
    have e1 := hb.ty ha h1
    have e2 := hb.ty h.own h2
    simp [e1, e2]
    intro hm
    obtain ⟨⟨us', q1⟩, q2⟩ := hbl b hm
    rcases h3 with h3 | h3
    · exact absurd rfl (hb.ty q1 h3)
    · omega
  obtain ⟨_, _, x2, x3, x4, x5, x6, hm, hc⟩ := id h.mem
  have e1 : ∀ j, j ≠ i → (ow.set i v').getD j nilS = ow.getD j nilS := fun j hj => by simp [List.getD, List.getElem?_set_ne (Ne.symm hj)]
  have e2 : ∀ j, j ≠ i → (os.set i ys).getD j [] = os.getD j [] := fun j hj => by simp [List.getD, List.getElem?_set_ne (Ne.symm hj)]
  have e3 : (ow.set i v').getD i nilS = v' := by simp [List.getD, h.olen, hi]
  have e4 : (os.set i ys).getD i [] = ys := by simp [List.getD, h.slen, hi]
  have old : ∀ j g, j < L.W → (ow.getD j nilS).ownBlock = some g → g < w.heap.size := fun j g hj hg => ((h.ints j hj).blk3 hg).2.2
  exact { h with
    mem := h.mem.only hO (hn _ _ _ hm (by decide) (by decide) (Or.inl (by decide))) (hn _ _ _ hc (by decide) (by decide) (Or.inr h.lcb))
    pool := hO.blk h.pool (hn _ _ _ h.pool (by decide) (by decide) (Or.inl (by decide)))
    nodes := hO.blk h.nodes (hn _ _ _ h.nodes (by decide) (by decide) (Or.inl (by decide)))
    own := hob
    olen := by simpa using h.olen
    slen := by simpa using h.slen
    ints := fun j hj => by
      by_cases hji : j = i
      · subst hji
        rw [e3, e4]
        exact hv
      · rw [e1 j hji, e2 j hji]
        refine (h.ints j hj).own hO (fun b hb hs => ?_)
        obtain ⟨⟨us, q1⟩, _, _⟩ := (h.ints j hj).blk3 hb
        have q3 := q1.ty ha (by decide)
        have q4 := q1.ty h.own (by decide)
        simp [q3, q4] at hs
        exact h.apart i j b hi hj (Ne.symm hji) (mem_blkOf.1 hs) hb
    two := fun j hj => by
      by_cases hji : j = i
      · subst hji
        rw [e4]
        exact h2
      · rw [e2 j hji]
        exact h.two j hj
    apart := fun j k g hj hk hjk hg => by
      by_cases hji : j = i
      · subst hji
        rw [e3] at hg
        rw [e1 k (Ne.symm hjk)]
        rcases hb with hb | ⟨g', hb, hl⟩
        · exact h.apart j k g hi hk hjk (by rw [← hb]; exact hg)
        · intro hk'
          have := old k g hk hk'
          rw [hb] at hg
          simp at hg
          omega
      · rw [e1 j hji] at hg
        by_cases hki : k = i
        · subst hki
          rw [e3]
          rcases hb with hb | ⟨g', hb, hl⟩
          · rw [hb]
            exact h.apart j k g hj hk hjk hg
          · have := old j g hj hg
            rw [hb]
            simp
            omega
        · rw [e1 k hki]
          exact h.apart j k g hj hk hjk hg
    lw := Nat.le_trans h.lw hO.size }
end
end Go.Proofs.Ytcgiimgdcamkiaa
