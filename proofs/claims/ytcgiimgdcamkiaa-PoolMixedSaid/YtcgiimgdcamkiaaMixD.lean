/-
  PoolMixed: a Step of one worker's act over the state as a whole.
-/
import Derived.Test.YtcgiimgdcamkiaaMixC
namespace Go.Proofs.Ytcgiimgdcamkiaa
open Go.RowKit
set_option linter.unusedVariables false

section
variable {w0 wr w' : World} {L : PoolL} {M : MixL} {ns : List Value} {st ver : Int} {cs : List Int} {stk : List Nat} {ow : List Value} {os : List (List Int)} {hd : List Int} {ps hvs : List Value} {hxs : List (List Int)}

theorem MixP.not86 (h : MixP w0 wr L M ns st ver cs stk ow os hd ps hvs hxs) {i ab b : Nat} {vs us : List Value} (hi : i < L.W) (ha : Blk wr ab vs 108) (hb : Blk wr b us 86) : b ∉ [ab, L.mb, L.cb, L.ob] ++ blkOf (ow.getD i nilS) := by
  intro hm
  rcases List.mem_append.1 hm with hm | hm
  · have r1 := hb.ty ha (by decide)
    have r2 := h.pool.mem.notin hb (by decide) (by decide)
    have r3 := hb.ty h.pool.own (by decide)
    simp at hm r2
    omega
  · obtain ⟨⟨us2, r⟩, _⟩ := (h.pool.ints i hi).blk3 (mem_blkOf.1 hm)
    exact absurd rfl (hb.ty r (by decide))

theorem MixP.step (h : MixP w0 wr L M ns st ver cs stk ow os hd ps hvs hxs) (fx : MixFix w0 L M) (hst : 0 ≤ st ∧ st < 900000) (hF : Free M.n hd (allOf stk os)) {i ab : Nat} (hi : i < 4) (hab : w0.heap.size ≤ ab) (give : Bool) (s ph T nx : Int)
    (hph : ph = 0 ∨ ph = 1 ∨ ph = 2) (hI : ActInv L ver stk cs give s ph T nx) (hg : give = true → 0 ≤ s ∧ s < M.n ∧ hd.getD s.toNat 0 = i) (hs' : give = false → s = -1) (ha : Blk wr ab (actP L.pp i give s ph T nx) 108) :
    Calls Try.prog 39 #[.pointer (some ⟨ab, 0, none⟩)] wr fun e w' => ∃ s' ph' T' nx' st' ver' cs' stk' ow' os', e = .returned (.bool (ph' == 3)) ∧ st ≤ st' ∧ st' ≤ st + 1 ∧ Blk w' ab (actP L.pp i give s' ph' T' nx') 108 ∧
      MixP w0 w' L M ns st' ver' cs' stk' ow' os' hd ps hvs hxs ∧ StepCase L i give s ver cs stk ow os s' ph' T' nx' ver' cs' stk' ow' os' ∧
      (∀ b us, Blk wr b us 86 → Blk w' b us 86) ∧ (∀ k hx p, k ≠ i → ActOK wr w0.heap.size L M.n ver stk cs hd hx k p → ActOK w' w0.heap.size L M.n ver' stk' cs' hd hx k p) := by
  have hW := fx.W
  have hn := fx.nn
  have hsn : give = true → 0 ≤ s ∧ s < L.n ∧ s.toNat ∉ stk := fun e => by
    obtain ⟨g1, g2, g3⟩ := hg e
    refine ⟨g1, by omega, fun hm => ?_⟩
    have hm2 : ((s.toNat : Nat) : Int) ∈ allOf stk os := by
      have : ((s.toNat : Nat) : Int) ∈ intsOf stk := mem_intsOf.2 ⟨s.toNat, hm, rfl⟩
      exact List.mem_append_left _ this
    have := (hF.2.2.2 s.toNat (by omega)).2 hm2
    omega
  refine (stepPool h.pool (by omega) ab i (by omega) give s ph T nx hsn hs' hph hI ha).mono ?_
  rintro e w' ⟨s', ph', T', nx', st', ver', cs', stk', ow', os', rfl, -, ha', hP', e1, e2, hO, how, hob, hlk, hc⟩
  refine ⟨s', ph', T', nx', st', ver', cs', stk', ow', os', rfl, e1, e2, ha', h.behind fx hP' ha hab (by omega) hO how hob, hc, fun b us hb => hO.blk hb (h.not86 (by omega) ha hb), fun k hx p hk hA => hA.keep hO (fun b hb => ?_) ?_ (fun t t0 t1 t2 => ⟨t2, hlk t t0 (by omega) ?_⟩)⟩
  · rcases List.mem_append.1 hb with hb | hb
    · obtain ⟨_, _, x2, x3, x4, x5, x6, hm, hcb⟩ := id h.pool.mem
      simp only [List.mem_cons, List.not_mem_nil, or_false] at hb
      rcases hb with rfl | rfl | rfl | rfl
      · exact Or.inr ⟨_, _, ha, by decide, fun _ => by simp; omega⟩
      · exact Or.inr ⟨_, _, hm, by decide, fun e => absurd e (by decide)⟩
      · exact Or.inr ⟨_, _, hcb, by decide, fun e => absurd e (by decide)⟩
      · exact Or.inr ⟨_, _, h.pool.own, by decide, fun e => absurd e (by decide)⟩
    · obtain ⟨⟨us, q⟩, _⟩ := (h.pool.ints i (by omega)).blk3 (mem_blkOf.1 hb)
      exact Or.inr ⟨us, 3, q, by decide, fun e => absurd e (by decide)⟩
  · rcases hc with ⟨_, r1, r2, _⟩ | ⟨_, _, _, r1, r2⟩ | ⟨_, _, _, _, r1, r2, _, r3⟩ | ⟨_, _, _, _, r⟩ | ⟨_, _, _, _, r1, r2⟩ | ⟨_, _, _, _, _, r⟩
    · exact Or.inl ⟨r1, r2⟩
    · exact Or.inl ⟨r2, r1⟩
    · exact Or.inl ⟨r3, by rw [r1, r2]⟩
    · exact Or.inr r
    · exact Or.inl ⟨r2, r1⟩
    · exact Or.inr r
  · rintro rfl
    cases give with
    | true => have := (hg rfl).2.2; omega
    | false => have := hs' rfl; omega

theorem MixP.run (h : MixP w0 wr L M ns st ver cs stk ow os hd ps hvs hxs) (fx : MixFix w0 L M) (hst : 0 ≤ st ∧ st < 800000) (hF : Free M.n hd (allOf stk os)) {i ab : Nat} (hi : i < 4) (hab : w0.heap.size ≤ ab) (give : Bool) (s ph T nx : Int)
    (hph : ph = 0 ∨ ph = 1 ∨ ph = 2) (hI : ActInv L ver stk cs give s ph T nx) (hg : give = true → 0 ≤ s ∧ s < M.n ∧ hd.getD s.toNat 0 = i) (hs' : give = false → s = -1) (ha : Blk wr ab (actP L.pp i give s ph T nx) 108) :
    Calls Try.prog 43 #[.pointer (some ⟨ab, 0, none⟩)] wr fun e w' => ∃ r s' T' nx' st' ver' cs' stk' ow' os', e = .returned (.int .i64 r) ∧ st ≤ st' ∧ st' ≤ st + 5 ∧ Blk w' ab (actP L.pp i give s' 3 T' nx') 108 ∧
      MixP w0 w' L M ns st' ver' cs' stk' ow' os' hd ps hvs hxs ∧ EndCase i give s stk os s' stk' os' ∧
      (∀ b us, Blk wr b us 86 → Blk w' b us 86) ∧ (∀ k hx p, k ≠ i → ActOK wr w0.heap.size L M.n ver stk cs hd hx k p → ActOK w' w0.heap.size L M.n ver' stk' cs' hd hx k p) := by
  have hW := fx.W
  have hn := fx.nn
  have hsn : give = true → 0 ≤ s ∧ s < L.n ∧ s.toNat ∉ stk := fun e => by
    obtain ⟨g1, g2, g3⟩ := hg e
    refine ⟨g1, by omega, fun hm => ?_⟩
    have hm2 : ((s.toNat : Nat) : Int) ∈ allOf stk os := by
      have : ((s.toNat : Nat) : Int) ∈ intsOf stk := mem_intsOf.2 ⟨s.toNat, hm, rfl⟩
      exact List.mem_append_left _ this
    have := (hF.2.2.2 s.toNat (by omega)).2 hm2
    omega
  refine (runP_any wr L st ver cs stk ow os ns i ab give s ph T h.pool (by omega) hph nx hI ha (by omega) hsn hs').mono ?_
  rintro e w' ⟨r, k, rfl, -, s', T', nx', st', ver', cs', stk', ow', os', ha', hP', e1, e2, e3, hO, how, hob, hlk, hvs, hE⟩
  have hk5 := (rank_pos (ver := ver) (T := T) hph).2
  refine ⟨r, s', T', nx', st', ver', cs', stk', ow', os', rfl, e1, by omega, ha', h.behind fx hP' ha hab (by omega) hO how hob, hE, fun b us hb => hO.blk hb (h.not86 (by omega) ha hb), fun k hx p hk hA => hA.keep hO (fun b hb => ?_) hvs (fun t t0 t1 t2 => ⟨t2, hlk t t0 (by omega) ?_⟩)⟩
  · rcases List.mem_append.1 hb with hb | hb
    · obtain ⟨_, _, x2, x3, x4, x5, x6, hm, hcb⟩ := id h.pool.mem
      simp only [List.mem_cons, List.not_mem_nil, or_false] at hb
      rcases hb with rfl | rfl | rfl | rfl
      · exact Or.inr ⟨_, _, ha, by decide, fun _ => by simp; omega⟩
      · exact Or.inr ⟨_, _, hm, by decide, fun e => absurd e (by decide)⟩
      · exact Or.inr ⟨_, _, hcb, by decide, fun e => absurd e (by decide)⟩
      · exact Or.inr ⟨_, _, h.pool.own, by decide, fun e => absurd e (by decide)⟩
    · obtain ⟨⟨us, q⟩, _⟩ := (h.pool.ints i (by omega)).blk3 (mem_blkOf.1 hb)
      exact Or.inr ⟨us, 3, q, by decide, fun e => absurd e (by decide)⟩
  · rintro rfl
    cases give with
    | true => have := (hg rfl).2.2; omega
    | false => have := hs' rfl; omega
end
end Go.Proofs.Ytcgiimgdcamkiaa
