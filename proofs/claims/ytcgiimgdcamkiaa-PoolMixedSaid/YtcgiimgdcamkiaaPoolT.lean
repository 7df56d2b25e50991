/-
  What a Step of an act of a pool leaves, over the state of the pool as a whole.
-/
import Derived.Test.YtcgiimgdcamkiaaPoolS
namespace Go.Proofs.Ytcgiimgdcamkiaa
open Go.RowKit
set_option linter.unusedVariables false

section
variable {w : World} {L : PoolL} {st ver : Int} {cs : List Int} {stk : List Nat} {ow : List Value} {os : List (List Int)} {ns : List Value}

theorem getD_of {α : Type} {l : List α} {i : Nat} (d : α) (h : i < l.length) : l[i]? = some (l.getD i d) := by simp [List.getD, h]

theorem stepPool_0 (h : PoolSt w L st ver cs stk ow os ns) (hst : 0 ≤ st ∧ st < 1000000) (ab i : Nat) (hi : i < L.W) (give : Bool) (s T nx : Int) (hs : give = false → s = -1)
    (ha : Blk w ab (actP L.pp i give s 0 T nx) 108) : Calls Try.prog 39 #[.pointer (some ⟨ab, 0, none⟩)] w (StepOut w L st ver cs stk ow os ns i ab give s 0 T) := by
  have hv := getD_of nilS (show i < ow.length by rw [h.olen]; exact hi)
  have hx := h.ints i hi
  have htwo := h.two i hi
  have hvst := h.vst
  have hv0 := h.v0
  have hcl := h.mem.len
  have hb0 := h.b0
  have hb1 := h.b1
  have hpb := topOf_bd h.inn
  have hn2 := h.n2
  have hne : ∀ g, (ow.getD i nilS).ownBlock = some g → g ≠ L.ob := by
    intro g hg
    obtain ⟨⟨us, q⟩, _⟩ := hx.blk3 hg
    exact q.ty h.own (by decide)
  have hoa : L.ob ≠ ab := h.own.ty ha (by decide)
  have hab : ab ∉ L.ob :: blkOf (ow.getD i nilS) := by
    intro hm
    rcases List.mem_cons.1 hm with e | e
    · exact hoa e.symm
    · obtain ⟨⟨us, q⟩, _⟩ := hx.blk3 (mem_blkOf.1 e)
      exact absurd rfl (q.ty ha (by decide))
  by_cases hg : give = true ∧ (os.getD i []).length < 2
  · -- a slot goes to the worker's own list
    obtain ⟨rfl, hl⟩ := hg
    have h1 := private_give ab L.pp L.mb L.nb L.n L.ob L.W i L.lo L.base s 0 T nx ow _ _ w ha h.pool h.own hi h.W2 h.olen hv hx hl h.lw hne
    have h2 := first_own ab L.pp i s 0 T nx true (fun w1 => ∃ v', Blk w1 L.ob (ow.set i v') 29 ∧ Ints w1 L.lo v' (os.getD i [] ++ [s]) ∧ (v'.ownBlock = (ow.getD i nilS).ownBlock ∨ ∃ g, v'.ownBlock = some g ∧ w.heap.size ≤ g) ∧ Only (L.ob :: blkOf (ow.getD i nilS)) w w1) w
      (h1.mono (by rintro e w1 ⟨rfl, v', q1, q2, q3, q4⟩; exact ⟨rfl, q4.blk ha hab, v', q1, q2, q3, q4⟩))
    have h3 := stepP_0 ab L.pp i s T nx s 3 T nx true (fun w' => ∃ w1 v', Only [ab] w1 w' ∧ Blk w1 L.ob (ow.set i v') 29 ∧ Ints w1 L.lo v' (os.getD i [] ++ [s]) ∧ (v'.ownBlock = (ow.getD i nilS).ownBlock ∨ ∃ g, v'.ownBlock = some g ∧ w.heap.size ≤ g) ∧ Only (L.ob :: blkOf (ow.getD i nilS)) w w1 ∧ Blk w1 ab (actP L.pp i true s 0 T nx) 108) w ha
      (h2.mono (by rintro e w1 ⟨rfl, w2, ⟨v', q1, q2, q3, q4⟩, q5, q6⟩; exact ⟨rfl, q5, w2, v', q6, q1, q2, q3, q4, q4.blk ha hab⟩))
    refine h3.mono ?_
    rintro e w' ⟨rfl, hA, w1, v', q1, q2, q3, q4, q5, q6⟩
    have hO : Only ([ab, L.ob] ++ blkOf (ow.getD i nilS)) w w' := (q5.mono (fun k _ hk => (List.mem_cons.1 hk).elim (fun e => by rw [e]; simp) (fun e => List.mem_append_right _ e))).trans (q1.mono (by simp +contextual))
    have hP := h.ownStep ha hi (v' := v') hO (q1.blk q2 (by simp; exact hoa)) (q3.only q1 (by intro k hk; simp at hk; subst hk; exact Or.inr (Or.inr ⟨_, _, q6, by decide⟩))) q4 (by rw [List.length_append]; simp only [List.length_singleton]; omega)
    refine ⟨s, 3, T, nx, st, ver, cs, stk, _, _, rfl, by simp [rank], hA, hP, by omega, by omega, hO.mono ?_, fun j hj => by simp [List.getD, List.getElem?_set_ne (Ne.symm hj)], ?_, fun _ _ _ _ => rfl, Or.inr (Or.inr (Or.inr (Or.inr (Or.inl ⟨rfl, rfl, rfl, rfl, rfl, rfl⟩))))⟩
    · intro k _ hk
      rcases List.mem_append.1 hk with hk | hk
      · refine List.mem_append_left _ ?_
        simp only [List.mem_cons, List.not_mem_nil, or_false] at hk ⊢
        omega
      · exact List.mem_append_right _ hk
    · rw [show (ow.set i v').getD i nilS = v' by simp [List.getD, h.olen, hi]]
      exact q4
  by_cases hk : give = false ∧ os.getD i [] ≠ []
  · -- a slot comes from the worker's own list
    obtain ⟨rfl, hl⟩ := hk
    obtain ⟨ys, t, hyt⟩ : ∃ ys t, os.getD i [] = ys ++ [t] := ⟨_, _, (List.dropLast_concat_getLast hl).symm⟩
    have hx' := hx
    rw [hyt] at hx' htwo
    have h1 := private_take ab L.pp L.mb L.nb L.n L.ob L.W i L.lo L.base s 0 T nx t ow _ ys w ha h.pool h.own hi h.W2 hv hx' (by simp at htwo; omega)
    have h2 := first_own ab L.pp i t 0 T nx false (fun w1 => ∃ v', Blk w1 L.ob (ow.set i v') 29 ∧ Ints w1 L.lo v' ys ∧ v'.ownBlock = (ow.getD i nilS).ownBlock ∧ Only [L.ob, ab] w w1 ∧ Blk w1 ab (actP L.pp i false t 0 T nx) 108) w
      (h1.mono (by rintro e w1 ⟨rfl, q0, v', q1, q2, q3, q4⟩; exact ⟨rfl, q0, v', q1, q2, q3, q4, q0⟩))
    have h3 := stepP_0 ab L.pp i s T nx t 3 T nx false (fun w' => ∃ w1 v', Only [ab] w1 w' ∧ Blk w1 L.ob (ow.set i v') 29 ∧ Ints w1 L.lo v' ys ∧ v'.ownBlock = (ow.getD i nilS).ownBlock ∧ Only [L.ob, ab] w w1 ∧ Blk w1 ab (actP L.pp i false t 0 T nx) 108) w ha
      (h2.mono (by rintro e w1 ⟨rfl, w2, ⟨v', q1, q2, q3, q4, q7⟩, q5, q6⟩; exact ⟨rfl, q5, w2, v', q6, q1, q2, q3, q4, q7⟩))
    refine h3.mono ?_
    rintro e w' ⟨rfl, hA, w1, v', q1, q2, q3, q4, q5, q6⟩
    have hO : Only [ab, L.ob] w w' := (q5.mono (by intro k _ hk; simp at hk ⊢; omega)).trans (q1.mono (by simp +contextual))
    have hP := h.ownStep ha hi (v' := v') (hO.mono (by intro k _ hk; exact List.mem_append_left _ hk)) (q1.blk q2 (by simp; exact hoa)) (q3.only q1 (by intro k hk; simp at hk; subst hk; exact Or.inr (Or.inr ⟨_, _, q6, by decide⟩))) (Or.inl q4) (by simp at htwo; omega)
    refine ⟨t, 3, T, nx, st, ver, cs, stk, _, _, rfl, by simp [rank], hA, hP, by omega, by omega, hO.mono ?_, fun j hj => by simp [List.getD, List.getElem?_set_ne (Ne.symm hj)], ?_, fun _ _ _ _ => rfl, Or.inr (Or.inl ⟨rfl, rfl, ⟨ys, hyt, rfl⟩, rfl, rfl⟩)⟩
    · intro k _ hk
      refine List.mem_append_left _ ?_
      simp only [List.mem_cons, List.not_mem_nil, or_false] at hk ⊢
      omega
    · rw [show (ow.set i v').getD i nilS = v' by simp [List.getD, h.olen, hi]]
      exact Or.inl q4
  -- the stack's top is read
  have hno : (give = true ∧ 2 ≤ (os.getD i []).length) ∨ (give = false ∧ os.getD i [] = []) := by
    cases give with
    | true => simp at hg; exact Or.inl ⟨rfl, hg⟩
    | false => simp at hk; exact Or.inr ⟨rfl, hk⟩
  have h1 := private_no ab L.pp L.mb L.nb L.n L.ob L.W i L.lo L.base s 0 T nx give ow _ _ w ha h.pool h.own hi h.W2 hv hx hno
  have go : ∀ ph : Int, (topOf stk < 0 ∧ give = false ∧ ph = 3) ∨ (topOf stk < 0 ∧ give = true ∧ ph = 1) ∨ (0 ≤ topOf stk ∧ ph = 1) →
      Calls Try.prog 39 #[.pointer (some ⟨ab, 0, none⟩)] w (StepP ab (actP L.pp i give s ph (ver * 4294967296 + topOf stk + 1) nx) (ph == 3) (fun w' => PoolSt w' L (st + 1) ver cs stk ow os ns ∧ Only [ab, L.mb, L.cb] w w')) := by
    intro ph hph
    refine stepP_0 ab L.pp i s T nx s ph _ nx give _ w ha ((first_top ab L.pp L.mb L.cb L.nb L.n L.ob L.W L.base i s 0 T nx give cs st _ ver (topOf stk) w ha h.pool h.mem (by omega) hb0 (by omega) h.top rfl (by omega) (by omega) ph hph h1).mono ?_)
    rintro e w' ⟨rfl, q1, q2, q3⟩
    exact ⟨rfl, q1, h.memStep ha q3 q2 rfl h.top h.v0 (by omega) h.chain h.nodup h.inn h.links, q3⟩
  have hmono : ∀ w', Only [ab, L.mb, L.cb] w w' → Only ([ab, L.mb, L.cb, L.ob] ++ blkOf (ow.getD i nilS)) w w' := by
    intro w' hO
    refine hO.mono (fun k _ hk => ?_)
    simp at hk ⊢
    rcases hk with rfl | rfl | rfl <;> simp
  by_cases hend : topOf stk < 0 ∧ give = false
  · refine (go 3 (Or.inl ⟨hend.1, hend.2, rfl⟩)).mono ?_
    rintro e w' ⟨rfl, hA, hP, hO⟩
    have hstk : stk = [] := by
      cases stk with
      | nil => rfl
      | cons a r => have := hend.1; simp [topOf] at this; omega
    have hos : os.getD i [] = [] := by
      rcases hno with ⟨q, _⟩ | ⟨_, q⟩
      · rw [hend.2] at q; cases q
      · exact q
    exact ⟨s, 3, _, nx, st + 1, ver, cs, stk, ow, os, rfl, by simp [rank], hA, hP, by omega, by omega, hmono w' hO, fun _ _ => rfl, Or.inl rfl, fun _ _ _ _ => rfl, Or.inr (Or.inr (Or.inl ⟨rfl, hend.2, hs hend.2, hos, hstk, hstk, rfl, rfl⟩))⟩
  · refine (go 1 (by cases give <;> simp at hend ⊢ <;> omega)).mono ?_
    rintro e w' ⟨rfl, hA, hP, hO⟩
    refine ⟨s, 1, _, nx, st + 1, ver, cs, stk, ow, os, rfl, by rw [show rank ver 1 (ver * 4294967296 + topOf stk + 1) = 2 by simp [rank]; omega]; simp [rank], hA, hP, by omega, by omega, hmono w' hO, fun _ _ => rfl, Or.inl rfl, fun _ _ _ _ => rfl, Or.inl ⟨rfl, rfl, rfl, rfl, rfl, Or.inr ⟨ver, topOf stk, rfl, hv0, by omega, hpb.1, hpb.2, ?_, fun _ => rfl, Or.inl rfl⟩, Or.inr (Or.inl rfl)⟩⟩
    intro hgf
    simp [hgf] at hend
    exact hend

theorem chain_congr {cs cs' : List Int} {b : Int} {l : List Nat} (h : Chain cs b l) (he : ∀ t, t ∈ l → lk cs' b t = lk cs b t) : Chain cs' b l := by
  induction l with
  | nil => exact h
  | cons a r ih => exact ⟨by rw [he a (by simp)]; exact h.1, ih h.2 (fun t ht => he t (by simp [ht]))⟩
theorem getD_set_ne {l : List Int} {a b : Nat} {v : Int} (h : a ≠ b) : (l.set a v).getD b 0 = l.getD b 0 := by simp [List.getD, List.getElem?_set_ne h]
theorem getD_set_eq {l : List Int} {a : Nat} {v : Int} (h : a < l.length) : (l.set a v).getD a 0 = v := by simp [List.getD, h]
theorem lk_base {cs : List Int} {b v t : Int} (hb : 0 ≤ b) (ht : 0 ≤ t) : lk (cs.set b.toNat v) b t = lk cs b t := getD_set_ne (by omega)
theorem lk_ne {cs : List Int} {b v t s : Int} (hb : 0 ≤ b) (ht : 0 ≤ t) (hs : 0 ≤ s) (h : t ≠ s) : lk (cs.set (b + 1 + s).toNat v) b t = lk cs b t := getD_set_ne (by omega)
theorem lk_eq {cs : List Int} {b v s : Int} (h : (b + 1 + s).toNat < cs.length) : lk (cs.set (b + 1 + s).toNat v) b s = v := getD_set_eq h

theorem stepPool_1 (h : PoolSt w L st ver cs stk ow os ns) (hst : 0 ≤ st ∧ st < 1000000) (ab i : Nat) (hi : i < L.W) (give : Bool) (s T nx : Int) (hs : give = true → 0 ≤ s ∧ s < L.n ∧ s.toNat ∉ stk)
    (hI : ActInv L ver stk cs give s 1 T nx) (ha : Blk w ab (actP L.pp i give s 1 T nx) 108) : Calls Try.prog 39 #[.pointer (some ⟨ab, 0, none⟩)] w (StepOut w L st ver cs stk ow os ns i ab give s 1 T) := by
  have hvst := h.vst
  have hv0 := h.v0
  have hcl := h.mem.len
  have hb0 := h.b0
  have hb1 := h.b1
  have hn2 := h.n2
  have hmono : ∀ w', Only [ab, L.mb, L.cb] w w' → Only ([ab, L.mb, L.cb, L.ob] ++ blkOf (ow.getD i nilS)) w w' := by
    intro w' hO
    refine hO.mono (fun k _ hk => List.mem_append_left _ ?_)
    simp only [List.mem_cons, List.not_mem_nil, or_false] at hk ⊢
    omega
  rcases hI with hI | ⟨vr, pr, hT, hr0, hr1, hp0, hp1, hp2, hp3, hph⟩
  · omega
  have hrk : rank ver 2 T < rank ver 1 T := by
    simp only [rank, show (2 : Int) ≠ 3 by decide, show (1 : Int) ≠ 3 by decide, show (2 : Int) ≠ 0 by decide, show (1 : Int) ≠ 0 by decide, show (2 : Int) ≠ 1 by decide, if_true, if_false]
    split <;> omega
  cases give with
  | true =>
    obtain ⟨hs0, hs1, hs2⟩ := hs rfl
    refine (stepP_1 ab L.pp i s T nx s 2 T nx true _ w ha (second_give ab L.pp L.mb L.cb L.nb L.n L.ob L.W L.base i s 1 nx cs st T vr pr w ha h.pool h.mem (by omega) (by omega) (by omega) (by omega) hT (by omega) (by omega))).mono ?_
    rintro e w' ⟨rfl, hA, hM, hO⟩
    have ht : (cs.set (L.base + 1 + s).toNat pr).getD L.base.toNat 0 = ver * 4294967296 + topOf stk + 1 := by rw [getD_set_ne (by omega)]; exact h.top
    have hlk : ∀ t : Int, 0 ≤ t → t < L.n → t ≠ s → lk (cs.set (L.base + 1 + s).toNat pr) L.base t = lk cs L.base t := fun t h0 _ hne => lk_ne (by omega) h0 hs0 hne
    have hls : lk (cs.set (L.base + 1 + s).toNat pr) L.base s = pr := lk_eq (by omega)
    have hch : Chain (cs.set (L.base + 1 + s).toNat pr) L.base stk := by
      refine chain_congr h.chain (fun t hmt => hlk t (by omega) (by have := h.inn t hmt; omega) (fun e => hs2 ?_))
      rw [← e]
      exact hmt
    have hP := h.memStep ha hO hM (by simp) ht h.v0 (by omega) hch h.nodup h.inn (fun t h0 h1 => by
      by_cases e : t = s
      · rw [e, hls]; omega
      · rw [hlk t h0 h1 e]; exact h.links t h0 h1)
    exact ⟨s, 2, T, nx, st + 1, ver, _, stk, ow, os, rfl, hrk, hA, hP, by omega, by omega, hmono w' hO, fun _ _ => rfl, Or.inl rfl, hlk, Or.inl ⟨rfl, rfl, rfl, rfl, rfl, Or.inr ⟨vr, pr, hT, hr0, hr1, hp0, hp1, hp2, hp3, Or.inr ⟨rfl, fun hg => (by cases hg), fun _ => hls⟩⟩, Or.inr (Or.inr rfl)⟩⟩
  | false =>
    have hp4 := hp2 rfl
    refine (stepP_1 ab L.pp i s T nx s 2 T (lk cs L.base pr) false _ w ha (second_take ab L.pp L.mb L.cb L.nb L.n L.ob L.W L.base i s 1 nx cs st T vr pr (lk cs L.base pr) w ha h.pool h.mem (by omega) (by omega) (by omega) (by omega) hT (by omega) rfl)).mono ?_
    rintro e w' ⟨rfl, hA, hM, hO⟩
    have hP := h.memStep ha hO hM rfl h.top h.v0 (by omega) h.chain h.nodup h.inn h.links
    refine ⟨s, 2, T, _, st + 1, ver, _, stk, ow, os, rfl, hrk, hA, hP, by omega, by omega, hmono w' hO, fun _ _ => rfl, Or.inl rfl, fun _ _ _ _ => rfl, Or.inl ⟨rfl, rfl, rfl, rfl, rfl, Or.inr ⟨vr, pr, hT, hr0, hr1, hp0, hp1, hp2, hp3, Or.inr ⟨rfl, fun _ => ⟨(h.links pr hp4 hp1).1, (h.links pr hp4 hp1).2, fun hv => ?_⟩, fun hg => (by cases hg)⟩⟩, Or.inr (Or.inr rfl)⟩⟩
    have e := hp3 hv
    have hc := h.chain
    cases stk with
    | nil => simp [topOf] at e; omega
    | cons a r =>
      simp only [topOf] at e
      exact ⟨a, r, rfl, by rw [e]; exact hc.1⟩

theorem stepPool_2 (h : PoolSt w L st ver cs stk ow os ns) (hst : 0 ≤ st ∧ st < 1000000) (ab i : Nat) (hi : i < L.W) (give : Bool) (s T nx : Int) (hs : give = true → 0 ≤ s ∧ s < L.n ∧ s.toNat ∉ stk) (hs' : give = false → s = -1)
    (hI : ActInv L ver stk cs give s 2 T nx) (ha : Blk w ab (actP L.pp i give s 2 T nx) 108) : Calls Try.prog 39 #[.pointer (some ⟨ab, 0, none⟩)] w (StepOut w L st ver cs stk ow os ns i ab give s 2 T) := by
  have hvst := h.vst
  have hv0 := h.v0
  have hcl := h.mem.len
  have hb0 := h.b0
  have hb1 := h.b1
  have hn2 := h.n2
  have htop := h.top
  have htb := topOf_bd h.inn
  have hmono : ∀ w', Only [ab, L.mb, L.cb] w w' → Only ([ab, L.mb, L.cb, L.ob] ++ blkOf (ow.getD i nilS)) w w' := by
    intro w' hO
    refine hO.mono (fun k _ hk => List.mem_append_left _ ?_)
    simp only [List.mem_cons, List.not_mem_nil, or_false] at hk ⊢
    omega
  rcases hI with hI | ⟨vr, pr, hT, hr0, hr1, hp0, hp1, hp2, hp3, hph⟩
  · omega
  obtain ⟨_, hn, hl⟩ := hph.resolve_left (by decide)
  have hd : T / 4294967296 = vr := by omega
  by_cases hv : vr = ver
  · have hp := hp3 hv
    have hTc : cs.getD L.base.toNat 0 = T := by rw [htop, hT, hv, hp]
    have hrk : ∀ v, rank v 3 T < rank ver 2 T := by
      intro v
      simp only [rank, show (2 : Int) ≠ 3 by decide, show (2 : Int) ≠ 0 by decide, show (2 : Int) ≠ 1 by decide, if_true, if_false]
      split <;> omega
    cases give with
    | true =>
      obtain ⟨hs0, hs1, hs2⟩ := hs rfl
      refine (stepP_2 ab L.pp i s T nx s 3 T nx true _ w ha (third_give_ok ab L.pp L.mb L.cb L.nb L.n L.ob L.W L.base i s 2 nx cs st T vr pr w ha h.pool h.mem (by omega) (by omega) (by omega) (by omega) hT (by omega) (by omega) hTc)).mono ?_
      rintro e w' ⟨rfl, hA, hM, hO⟩
      have hlk : ∀ v t : Int, 0 ≤ t → lk (cs.set L.base.toNat v) L.base t = lk cs L.base t := fun v t h0 => lk_base (by omega) h0
      have hsn : ((s.toNat : Nat) : Int) = s := by omega
      have hP := h.memStep ha hO hM (stk' := s.toNat :: stk) (ver' := ver + 1) (by simp) (by rw [getD_set_eq (by omega), hv]; simp only [topOf, hsn]) (by omega) (by omega)
        ⟨by rw [hsn, hlk _ _ hs0, hl rfl, hp], chain_congr h.chain (fun t ht => hlk _ _ (by omega))⟩ (List.nodup_cons.2 ⟨hs2, h.nodup⟩) (fun t ht => by
          rcases List.mem_cons.1 ht with e | e
          · omega
          · exact h.inn t e) (fun t h0 h1 => by rw [hlk _ _ h0]; exact h.links t h0 h1)
      exact ⟨s, 3, T, nx, st + 1, ver + 1, _, s.toNat :: stk, ow, os, rfl, hrk _, hA, hP, by omega, by omega, hmono w' hO, fun _ _ => rfl, Or.inl rfl, fun t h0 _ _ => hlk _ t h0, Or.inr (Or.inr (Or.inr (Or.inr (Or.inr ⟨rfl, rfl, rfl, rfl, rfl, rfl⟩))))⟩
    | false =>
      obtain ⟨hx0, hx1, hx2⟩ := hn rfl
      obtain ⟨a, r, hst', hnx⟩ := hx2 hv
      refine (stepP_2 ab L.pp i s T nx pr 3 T nx false _ w ha (third_take_ok ab L.pp L.mb L.cb L.nb L.n L.ob L.W L.base i s 2 nx cs st T vr pr w ha h.pool h.mem (by omega) (by omega) (by omega) (by omega) hT (by omega) (by omega) hTc)).mono ?_
      rintro e w' ⟨rfl, hA, hM, hO⟩
      have hlk : ∀ v t : Int, 0 ≤ t → lk (cs.set L.base.toNat v) L.base t = lk cs L.base t := fun v t h0 => lk_base (by omega) h0
      have hnd := h.nodup
      have hin := h.inn
      have hch := h.chain
      rw [hst'] at hnd hin hch
      have hP := h.memStep ha hO hM (stk' := r) (ver' := ver + 1) (by simp) (by rw [getD_set_eq (by omega), hv, hnx]) (by omega) (by omega)
        (chain_congr hch.2 (fun t ht => hlk _ _ (by omega))) (List.nodup_cons.1 hnd).2 (fun t ht => hin t (by simp [ht])) (fun t h0 h1 => by rw [hlk _ _ h0]; exact h.links t h0 h1)
      refine ⟨pr, 3, T, nx, st + 1, ver + 1, _, r, ow, os, rfl, hrk _, hA, hP, by omega, by omega, hmono w' hO, fun _ _ => rfl, Or.inl rfl, fun t h0 _ _ => hlk _ t h0, Or.inr (Or.inr (Or.inr (Or.inl ⟨rfl, rfl, ⟨a, ?_, hst'⟩, rfl, rfl⟩)))⟩
      rw [hp, hst']
      rfl
  · have hTc : cs.getD L.base.toNat 0 ≠ T := by rw [htop, hT]; omega
    have hrk : rank ver 0 T < rank ver 2 T := by
      simp only [rank, show (2 : Int) ≠ 3 by decide, show (2 : Int) ≠ 0 by decide, show (2 : Int) ≠ 1 by decide, show (0 : Int) ≠ 3 by decide, if_true, if_false]
      rw [if_neg (by omega)]
      decide
    cases give with
    | true =>
      obtain ⟨hs0, hs1, hs2⟩ := hs rfl
      refine (stepP_2 ab L.pp i s T nx s 0 T nx true _ w ha (third_give_no ab L.pp L.mb L.cb L.nb L.n L.ob L.W L.base i s 2 nx cs st T vr pr w ha h.pool h.mem (by omega) (by omega) (by omega) (by omega) hT (by omega) (by omega) hTc)).mono ?_
      rintro e w' ⟨rfl, hA, hM, hO⟩
      have hP := h.memStep ha hO hM rfl h.top h.v0 (by omega) h.chain h.nodup h.inn h.links
      exact ⟨s, 0, T, nx, st + 1, ver, _, stk, ow, os, rfl, hrk, hA, hP, by omega, by omega, hmono w' hO, fun _ _ => rfl, Or.inl rfl, fun _ _ _ _ => rfl, Or.inl ⟨rfl, rfl, rfl, rfl, rfl, Or.inl rfl, Or.inl rfl⟩⟩
    | false =>
      have hs0 := hs' rfl
      obtain ⟨hx0, hx1, hx2⟩ := hn rfl
      refine (stepP_2 ab L.pp i s T nx s 0 T nx false _ w ha (third_take_no ab L.pp L.mb L.cb L.nb L.n L.ob L.W L.base i s 2 nx cs st T vr pr w ha h.pool h.mem (by omega) (by omega) (by omega) (by omega) hT (by omega) (by omega) hTc)).mono ?_
      rintro e w' ⟨rfl, hA, hM, hO⟩
      have hP := h.memStep ha hO hM rfl h.top h.v0 (by omega) h.chain h.nodup h.inn h.links
      exact ⟨s, 0, T, nx, st + 1, ver, _, stk, ow, os, rfl, hrk, hA, hP, by omega, by omega, hmono w' hO, fun _ _ => rfl, Or.inl rfl, fun _ _ _ _ => rfl, Or.inl ⟨rfl, rfl, rfl, rfl, rfl, Or.inl rfl, Or.inl rfl⟩⟩

/-- A Step of an act that is not over. -/
theorem stepPool (h : PoolSt w L st ver cs stk ow os ns) (hst : 0 ≤ st ∧ st < 1000000) (ab i : Nat) (hi : i < L.W) (give : Bool) (s ph T nx : Int) (hs : give = true → 0 ≤ s ∧ s < L.n ∧ s.toNat ∉ stk) (hs' : give = false → s = -1)
    (hph : ph = 0 ∨ ph = 1 ∨ ph = 2) (hI : ActInv L ver stk cs give s ph T nx) (ha : Blk w ab (actP L.pp i give s ph T nx) 108) : Calls Try.prog 39 #[.pointer (some ⟨ab, 0, none⟩)] w (StepOut w L st ver cs stk ow os ns i ab give s ph T) := by
  rcases hph with rfl | rfl | rfl
  · exact stepPool_0 h hst ab i hi give s T nx hs' ha
  · exact stepPool_1 h hst ab i hi give s T nx hs hI ha
  · exact stepPool_2 h hst ab i hi give s T nx hs hs' hI ha
end
end Go.Proofs.Ytcgiimgdcamkiaa
