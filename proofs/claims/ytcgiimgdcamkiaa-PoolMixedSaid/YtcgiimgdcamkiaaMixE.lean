/-
  PoolMixed: the state between two turns, its hidden parts behind one name, and what each turn makes of it. Plain laws: no walk.
-/
import Derived.Test.YtcgiimgdcamkiaaMixD
namespace Go.Proofs.Ytcgiimgdcamkiaa
open Go.RowKit
set_option linter.unusedVariables false

/-- The state as a whole; of the acts of the workers of A all is told. -/
def Mid (w0 wr : World) (L : PoolL) (M : MixL) (ns : List Value) (st : Int) (stk : List Nat) (os : List (List Int)) (hd : List Int) (ps hvs : List Value) (hxs : List (List Int)) (A : Nat → Prop) : Prop :=
  ∃ ver cs ow, MixP w0 wr L M ns st ver cs stk ow os hd ps hvs hxs ∧ ∀ k, k < 4 → A k → ActOK wr w0.heap.size L M.n ver stk cs hd (hxs.getD k []) k (ps.getD k nilP)

theorem getDv_eq {l : List Value} {k : Nat} {v d : Value} (h : k < l.length) : (l.set k v).getD k d = v := by simp [List.getD, h]
theorem getDv_ne {l : List Value} {k j : Nat} {v d : Value} (h : j ≠ k) : (l.set k v).getD j d = l.getD j d := by simp [List.getD, List.getElem?_set_ne (Ne.symm h)]
theorem getDx_eq {l : List (List Int)} {k : Nat} {v : List Int} (h : k < l.length) : (l.set k v).getD k [] = v := by simp [List.getD, h]
theorem getDx_ne {l : List (List Int)} {k j : Nat} {v : List Int} (h : j ≠ k) : (l.set k v).getD j [] = l.getD j [] := by simp [List.getD, List.getElem?_set_ne (Ne.symm h)]

/-- Two workers' acts are two. -/
theorem act_apart {w : World} {lb la ab aa pp : Nat} {r1 r2 r3 q1 q2 q3 : Value} {i j : Nat} {g1 g2 : Bool} {s1 s2 p1 p2 t1 t2 n1 n2 : Int} (h1 : Blk w lb [.pointer (some ⟨ab, 0, none⟩), r1, r2, r3] 86) (h2 : Blk w la [.pointer (some ⟨aa, 0, none⟩), q1, q2, q3] 86)
    (h3 : Blk w ab (actP pp i g1 s1 p1 t1 n1) 108) (h4 : Blk w aa (actP pp j g2 s2 p2 t2 n2) 108) (hij : i ≠ j) : lb ≠ la := by
  rintro rfl
  have c1 := h1.cell (o := 0) rfl
  rw [h2.cell (o := 0) rfl] at c1
  simp at c1
  subst c1
  have c2 := h3.cell (o := 1) rfl
  rw [h4.cell (o := 1) rfl] at c2
  simp at c2
  omega

section
variable {w0 wr w' : World} {L : PoolL} {M : MixL} {ns : List Value} {st : Int} {stk : List Nat} {os : List (List Int)} {hd : List Int} {ps hvs : List Value} {hxs : List (List Int)} {A B : Nat → Prop}

theorem Mid.imp (h : Mid w0 wr L M ns st stk os hd ps hvs hxs A) (hAB : ∀ k, k < 4 → B k → A k) : Mid w0 wr L M ns st stk os hd ps hvs hxs B := by
  obtain ⟨ver, cs, ow, h1, h2⟩ := h
  exact ⟨ver, cs, ow, h1, fun k hk hB => h2 k hk (hAB k hk hB)⟩

theorem Mid.fresh (h : Mid w0 wr L M ns st stk os hd ps hvs hxs A) (hO : Only [] wr w') : Mid w0 w' L M ns st stk os hd ps hvs hxs A := by
  obtain ⟨ver, cs, ow, h1, h2⟩ := h
  exact ⟨ver, cs, ow, h1.fresh hO, fun k hk hA => (h2 k hk hA).keep hO (by simp) (Or.inl ⟨rfl, rfl⟩) (fun s _ _ e => ⟨e, rfl⟩)⟩

theorem Mid.only0 (h : Mid w0 wr L M ns st stk os hd ps hvs hxs A) : Only [] w0 wr := by
  obtain ⟨ver, cs, ow, h1, h2⟩ := h
  exact h1.only

theorem Mid.blks (h : Mid w0 wr L M ns st stk os hd ps hvs hxs A) : Blk wr M.wb [.slice (some ⟨M.hb, 0, none⟩) M.n M.hc] 77 ∧ Ints wr L.lo (.slice (some ⟨M.hb, 0, none⟩) M.n M.hc) hd ∧ Blk wr M.pb ps 82 ∧ Blk wr M.xb hvs 49 ∧ ps.length = 4 ∧ hvs.length = 4 ∧ hxs.length = 4 ∧ os.length = L.W := by
  obtain ⟨ver, cs, ow, h1, h2⟩ := h
  exact ⟨h1.world, h1.hold, h1.acts, h1.holds, h1.plen, h1.hlen, h1.xlen, h1.pool.slen⟩

theorem Mid.hint (h : Mid w0 wr L M ns st stk os hd ps hvs hxs A) (k : Nat) (hk : k < 4) : Ints wr L.lo (hvs.getD k nilS) (hxs.getD k []) := by
  obtain ⟨ver, cs, ow, h1, h2⟩ := h
  exact h1.hints k hk

theorem Mid.lole (h : Mid w0 wr L M ns st stk os hd ps hvs hxs A) : L.lo ≤ wr.heap.size := by
  obtain ⟨ver, cs, ow, h1, h2⟩ := h
  exact h1.pool.lw

theorem Mid.steps (h : Mid w0 wr L M ns st stk os hd ps hvs hxs A) : Calls Try.prog 23 #[.pointer (some ⟨L.mb, 0, none⟩)] wr fun e w' => e = .returned (.int .i64 st) ∧ wr = w' := by
  obtain ⟨ver, cs, ow, h1, h2⟩ := h
  exact steps_any _ _ _ _ _ h1.pool.mem

theorem Mid.shared (h : Mid w0 wr L M ns st stk os hd ps hvs hxs A) (hst : st < 1073741824) : Calls Try.prog 37 #[.pointer (some ⟨L.pp, 0, none⟩)] wr (Cloned wr (intsOf stk)) := by
  obtain ⟨ver, cs, ow, h1, h2⟩ := h
  exact sharedP_any h1.pool (by have := h1.pool.vst; omega)

theorem Mid.slen (h : Mid w0 wr L M ns st stk os hd ps hvs hxs A) (fx : MixFix w0 L M) : (intsOf stk).length ≤ 12 := by
  obtain ⟨ver, cs, ow, h1, h2⟩ := h
  have := nodup_len L.n stk h1.pool.nodup h1.pool.inn
  have := fx.nn
  have := fx.n2
  rw [intsOf_len]
  omega

theorem Mid.two (h : Mid w0 wr L M ns st stk os hd ps hvs hxs A) (fx : MixFix w0 L M) {k : Nat} (hk : k < 4) : (os.getD k []).length ≤ 2 := by
  obtain ⟨ver, cs, ow, h1, h2⟩ := h
  exact h1.pool.two k (by rw [fx.W]; exact hk)

theorem Mid.own (h : Mid w0 wr L M ns st stk os hd ps hvs hxs A) (fx : MixFix w0 L M) {k : Nat} (hk : k < 4) : Calls Try.prog 36 #[.pointer (some ⟨L.pp, 0, none⟩), .int .i64 k] wr (Cloned wr (os.getD k [])) := by
  have h3 := h.two fx hk
  obtain ⟨ver, cs, ow, h1, h2⟩ := h
  have hW := fx.W
  exact ownP_any L.pp L.mb L.nb L.n L.ob L.W L.base wr h1.pool.pool k (by omega) (by omega) L.lo ow _ _ h1.pool.own (getD_of nilS (by rw [h1.pool.olen]; omega)) (h1.pool.ints k (by omega)) (by omega)

theorem Mid.take (h : Mid w0 wr L M ns st stk os hd ps hvs hxs A) (fx : MixFix w0 L M) {k : Nat} (hk : k < 4) : Calls Try.prog 34 #[.pointer (some ⟨L.pp, 0, none⟩), .int .i64 k] wr (Began wr (actP L.pp k false (-1) 0 0 0)) := by
  obtain ⟨ver, cs, ow, h1, h2⟩ := h
  have hW := fx.W
  exact takeP_yes L.pp L.mb L.nb L.n L.ob L.W L.base wr h1.pool.pool k (by omega) (by omega) (by omega)

theorem Mid.give (h : Mid w0 wr L M ns st stk os hd ps hvs hxs A) (fx : MixFix w0 L M) {k : Nat} (hk : k < 4) (s : Int) (s0 : 0 ≤ s) (s1 : s < M.n) : Calls Try.prog 35 #[.pointer (some ⟨L.pp, 0, none⟩), .int .i64 k, .int .i64 s] wr (Began wr (actP L.pp k true s 0 0 0)) := by
  obtain ⟨ver, cs, ow, h1, h2⟩ := h
  have hW := fx.W
  have hn := fx.nn
  have hn2 := fx.n2
  exact giveP_yes L.pp L.mb L.nb L.n L.ob L.W L.base wr h1.pool.pool (by omega) k s (by omega) (by omega) (by omega) s0 (by omega)

/-- A store into the array of acts; the other workers stand. -/
theorem Mid.setActs (h : Mid w0 wr L M ns st stk os hd ps hvs hxs A) (fx : MixFix w0 L M) {i : Nat} (hi : i < 4) (v : Value) (hB : ∀ k, k < 4 → B k → k ≠ i → A k)
    (hv : B i → ∀ ver cs, ActOK (wr.setCell ⟨M.pb, i, none⟩ v) w0.heap.size L M.n ver stk cs hd (hxs.getD i []) i v) : Mid w0 (wr.setCell ⟨M.pb, i, none⟩ v) L M ns st stk os hd (ps.set i v) hvs hxs B := by
  obtain ⟨ver, cs, ow, h1, h2⟩ := h
  refine ⟨ver, cs, ow, h1.setActs fx i v, fun k hk hA => ?_⟩
  by_cases e : k = i
  · subst e
    rw [getDv_eq (by rw [h1.plen]; exact hi)]
    exact hv hA ver cs
  · rw [getDv_ne e]
    refine (h2 k hk (hB k hk hA e)).keep (S := [M.pb]) ((Only.refl _ _).setCell (by simp) _) (fun b hb => ?_) (Or.inl ⟨rfl, rfl⟩) (fun s _ _ e => ⟨e, rfl⟩)
    simp at hb
    subst hb
    exact Or.inr ⟨_, _, h1.acts, by decide, fun e => absurd e (by decide)⟩

theorem Mid.setNil (h : Mid w0 wr L M ns st stk os hd ps hvs hxs A) (fx : MixFix w0 L M) {i : Nat} (hi : i < 4) (hB : ∀ k, k < 4 → k ≠ i → A k) : Mid w0 (wr.setCell ⟨M.pb, i, none⟩ nilP) L M ns st stk os hd (ps.set i nilP) hvs hxs (fun _ => True) :=
  h.setActs fx hi nilP (fun k hk _ e => hB k hk e) (fun _ _ _ => Or.inl rfl)

/-- An act begins. -/
theorem Mid.begin_ (h : Mid w0 wr L M ns st stk os hd ps hvs hxs (fun _ => True)) (fx : MixFix w0 L M) {i : Nat} (hi : i < 4) {lb ab : Nat} {give : Bool} {slot from_ s : Int} (hlb : w0.heap.size ≤ lb) (hab : w0.heap.size ≤ ab)
    (h2 : Blk wr lb [.pointer (some ⟨ab, 0, none⟩), .bool give, .int .i64 slot, .int .i64 from_] 86) (h3 : Blk wr ab (actP L.pp i give s 0 0 0) 108)
    (hg : give = true → s = slot ∧ 0 ≤ s ∧ s < M.n ∧ hd.getD s.toNat 0 = i ∧ s ∉ hxs.getD i []) (hg' : give = false → s = -1) : Mid w0 (wr.setCell ⟨M.pb, i, none⟩ (.pointer (some ⟨lb, 0, none⟩))) L M ns st stk os hd (ps.set i (.pointer (some ⟨lb, 0, none⟩))) hvs hxs (fun _ => True) := by
  have hp := h.blks.2.2.1
  exact h.setActs fx hi _ (fun _ _ _ _ => trivial) (fun _ ver cs => Or.inr ⟨lb, ab, give, slot, from_, s, 0, 0, 0, rfl, ⟨hlb, hab⟩, h2.ne _ _ (h2.ty hp (by decide)), h3.ne _ _ (h3.ty hp (by decide)), Or.inl rfl, Or.inl rfl, hg, hg'⟩)

/-- An act's 'from' turns. -/
theorem Mid.setFrom (h : Mid w0 wr L M ns st stk os hd ps hvs hxs A) {k lb ab : Nat} (hk : k < 4) {v1 v2 : Value} {fr s ph T nx : Int} {give : Bool} (hp : ps.getD k nilP = .pointer (some ⟨lb, 0, none⟩)) (h2 : Blk wr lb [.pointer (some ⟨ab, 0, none⟩), v1, v2, .int .i64 fr] 86)
    (h3 : Blk wr ab (actP L.pp k give s ph T nx) 108) (hlb : w0.heap.size ≤ lb) (fr' : Int) : Mid w0 (wr.setCell ⟨lb, 3, none⟩ (.int .i64 fr')) L M ns st stk os hd ps hvs hxs A := by
  obtain ⟨ver, cs, ow, h1, hA⟩ := h
  have hO : Only [lb] wr (wr.setCell ⟨lb, 3, none⟩ (.int .i64 fr')) := (Only.refl _ _).setCell (by simp) _
  refine ⟨ver, cs, ow, ?_, fun j hj hAj => ?_⟩
  · rcases h1.other (ps' := ps) hO (fun b hb => by
      simp at hb
      subst hb
      exact ⟨hlb, _, _, h2, by decide, by decide, by decide, by decide, by decide, by decide, by decide⟩) (h1.acts.ne _ _ (h1.acts.ty h2 (by decide))) with r | r
    · exact r
    · exact absurd h1.plen r
  · rcases hA j hj hAj with hp' | ⟨lj, aj, gj, sl, fj, sj, pj, tj, nj, hpj, hBj, b1, b2, r⟩
    · exact Or.inl hp'
    · by_cases e : j = k
      · subst e
        rw [hp] at hpj
        simp at hpj
        subst hpj
        have e2 := (b1.set 3 (.int .i64 fr'))
        simp only [List.set_cons_succ, List.set_cons_zero] at e2
        exact Or.inr ⟨lb, aj, gj, sl, fr', sj, pj, tj, nj, hp, hBj, e2, b2.ne _ _ (b2.ty h2 (by decide)), r⟩
      · exact Or.inr ⟨lj, aj, gj, sl, fj, sj, pj, tj, nj, hpj, hBj, b1.ne _ _ (act_apart b1 h2 b2 h3 e), b2.ne _ _ (b2.ty h2 (by decide)), r⟩

/-- A store into Holder. -/
theorem Mid.setHolder (h : Mid w0 wr L M ns st stk os hd ps hvs hxs A) (fx : MixFix w0 L M) (hl : hd.length = M.n) (s : Nat) (v : Int) (hk : ∀ k, k < 4 → A k → ps.getD k nilP = nilP ∨ hd.getD s 0 ≠ k) :
    Mid w0 (wr.setCell ⟨M.hb, s, none⟩ (.int .i64 v)) L M ns st stk os (hd.set s v) ps hvs hxs A := by
  obtain ⟨ver, cs, ow, h1, hA⟩ := h
  refine ⟨ver, cs, ow, h1.setHolder fx hl s v, fun k hk4 hAk => ?_⟩
  rcases hk k hk4 hAk with e | e
  · exact Or.inl e
  · refine (hA k hk4 hAk).keep (S := [M.hb]) ((Only.refl _ _).setCell (by simp) _) (fun b hb => ?_) (Or.inl ⟨rfl, rfl⟩) (fun t t0 t1 t2 => ⟨?_, rfl⟩)
    · simp at hb
      subst hb
      obtain ⟨⟨us, q⟩, _⟩ := h1.hold.blk3 (g := M.hb) rfl
      exact Or.inr ⟨us, 3, q, by decide, fun e => absurd e (by decide)⟩
    · rw [getD_set_ne (by rintro rfl; exact e t2)]
      exact t2
end
end Go.Proofs.Ytcgiimgdcamkiaa
