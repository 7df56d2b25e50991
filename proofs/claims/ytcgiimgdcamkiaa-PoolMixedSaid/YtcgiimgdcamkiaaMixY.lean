/-
  A region that draws its order and whose last operation waits for all others: what the loads read need hold only till that last one. (Beside the kit's law on a condition that is held through a whole region: there the last store too must leave the condition.)
-/
import Derived.OrdersHeld
import Derived.Deep.RegionHeld3
namespace Go.Proofs.Ytcgiimgdcamkiaa
open Go
set_option linter.unusedVariables false

section
variable {P : Program} {ops : Array Oper} {Q : Exit → Act → World → Prop} {md : Region.Mode} {S : World → Prop} {n : Nat}

/-- Number n waits for number i. -/
def waitsOn (md : Region.Mode) (ops : Array Oper) (n i : Nat) : Bool :=
  match ops[n]? with
  | some o => o.after.any fun e => Region.binds md e && e.on == i
  | none => false

theorem waitsOn_spec {i : Nat} (h : waitsOn md ops n i = true) {listed : Array Bool} (hn : n ∈ Region.ready md ops listed) : listed.getD i false = true := by
  obtain ⟨_, o, ho, hall⟩ := mem_ready.1 hn
  unfold waitsOn at h
  rw [ho] at h
  obtain ⟨e, he, h3⟩ := Array.any_eq_true'.1 h
  rw [Bool.and_eq_true] at h3
  obtain ⟨h4, h5⟩ := h3
  have h6 := hall e he h4
  rwa [show e.on = i by simpa using h5] at h6

/-- Whatever order is picked from here on; S holds behind every operation but number n. -/
def AnyT (P : Program) (md : Region.Mode) (ops : Array Oper) (Q : Exit → Act → World → Prop) (S : World → Prop) (n : Nat) : Nat → Array Bool → Act → World → Prop
  | 0, listed, a, w => Region.ready md ops listed = [] ∧ Q .normal a w
  | fuel + 1, listed, a, w =>
    (Region.ready md ops listed = [] → Q .normal a w) ∧
    ∀ i ∈ Region.ready md ops listed, wpOp P ops Q i (fun a' w' => (i = n ∨ S w') ∧ AnyT P md ops Q S n fuel (listed.setIfInBounds i true) a' w') a w

theorem AnyT.any : ∀ (fuel : Nat) (listed : Array Bool) (a : Act) (w : World), AnyT P md ops Q S n fuel listed a w → wpAny P md ops Q fuel listed a w
  | 0, _, _, _, h => h
  | fuel + 1, _, _, _, h => ⟨h.1, fun i hi => wpOp_mono (fun a' w' h' => AnyT.any fuel _ a' w' h'.2) (h.2 i hi)⟩

theorem AnyT.first {i : Nat} {oi : Oper} {v : Value} (hw : waitsOn md ops n i = true) (hi : ops[i]? = some oi) (hsel : ∀ (j : Nat) (o : Oper) cs b, ops[j]? = some o → o.op ≠ .select cs b)
    (hQ : ∀ c a w, Q (.panic c) (a.put oi.dst v) w → Q (.panic c) a w) :
    ∀ (fuel : Nat) (listed : Array Bool) (a : Act) (w : World),
      (∀ j oj, ops[j]? = some oj → j ≠ i → listed.getD j true = false → (∀ e ∈ oj.after, Region.binds md e = true → e.on ≠ i) → oi.apart ops oj = true) →
      i ∈ Region.ready md ops listed → YieldsIf P ops S oi v a → S w →
      AnyT P md ops Q S n fuel (listed.setIfInBounds i true) (a.put oi.dst v) w → AnyT P md ops Q S n (fuel + 1) listed a w := by
  intro fuel
  induction fuel with
  | zero =>
    intro listed a w _ hr hy hS H
    refine ⟨fun h => (by rw [h] at hr; cases hr), fun j hj => ?_⟩
    by_cases hji : j = i
    · subst hji
      exact hy.wpOp hi hS ⟨Or.inr hS, H⟩
    · have h1 := ready_mono hj hji
      rw [H.1] at h1
      cases h1
  | succ fuel ih =>
    intro listed a w hfree hr hy hS H
    refine ⟨fun h => (by rw [h] at hr; cases hr), fun j hj => ?_⟩
    by_cases hji : j = i
    · subst hji
      exact hy.wpOp hi hS ⟨Or.inr hS, H⟩
    · have hun := (mem_ready.1 hr).1
      have hif : listed.getD i false = false := by
        rcases Nat.lt_or_ge i listed.size with h' | h'
        · simp [h'] at hun ⊢
          exact hun
        · simp [Array.getElem?_eq_none h']
      have hjn : j ≠ n := by
        intro e
        have h1 := waitsOn_spec hw (e ▸ hj)
        rw [hif] at h1
        cases h1
      have h1 := H.2 j (ready_mono hj hji)
      obtain ⟨hjun, oj, hoj, hall⟩ := mem_ready.1 hj
      have hnot : ∀ e ∈ oj.after, Region.binds md e = true → e.on ≠ i := fun e he hb heq => by
        have h2 := hall e he hb
        rw [heq, hif] at h2
        cases h2
      have h2 := wpOp_putIf hoj (hfree j oj hoj hji hjun hnot) (fun cs b => hsel i oi cs b hi) (fun cs b => hsel j oj cs b hoj) hQ hy h1
      have hfree' : ∀ k ok, ops[k]? = some ok → k ≠ i → (listed.setIfInBounds j true).getD k true = false →
          (∀ e ∈ ok.after, Region.binds md e = true → e.on ≠ i) → oi.apart ops ok = true := fun k ok hk hki hun' hno => by
        refine hfree k ok hk hki ?_ hno
        by_cases hjk : j = k
        · subst hjk
          exact hjun
        · rw [Go.getD_set_ne true hjk] at hun'
          exact hun'
      refine wpOp_mono (fun a' w' h3 => ?_) h2
      have hS' : S w' := h3.2.1.resolve_left hjn
      refine ⟨Or.inr hS', ih (listed.setIfInBounds j true) a' w' hfree' (ready_mono hr (Ne.symm hji)) h3.1 hS' ?_⟩
      rw [Array.setIfInBounds_comm _ _ hji]
      exact h3.2.2

/-- The operation of that number, found by counting (so that it is met written out). -/
def nth : List Oper → Nat → Option Oper
  | [], _ => none
  | o :: _, 0 => some o
  | _ :: r, i + 1 => nth r i
theorem nth_eq : ∀ (l : List Oper) (i : Nat), nth l i = l[i]?
  | [], _ => by simp [nth]
  | _ :: _, 0 => by simp [nth]
  | _ :: r, i + 1 => by simp [nth, nth_eq r i]
theorem nth_ops {i : Nat} {o : Oper} (h : nth ops.toList i = some o) : ops[i]? = some o := by
  rw [nth_eq] at h
  rw [← h]
  simp

/-- Take number i first. -/
theorem AnyT.take (i : Nat) {oi : Oper} {v : Value} {fuel : Nat} {listed : Array Bool} {a : Act} {w : World} (hw : waitsOn md ops n i = true) (hi : nth ops.toList i = some oi)
    (hs : Region.noSelect ops = true) (hf : Region.free md ops listed i = true) (hr : (Region.ready md ops listed).contains i = true)
    (hQ : ∀ c a w, Q (.panic c) (a.put oi.dst v) w → Q (.panic c) a w) (hy : YieldsIf P ops S oi v a) (hS : S w)
    (h : AnyT P md ops Q S n fuel (listed.setIfInBounds i true) (a.put oi.dst v) w) : AnyT P md ops Q S n (fuel + 1) listed a w :=
  AnyT.first hw (nth_ops hi) (Region.noSelect_spec hs) hQ fuel listed a w (Region.free_spec (nth_ops hi) hf) (by simpa using hr) hy hS h

/-- One operation alone may come up, and it is not the last. -/
theorem AnyT.one (i : Nat) {o : Oper} {fuel : Nat} {listed : Array Bool} {a : Act} {w : World} (ho : nth ops.toList i = some o) (hr : Region.ready md ops listed = [i])
    (h : ∀ K' : Act → World → Prop, Shut (∀ a w, S w → AnyT P md ops Q S n fuel (listed.setIfInBounds i true) a w → K' a w) → if Region.wanted o (yielded ops a.tmps) = true then Oper.wp P o a w K' Q else K' (a.put o.dst undef) w) :
    AnyT P md ops Q S n (fuel + 1) listed a w :=
  ⟨fun h0 => (by rw [h0] at hr; cases hr), fun j hj => by
    rw [hr] at hj
    have e : j = i := by simpa using hj
    subst e
    exact wpOp_step (nth_ops ho) (fun K' hK => h K' (fun a w hS hA => hK a w ⟨Or.inr hS, hA⟩))⟩

/-- The last. -/
theorem AnyT.last {o : Oper} {fuel : Nat} {listed : Array Bool} {a : Act} {w : World} (ho : nth ops.toList n = some o) (hr : Region.ready md ops listed = [n]) (hr' : Region.ready md ops (listed.setIfInBounds n true) = [])
    (h : ∀ K' : Act → World → Prop, Shut (∀ a w, Q .normal a w → K' a w) → if Region.wanted o (yielded ops a.tmps) = true then Oper.wp P o a w K' Q else K' (a.put o.dst undef) w) :
    AnyT P md ops Q S n (fuel + 1) listed a w :=
  ⟨fun h0 => (by rw [h0] at hr; cases hr), fun j hj => by
    rw [hr] at hj
    have e : j = n := by simpa using hj
    subst e
    refine wpOp_step (nth_ops ho) (fun K' hK => h K' (fun a w hq => hK a w ⟨Or.inl rfl, ?_⟩))
    cases fuel with
    | zero => exact ⟨hr', hq⟩
    | succ f => exact ⟨fun _ => hq, fun k hk => by rw [hr'] at hk; cases hk⟩⟩

/-- The beginning. -/
theorem AnyT.begin_ (n : Nat) {id : Nat} {a : Act} {w : World} (S : World → Prop) (hm : P.follows .mixedOrders = true) (hS : S w.drew)
    (h : S w.drew → AnyT P .any ops Q S n ops.size (Array.replicate ops.size false) a w.drew) : (Code.region id ops true).wp P Q a w :=
  wp_region_any hm (AnyT.any _ _ _ _ (h hS))
end
end Go.Proofs.Ytcgiimgdcamkiaa
