/-
  The walks over package pool, the second part: private.
-/
import Derived.Test.YtcgiimgdcamkiaaPoolA
import Derived.Deep.RegionLaw
namespace Go.Proofs.Ytcgiimgdcamkiaa
open Go.RowKit
set_option linter.unusedVariables false

theorem Ints.slice' {w : World} {lo : Nat} {v : Value} {xs : List Int} (h : Ints w lo v xs) : ∃ a c, v = .slice a xs.length c := by
  rcases h.form with ⟨rfl, rfl⟩ | ⟨g, cap, rfl, _⟩ <;> exact ⟨_, _, rfl⟩

/-- The block in which a slice's row lies, if any. -/
def blkOf (v : Value) : List Nat := v.ownBlock.toList

theorem mem_blkOf {v : Value} {b : Nat} : b ∈ blkOf v ↔ v.ownBlock = some b := by unfold blkOf; simp

/-- A worker's own list with one slot more. -/
def GaveOwn (w : World) (ob who : Nat) (ow : List Value) (v : Value) (lo : Nat) (ys : List Int) (e : Ending) (w' : World) : Prop :=
  e = .returned (.bool true) ∧ ∃ v', Blk w' ob (ow.set who v') 29 ∧ Ints w' lo v' ys ∧ (v'.ownBlock = v.ownBlock ∨ ∃ g, v'.ownBlock = some g ∧ w.heap.size ≤ g) ∧ Only (ob :: blkOf v) w w'

set_option maxRecDepth 100000 in
set_option maxHeartbeats 800000 in
theorem private_give (ab pp mb nb n ob W who lo : Nat) (base slot phase top next : Int) (ow : List Value) (v : Value) (xs : List Int) (w : World)
    (ha : Blk w ab (actP pp who true slot phase top next) 108) (hp : Blk w pp (poolB mb base nb n ob W) 105) (ho : Blk w ob ow 29) (hw : who < W) (hW : W ≤ 16) (hol : ow.length = W)
    (hv : ow[who]? = some v) (hx : Ints w lo v xs) (hl : xs.length < 2) (hlo : lo ≤ w.heap.size) (hne : ∀ g, v.ownBlock = some g → g ≠ ob) :
    Calls Try.prog 65 #[.pointer (some ⟨ab, 0, none⟩)] w (GaveOwn w ob who ow v lo (xs ++ [slot])) := by
  obtain ⟨i0, hi, hz0, hz1, hz2⟩ := info_parts Try.info3
  have a0 := ha.cell (o := 0) rfl
  have a1 := ha.cell (o := 1) rfl
  have a2 := ha.cell (o := 2) rfl
  have a3 := ha.cell (o := 3) rfl
  have p3 := hp.cell (o := 3) rfl
  have o1 := ho.cell hv
  have of := ho.froz who
  have Hv := Lib.hid hv
  have Hx := Lib.hid hx
  have hb0 : (0 : Int) ≤ who := by omega
  have hb1 : (who : Int) < W := by omega
  obtain ⟨va, vc, rfl⟩ := hx.slice'
  clear hv hx
  go_enter Try.func65, Try.ntmps65
  go_wp2
  go_quiet (fail)
  go_wp2_with fail
  have ha1 : Blk (w.drewN nq) ab (actP pp who true slot phase top next) 108 := ha
  have ho1 : Blk (w.drewN nq) ob ow 29 := ho
  have hx1 : Ints (w.drewN nq) lo (.slice va xs.length vc) xs := Hx.out
  have hO1 : Only (ob :: blkOf (.slice va xs.length vc)) w (w.drewN nq) := (Only.refl _ w).drewN nq
  have hsz1 : w.heap.size = (w.drewN nq).heap.size := rfl
  generalize w.drewN nq = w1 at *
  clear a0 a1 a2 a3 p3 o1 of
  have a3 := ha1.cell (o := 3) rfl
  have o1 := ho1.cell Hv.out
  have hnb : ob ∉ blkOf (.slice va xs.length vc) := fun h => hne ob (mem_blkOf.1 h) rfl
  have Hs := Lib.hid hsz1
  clear hne hsz1
  have l1 := ho1.lt
  have l2 := ha1.lt
  have Ho := Lib.hid ho1
  clear ho1 ha1
  go_region_law (first | (refine step_append_lies _ rfl (.tmp 32) (.tmp 37) 29 rfl lo 3 i0 (.int .i64 0) 1 8 Try.underlying29 hi hz0 hz1 hz2 rfl (by decide) (.slice va xs.length vc) xs.length (xs.map (Value.int .i64)) rfl ((World.ownsRow.alloc hx1 _).drew) ⟨w1.heap.size, 0, none⟩ 1 1 [.int .i64 slot] rfl rfl (World.news_of_block (cs := #[.int .i64 slot]) (t := 3) (fr := (0, 0)) (heap_alloc_new w1 _)) (by simp [Value.oneCell']) (by omega) (by unfold maxLen; omega) (by omega) (by simp; have := Hs.out; omega) (w1.heap.size + 1) (by simp) ?_; intro g cap w2 hown2 hgrow hat hlt; have hO2 : Only (blkOf (.slice va xs.length vc)) w1 w2 := Only.grown (((Only.refl _ w1).alloc _).drew) hgrow (fun k hk => Or.inl (mem_blkOf.2 hk)); have ho2 := hO2.blk Ho.out hnb; have c2 := ho2.cell Hv.out; have f2 := ho2.froz who))
  all_goals
    go_wp2
    go_ret
    have hI2 : Ints w2 lo (.slice (some ⟨g, 0, none⟩) (xs.length + 1) cap) (xs ++ [slot]) := by unfold Ints; simpa using hown2
    refine ⟨rfl, .slice (some ⟨g, 0, none⟩) (xs.length + 1) cap, ho2.set who _, hI2.only (S := [ob]) ((Only.refl [ob] w2).setCell (by simp) _) ?_, ?_, ?_⟩
    · intro k hk
      simp at hk
      subst hk
      exact Or.inr (Or.inr ⟨_, _, ho2, by decide⟩)
    · rcases hat with h | h
      · exact Or.inl h.symm
      · exact Or.inr ⟨g, rfl, by have := Hs.out; omega⟩
    · exact (hO1.trans (hO2.mono (by intro k _ hk; exact List.mem_cons_of_mem _ hk))).setCell (by simp) _

/-- The worker's own list was asked in vain. -/
def NoOwn (w : World) (e : Ending) (w' : World) : Prop := e = .returned (.bool false) ∧ ∃ n, w' = w.drewN n

set_option maxRecDepth 100000 in
set_option maxHeartbeats 800000 in
theorem private_no (ab pp mb nb n ob W who lo : Nat) (base slot phase top next : Int) (give : Bool) (ow : List Value) (v : Value) (xs : List Int) (w : World)
    (ha : Blk w ab (actP pp who give slot phase top next) 108) (hp : Blk w pp (poolB mb base nb n ob W) 105) (ho : Blk w ob ow 29) (hw : who < W) (hW : W ≤ 16)
    (hv : ow[who]? = some v) (hx : Ints w lo v xs) (hl : (give = true ∧ 2 ≤ xs.length) ∨ (give = false ∧ xs = [])) :
    Calls Try.prog 65 #[.pointer (some ⟨ab, 0, none⟩)] w (NoOwn w) := by
  have a0 := ha.cell (o := 0) rfl
  have a1 := ha.cell (o := 1) rfl
  have a2 := ha.cell (o := 2) rfl
  have p3 := hp.cell (o := 3) rfl
  have o1 := ho.cell hv
  have hb0 : (0 : Int) ≤ who := by omega
  have hb1 : (who : Int) < W := by omega
  obtain ⟨va, vc, rfl⟩ := hx.slice'
  clear hv hx
  rcases hl with ⟨rfl, h2⟩ | ⟨rfl, rfl⟩
  · have hd : decide ((xs.length : Int) < 2) = false := by simp; omega
    go_enter Try.func65, Try.ntmps65
    go_wp2
    go_quiet (fail)
    go_wp2
    go_ret
    exact ⟨rfl, _, rfl⟩
  · go_enter Try.func65, Try.ntmps65
    go_wp2
    go_quiet (fail)
    go_wp2
    go_ret
    exact ⟨rfl, _, rfl⟩

theorem Ints.shrink {w : World} {lo g cap : Nat} {ys : List Int} {s : Int} (h : Ints w lo (.slice (some ⟨g, 0, none⟩) (ys ++ [s]).length cap) (ys ++ [s])) : Ints w lo (.slice (some ⟨g, 0, none⟩) ys.length cap) ys := by
  refine ⟨by simp, Or.inr ?_⟩
  rcases h.2 with ⟨h1, _⟩ | ⟨g', cap', cur, hv, hb, hg, hn, hm, hs, ht⟩
  · cases h1
  · simp only [Value.slice.injEq, Option.some.injEq, Addr.mk.injEq] at hv
    obtain ⟨⟨rfl, _, _⟩, _, rfl⟩ := hv
    refine ⟨g, cap, cur, rfl, hb, hg, by simp at hn; omega, hm, hs, ?_⟩
    have := congrArg (List.take ys.length) ht
    simp at this ⊢
    rw [← this, List.take_take]
    congr 1
    omega

/-- A worker's own list with its last slot taken. -/
def TookOwn (w : World) (ab ob who : Nat) (ow : List Value) (v : Value) (lo : Nat) (ys : List Int) (vs : List Value) (e : Ending) (w' : World) : Prop :=
  e = .returned (.bool true) ∧ Blk w' ab vs 108 ∧ ∃ v', Blk w' ob (ow.set who v') 29 ∧ Ints w' lo v' ys ∧ v'.ownBlock = v.ownBlock ∧ Only [ob, ab] w w'

set_option maxRecDepth 100000 in
set_option maxHeartbeats 800000 in
theorem private_take (ab pp mb nb n ob W who lo : Nat) (base slot phase top next s : Int) (ow : List Value) (v : Value) (ys : List Int) (w : World)
    (ha : Blk w ab (actP pp who false slot phase top next) 108) (hp : Blk w pp (poolB mb base nb n ob W) 105) (ho : Blk w ob ow 29) (hw : who < W) (hW : W ≤ 16)
    (hv : ow[who]? = some v) (hx : Ints w lo v (ys ++ [s])) (hl : ys.length ≤ 1048576) :
    Calls Try.prog 65 #[.pointer (some ⟨ab, 0, none⟩)] w (TookOwn w ab ob who ow v lo ys (actP pp who false s phase top next)) := by
  have a0 := ha.cell (o := 0) rfl
  have a1 := ha.cell (o := 1) rfl
  have a2 := ha.cell (o := 2) rfl
  have a3 := ha.cell (o := 3) rfl
  have af := ha.froz
  have p3 := hp.cell (o := 3) rfl
  have o1 := ho.cell hv
  have of := ho.froz who
  have hb0 : (0 : Int) ≤ who := by omega
  have hb1 : (who : Int) < W := by omega
  have Hx := Lib.hid hx
  have hoa : ob ≠ ab := ho.ty ha (by decide)
  rcases hx.form with ⟨-, h0⟩ | ⟨g, cap, rfl, hlo, hg, hc, ⟨vs, hgb⟩, -, hcell⟩
  · simp at h0
  have d := hcell ys.length (by simp)
  have hga : g ≠ ab := hgb.ty ha (by decide)
  have hgo : g ≠ ob := hgb.ty ho (by decide)
  rw [show (ys ++ [s]).getD ys.length 0 = s by simp [List.getD]] at d
  have hlen : (ys ++ [s]).length = ys.length + 1 := by simp
  rw [hlen] at o1 hc
  have HL := Lib.hid hlen
  have Hv := Lib.hid hv
  clear hv hcell hlen hx
  have o1' := ((ha.set 3 (.int .i64 s)) : Blk (w.setCell ⟨ab, 3, none⟩ (.int .i64 s)) ab _ 108)
  go_enter Try.func65, Try.ntmps65
  go_wp2
  go_quiet (fail)
  go_wp2
  go_ret
  have hb' : Blk (w.drewN nq) ob ow 29 := ho
  have ha' : Blk (w.drewN nq) ab (actP pp who false slot phase top next) 108 := ha
  have hx' : Ints (w.drewN nq) lo (.slice (some ⟨g, 0, none⟩) (ys ++ [s]).length cap) (ys ++ [s]) := Hx.out
  refine ⟨rfl, (ha'.set 3 _).ne _ _ (Ne.symm hoa), .slice (some ⟨g, 0, none⟩) ys.length cap, (hb'.ne _ _ hoa).set who _, ?_, rfl, ((((Only.refl _ w).drewN nq).setCell (by simp) _).setCell (by simp) _)⟩
  refine (hx'.shrink).only (S := [ob, ab]) (((Only.refl _ _).setCell (by simp) _).setCell (by simp) _) ?_
  intro k hk
  simp at hk
  rcases hk with rfl | rfl
  · exact Or.inr (Or.inr ⟨_, _, hb', by decide⟩)
  · exact Or.inr (Or.inr ⟨_, _, ha', by decide⟩)
end Go.Proofs.Ytcgiimgdcamkiaa
