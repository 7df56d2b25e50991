/-
  The walks over package pool, the third part: first, second, third.
-/
import Derived.Test.YtcgiimgdcamkiaaPoolB
import Derived.Deep.CutRange
namespace Go.Proofs.Ytcgiimgdcamkiaa
open Go.RowKit
set_option linter.unusedVariables false

/-- What a walk over an act leaves: its cells, and whatever else. -/
def ActEnd (ab : Nat) (vs : List Value) (R : World → Prop) (e : Ending) (w' : World) : Prop := e = .returned (.tuple #[]) ∧ ∃ w1, R w1 ∧ Blk w' ab vs 108 ∧ Only [ab] w1 w'

set_option maxHeartbeats 400000 in
theorem first_own (ab pp : Nat) (who slot phase top next : Int) (give : Bool) (R : World → Prop) (w : World)
    (hpr : Calls Try.prog 65 #[.pointer (some ⟨ab, 0, none⟩)] w fun e w' => e = .returned (.bool true) ∧ Blk w' ab (actP pp who give slot phase top next) 108 ∧ R w') :
    Calls Try.prog 58 #[.pointer (some ⟨ab, 0, none⟩)] w (ActEnd ab (actP pp who give slot 3 top next) R) := by
  have H := Lib.hid hpr
  clear hpr
  go_enter Try.func58, Try.ntmps58
  go_wp2_with (go_at_call 65; refine H.out.mono ?_; rintro e w1 ⟨rfl, hA, hR⟩; have a4 := hA.cell (o := 4) rfl; have af := hA.froz)
  go_end0
  exact ⟨rfl, w1, hR, hA.set 4 _, (Only.refl _ _).setCell (by simp) _⟩

/-- What a Step that reads the top leaves. -/
def ReadTop (w : World) (ab mb cb : Nat) (vs : List Value) (cs : List Int) (st : Int) (e : Ending) (w' : World) : Prop :=
  e = .returned (.tuple #[]) ∧ Blk w' ab vs 108 ∧ Mem w' mb cb cs st ∧ Only [ab, mb, cb] w w'

set_option maxRecDepth 100000 in
set_option maxHeartbeats 800000 in
theorem first_top (ab pp mb cb nb n ob W : Nat) (base who slot phase top next : Int) (give : Bool) (cs : List Int) (st T vr p : Int) (w : World)
    (ha : Blk w ab (actP pp who give slot phase top next) 108) (hp : Blk w pp (poolB mb base nb n ob W) 105) (hM : Mem w mb cb cs st) (hst : 0 ≤ st ∧ st < 9223372036854775000)
    (h0 : 0 ≤ base) (h1 : base < cs.length) (hT : cs.getD base.toNat 0 = T) (hTe : T = vr * 4294967296 + p + 1) (hv : 0 ≤ vr ∧ vr < 1073741824) (hpb : -1 ≤ p ∧ p ≤ 2147483646)
    (ph : Int) (hph : (p < 0 ∧ give = false ∧ ph = 3) ∨ (p < 0 ∧ give = true ∧ ph = 1) ∨ (0 ≤ p ∧ ph = 1))
    (hpr : Calls Try.prog 65 #[.pointer (some ⟨ab, 0, none⟩)] w (NoOwn w)) :
    Calls Try.prog 58 #[.pointer (some ⟨ab, 0, none⟩)] w (ReadTop w ab mb cb (actP pp who give slot ph T next) cs (st + 1)) := by
  have H := Lib.hid hpr
  clear hpr
  have HU := fun w => Lib.hid (unpack_any T vr p w hTe hv hpb)
  have hG := fun n => get_any mb cb cs st base (w.drewN n).drew hM (by omega) h0 h1
  simp only [hT] at hG
  have HG := fun n => Lib.hid (hG n)
  have hn := hM.notin ha (by decide) (by decide)
  have hn2 := hM.notin hp (by decide) (by decide)
  have hia : pp ≠ ab := hp.ty ha (by decide)
  have a0 := ha.cell (o := 0) rfl
  have p0 := hp.cell (o := 0) rfl
  have p1 := hp.cell (o := 1) rfl
  have HT := Lib.hid hTe
  clear hG hT hTe
  go_enter Try.func58, Try.ntmps58
  go_wp2_with (go_at_call 65; refine H.out.mono ?_; rintro e w1 ⟨rfl, nq, rfl⟩)
  go_region_held3 (fun w' => w'.cell? ⟨ab, 0, none⟩ = some (.pointer (some ⟨pp, 0, none⟩)) ∧ w'.cell? ⟨pp, 0, none⟩ = some (.pointer (some ⟨mb, 0, none⟩)) ∧ w'.cell? ⟨pp, 1, none⟩ = some (.int .i64 base))
    (first | go_keep)
    (first | (go_at_call 50; refine (HG nq).out.mono ?_; rintro e w1 ⟨rfl, hM1, hO1⟩; have hA1 := hO1.blk (show Blk (w.drewN nq).drew ab (actP pp who give slot phase top next) 108 from ha) hn; have hI1 := hO1.blk (show Blk (w.drewN nq).drew pp (poolB mb base nb n ob W) 105 from hp) hn2; have b0 := hA1.cell (o := 0) rfl; have b4 := hA1.cell (o := 4) rfl; have b5 := hA1.cell (o := 5) rfl; have bf := hA1.froz; have j0 := hI1.cell (o := 0) rfl; have j1 := hI1.cell (o := 1) rfl; have hA2 := hA1.set 5 (.int .i64 T); have hI2 := hI1.ne ⟨ab, 5, none⟩ (.int .i64 T) hia; have k0 := hA2.cell (o := 0) rfl; have k1 := hI2.cell (o := 0) rfl; have k2 := hI2.cell (o := 1) rfl))
  go_upto_region 4 with (fail)
  obtain ⟨w2, hw2⟩ : ∃ w2, w2 = (w1.setCell ⟨ab, 5, none⟩ (.int .i64 T)).setCell ⟨ab, 4, none⟩ (.int .i64 1) := ⟨_, rfl⟩
  have hA3 : Blk w2 ab (actP pp who give slot 1 T next) 108 := by rw [hw2]; exact hA2.set 4 (.int .i64 1)
  have hO3 : Only [ab, mb, cb] w w2 := by
    rw [hw2]
    exact (((((Only.refl [ab, mb, cb] w).drewN nq).drew.trans (hO1.mono (by simp +contextual))).setCell (by simp) _).setCell (by simp) _)
  have hM3 : Mem w2 mb cb cs (st + 1) := by
    rw [hw2]
    exact hM1.only (S := [ab]) (((Only.refl _ _).setCell (by simp) _).setCell (by simp) _) (by simp at hn ⊢; omega) (by simp at hn ⊢; omega)
  rw [← hw2]
  clear hw2 hA1 hA2 hI1 hI2 b0 b4 b5 bf j0 j1 k0 k1 k2 a0 p0 p1 hM1 hO1
  have b2 := hA3.cell (o := 2) rfl
  have b4 := hA3.cell (o := 4) rfl
  have b5 := hA3.cell (o := 5) rfl
  have bf := hA3.froz
  rcases hph with ⟨hp0, rfl, rfl⟩ | ⟨hp0, rfl, rfl⟩ | ⟨hp0, rfl⟩
  · go_wp2_with (go_at_call 57; refine (HU _).out.mono ?_; rintro e w' ⟨rfl, rfl⟩)
    go_end0
    refine ⟨rfl, hA3.set 4 (.int .i64 3), hM3.only (S := [ab]) ((Only.refl _ _).setCell (by simp) _) (by simp at hn ⊢; omega) (by simp at hn ⊢; omega), hO3.setCell (by simp) _⟩
  · go_wp2_with (go_at_call 57; refine (HU _).out.mono ?_; rintro e w' ⟨rfl, rfl⟩)
    go_end0
    exact ⟨rfl, hA3, hM3, hO3⟩
  · go_wp2_with (go_at_call 57; refine (HU _).out.mono ?_; rintro e w' ⟨rfl, rfl⟩)
    go_end0
    exact ⟨rfl, hA3, hM3, hO3⟩
end Go.Proofs.Ytcgiimgdcamkiaa
