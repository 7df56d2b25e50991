/-
  The walks over package pool, the fifth part: third.
-/
import Derived.Test.YtcgiimgdcamkiaaPoolD
namespace Go.Proofs.Ytcgiimgdcamkiaa
open Go.RowKit
set_option linter.unusedVariables false

set_option maxRecDepth 100000 in
set_option maxHeartbeats 800000 in
theorem third_give_ok (ab pp mb cb nb n ob W : Nat) (base who slot phase next : Int) (cs : List Int) (st T vr p : Int) (w : World)
    (ha : Blk w ab (actP pp who true slot phase T next) 108) (hp : Blk w pp (poolB mb base nb n ob W) 105) (hM : Mem w mb cb cs st) (hst : 0 ≤ st ∧ st < 9223372036854775000)
    (h0 : 0 ≤ base ∧ base ≤ 1048576) (h1 : base < cs.length) (hq : -1 ≤ slot ∧ slot ≤ 4096) (hTe : T = vr * 4294967296 + p + 1) (hv : 0 ≤ vr ∧ vr < 1073741823) (hpb : -1 ≤ p ∧ p ≤ 4096) (hT : cs.getD base.toNat 0 = T) :
    Calls Try.prog 60 #[.pointer (some ⟨ab, 0, none⟩)] w (ReadTop w ab mb cb (actP pp who true slot 3 T next) (cs.set base.toNat ((vr + 1) * 4294967296 + slot + 1)) (st + 1)) := by
  have HU := fun w => Lib.hid (unpack_any T vr p w hTe (by omega) (by omega))
  have HP := fun w => Lib.hid (up_any T vr p slot w hTe hv (by omega) (by omega))
  have HC := Lib.hid (cas_yes mb cb cs st base T ((vr + 1) * 4294967296 + slot + 1) w.drew (hM.only (S := []) (Only.refl _ w).drew (by simp) (by simp)) (by omega) h0.1 h1 hT)
  have hn := hM.notin ha (by decide) (by decide)
  have hn2 := hM.notin hp (by decide) (by decide)
  have hia : pp ≠ ab := hp.ty ha (by decide)
  have a0 := ha.cell (o := 0) rfl
  have a2 := ha.cell (o := 2) rfl
  have a3 := ha.cell (o := 3) rfl
  have a5 := ha.cell (o := 5) rfl
  have a6 := ha.cell (o := 6) rfl
  have p0 := hp.cell (o := 0) rfl
  have p1 := hp.cell (o := 1) rfl
  have HT := Lib.hid hTe
  have HT2 := Lib.hid hT
  clear hTe hT
  go_enter Try.func60, Try.ntmps60
  go_wp2_with fail
  go_region_held3 (fun w' => w'.cell? ⟨ab, 0, none⟩ = some (.pointer (some ⟨pp, 0, none⟩)) ∧ w'.cell? ⟨ab, 5, none⟩ = some (.int .i64 T) ∧ w'.cell? ⟨pp, 0, none⟩ = some (.pointer (some ⟨mb, 0, none⟩)) ∧ w'.cell? ⟨pp, 1, none⟩ = some (.int .i64 base))
    (first | go_keep)
    (first | (go_at_call 66; refine (HP _).out.mono ?_; rintro e w1 ⟨rfl, rfl⟩) | (go_at_call 64; refine HC.out.mono ?_; rintro e w1 ⟨rfl, hM1, hO1⟩; have hA1 := hO1.blk ha.drew hn; have hI1 := hO1.blk hp.drew hn2; have b0 := hA1.cell (o := 0) rfl; have b2 := hA1.cell (o := 2) rfl; have b3 := hA1.cell (o := 3) rfl; have b4 := hA1.cell (o := 4) rfl; have b5 := hA1.cell (o := 5) rfl; have bf := hA1.froz; have j0 := hI1.cell (o := 0) rfl; have j1 := hI1.cell (o := 1) rfl))
  go_wp2_with (go_at_call 57; refine (HU _).out.mono ?_; rintro e w' ⟨rfl, rfl⟩)
  go_end0
  refine ⟨rfl, (hA1.set 4 (.int .i64 0)).set 4 (.int .i64 3), hM1.only (S := [ab]) (((Only.refl _ _).setCell (by simp) _).setCell (by simp) _) (by simp at hn ⊢; omega) (by simp at hn ⊢; omega), ((((Only.refl _ w).drew.trans (hO1.mono (by simp +contextual))).setCell (by simp) _).setCell (by simp) _)⟩

set_option maxRecDepth 100000 in
set_option maxHeartbeats 800000 in
theorem third_give_no (ab pp mb cb nb n ob W : Nat) (base who slot phase next : Int) (cs : List Int) (st T vr p : Int) (w : World)
    (ha : Blk w ab (actP pp who true slot phase T next) 108) (hp : Blk w pp (poolB mb base nb n ob W) 105) (hM : Mem w mb cb cs st) (hst : 0 ≤ st ∧ st < 9223372036854775000)
    (h0 : 0 ≤ base ∧ base ≤ 1048576) (h1 : base < cs.length) (hq : -1 ≤ slot ∧ slot ≤ 4096) (hTe : T = vr * 4294967296 + p + 1) (hv : 0 ≤ vr ∧ vr < 1073741823) (hpb : -1 ≤ p ∧ p ≤ 4096) (hT : cs.getD base.toNat 0 ≠ T) :
    Calls Try.prog 60 #[.pointer (some ⟨ab, 0, none⟩)] w (ReadTop w ab mb cb (actP pp who true slot 0 T next) cs (st + 1)) := by
  have HU := fun w => Lib.hid (unpack_any T vr p w hTe (by omega) (by omega))
  have HP := fun w => Lib.hid (up_any T vr p slot w hTe hv (by omega) (by omega))
  have HC := Lib.hid (cas_no mb cb cs st base T ((vr + 1) * 4294967296 + slot + 1) w.drew (hM.only (S := []) (Only.refl _ w).drew (by simp) (by simp)) (by omega) h0.1 h1 hT)
  have hn := hM.notin ha (by decide) (by decide)
  have hn2 := hM.notin hp (by decide) (by decide)
  have hia : pp ≠ ab := hp.ty ha (by decide)
  have a0 := ha.cell (o := 0) rfl
  have a2 := ha.cell (o := 2) rfl
  have a3 := ha.cell (o := 3) rfl
  have a5 := ha.cell (o := 5) rfl
  have a6 := ha.cell (o := 6) rfl
  have p0 := hp.cell (o := 0) rfl
  have p1 := hp.cell (o := 1) rfl
  have HT := Lib.hid hTe
  have HT2 := Lib.hid hT
  clear hTe hT
  go_enter Try.func60, Try.ntmps60
  go_wp2_with fail
  go_region_held3 (fun w' => w'.cell? ⟨ab, 0, none⟩ = some (.pointer (some ⟨pp, 0, none⟩)) ∧ w'.cell? ⟨ab, 5, none⟩ = some (.int .i64 T) ∧ w'.cell? ⟨pp, 0, none⟩ = some (.pointer (some ⟨mb, 0, none⟩)) ∧ w'.cell? ⟨pp, 1, none⟩ = some (.int .i64 base))
    (first | go_keep)
    (first | (go_at_call 66; refine (HP _).out.mono ?_; rintro e w1 ⟨rfl, rfl⟩) | (go_at_call 64; refine HC.out.mono ?_; rintro e w1 ⟨rfl, hM1, hO1⟩; have hA1 := hO1.blk ha.drew hn; have hI1 := hO1.blk hp.drew hn2; have b0 := hA1.cell (o := 0) rfl; have b2 := hA1.cell (o := 2) rfl; have b3 := hA1.cell (o := 3) rfl; have b4 := hA1.cell (o := 4) rfl; have b5 := hA1.cell (o := 5) rfl; have bf := hA1.froz; have j0 := hI1.cell (o := 0) rfl; have j1 := hI1.cell (o := 1) rfl))
  go_wp2_with (go_at_call 57; refine (HU _).out.mono ?_; rintro e w' ⟨rfl, rfl⟩)
  go_end0
  refine ⟨rfl, hA1.set 4 (.int .i64 0), hM1.only (S := [ab]) ((Only.refl _ _).setCell (by simp) _) (by simp at hn ⊢; omega) (by simp at hn ⊢; omega), (((Only.refl _ w).drew.trans (hO1.mono (by simp +contextual))).setCell (by simp) _)⟩

set_option maxRecDepth 100000 in
set_option maxHeartbeats 800000 in
theorem third_take_ok (ab pp mb cb nb n ob W : Nat) (base who slot phase next : Int) (cs : List Int) (st T vr p : Int) (w : World)
    (ha : Blk w ab (actP pp who false slot phase T next) 108) (hp : Blk w pp (poolB mb base nb n ob W) 105) (hM : Mem w mb cb cs st) (hst : 0 ≤ st ∧ st < 9223372036854775000)
    (h0 : 0 ≤ base ∧ base ≤ 1048576) (h1 : base < cs.length) (hq : -1 ≤ next ∧ next ≤ 4096) (hTe : T = vr * 4294967296 + p + 1) (hv : 0 ≤ vr ∧ vr < 1073741823) (hpb : -1 ≤ p ∧ p ≤ 4096) (hT : cs.getD base.toNat 0 = T) :
    Calls Try.prog 60 #[.pointer (some ⟨ab, 0, none⟩)] w (ReadTop w ab mb cb (actP pp who false p 3 T next) (cs.set base.toNat ((vr + 1) * 4294967296 + next + 1)) (st + 1)) := by
  have HU := fun w => Lib.hid (unpack_any T vr p w hTe (by omega) (by omega))
  have HP := fun w => Lib.hid (up_any T vr p next w hTe hv (by omega) (by omega))
  have HC := Lib.hid (cas_yes mb cb cs st base T ((vr + 1) * 4294967296 + next + 1) w.drew (hM.only (S := []) (Only.refl _ w).drew (by simp) (by simp)) (by omega) h0.1 h1 hT)
  have hn := hM.notin ha (by decide) (by decide)
  have hn2 := hM.notin hp (by decide) (by decide)
  have hia : pp ≠ ab := hp.ty ha (by decide)
  have a0 := ha.cell (o := 0) rfl
  have a2 := ha.cell (o := 2) rfl
  have a3 := ha.cell (o := 3) rfl
  have a5 := ha.cell (o := 5) rfl
  have a6 := ha.cell (o := 6) rfl
  have p0 := hp.cell (o := 0) rfl
  have p1 := hp.cell (o := 1) rfl
  have HT := Lib.hid hTe
  have HT2 := Lib.hid hT
  clear hTe hT
  go_enter Try.func60, Try.ntmps60
  go_wp2_with fail
  go_region_held3 (fun w' => w'.cell? ⟨ab, 0, none⟩ = some (.pointer (some ⟨pp, 0, none⟩)) ∧ w'.cell? ⟨ab, 5, none⟩ = some (.int .i64 T) ∧ w'.cell? ⟨pp, 0, none⟩ = some (.pointer (some ⟨mb, 0, none⟩)) ∧ w'.cell? ⟨pp, 1, none⟩ = some (.int .i64 base))
    (first | go_keep)
    (first | (go_at_call 66; refine (HP _).out.mono ?_; rintro e w1 ⟨rfl, rfl⟩) | (go_at_call 64; refine HC.out.mono ?_; rintro e w1 ⟨rfl, hM1, hO1⟩; have hA1 := hO1.blk ha.drew hn; have hI1 := hO1.blk hp.drew hn2; have b0 := hA1.cell (o := 0) rfl; have b2 := hA1.cell (o := 2) rfl; have b3 := hA1.cell (o := 3) rfl; have b4 := hA1.cell (o := 4) rfl; have b5 := hA1.cell (o := 5) rfl; have bf := hA1.froz; have j0 := hI1.cell (o := 0) rfl; have j1 := hI1.cell (o := 1) rfl))
  go_wp2_with (go_at_call 57; refine (HU _).out.mono ?_; rintro e w' ⟨rfl, rfl⟩)
  go_end0
  refine ⟨rfl, ((hA1.set 4 (.int .i64 0)).set 4 (.int .i64 3)).set 3 (.int .i64 p), hM1.only (S := [ab]) ((((Only.refl _ _).setCell (by simp) _).setCell (by simp) _).setCell (by simp) _) (by simp at hn ⊢; omega) (by simp at hn ⊢; omega), (((((Only.refl _ w).drew.trans (hO1.mono (by simp +contextual))).setCell (by simp) _).setCell (by simp) _).setCell (by simp) _)⟩

set_option maxRecDepth 100000 in
set_option maxHeartbeats 800000 in
theorem third_take_no (ab pp mb cb nb n ob W : Nat) (base who slot phase next : Int) (cs : List Int) (st T vr p : Int) (w : World)
    (ha : Blk w ab (actP pp who false slot phase T next) 108) (hp : Blk w pp (poolB mb base nb n ob W) 105) (hM : Mem w mb cb cs st) (hst : 0 ≤ st ∧ st < 9223372036854775000)
    (h0 : 0 ≤ base ∧ base ≤ 1048576) (h1 : base < cs.length) (hq : -1 ≤ next ∧ next ≤ 4096) (hTe : T = vr * 4294967296 + p + 1) (hv : 0 ≤ vr ∧ vr < 1073741823) (hpb : -1 ≤ p ∧ p ≤ 4096) (hT : cs.getD base.toNat 0 ≠ T) :
    Calls Try.prog 60 #[.pointer (some ⟨ab, 0, none⟩)] w (ReadTop w ab mb cb (actP pp who false slot 0 T next) cs (st + 1)) := by
  have HU := fun w => Lib.hid (unpack_any T vr p w hTe (by omega) (by omega))
  have HP := fun w => Lib.hid (up_any T vr p next w hTe hv (by omega) (by omega))
  have HC := Lib.hid (cas_no mb cb cs st base T ((vr + 1) * 4294967296 + next + 1) w.drew (hM.only (S := []) (Only.refl _ w).drew (by simp) (by simp)) (by omega) h0.1 h1 hT)
  have hn := hM.notin ha (by decide) (by decide)
  have hn2 := hM.notin hp (by decide) (by decide)
  have hia : pp ≠ ab := hp.ty ha (by decide)
  have a0 := ha.cell (o := 0) rfl
  have a2 := ha.cell (o := 2) rfl
  have a3 := ha.cell (o := 3) rfl
  have a5 := ha.cell (o := 5) rfl
  have a6 := ha.cell (o := 6) rfl
  have p0 := hp.cell (o := 0) rfl
  have p1 := hp.cell (o := 1) rfl
  have HT := Lib.hid hTe
  have HT2 := Lib.hid hT
  clear hTe hT
  go_enter Try.func60, Try.ntmps60
  go_wp2_with fail
  go_region_held3 (fun w' => w'.cell? ⟨ab, 0, none⟩ = some (.pointer (some ⟨pp, 0, none⟩)) ∧ w'.cell? ⟨ab, 5, none⟩ = some (.int .i64 T) ∧ w'.cell? ⟨pp, 0, none⟩ = some (.pointer (some ⟨mb, 0, none⟩)) ∧ w'.cell? ⟨pp, 1, none⟩ = some (.int .i64 base))
    (first | go_keep)
    (first | (go_at_call 66; refine (HP _).out.mono ?_; rintro e w1 ⟨rfl, rfl⟩) | (go_at_call 64; refine HC.out.mono ?_; rintro e w1 ⟨rfl, hM1, hO1⟩; have hA1 := hO1.blk ha.drew hn; have hI1 := hO1.blk hp.drew hn2; have b0 := hA1.cell (o := 0) rfl; have b2 := hA1.cell (o := 2) rfl; have b3 := hA1.cell (o := 3) rfl; have b4 := hA1.cell (o := 4) rfl; have b5 := hA1.cell (o := 5) rfl; have bf := hA1.froz; have j0 := hI1.cell (o := 0) rfl; have j1 := hI1.cell (o := 1) rfl))
  go_wp2_with (go_at_call 57; refine (HU _).out.mono ?_; rintro e w' ⟨rfl, rfl⟩)
  go_end0
  refine ⟨rfl, hA1.set 4 (.int .i64 0), hM1.only (S := [ab]) ((Only.refl _ _).setCell (by simp) _) (by simp at hn ⊢; omega) (by simp at hn ⊢; omega), (((Only.refl _ w).drew.trans (hO1.mono (by simp +contextual))).setCell (by simp) _)⟩
end Go.Proofs.Ytcgiimgdcamkiaa
