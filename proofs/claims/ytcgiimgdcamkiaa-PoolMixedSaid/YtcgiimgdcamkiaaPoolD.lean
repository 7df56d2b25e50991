/-
  The walks over package pool, the fourth part: second, third.
-/
import Derived.Test.YtcgiimgdcamkiaaPoolC
namespace Go.Proofs.Ytcgiimgdcamkiaa
open Go.RowKit
set_option linter.unusedVariables false

set_option maxRecDepth 100000 in
set_option maxHeartbeats 800000 in
theorem second_give (ab pp mb cb nb n ob W : Nat) (base who slot phase next : Int) (cs : List Int) (st T vr p : Int) (w : World)
    (ha : Blk w ab (actP pp who true slot phase T next) 108) (hp : Blk w pp (poolB mb base nb n ob W) 105) (hM : Mem w mb cb cs st) (hst : 0 ≤ st ∧ st < 9223372036854775000)
    (h0 : 0 ≤ base ∧ base ≤ 1048576) (hs : 0 ≤ slot ∧ slot ≤ 4096) (h1 : base + 1 + slot < cs.length) (hTe : T = vr * 4294967296 + p + 1) (hv : 0 ≤ vr ∧ vr < 1073741824) (hpb : -1 ≤ p ∧ p ≤ 2147483646) :
    Calls Try.prog 59 #[.pointer (some ⟨ab, 0, none⟩)] w (ReadTop w ab mb cb (actP pp who true slot 2 T next) (cs.set (base + 1 + slot).toNat p) (st + 1)) := by
  have HU := fun w => Lib.hid (unpack_any T vr p w hTe hv hpb)
  have HS := fun w => fun (h : Mem w mb cb cs st) => Lib.hid (set_any mb cb cs st (base + 1 + slot) p w h (by omega) (by omega) h1)
  have HL := fun w => fun (h : Blk w pp (poolB mb base nb n ob W) 105) => Lib.hid (linkP_any pp mb nb n ob W base w h h0 slot (by omega))
  have hn := hM.notin ha (by decide) (by decide)
  have hn2 := hM.notin hp (by decide) (by decide)
  have hia : pp ≠ ab := hp.ty ha (by decide)
  have a0 := ha.cell (o := 0) rfl
  have a2 := ha.cell (o := 2) rfl
  have a3 := ha.cell (o := 3) rfl
  have a5 := ha.cell (o := 5) rfl
  have p0 := hp.cell (o := 0) rfl
  have HLd := HL w.drew hp.drew
  have HSd := HS w.drew (hM.only (S := []) (Only.refl _ w).drew (by simp) (by simp))
  have HT := Lib.hid hTe
  clear hTe HL HS
  go_enter Try.func59, Try.ntmps59
  go_wp2_with (go_at_call 57; refine (HU _).out.mono ?_; rintro e w' ⟨rfl, rfl⟩)
  go_region_held3 (fun w' => w'.cell? ⟨ab, 0, none⟩ = some (.pointer (some ⟨pp, 0, none⟩)) ∧ w'.cell? ⟨ab, 3, none⟩ = some (.int .i64 slot) ∧ w'.cell? ⟨pp, 0, none⟩ = some (.pointer (some ⟨mb, 0, none⟩)))
    (first | go_keep)
    (first | (go_at_call 56; refine HLd.out.mono ?_; rintro e w1 ⟨rfl, rfl⟩) | (go_at_call 47; refine HSd.out.mono ?_; rintro e w1 ⟨rfl, hM1, hO1⟩; have hA1 := hO1.blk ha.drew hn; have hI1 := hO1.blk hp.drew hn2; have b0 := hA1.cell (o := 0) rfl; have b3 := hA1.cell (o := 3) rfl; have b4 := hA1.cell (o := 4) rfl; have bf := hA1.froz; have j0 := hI1.cell (o := 0) rfl))
  go_wp2
  go_end0
  refine ⟨rfl, hA1.set 4 (.int .i64 2), hM1.only (S := [ab]) ((Only.refl _ _).setCell (by simp) _) (by simp at hn ⊢; omega) (by simp at hn ⊢; omega), (((Only.refl _ w).drew.trans (hO1.mono (by simp +contextual))).setCell (by simp) _)⟩

set_option maxRecDepth 100000 in
set_option maxHeartbeats 800000 in
theorem second_take (ab pp mb cb nb n ob W : Nat) (base who slot phase next : Int) (cs : List Int) (st T vr p nx : Int) (w : World)
    (ha : Blk w ab (actP pp who false slot phase T next) 108) (hp : Blk w pp (poolB mb base nb n ob W) 105) (hM : Mem w mb cb cs st) (hst : 0 ≤ st ∧ st < 9223372036854775000)
    (h0 : 0 ≤ base ∧ base ≤ 1048576) (hs : 0 ≤ p ∧ p ≤ 4096) (h1 : base + 1 + p < cs.length) (hTe : T = vr * 4294967296 + p + 1) (hv : 0 ≤ vr ∧ vr < 1073741824) (hnx : cs.getD (base + 1 + p).toNat 0 = nx) :
    Calls Try.prog 59 #[.pointer (some ⟨ab, 0, none⟩)] w (ReadTop w ab mb cb (actP pp who false slot 2 T nx) cs (st + 1)) := by
  have HU := fun w => Lib.hid (unpack_any T vr p w hTe hv (by omega))
  have hG := get_any mb cb cs st (base + 1 + p) w.drew hM (by omega) (by omega) h1
  rw [hnx] at hG
  have HG := Lib.hid hG
  have HL := fun w => fun (h : Blk w pp (poolB mb base nb n ob W) 105) => Lib.hid (linkP_any pp mb nb n ob W base w h h0 p (by omega))
  have hn := hM.notin ha (by decide) (by decide)
  have hn2 := hM.notin hp (by decide) (by decide)
  have hia : pp ≠ ab := hp.ty ha (by decide)
  have a0 := ha.cell (o := 0) rfl
  have a2 := ha.cell (o := 2) rfl
  have a5 := ha.cell (o := 5) rfl
  have p0 := hp.cell (o := 0) rfl
  have HLd := HL w.drew hp.drew
  have HT := Lib.hid hTe
  clear hTe HL hG hnx
  go_enter Try.func59, Try.ntmps59
  go_wp2_with (go_at_call 57; refine (HU _).out.mono ?_; rintro e w' ⟨rfl, rfl⟩)
  go_region_held3 (fun w' => w'.cell? ⟨ab, 0, none⟩ = some (.pointer (some ⟨pp, 0, none⟩)) ∧ w'.cell? ⟨pp, 0, none⟩ = some (.pointer (some ⟨mb, 0, none⟩)))
    (first | go_keep)
    (first | (go_at_call 56; refine HLd.out.mono ?_; rintro e w1 ⟨rfl, rfl⟩) | (go_at_call 50; refine HG.out.mono ?_; rintro e w1 ⟨rfl, hM1, hO1⟩; have hA1 := hO1.blk ha.drew hn; have hI1 := hO1.blk hp.drew hn2; have b0 := hA1.cell (o := 0) rfl; have b4 := hA1.cell (o := 4) rfl; have b6 := hA1.cell (o := 6) rfl; have bf := hA1.froz; have j0 := hI1.cell (o := 0) rfl; have hA2 := hA1.set 6 (.int .i64 nx); have hI2 := hI1.ne ⟨ab, 6, none⟩ (.int .i64 nx) hia; have k0 := hA2.cell (o := 0) rfl; have k1 := hI2.cell (o := 0) rfl))
  go_wp2
  go_end0
  refine ⟨rfl, hA2.set 4 (.int .i64 2), hM1.only (S := [ab]) (((Only.refl _ _).setCell (by simp) _).setCell (by simp) _) (by simp at hn ⊢; omega) (by simp at hn ⊢; omega), ((((Only.refl _ w).drew.trans (hO1.mono (by simp +contextual))).setCell (by simp) _).setCell (by simp) _)⟩
end Go.Proofs.Ytcgiimgdcamkiaa
