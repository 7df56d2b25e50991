/-
  The walks over package inc, the fourth part: Best, Look.
-/
import Derived.Test.YtcgiimgdcamkiaaIncC
namespace Go.Proofs.Ytcgiimgdcamkiaa
open Go.RowKit
set_option linter.unusedVariables false

theorem bestI_nil (w : World) : Calls Try.prog 13 #[.pointer none] w fun e w' => e = .returned (.tuple #[.slice none 0 0, .int .i64 0]) ∧ w = w' := by
  go_enter Try.func13, Try.ntmps13
  go_wp2
  go_ret2
  exact ⟨rfl, rfl⟩
theorem lookI_nil (w : World) : Calls Try.prog 15 #[.pointer none] w fun e w' => e = .returned (.int .i64 0) ∧ w = w' := by
  go_enter Try.func15, Try.ntmps15
  go_wp2
  go_ret
  exact ⟨rfl, rfl⟩

set_option maxRecDepth 100000 in
set_option maxHeartbeats 400000 in
theorem lookI_any (ib mb cb pb n : Nat) (at_ W : Int) (cs : List Int) (st : Int) (w : World) (hi : Blk w ib (incB mb at_ W pb n) 93)
   (hM : Mem w mb cb cs st) (hst : 0 ≤ st ∧ st < 9223372036854775807) (h0 : 0 ≤ at_) (h1 : at_ < cs.length) (h : Int) (hh : cs.getD at_.toNat 0 = h) (hb : 0 ≤ h) :
    Calls Try.prog 15 #[.pointer (some ⟨ib, 0, none⟩)] w fun e w' => e = .returned (.int .i64 (h / 64)) ∧ Stepped w w' mb cb cs (st + 1) := by
  have hG := get_any mb cb cs st at_ w.drew hM hst h0 h1
  rw [hh] at hG
  have HG := Lib.hid hG
  have hn2 := hM.notin hi (by decide) (by decide)
  clear hh hG
  have i0 := hi.cell (o := 0) rfl
  have i1 := hi.cell (o := 1) rfl
  go_enter Try.func15, Try.ntmps15
  go_wp2_with fail
  go_region_held3 (fun w' => w'.cell? ⟨ib, 0, none⟩ = some (.pointer (some ⟨mb, 0, none⟩)) ∧ w'.cell? ⟨ib, 1, none⟩ = some (.int .i64 at_))
    (first | go_keep)
    (first | (go_at_call 50; refine HG.out.mono ?_; rintro e w1 ⟨rfl, hM1, hO1⟩; have hI1 := hO1.blk hi.drew hn2; have j0 := hI1.cell (o := 0) rfl; have j1 := hI1.cell (o := 1) rfl))
  go_wp2
  go_ret
  exact ⟨rfl, hM1, (Only.refl _ w).drew.trans hO1⟩

/-- What Best answers. -/
def BestOf (w : World) (cost : Int) (xs : List Int) (e : Ending) (w' : World) : Prop :=
  ∃ v, e = .returned (.tuple #[v, .int .i64 cost]) ∧ Ints w' w.heap.size v xs ∧ Only [] w w'

set_option maxRecDepth 100000 in
set_option maxHeartbeats 800000 in
theorem bestI_any (ib mb cb pb lo : Nat) (at_ W : Int) (P : List Value) (cs : List Int) (st : Int) (v : Value) (xs : List Int) (w : World) (hi : Blk w ib (incB mb at_ W pb P.length) 93) (hp : Blk w pb P 29)
   (hM : Mem w mb cb cs st) (h0 : 0 ≤ at_) (h1 : at_ < cs.length) (h : Int) (hh : cs.getD at_.toNat 0 = h) (hb : 0 ≤ h ∧ h < 9223372036854775808) (hv : P[(h % 64).toNat]? = some v) (hx : Ints w lo v xs) (hxl : xs.length ≤ 1099511627776) :
    Calls Try.prog 13 #[.pointer (some ⟨ib, 0, none⟩)] w (BestOf w (h / 64) xs) := by
  have hG := fun n => peek_any mb cb cs st at_ (w.drewN n) hM h0 h1
  simp only [hh] at hG
  have HG := fun n => Lib.hid (hG n)
  clear hh hG
  have hm := and_6 h hb.1 hb.2
  have i0 := hi.cell (o := 0) rfl
  have i1 := hi.cell (o := 1) rfl
  have i3 := hi.cell (o := 3) rfl
  have pc := hp.cell (o := (h % 64).toNat) hv
  have hvl : h % 64 < P.length := by
    have := (List.getElem?_eq_some_iff.1 hv).1
    omega
  have hvl0 : 0 ≤ h % 64 := by omega
  have HC := fun n => Lib.hid (clone_any lo v xs (w.drewN n) (hx.only (S := []) ((Only.refl _ w).drewN n) (by simp)) hxl)
  clear hv
  go_enter Try.func13, Try.ntmps13
  go_wp2_with fail
  go_quiet ((go_at_call 49; exact Calls.quiet_of_same ((HG _).out.mono fun e w' ⟨he, hw⟩ => ⟨he, hw.symm⟩)))
  go_outline
  go_wp2_with (go_at_call 46; refine (HC _).out.mono ?_; rintro e w' ⟨v', rfl, hI1, hO1⟩)
  go_ret2
  exact ⟨v', rfl, hI1, ((Only.refl _ w).drewN _).trans hO1⟩
end Go.Proofs.Ytcgiimgdcamkiaa
