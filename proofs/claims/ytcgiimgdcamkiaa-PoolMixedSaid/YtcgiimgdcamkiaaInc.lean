/-
  The walks over package inc: what each function does, told of the blocks that it touches.
-/
import Derived.Test.YtcgiimgdcamkiaaInts
import Derived.Deep.RegionHeld3
import Derived.BigQuiet
namespace Go.Proofs.Ytcgiimgdcamkiaa
open Go.RowKit
set_option linter.unusedVariables false

/-- The cells of an act of inc, and of an Inc. -/
abbrev actI (ib : Nat) (who : Int) (xv : Value) (cost : Int) (read : Bool) (had : Int) (over taken : Bool) : List Value :=
  [.pointer (some ⟨ib, 0, none⟩), .int .i64 who, xv, .int .i64 cost, .bool read, .int .i64 had, .bool over, .bool taken]
abbrev incB (mb : Nat) (at_ W : Int) (pb n : Nat) : List Value := [.pointer (some ⟨mb, 0, none⟩), .int .i64 at_, .int .i64 W, .slice (some ⟨pb, 0, none⟩) n n]

/-- What look leaves. -/
def Looked (w : World) (ab mb cb : Nat) (vs : List Value) (cs : List Int) (st : Int) (e : Ending) (w' : World) : Prop :=
  e = .returned (.tuple #[]) ∧ Blk w' ab vs 101 ∧ Mem w' mb cb cs st ∧ Only [ab, mb, cb] w w'

set_option maxRecDepth 100000 in
set_option maxHeartbeats 400000 in
theorem look_any (ab ib mb cb pb n : Nat) (who cost had at_ W : Int) (read over taken : Bool) (xv : Value) (cs : List Int) (st : Int) (w : World)
   (ha : Blk w ab (actI ib who xv cost read had over taken) 101) (hi : Blk w ib (incB mb at_ W pb n) 93)
   (hM : Mem w mb cb cs st) (hst : 0 ≤ st ∧ st < 9223372036854775807) (h0 : 0 ≤ at_) (h1 : at_ < cs.length) (h : Int) (hh : cs.getD at_.toNat 0 = h) (hb : 0 ≤ h) :
    Calls Try.prog 52 #[.pointer (some ⟨ab, 0, none⟩)] w (Looked w ab mb cb (actI ib who xv cost true h (decide (h / 64 ≤ cost)) taken) cs (st + 1)) := by
  have a0 := ha.cell (o := 0) rfl
  have i0 := hi.cell (o := 0) rfl
  have i1 := hi.cell (o := 1) rfl
  have hG := get_any mb cb cs st at_ w.drew hM hst h0 h1
  have hn := hM.notin ha (by decide) (by decide)
  have hn2 := hM.notin hi (by decide) (by decide)
  have hia : ib ≠ ab := hi.ty ha (by decide)
  rw [hh] at hG
  have HG := Lib.hid hG
  clear hh hG
  go_enter Try.func52, Try.ntmps52
  go_wp2_with fail
  go_region_held3 (fun w' => w'.cell? ⟨ab, 0, none⟩ = some (.pointer (some ⟨ib, 0, none⟩)) ∧ w'.cell? ⟨ib, 0, none⟩ = some (.pointer (some ⟨mb, 0, none⟩)) ∧ w'.cell? ⟨ib, 1, none⟩ = some (.int .i64 at_))
    (first | go_keep | exact ⟨(hA1.set 5 (.int .i64 h)).cell (o := 0) rfl, (hI1.ne _ _ hia).cell (o := 0) rfl, (hI1.ne _ _ hia).cell (o := 1) rfl⟩)
    (first | (go_at_call 50; refine HG.out.mono ?_; rintro e w1 ⟨rfl, hM1, hO1⟩; have hA1 := hO1.blk ha hn; have hI1 := hO1.blk hi hn2; have b0 := hA1.cell (o := 0) rfl; have b4 := hA1.cell (o := 4) rfl; have b5 := hA1.cell (o := 5) rfl; have bf := hA1.froz; have j0 := hI1.cell (o := 0) rfl; have j1 := hI1.cell (o := 1) rfl))
  go_wp2_with fail
  have hA2 : Blk ((w1.setCell ⟨ab, 5, none⟩ (.int .i64 h)).setCell ⟨ab, 4, none⟩ (.bool true)) ab (actI ib who xv cost true h over taken) 101 := (hA1.set 5 _).set 4 _
  have hO2 : Only [ab, mb, cb] w ((w1.setCell ⟨ab, 5, none⟩ (.int .i64 h)).setCell ⟨ab, 4, none⟩ (.bool true)) :=
    (((Only.refl _ w).drew.trans (hO1.mono (T := [ab, mb, cb]) (by simp; omega))).setCell (by simp) _).setCell (by simp) _
  have hM2 : Mem ((w1.setCell ⟨ab, 5, none⟩ (.int .i64 h)).setCell ⟨ab, 4, none⟩ (.bool true)) mb cb cs (st + 1) :=
    hM1.only (S := [ab]) (((Only.refl _ _).setCell (by simp) _).setCell (by simp) _) (by simp at hn ⊢; omega) (by simp at hn ⊢; omega)
  generalize (w1.setCell ⟨ab, 5, none⟩ (.int .i64 h)).setCell ⟨ab, 4, none⟩ (.bool true) = w2 at *
  clear b0 b4 b5 bf j0 j1 a0 i0 i1 hA1 hI1
  have b3 := hA2.cell (o := 3) rfl
  have b5 := hA2.cell (o := 5) rfl
  have b6 := hA2.cell (o := 6) rfl
  have bf := hA2.froz
  have k3 := (hA2.set 6 (.bool (decide (h / 64 ≤ cost)))).drew.cell (o := 3) rfl
  have k5 := (hA2.set 6 (.bool (decide (h / 64 ≤ cost)))).drew.cell (o := 5) rfl
  go_region_held3 (fun w' => w'.cell? ⟨ab, 3, none⟩ = some (.int .i64 cost) ∧ w'.cell? ⟨ab, 5, none⟩ = some (.int .i64 h))
    (first | go_keep) (first | fail)
  go_wp2
  go_end0
  refine ⟨rfl, hA2.set 6 _, hM2.only (S := [ab]) ?_ (by simp at hn ⊢; omega) (by simp at hn ⊢; omega), ?_⟩
  · exact ((Only.refl _ _).drew.setCell (by simp) _)
  · exact (hO2.drew.setCell (by simp) _)

theorem free_eq (ab ib : Nat) (who cost had : Int) (read over taken : Bool) (xv : Value) (w : World)
   (ha : Blk w ab (actI ib who xv cost read had over taken) 101) (hw : 0 ≤ who ∧ who ≤ 16) (hh : 0 ≤ had ∧ had < 9223372036854775808) (heq : had % 64 = 2 * who) :
    Calls Try.prog 63 #[.pointer (some ⟨ab, 0, none⟩)] w fun e w' => e = .returned (.int .i64 (2 * who + 1)) ∧ w = w' := by
  have a1 := ha.cell (o := 1) rfl
  have a5 := ha.cell (o := 5) rfl
  have hm := and_6 had hh.1 hh.2
  rw [heq] at hm
  clear heq
  go_enter Try.func63, Try.ntmps63
  go_wp2
  go_ret
  exact ⟨rfl, rfl⟩

theorem free_ne (ab ib : Nat) (who cost had : Int) (read over taken : Bool) (xv : Value) (w : World)
   (ha : Blk w ab (actI ib who xv cost read had over taken) 101) (hw : 0 ≤ who ∧ who ≤ 16) (hh : 0 ≤ had ∧ had < 9223372036854775808) (hne : had % 64 ≠ 2 * who) :
    Calls Try.prog 63 #[.pointer (some ⟨ab, 0, none⟩)] w fun e w' => e = .returned (.int .i64 (2 * who)) ∧ w = w' := by
  have a1 := ha.cell (o := 1) rfl
  have a5 := ha.cell (o := 5) rfl
  have hm := and_6 had hh.1 hh.2
  have hb : (had % 64 == 2 * who) = false := by simpa using hne
  clear hne
  go_enter Try.func63, Try.ntmps63
  go_wp2
  go_ret
  exact ⟨rfl, rfl⟩

theorem packi_any (c p : Int) (w : World) (hc : 0 ≤ c ∧ c ≤ 1125899906842624) (hp : 0 ≤ p ∧ p < 64) :
    Calls Try.prog 48 #[.int .i64 c, .int .i64 p] w fun e w' => e = .returned (.int .i64 (c * 64 + p)) ∧ w = w' := by
  have ho := or_6 c p hc.1 (by omega) hp.1 hp.2
  go_enter Try.func48, Try.ntmps48
  go_wp2
  go_ret
  exact ⟨rfl, rfl⟩

/-- What swap leaves. -/
def Swapped (w : World) (ab mb cb pb : Nat) (vs : List Value) (P : List Value) (cs : List Int) (st : Int) (e : Ending) (w' : World) : Prop :=
  e = .returned (.tuple #[]) ∧ Blk w' ab vs 101 ∧ Blk w' pb P 29 ∧ Mem w' mb cb cs st ∧ Only [ab, mb, cb, pb] w w'

/-- The free place: of the worker's two the one that the cell did not name when it was read. -/
def freeP (who had : Int) : Int := if had % 64 = 2 * who then 2 * who + 1 else 2 * who

theorem free_any (ab ib : Nat) (who cost had : Int) (read over taken : Bool) (xv : Value) (w : World)
   (ha : Blk w ab (actI ib who xv cost read had over taken) 101) (hw : 0 ≤ who ∧ who ≤ 16) (hh : 0 ≤ had ∧ had < 9223372036854775808) :
    Calls Try.prog 63 #[.pointer (some ⟨ab, 0, none⟩)] w fun e w' => e = .returned (.int .i64 (freeP who had)) ∧ w = w' := by
  by_cases h : had % 64 = 2 * who
  · have e : freeP who had = 2 * who + 1 := by unfold freeP; rw [if_pos h]
    rw [e]
    exact free_eq ab ib who cost had read over taken xv w ha hw hh h
  · have e : freeP who had = 2 * who := by unfold freeP; rw [if_neg h]
    rw [e]
    exact free_ne ab ib who cost had read over taken xv w ha hw hh h

set_option maxRecDepth 100000 in
set_option maxHeartbeats 1000000 in
theorem swap_any (ab ib mb cb pb : Nat) (who cost had at_ W : Int) (read over taken ok : Bool) (xa : Option Addr) (xl xc : Nat) (P : List Value) (cs cs' : List Int) (st : Int) (w : World)
   (ha : Blk w ab (actI ib who (.slice xa xl xc) cost read had over taken) 101) (hi : Blk w ib (incB mb at_ W pb P.length) 93) (hp : Blk w pb P 29)
   (hM : Mem w mb cb cs st) (hst : 0 ≤ st ∧ st < 9223372036854775807) (h0 : 0 ≤ at_) (h1 : at_ < cs.length) (hw : 0 ≤ who ∧ who ≤ 16) (hP : 2 * who + 1 < P.length) (hc : 0 ≤ cost ∧ cost ≤ 1125899906842624)
   (hh : 0 ≤ had ∧ had < 9223372036854775808)
   (hcas : (ok = true ∧ cs.getD at_.toNat 0 = had ∧ cs' = cs.set at_.toNat (cost * 64 + freeP who had)) ∨ (ok = false ∧ cs.getD at_.toNat 0 ≠ had ∧ cs' = cs)) :
    Calls Try.prog 51 #[.pointer (some ⟨ab, 0, none⟩)] w (Swapped w ab mb cb pb (actI ib who (.slice xa xl xc) cost false had ok ok) (P.set (freeP who had).toNat (.slice xa xl xc)) cs' (st + 1)) := by
  have HF := Lib.hid (free_any ab ib who cost had read over taken (.slice xa xl xc) w ha hw hh)
  have hf : 0 ≤ freeP who had ∧ freeP who had < P.length ∧ freeP who had < 64 := by unfold freeP; split <;> omega
  generalize freeP who had = fp at *
  have HK := fun w => Lib.hid (packi_any cost fp w hc ⟨hf.1, hf.2.2⟩)
  have hn := hM.notin ha (by decide) (by decide)
  have hn2 := hM.notin hi (by decide) (by decide)
  have hn3 := hM.notin hp (by decide) (by decide)
  have hia : ib ≠ ab := hi.ty ha (by decide)
  have hpa : pb ≠ ab := hp.ty ha (by decide)
  have hpi : pb ≠ ib := hp.ty hi (by decide)
  have HC : ∀ w1, Mem w1 mb cb cs st → Hid (Calls Try.prog 64 #[.pointer (some ⟨mb, 0, none⟩), .int .i64 at_, .int .i64 had, .int .i64 (cost * 64 + fp)] w1 fun e w' =>
      e = .returned (.tuple #[.bool ok, .int .i64 0]) ∧ Stepped w1 w' mb cb cs' (st + 1)) := by
    intro w1 hM1
    rcases hcas with ⟨rfl, hx, rfl⟩ | ⟨rfl, hx, rfl⟩
    · exact cas_yes mb cb cs st at_ had _ w1 hM1 hst h0 h1 hx
    · exact cas_no mb cb cs' st at_ had _ w1 hM1 hst h0 h1 hx
  clear hcas
  have a0 := ha.cell (o := 0) rfl
  have a2 := ha.cell (o := 2) rfl
  have i3 := hi.cell (o := 3) rfl
  have pf := hp.froz fp.toNat
  have pc := hp.cell (o := fp.toNat) (v := P[fp.toNat]'(by omega)) (by simp)
  have hf0 := hf.1
  have hf1 := hf.2.1
  have hp1 : Blk ((w.setCell ⟨pb, fp.toNat, none⟩ (.slice xa xl xc)).drew) pb (P.set fp.toNat (.slice xa xl xc)) 29 := (hp.set _ _).drew
  have ha1 := (ha.ne ⟨pb, fp.toNat, none⟩ (.slice xa xl xc) (Ne.symm hpa)).drew
  have hi1 := (hi.ne ⟨pb, fp.toNat, none⟩ (.slice xa xl xc) (Ne.symm hpi)).drew
  have hO1 : Only [ab, mb, cb, pb] w ((w.setCell ⟨pb, fp.toNat, none⟩ (.slice xa xl xc)).drew) := ((Only.refl _ w).setCell (by simp) _).drew
  have hM1 : Mem ((w.setCell ⟨pb, fp.toNat, none⟩ (.slice xa xl xc)).drew) mb cb cs st :=
    hM.only (S := [pb]) (((Only.refl _ w).setCell (by simp) _).drew) (by simp at hn3 ⊢; omega) (by simp at hn3 ⊢; omega)
  have k0 := ha1.cell (o := 0) rfl
  have k2 := ha1.cell (o := 2) rfl
  have k3 := hi1.cell (o := 3) rfl
  go_enter Try.func51, Try.ntmps51
  go_wp2_with (go_at_call 63; refine HF.out.mono ?_; rintro e w' ⟨rfl, rfl⟩)
  go_region_held3 (fun w' => w'.cell? ⟨ab, 0, none⟩ = some (.pointer (some ⟨ib, 0, none⟩)) ∧ w'.cell? ⟨ab, 2, none⟩ = some (.slice xa xl xc) ∧ w'.cell? ⟨ib, 3, none⟩ = some (.slice (some ⟨pb, 0, none⟩) P.length P.length))
    (first | go_keep) (first | fail)
  go_wp2_with fail
  generalize (w.setCell ⟨pb, fp.toNat, none⟩ (.slice xa xl xc)).drew = w2 at *
  clear a0 a2 i3 pf pc k2 k3
  have b3 := ha1.cell (o := 3) rfl
  have b5 := ha1.cell (o := 5) rfl
  have j0 := hi1.cell (o := 0) rfl
  have j1 := hi1.cell (o := 1) rfl
  have HC2 := HC w2.drew hM1
  clear HC
  go_region_held3 (fun w' => w'.cell? ⟨ab, 0, none⟩ = some (.pointer (some ⟨ib, 0, none⟩)) ∧ w'.cell? ⟨ab, 3, none⟩ = some (.int .i64 cost) ∧ w'.cell? ⟨ab, 5, none⟩ = some (.int .i64 had) ∧ w'.cell? ⟨ib, 0, none⟩ = some (.pointer (some ⟨mb, 0, none⟩)) ∧ w'.cell? ⟨ib, 1, none⟩ = some (.int .i64 at_))
    (first | go_keep)
    (first | (go_at_call 48; refine (HK _).out.mono ?_; rintro e w' ⟨rfl, rfl⟩) | (go_at_call 64; refine HC2.out.mono ?_; rintro e w3 ⟨rfl, hM3, hO3⟩; have hA3 := hO3.blk ha1 hn; have hI3 := hO3.blk hi1 hn2; have d0 := hA3.cell (o := 0) rfl; have d3 := hA3.cell (o := 3) rfl; have d5 := hA3.cell (o := 5) rfl; have d4 := hA3.cell (o := 4) rfl; have d6 := hA3.cell (o := 6) rfl; have d7 := hA3.cell (o := 7) rfl; have df := hA3.froz; have l0 := hI3.cell (o := 0) rfl; have l1 := hI3.cell (o := 1) rfl; have hA4 := hA3.set 7 (.bool ok); have hI4 := hI3.ne ⟨ab, 7, none⟩ (.bool ok) hia; have m0 := hA4.cell (o := 0) rfl; have m3 := hA4.cell (o := 3) rfl; have m5 := hA4.cell (o := 5) rfl; have n0 := hI4.cell (o := 0) rfl; have n1 := hI4.cell (o := 1) rfl))
  go_wp2_with fail
  go_end0
  refine ⟨rfl, ((hA3.set 7 (.bool ok)).set 6 (.bool ok)).set 4 (.bool false), ?_, hM3.only (S := [ab]) ?_ (by simp at hn ⊢; omega) (by simp at hn ⊢; omega), ?_⟩
  · exact (((hO3.blk hp1.drew hn3).ne _ _ hpa).ne _ _ hpa).ne _ _ hpa
  · exact ((((Only.refl _ _).setCell (by simp) _).setCell (by simp) _).setCell (by simp) _)
  · exact ((((hO1.drew.trans (hO3.mono (T := [ab, mb, cb, pb]) (by simp; omega))).setCell (by simp) _).setCell (by simp) _).setCell (by simp) _)
end Go.Proofs.Ytcgiimgdcamkiaa
