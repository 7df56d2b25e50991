/-
  The walks over package inc, the second part: Step, Over, Taken, Offer, New, Best, Look.
-/
import Derived.Test.YtcgiimgdcamkiaaInc
namespace Go.Proofs.Ytcgiimgdcamkiaa
open Go.RowKit
set_option linter.unusedVariables false

theorem Ints.slice {w : World} {lo : Nat} {v : Value} {xs : List Int} (h : Ints w lo v xs) : ∃ a l c, v = .slice a l c := by
  rcases h.form with ⟨rfl, _⟩ | ⟨g, cap, rfl, _⟩ <;> exact ⟨_, _, _, rfl⟩

theorem stepI_nil (w : World) : Calls Try.prog 18 #[.pointer none] w fun e w' => e = .returned (.bool true) ∧ w = w' := by
  go_enter Try.func18, Try.ntmps18
  go_wp2
  go_ret
  exact ⟨rfl, rfl⟩
theorem overI_nil (w : World) : Calls Try.prog 17 #[.pointer none] w fun e w' => e = .returned (.bool true) ∧ w = w' := by
  go_enter Try.func17, Try.ntmps17
  go_wp2
  go_ret
  exact ⟨rfl, rfl⟩
theorem takenI_nil (w : World) : Calls Try.prog 19 #[.pointer none] w fun e w' => e = .returned (.bool false) ∧ w = w' := by
  go_enter Try.func19, Try.ntmps19
  go_wp2
  go_ret
  exact ⟨rfl, rfl⟩
theorem overI_any (ab ib : Nat) (who cost had : Int) (read over taken : Bool) (xv : Value) (w : World)
   (ha : Blk w ab (actI ib who xv cost read had over taken) 101) : Calls Try.prog 17 #[.pointer (some ⟨ab, 0, none⟩)] w fun e w' => e = .returned (.bool over) ∧ w = w' := by
  have a6 := ha.cell (o := 6) rfl
  go_enter Try.func17, Try.ntmps17
  go_wp2
  go_ret
  exact ⟨rfl, rfl⟩
theorem takenI_any (ab ib : Nat) (who cost had : Int) (read over taken : Bool) (xv : Value) (w : World)
   (ha : Blk w ab (actI ib who xv cost read had over taken) 101) : Calls Try.prog 19 #[.pointer (some ⟨ab, 0, none⟩)] w fun e w' => e = .returned (.bool taken) ∧ w = w' := by
  have a7 := ha.cell (o := 7) rfl
  go_enter Try.func19, Try.ntmps19
  go_wp2
  go_ret
  exact ⟨rfl, rfl⟩

/-- What a Step that looks leaves. -/
def LookedS (w : World) (ab mb cb : Nat) (b : Bool) (vs : List Value) (cs : List Int) (st : Int) (e : Ending) (w' : World) : Prop :=
  e = .returned (.bool b) ∧ Blk w' ab vs 101 ∧ Mem w' mb cb cs st ∧ Only [ab, mb, cb] w w'

set_option maxHeartbeats 400000 in
theorem stepI_look (ab ib mb cb pb n : Nat) (who cost had at_ W : Int) (taken : Bool) (xv : Value) (cs : List Int) (st : Int) (w : World)
   (ha : Blk w ab (actI ib who xv cost false had false taken) 101) (hi : Blk w ib (incB mb at_ W pb n) 93)
   (hM : Mem w mb cb cs st) (hst : 0 ≤ st ∧ st < 9223372036854775807) (h0 : 0 ≤ at_) (h1 : at_ < cs.length) (h : Int) (hh : cs.getD at_.toNat 0 = h) (hb : 0 ≤ h) :
    Calls Try.prog 18 #[.pointer (some ⟨ab, 0, none⟩)] w (LookedS w ab mb cb (decide (h / 64 ≤ cost)) (actI ib who xv cost true h (decide (h / 64 ≤ cost)) taken) cs (st + 1)) := by
  have a4 := ha.cell (o := 4) rfl
  have a6 := ha.cell (o := 6) rfl
  have HL := Lib.hid (look_any ab ib mb cb pb n who cost had at_ W false false taken xv cs st w ha hi hM hst h0 h1 h hh hb)
  clear hh
  generalize hd : decide (h / 64 ≤ cost) = d at *
  clear hd
  go_enter Try.func18, Try.ntmps18
  go_wp2_with (go_at_call 52; refine HL.out.mono ?_; rintro e w1 ⟨rfl, hA1, hM1, hO1⟩; have b6 := hA1.cell (o := 6) rfl)
  go_ret
  exact ⟨rfl, hA1, hM1, hO1⟩

/-- What a Step that swaps leaves. -/
def SwappedS (w : World) (ab mb cb pb : Nat) (b : Bool) (vs : List Value) (P : List Value) (cs : List Int) (st : Int) (e : Ending) (w' : World) : Prop :=
  e = .returned (.bool b) ∧ Blk w' ab vs 101 ∧ Blk w' pb P 29 ∧ Mem w' mb cb cs st ∧ Only [ab, mb, cb, pb] w w'

set_option maxHeartbeats 400000 in
theorem stepI_swap (ab ib mb cb pb : Nat) (who cost had at_ W : Int) (taken ok : Bool) (xa : Option Addr) (xl xc : Nat) (P : List Value) (cs cs' : List Int) (st : Int) (w : World)
   (ha : Blk w ab (actI ib who (.slice xa xl xc) cost true had false taken) 101) (hi : Blk w ib (incB mb at_ W pb P.length) 93) (hp : Blk w pb P 29)
   (hM : Mem w mb cb cs st) (hst : 0 ≤ st ∧ st < 9223372036854775807) (h0 : 0 ≤ at_) (h1 : at_ < cs.length) (hw : 0 ≤ who ∧ who ≤ 16) (hP : 2 * who + 1 < P.length) (hc : 0 ≤ cost ∧ cost ≤ 1125899906842624)
   (hh : 0 ≤ had ∧ had < 9223372036854775808)
   (hcas : (ok = true ∧ cs.getD at_.toNat 0 = had ∧ cs' = cs.set at_.toNat (cost * 64 + freeP who had)) ∨ (ok = false ∧ cs.getD at_.toNat 0 ≠ had ∧ cs' = cs)) :
    Calls Try.prog 18 #[.pointer (some ⟨ab, 0, none⟩)] w (SwappedS w ab mb cb pb ok (actI ib who (.slice xa xl xc) cost false had ok ok) (P.set (freeP who had).toNat (.slice xa xl xc)) cs' (st + 1)) := by
  have a4 := ha.cell (o := 4) rfl
  have a6 := ha.cell (o := 6) rfl
  have HL := Lib.hid (swap_any ab ib mb cb pb who cost had at_ W true false taken ok xa xl xc P cs cs' st w ha hi hp hM hst h0 h1 hw hP hc hh hcas)
  clear hcas
  go_enter Try.func18, Try.ntmps18
  go_wp2_with (go_at_call 51; refine HL.out.mono ?_; rintro e w1 ⟨rfl, hA1, hP1, hM1, hO1⟩; have b6 := hA1.cell (o := 6) rfl)
  go_ret
  exact ⟨rfl, hA1, hP1, hM1, hO1⟩

theorem offerI_nil (who cost : Int) (xv : Value) (w : World) : Calls Try.prog 16 #[.pointer none, .int .i64 who, xv, .int .i64 cost] w fun e w' => e = .returned (.pointer none) ∧ w = w' := by
  go_enter Try.func16, Try.ntmps16
  go_wp2
  go_ret
  exact ⟨rfl, rfl⟩

theorem offerI_no (ib mb pb n : Nat) (at_ W who cost : Int) (xv : Value) (w : World) (hi : Blk w ib (incB mb at_ W pb n) 93) (h : who < 0 ∨ W ≤ who ∨ cost < 0 ∨ 1125899906842624 < cost) :
    Calls Try.prog 16 #[.pointer (some ⟨ib, 0, none⟩), .int .i64 who, xv, .int .i64 cost] w fun e w' => e = .returned (.pointer none) ∧ w = w' := by
  have i2 := hi.cell (o := 2) rfl
  by_cases h1 : who < 0
  · go_enter Try.func16, Try.ntmps16
    go_wp2
    go_ret
    exact ⟨rfl, rfl⟩
  · by_cases h2 : W ≤ who
    · go_enter Try.func16, Try.ntmps16
      go_wp2
      go_ret
      exact ⟨rfl, rfl⟩
    · by_cases h3 : cost < 0
      · clear h
        go_enter Try.func16, Try.ntmps16
        go_wp2
        go_ret
        exact ⟨rfl, rfl⟩
      · have h4 : 1125899906842624 < cost := by omega
        clear h
        go_enter Try.func16, Try.ntmps16
        go_wp2
        go_ret
        exact ⟨rfl, rfl⟩

/-- A new act that offers. -/
def Offered (w : World) (ib : Nat) (who cost : Int) (xs : List Int) (e : Ending) (w' : World) : Prop :=
  ∃ ab xa xl xc, e = .returned (.pointer (some ⟨ab, 0, none⟩)) ∧ w.heap.size ≤ ab ∧ Blk w' ab (actI ib who (.slice xa xl xc) cost false 0 false false) 101 ∧ Ints w' w.heap.size (.slice xa xl xc) xs ∧ Only [] w w'

set_option maxHeartbeats 400000 in
theorem offerI_yes (ib mb pb n lo : Nat) (at_ W who cost : Int) (xv : Value) (xs : List Int) (w : World) (hi : Blk w ib (incB mb at_ W pb n) 93) (hx : Ints w lo xv xs) (hl : xs.length ≤ 1099511627776)
    (hw : 0 ≤ who ∧ who < W) (hc : 0 ≤ cost ∧ cost ≤ 1125899906842624) :
    Calls Try.prog 16 #[.pointer (some ⟨ib, 0, none⟩), .int .i64 who, xv, .int .i64 cost] w (Offered w ib who cost xs) := by
  have i2 := hi.cell (o := 2) rfl
  have HC := Lib.hid (clone_any lo xv xs w hx hl)
  go_enter Try.func16, Try.ntmps16
  go_wp2_with (go_at_call 46; refine HC.out.mono ?_; rintro e w1 ⟨v', rfl, hI1, hO1⟩; obtain ⟨xa, xl, xc, rfl⟩ := hI1.slice)
  go_ret
  refine ⟨w1.heap.size, xa, xl, xc, rfl, hO1.size, ?_, hI1.only (S := []) ((Only.refl _ _).alloc _) (by simp), hO1.alloc _⟩
  exact Blk.new w1 (actI ib who (.slice xa xl xc) cost false 0 false false) 101
end Go.Proofs.Ytcgiimgdcamkiaa
