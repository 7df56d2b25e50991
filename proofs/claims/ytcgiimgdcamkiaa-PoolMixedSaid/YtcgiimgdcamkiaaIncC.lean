/-
  The walks over package inc, the third part: New, Best, Look.
-/
import Derived.Test.YtcgiimgdcamkiaaIncB
namespace Go.Proofs.Ytcgiimgdcamkiaa
open Go.RowKit
set_option linter.unusedVariables false

theorem Try.info29 : (Try.prog.info? 29).map (fun i => (i.zero, i.size, i.bytes)) = some (some (.slice none 0 0), 1, 24) := by kernel_rfl

theorem incNew_nil (at_ W cost : Int) (xv : Value) (w : World) : Calls Try.prog 11 #[.pointer none, .int .i64 at_, .int .i64 W, xv, .int .i64 cost] w fun e w' => e = .returned (.tuple #[.pointer none, .int .i64 1]) ∧ w = w' := by
  go_enter Try.func11, Try.ntmps11
  go_wp2
  go_ret2
  exact ⟨rfl, rfl⟩

set_option maxHeartbeats 800000 in
theorem incNew_no (mb cb : Nat) (cs : List Int) (st : Int) (at_ W cost : Int) (xv : Value) (w : World) (hM : Mem w mb cb cs st)
    (h : at_ < 0 ∨ cs.length ≤ at_ ∨ W < 1 ∨ 16 < W ∨ cost < 0 ∨ 1125899906842624 < cost) :
    Calls Try.prog 11 #[.pointer (some ⟨mb, 0, none⟩), .int .i64 at_, .int .i64 W, xv, .int .i64 cost] w fun e w' => e = .returned (.tuple #[.pointer none, .int .i64 1]) ∧ w = w' := by
  have HS := Lib.hid (size_any mb cb cs st w hM)
  have hl := hM.len
  by_cases h1 : at_ < 0
  · clear h
    go_enter Try.func11, Try.ntmps11
    go_wp2
    go_ret2
    exact ⟨rfl, rfl⟩
  by_cases h2 : cs.length ≤ at_
  · clear h
    go_enter Try.func11, Try.ntmps11
    go_wp2_with (go_at_call 45; refine HS.out.mono ?_; rintro e w' ⟨rfl, rfl⟩)
    go_ret2
    exact ⟨rfl, rfl⟩
  by_cases h3 : W < 1
  · clear h
    go_enter Try.func11, Try.ntmps11
    go_wp2_with (go_at_call 45; refine HS.out.mono ?_; rintro e w' ⟨rfl, rfl⟩)
    go_ret2
    exact ⟨rfl, rfl⟩
  by_cases h4 : 16 < W
  · clear h
    go_enter Try.func11, Try.ntmps11
    go_wp2_with (go_at_call 45; refine HS.out.mono ?_; rintro e w' ⟨rfl, rfl⟩)
    go_ret2
    exact ⟨rfl, rfl⟩
  by_cases h5 : cost < 0
  · clear h
    go_enter Try.func11, Try.ntmps11
    go_wp2_with (go_at_call 45; refine HS.out.mono ?_; rintro e w' ⟨rfl, rfl⟩)
    go_ret2
    exact ⟨rfl, rfl⟩
  have h6 : 1125899906842624 < cost := by omega
  clear h
  go_enter Try.func11, Try.ntmps11
  go_wp2_with (go_at_call 45; refine HS.out.mono ?_; rintro e w' ⟨rfl, rfl⟩)
  go_ret2
  exact ⟨rfl, rfl⟩

/-- A new Inc. -/
def IncNew (w : World) (mb cb : Nat) (cs : List Int) (st at_ W cost : Int) (xs : List Int) (e : Ending) (w' : World) : Prop :=
  ∃ ib pb P v, e = .returned (.tuple #[.pointer (some ⟨ib, 0, none⟩), .int .i64 0]) ∧ w.heap.size ≤ ib ∧ w.heap.size ≤ pb ∧ Blk w' ib (incB mb at_ W pb P.length) 93 ∧ Blk w' pb P 29 ∧
    (P.length : Int) = 2 * W + 1 ∧ P[(2 * W).toNat]? = some v ∧ Ints w' w.heap.size v xs ∧ Mem w' mb cb (cs.set at_.toNat (cost * 64 + 2 * W)) (st + 1) ∧ Only [mb, cb] w w'

set_option maxRecDepth 100000 in
set_option maxHeartbeats 800000 in
theorem incNew_yes (mb cb lo : Nat) (cs : List Int) (st : Int) (at_ W cost : Int) (xv : Value) (xs : List Int) (w : World) (hM : Mem w mb cb cs st) (hst : 0 ≤ st ∧ st < 9223372036854775807)
    (hx : Ints w lo xv xs) (hxl : xs.length ≤ 1099511627776) (h0 : 0 ≤ at_) (h1 : at_ < cs.length) (hW : 1 ≤ W ∧ W ≤ 16) (hc : 0 ≤ cost ∧ cost ≤ 1125899906842624) :
    Calls Try.prog 11 #[.pointer (some ⟨mb, 0, none⟩), .int .i64 at_, .int .i64 W, xv, .int .i64 cost] w (IncNew w mb cb cs st at_ W cost xs) := by
  have HS := Lib.hid (size_any mb cb cs st w hM)
  have hl := hM.len
  obtain ⟨i0, hi, hz0, hz1, hz2⟩ := info_parts Try.info29
  have hmk := fun w => run_make_row (P := Try.prog) 79 29 i0 (.slice none 0 0) 24 Try.underlying79 hi hz0 hz1 hz2 rfl .i64 .i64 (2 * W + 1) (by omega) (by omega) (by omega) w
  clear hi hz0 hz1 hz2
  go_enter Try.func11, Try.ntmps11
  go_wp2_with (go_at_call 45; refine HS.out.mono ?_; rintro e w' ⟨rfl, rfl⟩)
  clear HS hmk
  have hI2 := Blk.new (w.alloc (.cells (rowA (List.replicate (2 * W + 1).toNat (.slice none 0 0))) 29)) (incB mb at_ W w.heap.size (2 * W + 1).toNat) 93
  have hP2 := (Blk.newRow w (List.replicate (2 * W + 1).toNat (.slice none 0 0)) 29).alloc (.cells (incB mb at_ W w.heap.size (2 * W + 1).toNat).toArray 93)
  have hO2 := ((Only.refl [mb, cb] w).alloc (.cells (rowA (List.replicate (2 * W + 1).toNat (.slice none 0 0))) 29)).alloc (.cells (incB mb at_ W w.heap.size (2 * W + 1).toNat).toArray 93)
  have hO2' := ((Only.refl [] w).alloc (.cells (rowA (List.replicate (2 * W + 1).toNat (.slice none 0 0))) 29)).alloc (.cells (incB mb at_ W w.heap.size (2 * W + 1).toNat).toArray 93)
  have hM2 := hM.only hO2' (by simp) (by simp)
  have hx2 := hx.only hO2' (by simp)
  clear hO2'
  simp only [World.size_alloc] at hI2
  have hsz : w.heap.size + 1 < ((w.alloc (.cells (rowA (List.replicate (2 * W + 1).toNat (.slice none 0 0))) 29)).alloc (.cells (incB mb at_ W w.heap.size (2 * W + 1).toNat).toArray 93)).heap.size := by simp
  generalize (w.alloc (.cells (rowA (List.replicate (2 * W + 1).toNat (.slice none 0 0))) 29)).alloc (.cells (incB mb at_ W w.heap.size (2 * W + 1).toNat).toArray 93) = w2 at *
  have hB : w.heap.size ≤ w.heap.size + 1 ∧ w.heap.size ≤ w.heap.size := by omega
  have hMl := hM.lt
  generalize w.heap.size + 1 = ib at *
  generalize hpb : w.heap.size = pb at *
  generalize hN : (2 * W + 1).toNat = N at *
  have b1 : 2 * W < N := by omega
  have HN := Lib.hid (show (N : Int) = 2 * W + 1 by omega)
  have Hpb := Lib.hid hpb
  clear hN hpb
  have HC := Lib.hid (clone_any lo xv xs w2.drew hx2 hxl)
  have e3 := hI2.cell (o := 3) rfl
  have hip : ib ≠ pb := hI2.ty hP2 (by decide)
  have hpc := Lib.hid (show (List.replicate N (Value.slice none 0 0))[(2 * W).toNat]? = some (.slice none 0 0) by rw [List.getElem?_replicate, if_pos (by omega)])
  have b0 : 0 ≤ 2 * W := by omega
  have hni : ib ∉ ([] : List Nat) := by simp
  have hnp : pb ∉ ([] : List Nat) := by simp
  go_region_held3 (fun w' => w'.cell? ⟨ib, 3, none⟩ = some (.slice (some ⟨pb, 0, none⟩) N N))
    (first | go_keep)
    (first | (go_at_call 46; refine HC.out.mono ?_; rintro e w3 ⟨v', rfl, hI3, hO3⟩; obtain ⟨xa, xl, xc, rfl⟩ := hI3.slice; have hi3 := hO3.blk hI2.drew hni; have f3 := hi3.cell (o := 3) rfl; have hp3 := hO3.blk hP2.drew hnp; have pf := hp3.froz (2 * W).toNat; have pc := hp3.cell (o := (2 * W).toNat) (v := .slice none 0 0) hpc.out; have hi4 := hi3.ne ⟨pb, (2 * W).toNat, none⟩ (.slice xa xl xc) hip; have g3 := hi4.cell (o := 3) rfl))
  go_wp2_with fail
  have hp4 := hp3.set (2 * W).toNat (.slice xa xl xc)
  have hO4 : Only [mb, cb] w (w3.setCell ⟨pb, (2 * W).toNat, none⟩ (.slice xa xl xc)) := (hO2.drew.trans (hO3.mono (by simp))).setCell (Or.inr (by have := Hpb.out; show w.heap.size ≤ pb; omega)) _
  have hM4 := hM2.only (S := [pb]) ((((Only.refl _ w2).drew.trans (hO3.mono (T := [pb]) (by simp))).setCell (p := ⟨pb, (2 * W).toNat, none⟩) (by simp)) (.slice xa xl xc)) (by simp; omega) (by simp; omega)
  have hI4 := (hI3.only (S := [pb]) (((Only.refl _ w3).setCell (p := ⟨pb, (2 * W).toNat, none⟩) (by simp)) (.slice xa xl xc)) (by intro k hk; simp at hk; subst hk; exact Or.inr (Or.inr ⟨_, _, hp3, by decide⟩))).mono (lo' := w.heap.size) (by have := hO2.size; simp; exact this)
  generalize w3.setCell ⟨pb, (2 * W).toNat, none⟩ (.slice xa xl xc) = w4 at *
  clear f3 pf pc g3 e3
  have HK := Lib.hid (packi_any cost (2 * W) w4 hc ⟨b0, by omega⟩)
  have HS := Lib.hid (set_any mb cb cs st at_ (cost * 64 + 2 * W) w4 hM4 hst h0 h1)
  go_wp2_with (first | (go_at_call 48; refine HK.out.mono ?_; rintro e w' ⟨rfl, rfl⟩) | (go_at_call 47; refine HS.out.mono ?_; rintro e w5 ⟨rfl, hM5, hO5⟩))
  go_ret2
  have hn1 := hM4.notin hi4 (by decide) (by decide)
  have hn2 := hM4.notin hp4 (by decide) (by decide)
  refine ⟨ib, pb, (List.replicate N (Value.slice none 0 0)).set (2 * W).toNat (.slice xa xl xc), .slice xa xl xc, rfl, by have := Hpb.out; omega, by have := Hpb.out; omega, ?_, hO5.blk hp4 hn2, ?_, ?_, ?_, hM5, hO4.trans hO5⟩
  · simpa using hO5.blk hi4 hn1
  · simpa using HN.out
  · have hN1 := HN.out
    exact List.getElem?_set_self (by rw [List.length_replicate]; omega)
  · refine hI4.only hO5 ?_
    intro k hk
    have := Hpb.out
    simp at hk
    rcases hk with rfl | rfl <;> left <;> omega
end Go.Proofs.Ytcgiimgdcamkiaa
