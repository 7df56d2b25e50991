/-
  The walk over the statement IncMixed.
-/
import Derived.Test.YtcgiimgdcamkiaaMixI
import Derived.Deep.CutRange
namespace Go.Proofs.Ytcgiimgdcamkiaa
open Go.RowKit
set_option linter.unusedVariables false

set_option maxRecDepth 100000 in
set_option maxHeartbeats 2000000 in
theorem incMixed_walk (first : Int) (rv : Value) (m : Nat) (w : World) (hz : ArgT w rv m) (hl : m ≤ 9223372036854775807) :
    Calls Try.prog 4 #[.int .i64 first, rv] w (True0 w) := by
  obtain ⟨a, cap, rfl, hc⟩ := id hz
  have Hz := Lib.hid hz
  clear hz hc
  go_enter Try.func4, Try.ntmps4
  go_wp2_with fail
  have hcb := umod_bd first 1000 (by omega) (by omega)
  generalize wrap64 ((IntKind.u64.wrap first).tmod 1000) = c0 at *
  refine (freshI_any 4 c0 _ (.slice (some ⟨w.heap.size, 0, none⟩) 2 2) [-1, -1] _ (Ints.lit w [-1, -1] (by simp)) (by simp) (by omega) (by omega)).mono ?_
  rintro e w1 ⟨L, rfl, -, q2, q3, q4, q5, q6, hI1, hO1⟩
  have hO1' := ((Only.refl [] w).alloc (.cells #[.int .i64 (-1), .int .i64 (-1)] 3)).trans hO1
  have Q2 := Lib.hid q2
  simp only [World.size_alloc] at q3 q4 q6
  have Hq := Lib.hid (And.intro q3 (And.intro q4 q6))
  clear q2 q3 q4 q5 q6 hO1
  go_wp2_with fail
  refine (incs_any w1).mono ?_
  rintro e w2 ⟨rfl, hO2⟩
  have hI2 := hI1.only hO2 (by simp)
  have hO2' := hO1'.trans hO2
  clear hI1 hO1' hO2
  go_wp2_with fail
  have hb := (Blk.new w2 [.int .i64 0, .slice none 0 0] 45).alloc (.cells #[.int .i64 (-1), .int .i64 (-1)] 3)
  have hx := Ints.lit (w2.alloc (.cells #[.int .i64 0, .slice none 0 0] 45)) [-1, -1] (by simp)
  simp only [World.size_alloc] at hx
  have hO3 := (((Only.refl [] w2).alloc (.cells #[.int .i64 0, .slice none 0 0] 45)).alloc (.cells #[.int .i64 (-1), .int .i64 (-1)] 3))
  have hI3 := hI2.only hO3 (by simp)
  have hlo := hI2.lole
  refine (takeW_any w2.heap.size _ 0 c0 (.slice none 0 0) _ [-1, -1] _ hb hx (by simp) (by simp)).mono ?_
  rintro e w3 ⟨rfl, vX, hB4, hX4, hO4⟩
  have hI4 := hI3.only hO4 (by intro b hb'; simp at hb'; subst hb'; exact Or.inr ⟨_, _, hb, by decide, by decide, by decide, by decide⟩)
  have hO4' : Only [] w w3 := (hO2'.trans hO3).behind hO4 (by have := hO2'.size; simp; omega)
  have hX4' := hX4.mono (lo' := L.lo) (by simp; omega)
  have hwb : w.heap.size ≤ w2.heap.size := hO2'.size
  generalize w2.heap.size = wb at *
  clear hI2 hO2' hb hx hO3 hI3 hlo hX4 hO4
  have HI := Lib.hid hI4
  have HO := Lib.hid hO4'
  have HB := Lib.hid hB4
  have HX := Lib.hid hX4'
  clear hI4 hO4' hB4 hX4'
  go_wp2_with fail
  have hA := ((Blk.new w3 [.pointer none, .pointer none, .pointer none, .pointer none] 47).alloc (.cells #[.int .i64 0, .int .i64 0, .int .i64 0, .int .i64 0] 48)).alloc (.cells #[.slice none 0 0, .slice none 0 0, .slice none 0 0, .slice none 0 0] 49)
  have hC := (Blk.new (w3.alloc (.cells #[.pointer none, .pointer none, .pointer none, .pointer none] 47)) [.int .i64 0, .int .i64 0, .int .i64 0, .int .i64 0] 48).alloc (.cells #[.slice none 0 0, .slice none 0 0, .slice none 0 0, .slice none 0 0] 49)
  have hX := Blk.new ((w3.alloc (.cells #[.pointer none, .pointer none, .pointer none, .pointer none] 47)).alloc (.cells #[.int .i64 0, .int .i64 0, .int .i64 0, .int .i64 0] 48)) [.slice none 0 0, .slice none 0 0, .slice none 0 0, .slice none 0 0] 49
  have hO5 := ((((Only.refl [] w3).alloc (.cells #[.pointer none, .pointer none, .pointer none, .pointer none] 47))).alloc (.cells #[.int .i64 0, .int .i64 0, .int .i64 0, .int .i64 0] 48)).alloc (.cells #[.slice none 0 0, .slice none 0 0, .slice none 0 0, .slice none 0 0] 49)
  simp only [World.size_alloc] at hC hX
  have hI5 := HI.out.only hO5 (by simp)
  have hB5 := hO5.blk HB.out (by simp)
  have hX5 := HX.out.only hO5 (by simp)
  have hO6 := HO.out.trans hO5
  have hwba : w.heap.size ≤ w3.heap.size := HO.out.size
  have hS : MixSt (((w3.alloc (.cells #[.pointer none, .pointer none, .pointer none, .pointer none] 47)).alloc (.cells #[.int .i64 0, .int .i64 0, .int .i64 0, .int .i64 0] 48)).alloc (.cells #[.slice none 0 0, .slice none 0 0, .slice none 0 0, .slice none 0 0] 49)) L 1 c0 8 [-1, -1] wb w3.heap.size (w3.heap.size + 1) (w3.heap.size + 1 + 1)
      [.pointer none, .pointer none, .pointer none, .pointer none] [0, 0, 0, 0] [.slice none 0 0, .slice none 0 0, .slice none 0 0, .slice none 0 0] := by
    refine ⟨hI5, rfl, ⟨vX, hB5, hX5⟩, hA, hC, hX, rfl, rfl, rfl, fun j hj => ?_⟩
    match j, hj with
    | 0, _ => exact Or.inl rfl
    | 1, _ => exact Or.inl rfl
    | 2, _ => exact Or.inl rfl
    | 3, _ => exact Or.inl rfl
  have Hba : Hid (w.heap.size ≤ wb ∧ w.heap.size ≤ w3.heap.size ∧ w.heap.size ≤ w3.heap.size + 1 ∧ w.heap.size ≤ w3.heap.size + 1 + 1) := by unfold Hid; omega
  generalize ((w3.alloc (.cells #[.pointer none, .pointer none, .pointer none, .pointer none] 47)).alloc (.cells #[.int .i64 0, .int .i64 0, .int .i64 0, .int .i64 0] 48)).alloc (.cells #[.slice none 0 0, .slice none 0 0, .slice none 0 0, .slice none 0 0] 49) = w4 at *
  clear hA hC hX hO5 hI5 hB5 hX5 HI HB HX HO hwba hwb
  generalize w3.heap.size + 1 + 1 = bx at *
  generalize w3.heap.size + 1 = bc at *
  generalize w3.heap.size = ba at *
  have HS := Lib.hid hS
  have HO := Lib.hid hO6
  clear hS hO6
  go_loopw [12] (fun i wr => ∃ (n : Nat) (st c : Int) (k : Nat) (X : List Int) (ps : List Value) (cl : List Int) (xl : List Value), n ≤ 200 ∧ n ≤ m ∧ i = .int .i64 n ∧ MixSt wr L st c k X wb ba bc bx ps cl xl ∧ 0 ≤ st ∧ st ≤ 1 + n ∧ Only [] w wr) (fun i _ => 200 - (intOf i).toNat)
  case atStart => exact ⟨0, 1, c0, 8, _, _, _, _, by omega, by omega, rfl, HS.out, by omega, by omega, HO.out⟩
  case round =>
    obtain ⟨n, st, c, k, X, ps, cl, xl, hn1, hn2, rfl, hS, hs0, hs1, hO⟩ := hrel
    have hz := Hz.out.only hO
    have HOr := Lib.hid hO
    clear HO hO HS
    by_cases h1 : n < m
    · by_cases h2 : n < 200
      · obtain ⟨a', cap', e1, hc⟩ := hz
        obtain ⟨b, off, e2, hd⟩ := hc (by omega)
        simp only [Value.slice.injEq] at e1
        obtain ⟨rfl, -, rfl⟩ := e1
        subst e2
        obtain ⟨x, y, d0, d1⟩ := hd n h1
        clear hc hd
        go_upto_region 15 with (fail)
        have hw := umod_bd x 4 (by omega) (by omega)
        generalize wrap64 ((IntKind.u64.wrap x).tmod 4) = who at *
        have hT := Blk.new wr [.int .i64 x, .int .i64 y] 51
        have hS5 := hS.only ((Only.refl [] wr).alloc (.cells #[.int .i64 x, .int .i64 y] 51))
        have hO5 : Only [] w (wr.alloc (.cells #[.int .i64 x, .int .i64 y] 51)) := HOr.out.alloc _
        have htb : w.heap.size ≤ wr.heap.size := HOr.out.size
        generalize hw5 : wr.alloc (.cells #[.int .i64 x, .int .i64 y] 51) = w5 at *
        clear hw5 hS d0 d1 HOr
        generalize wr.heap.size = tb at *
        obtain ⟨i, rfl⟩ := Int.eq_ofNat_of_zero_le hw.1
        have hi : i < 4 := by omega
        have HO5 := Lib.hid hO5
        clear hw hO5
        obtain ⟨hI, -, ⟨vX, hB, hVX⟩, hA, hC, hx, hl1, hl2, hl3, hsl⟩ := id hS5
        have t0 := hT.cell (o := 0) rfl
        have t1 := hT.cell (o := 1) rfl
        rcases hsl i hi with hp | ⟨ab, xa, xl', xc, xs, rd, had, hp, hab, hax, hay, hxs, hci0, hci1, hmab, hrd⟩
        · have p0 := hA.cell (o := i) (v := .pointer none) (by rw [← hp]; simp [List.getD, hl1, hi])
          have c1 := hC.cell (o := i) (v := .int .i64 (cl.getD i 0)) (by simp [hl2, hi])
          have x1 := hx.cell (o := i) (v := xl.getD i (.slice none 0 0)) (by simp [hl3, hi])
          have cf := hC.froz i
          have xf := hx.froz i
          have pf := hA.froz i
          have l1 := hA.lt
          have l2 := hC.lt
          have l3 := hx.lt
          have l4 := hT.lt
          have n1 := hA.ty hC (by decide)
          have n2 := hA.ty hx (by decide)
          have n3 := hC.ty hx (by decide)
          have n4 := hA.ty hT (by decide)
          have n5 := hC.ty hT (by decide)
          have n6 := hx.ty hT (by decide)
          have HP := Lib.hid hp
          clear hp
          go_wp2_with fail
          have hcb := umod_bd y 1000 (by omega) (by omega)
          generalize wrap64 ((IntKind.u64.wrap y).tmod 1000) = ci at *
          obtain ⟨w6, hw6⟩ : ∃ w6, w6 = ((((w5.setCell ⟨bc, i, none⟩ (.int .i64 ci)).setCell ⟨bx, i, none⟩ (.slice (some ⟨w5.heap.size, 0, none⟩) 2 2)).alloc (.cells #[.int .i64 i, .int .i64 n] 3)).alloc (.cells #[.int .i64 i, .int .i64 n] 3)) := ⟨_, rfl⟩
          have k1 : Blk w6 bc ((cl.set i ci).map (Value.int .i64)) 48 := by
            rw [hw6, List.map_set]
            exact (((hC.set i (.int .i64 ci)).ne ⟨bx, i, none⟩ _ n3).alloc _).alloc _
          have k2 : Blk w6 bx (xl.set i (.slice (some ⟨w5.heap.size, 0, none⟩) 2 2)) 49 := by
            rw [hw6]
            exact (((hx.ne ⟨bc, i, none⟩ (.int .i64 ci) (Ne.symm n3)).set i _).alloc _).alloc _
          have k3 : Blk w6 ba ps 47 := by
            rw [hw6]
            exact (((hA.ne ⟨bc, i, none⟩ (.int .i64 ci) n1).ne ⟨bx, i, none⟩ _ n2).alloc _).alloc _
          have k4 : Only [bc, bx, ba] w5 w6 := by
            rw [hw6]
            exact ((((Only.refl _ _).setCell (by simp) _).setCell (by simp) _).alloc _).alloc _
          have hsz : ((w5.setCell ⟨bc, i, none⟩ (.int .i64 ci)).setCell ⟨bx, i, none⟩ (.slice (some ⟨w5.heap.size, 0, none⟩) 2 2)).heap.size = w5.heap.size := by simp [World.setCell]
          have k5 : Blk w6 (w5.heap.size + 1) [.int .i64 i, .int .i64 n] 3 := by
            have h := Blk.new (((w5.setCell ⟨bc, i, none⟩ (.int .i64 ci)).setCell ⟨bx, i, none⟩ (.slice (some ⟨w5.heap.size, 0, none⟩) 2 2)).alloc (.cells #[.int .i64 i, .int .i64 n] 3)) [.int .i64 i, .int .i64 n] 3
            rw [World.size_alloc, hsz] at h
            rw [hw6]
            exact h
          have k6 : Ints w6 (w5.heap.size + 1) (.slice (some ⟨w5.heap.size + 1, 0, none⟩) 2 2) [(i : Int), (n : Int)] := by
            have h := Ints.lit (((w5.setCell ⟨bc, i, none⟩ (.int .i64 ci)).setCell ⟨bx, i, none⟩ (.slice (some ⟨w5.heap.size, 0, none⟩) 2 2)).alloc (.cells #[.int .i64 i, .int .i64 n] 3)) [(i : Int), (n : Int)] (by simp)
            rw [World.size_alloc, hsz] at h
            rw [hw6]
            exact h
          have hlo := hI.lole
          have k7 : Ints w6 L.lo (.slice (some ⟨w5.heap.size, 0, none⟩) 2 2) [(i : Int), (n : Int)] := by
            have h := (Ints.lit ((w5.setCell ⟨bc, i, none⟩ (.int .i64 ci)).setCell ⟨bx, i, none⟩ (.slice (some ⟨w5.heap.size, 0, none⟩) 2 2)) [(i : Int), (n : Int)] (by simp)).only ((Only.refl [] _).alloc (.cells #[.int .i64 i, .int .i64 n] 3)) (by simp)
            rw [hsz] at h
            rw [hw6]
            exact h.mono hlo
          have hI6 : IncSt w6 L st c k X := hI.only k4 (by
            intro q hq
            simp at hq
            rcases hq with rfl | rfl | rfl
            · exact Or.inr ⟨_, _, hC, by decide, by decide, by decide, by decide⟩
            · exact Or.inr ⟨_, _, hx, by decide, by decide, by decide, by decide⟩
            · exact Or.inr ⟨_, _, hA, by decide, by decide, by decide, by decide⟩)
          rw [← hw6]
          clear hw6 hsz p0 c1 x1 cf xf pf
          refine (offerA L _ i ci _ [(i : Int), (n : Int)] st c k X w6 hI6 k6 (by simp) (by rw [Q2.out]; omega) (by omega)).mono ?_
          rintro e w7 ⟨ab, xa, xl', xc, rfl, hab, hab7, hx7, hO7⟩
          have g1 := hO7.blk k3 (by simp)
          have g2 := hO7.blk k5 (by simp)
          have p0 := g1.cell (o := i) (v := .pointer none) (by rw [← HP.out]; simp [List.getD, hl1, hi])
          have pf := g1.froz i
          have q0 := g2.cell (o := 0) rfl
          have qf := g2.froz
          have np : w5.heap.size + 1 ≠ ba := by omega
          go_wp2_with fail
          have z1 := (((Only.refl [ba] w7).setCell (p := ⟨ba, i, none⟩) (by simp)) (.pointer (some ⟨ab, 0, none⟩)))
          have z2 : Only [bc, bx, ba] w5 ((w7.setCell ⟨ba, i, none⟩ (.pointer (some ⟨ab, 0, none⟩))).setCell ⟨w5.heap.size + 1, 0, none⟩ (.int .i64 99)) :=
            (((k4.trans (hO7.mono (by simp))).setCell (p := ⟨ba, i, none⟩) (by simp) _).setCell (p := ⟨w5.heap.size + 1, 0, none⟩) (Or.inr (by show w5.heap.size ≤ w5.heap.size + 1; omega)) _)
          have r1 := (hO7.blk k1 (by simp))
          have r2 := (hO7.blk k2 (by simp))
          have m1 := r1.ty g1 (by decide)
          have m2 := r2.ty g1 (by decide)
          have m3 := r1.ty g2 (by decide)
          have m4 := r2.ty g2 (by decide)
          have m5 := hab7.ty g1 (by decide)
          have m6 := hab7.ty g2 (by decide)
          have z3 := hx7.only (S := [ba]) z1 (by intro q hq; simp at hq; subst hq; exact Or.inr (Or.inr ⟨_, _, g1, by decide⟩))
          have hsz6 : w5.heap.size + 1 < w6.heap.size := k5.lt
          have z4 := (z3.only (S := [w5.heap.size + 1]) (((Only.refl [w5.heap.size + 1] _).setCell (p := ⟨w5.heap.size + 1, 0, none⟩) (by simp)) (.int .i64 99)) (by intro q hq; simp at hq; exact Or.inl (by omega))).mono (lo' := L.lo) (by omega)
          have k7' := (k7.only hO7 (by simp)).only (S := [ba]) z1 (by intro q hq; simp at hq; subst hq; exact Or.inr (Or.inr ⟨_, _, g1, by decide⟩))
          go_roundw
          case rel =>
            refine ⟨n + 1, st, c, k, X, _, _, _, by omega, by omega, by go_num, hS5.offer (ab := ab) hi (by omega) z2 ((r1.ne _ _ m1).ne _ _ m3) ((r2.ne _ _ m2).ne _ _ m4) ((g1.set i _).ne _ _ (Ne.symm np)) ((hab7.ne _ _ m5).ne _ _ m6) z4 ?_ rfl (by have := hI6.memlt; omega), by omega, by omega, ?_⟩
            · refine k7'.own (S := [w5.heap.size + 1]) (((Only.refl [w5.heap.size + 1] _).setCell (p := ⟨w5.heap.size + 1, 0, none⟩) (by simp)) (.int .i64 99)) ?_
              intro q hq
              simp [Value.ownBlock] at hq
              simp
              omega
            · exact HO5.out.behind z2 (by have := Hba.out; simp; omega)
          case measure => simp [intOf]; omega
        · have p0 := hA.cell (o := i) (v := .pointer (some ⟨ab, 0, none⟩)) (by rw [← hp]; simp [List.getD, hl1, hi])
          have HST := Lib.hid (stepsB L st c k X w5 hI)
          have HSM := Lib.hid (stepMix L i hi Q2.out ab xa xl' xc _ xs rd had st c k X w5 hab hI (by omega) hax hxs ⟨hci0, hci1⟩ hrd)
          have HP := Lib.hid hp
          have HRD := Lib.hid hrd
          have HSL := Lib.hid hsl
          clear hp hrd hsl
          go_wp2_with (first | (go_at_call 23; refine HST.out.mono ?_; rintro e w' ⟨rfl, rfl⟩))
          refine HSM.out.mono ?_
          rintro e w6 ⟨over, taken, rd', had', c', k', X', rfl, hA6, hI6, hO6, hcase⟩
          obtain ⟨⟨vX6, hB6, hV6⟩, hP6, hC6, hX6, -, hI6'⟩ := hS5.others hab hO6
          have b0 := hP6.cell (o := i) (v := .pointer (some ⟨ab, 0, none⟩)) (by rw [← HP.out]; simp [List.getD, hl1, hi])
          have b1 := hC6.cell (o := i) (v := .int .i64 (cl.getD i 0)) (by simp [hl2, hi])
          have b2 := hX6.cell (o := i) (v := xl.getD i (.slice none 0 0)) (by simp [hl3, hi])
          have b3 := hB6.cell (o := 0) rfl
          have bf := hP6.froz i
          have HST6 := Lib.hid (stepsB L _ _ _ _ w6 hI6)
          have HOV := Lib.hid (overI_any ab L.ib i (cl.getD i 0) had' rd' over taken _ w6 hA6)
          have HTA := Lib.hid (takenI_any ab L.ib i (cl.getD i 0) had' rd' over taken _ w6 hA6)
          have HO6 := Lib.hid (HO5.out.behind hO6 (by have := Hq.out; simp; omega))
          clear HST HSM p0 t0 t1
          rcases hcase with ⟨rfl, rfl, rfl, rfl, rfl, hr'⟩ | ⟨rfl, rfl, hlt, rfl, rfl, hk2⟩ | ⟨rfl, rfl, hge, rfl, rfl, rfl⟩
          · have hS6 := hS5.goesOn hi HP.out hab hax hay hxs ⟨hci0, hci1⟩ hmab hA6 hI6 hO6 hr'
            have HS6 := Lib.hid hS6
            clear hr' hS6
            go_wp2_with (first | (go_at_call 23; refine HST6.out.mono ?_; rintro e w' ⟨rfl, rfl⟩) | (go_at_call 17; refine HOV.out.mono ?_; rintro e w' ⟨rfl, rfl⟩) | (go_at_call 19; refine HTA.out.mono ?_; rintro e w' ⟨rfl, rfl⟩))
            have HS8 := HS6
            have HO8 := HO6
            clear HS6 HO6
            obtain ⟨hI8, hXl8, ⟨vX8, hB8, hV8⟩, -⟩ := HS8.out
            refine (bestA L _ _ _ _ w6 hI8).mono ?_
            rintro e w9 ⟨v9, rfl, hx9, hO9⟩
            have hV9 := hV8.only hO9 (by simp)
            have hB9 := hO9.blk hB8 (by simp)
            have e0 := hB9.cell (o := 0) rfl
            have e1 := hB9.cell (o := 1) rfl
            rcases hx9.form with ⟨-, h0⟩ | ⟨g, cap9, rfl, hg, hgl, hgc, -, gf, gc⟩
            · rw [h0] at hXl8
              simp at hXl8
            have g0 := gc 0 (by omega)
            have gf0 := gf 0
            have hn9 : 0 < X'.length := by omega
            generalize X'.getD 0 0 = xx0 at *
            have HGC := Lib.hid gc
            have HGF := Lib.hid gf
            have HB9 := Lib.hid hB9
            have HXL := Lib.hid hXl8
            clear gc gf hB9 hXl8
            go_wp2_with (go_at_call 24; refine (same_yes _ _ _ _ X' w9 hx9 hV9 (by have := HXL.out; omega)).mono ?_; rintro e w' ⟨rfl, nn, rfl⟩)
            go_roundw
            case rel =>
              have hO10 : Only [] w6 ((w9.drewN nn).setCell ⟨g, 0, none⟩ (.int .i64 77)) := (hO9.drewN nn).setCell (Or.inr hg) _
              exact ⟨n + 1, st + 1, c', k', X', ps, cl, xl, by omega, by omega, by go_num, HS8.out.only hO10, by omega, by omega, HO8.out.trans hO10⟩
            case measure => simp [intOf]; omega
          · generalize hci : cl.getD i 0 = ci at *
            generalize hxi : xl.getD i (.slice none 0 0) = xv at *
            have hay6 := hI6' _ _ hay
            have bi : (i : Int) < 4 := by omega
            obtain ⟨ya, yl, yc, rfl⟩ := hay6.slice
            have hxv := Lib.hid hxi
            have hcv := Lib.hid hci
            clear hci hxi HSL
            go_wp2_with (first | (go_at_call 23; refine HST6.out.mono ?_; rintro e w' ⟨rfl, rfl⟩) | (go_at_call 17; refine HOV.out.mono ?_; rintro e w' ⟨rfl, rfl⟩) | (go_at_call 19; refine HTA.out.mono ?_; rintro e w' ⟨rfl, rfl⟩))
            go_quiet (fail)
            go_wp2_with fail
            have HB' : Blk (w6.drewN nq).drew wb [.int .i64 c, vX6] 45 := hB6
            have HX' : Blk (w6.drewN nq).drew bx xl 49 := hX6
            have HC' : Blk (w6.drewN nq).drew bc (cl.map (Value.int .i64)) 48 := hC6
            have HP' : Blk (w6.drewN nq).drew ba ps 47 := hP6
            have hOd : Only [] w6 (w6.drewN nq).drew := ((Only.refl [] w6).drewN nq).drew
            have HTK := Lib.hid (takeW_any wb L.lo c ci vX6 (.slice ya yl yc) X' (w6.drewN nq).drew HB' (hay6.only hOd (by simp)) (by rintro rfl; simp at hxs) (by omega))
            have n1 : bx ∉ [wb] := by have := hX6.ty hB6 (by decide); simpa using this
            have n2 : bc ∉ [wb] := by have := hC6.ty hB6 (by decide); simpa using this
            have n3 : ba ∉ [wb] := by have := hP6.ty hB6 (by decide); simpa using this
            have b2i := Lib.hid b2
            go_region_held3 (fun w' => w'.cell? ⟨bx, i, none⟩ = some (.slice ya yl yc) ∧ w'.cell? ⟨bc, i, none⟩ = some (.int .i64 ci))
              (first | go_keep)
              (first | (go_at_call 22; refine HTK.out.mono ?_; rintro e w7 ⟨rfl, vX7, hB7, hV7, hO7⟩; have hX7 := hO7.blk HX' n1; have hC7 := hO7.blk HC' n2; have hP7 := hO7.blk HP' n3; have s1 := hX7.cell (o := i) (v := .slice ya yl yc) (by rw [← hxv.out]; simp [hl3, hi]); have s2 := hC7.cell (o := i) (v := .int .i64 ci) (by rw [← hcv.out]; simp [hl2, hi]); have s3 := hP7.cell (o := i) (v := .pointer (some ⟨ab, 0, none⟩)) (by rw [← HP.out]; simp [List.getD, hl1, hi]); have s4 := hP7.froz i))
            go_wp2_with fail
            obtain ⟨w8, hw8⟩ : ∃ w8, w8 = w7.setCell ⟨ba, i, none⟩ (.pointer none) := ⟨_, rfl⟩
            have m1 : Only [wb, ba] w6 w8 := by
              rw [hw8]
              exact (((hOd.mono (by simp)).trans (hO7.mono (by simp +contextual))).setCell (by simp) _)
            have m2 : Blk w8 wb [.int .i64 ci, vX7] 45 := by
              rw [hw8]
              exact hB7.ne _ _ (hB7.ty hP7 (by decide))
            have m3 : Blk w8 ba (ps.set i (.pointer none)) 47 := by
              rw [hw8]
              exact hP7.set i _
            have m4 : Ints w8 L.lo vX7 X' := by
              rw [hw8]
              refine (hV7.mono hI6.lole).only (S := [ba]) ((Only.refl [ba] _).setCell (by simp) _) ?_
              intro q hq
              simp at hq
              subst hq
              exact Or.inr (Or.inr ⟨_, _, hP7, by decide⟩)
            have HS8 := Lib.hid (hS5.done hi hab hI6 hO6 m1 m2 m4 m3 hxs (Or.inr hk2))
            have HO8 := Lib.hid (HO6.out.behind m1 (by have := Hba.out; simp; omega))
            rw [← hw8]
            clear hxs hw8 m1 m2 m3 m4 HTK hB7 hV7 hO7 hX7 hC7 hP7 s1 s2 s3 s4 HB' HX' HC' HP' hOd b0 b1 b2 b3 bf
            obtain ⟨hI8, hXl8, ⟨vX8, hB8, hV8⟩, -⟩ := HS8.out
            refine (bestA L _ _ _ _ w8 hI8).mono ?_
            rintro e w9 ⟨v9, rfl, hx9, hO9⟩
            have hV9 := hV8.only hO9 (by simp)
            have hB9 := hO9.blk hB8 (by simp)
            have e0 := hB9.cell (o := 0) rfl
            have e1 := hB9.cell (o := 1) rfl
            rcases hx9.form with ⟨-, h0⟩ | ⟨g, cap9, rfl, hg, hgl, hgc, -, gf, gc⟩
            · rw [h0] at hXl8
              simp at hXl8
            have g0 := gc 0 (by omega)
            have gf0 := gf 0
            have hn9 : 0 < X'.length := by omega
            generalize X'.getD 0 0 = xx0 at *
            have HGC := Lib.hid gc
            have HGF := Lib.hid gf
            have HB9 := Lib.hid hB9
            have HXL := Lib.hid hXl8
            clear gc gf hB9 hXl8
            go_wp2_with (go_at_call 24; refine (same_yes _ _ _ _ X' w9 hx9 hV9 (by have := HXL.out; omega)).mono ?_; rintro e w' ⟨rfl, nn, rfl⟩)
            go_roundw
            case rel =>
              have hO10 : Only [] w8 ((w9.drewN nn).setCell ⟨g, 0, none⟩ (.int .i64 77)) := (hO9.drewN nn).setCell (Or.inr hg) _
              exact ⟨n + 1, st + 1, ci, k', X', ps.set i (.pointer none), cl, xl, by omega, by omega, by go_num, HS8.out.only hO10, by omega, by omega, HO8.out.trans hO10⟩
            case measure => simp [intOf]; omega
          · generalize hci : cl.getD i 0 = ci at *
            have bi : (i : Int) < 4 := by omega
            have hcv := Lib.hid hci
            clear hci HSL
            go_wp2_with (first | (go_at_call 23; refine HST6.out.mono ?_; rintro e w' ⟨rfl, rfl⟩) | (go_at_call 17; refine HOV.out.mono ?_; rintro e w' ⟨rfl, rfl⟩) | (go_at_call 19; refine HTA.out.mono ?_; rintro e w' ⟨rfl, rfl⟩))
            go_quiet (fail)
            go_wp2_with fail
            obtain ⟨w8, hw8⟩ : ∃ w8, w8 = (w6.drewN nq).setCell ⟨ba, i, none⟩ (.pointer none) := ⟨_, rfl⟩
            have hP7 : Blk (w6.drewN nq) ba ps 47 := hP6
            have hB7 : Blk (w6.drewN nq) wb [.int .i64 c', vX6] 45 := hB6
            have m1 : Only [wb, ba] w6 w8 := by
              rw [hw8]
              exact (((Only.refl _ w6).drewN nq).setCell (by simp) _)
            have m2 : Blk w8 wb [.int .i64 c', vX6] 45 := by
              rw [hw8]
              exact hB7.ne _ _ (hB7.ty hP7 (by decide))
            have m3 : Blk w8 ba (ps.set i (.pointer none)) 47 := by
              rw [hw8]
              exact hP7.set i _
            have m4 : Ints w8 L.lo vX6 X' := by
              rw [hw8]
              refine hV6.only (S := [ba]) (((Only.refl [ba] w6).drewN nq).setCell (by simp) _) ?_
              intro q hq
              simp at hq
              subst hq
              exact Or.inr (Or.inr ⟨_, _, hP6, by decide⟩)
            have HS8 := Lib.hid (hS5.done hi hab hI6 hO6 m1 m2 m4 m3 (by obtain ⟨_, h, _⟩ := hS5; exact h) (Or.inl ⟨rfl, rfl⟩))
            have HO8 := Lib.hid (HO6.out.behind m1 (by have := Hba.out; simp; omega))
            rw [← hw8]
            clear hw8 m1 m2 m3 m4 hB7 hP7 b0 b1 b2 b3 bf
            obtain ⟨hI8, hXl8, ⟨vX8, hB8, hV8⟩, -⟩ := HS8.out
            refine (bestA L _ _ _ _ w8 hI8).mono ?_
            rintro e w9 ⟨v9, rfl, hx9, hO9⟩
            have hV9 := hV8.only hO9 (by simp)
            have hB9 := hO9.blk hB8 (by simp)
            have e0 := hB9.cell (o := 0) rfl
            have e1 := hB9.cell (o := 1) rfl
            rcases hx9.form with ⟨-, h0⟩ | ⟨g, cap9, rfl, hg, hgl, hgc, -, gf, gc⟩
            · rw [h0] at hXl8
              simp at hXl8
            have g0 := gc 0 (by omega)
            have gf0 := gf 0
            have hn9 : 0 < X'.length := by omega
            generalize X'.getD 0 0 = xx0 at *
            have HGC := Lib.hid gc
            have HGF := Lib.hid gf
            have HB9 := Lib.hid hB9
            have HXL := Lib.hid hXl8
            clear gc gf hB9 hXl8
            go_wp2_with (go_at_call 24; refine (same_yes _ _ _ _ X' w9 hx9 hV9 (by have := HXL.out; omega)).mono ?_; rintro e w' ⟨rfl, nn, rfl⟩)
            go_roundw
            case rel =>
              have hO10 : Only [] w8 ((w9.drewN nn).setCell ⟨g, 0, none⟩ (.int .i64 77)) := (hO9.drewN nn).setCell (Or.inr hg) _
              exact ⟨n + 1, st + 1, c', k', X', ps.set i (.pointer none), cl, xl, by omega, by omega, by go_num, HS8.out.only hO10, by omega, by omega, HO8.out.trans hO10⟩
            case measure => simp [intOf]; omega
      · obtain ⟨hI, -, ⟨vX, hB, -⟩, -⟩ := hS
        go_wp2_with fail
        have hL := Lib.hid (lookA L st c k X wr.drew (hI.only (Only.refl [] wr).drew (by simp)) (by omega))
        have hBn : wb ∉ [L.mb, L.cb] := by
          obtain ⟨_, _, _, hM, _⟩ := hI
          exact hM.notin hB (by decide) (by decide)
        have e0 := hB.cell (o := 0) rfl
        have hqq := Lib.hid (show ∀ k, k ∈ [L.mb, L.cb] → w.heap.size ≤ k ∨ k ∈ ([] : List Nat) by have := Hq.out; simp; omega)
        go_region_held3 (fun w' => w'.cell? ⟨wb, 0, none⟩ = some (.int .i64 c))
          (first | go_keep)
          (first | (go_at_call 15; refine hL.out.mono ?_; rintro e w9 ⟨rfl, hI9, hO9⟩; have hB9 := hO9.blk hB.drew hBn; have e9 := hB9.cell (o := 0) rfl))
        go_wp2
        go_ret
        exact ⟨rfl, HOr.out.drew.behind hO9 hqq.out⟩
    · obtain ⟨hI, -, ⟨vX, hB, -⟩, -⟩ := hS
      go_wp2_with fail
      have hL := Lib.hid (lookA L st c k X wr.drew (hI.only (Only.refl [] wr).drew (by simp)) (by omega))
      have hBn : wb ∉ [L.mb, L.cb] := by
        obtain ⟨_, _, _, hM, _⟩ := hI
        exact hM.notin hB (by decide) (by decide)
      have e0 := hB.cell (o := 0) rfl
      have hqq := Lib.hid (show ∀ k, k ∈ [L.mb, L.cb] → w.heap.size ≤ k ∨ k ∈ ([] : List Nat) by have := Hq.out; simp; omega)
      go_region_held3 (fun w' => w'.cell? ⟨wb, 0, none⟩ = some (.int .i64 c))
        (first | go_keep)
        (first | (go_at_call 15; refine hL.out.mono ?_; rintro e w9 ⟨rfl, hI9, hO9⟩; have hB9 := hO9.blk hB.drew hBn; have e9 := hB9.cell (o := 0) rfl))
      go_wp2
      go_ret
      exact ⟨rfl, HOr.out.drew.behind hO9 hqq.out⟩
end Go.Proofs.Ytcgiimgdcamkiaa
