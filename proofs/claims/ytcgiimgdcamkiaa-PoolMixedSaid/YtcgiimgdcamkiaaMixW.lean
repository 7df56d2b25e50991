/-
  The walk over the statement PoolMixed.
-/
import Derived.Test.YtcgiimgdcamkiaaMixG
import Derived.Test.YtcgiimgdcamkiaaMixX
import Derived.Test.YtcgiimgdcamkiaaMixY
import Derived.Deep.CutRange
import Derived.Deep.CutBlock
namespace Go.Proofs.Ytcgiimgdcamkiaa
open Go.RowKit
set_option linter.unusedVariables false

/-- A list of turns of three numbers that came in. -/
def ArgT3 (w : World) (v : Value) (m : Nat) : Prop :=
  ∃ a cap, v = .slice a m cap ∧ (0 < m → ∃ b off, a = some ⟨b, off, none⟩ ∧ ∀ j, j < m → ∃ x y z : Int, w.cell? ⟨b, off + j * 3, none⟩ = some (.int .i64 x) ∧ w.cell? ⟨b, off + j * 3 + 1, none⟩ = some (.int .i64 y) ∧ w.cell? ⟨b, off + j * 3 + 2, none⟩ = some (.int .i64 z))

theorem ArgT3.only {w w' : World} {v : Value} {m : Nat} (h : ArgT3 w v m) (hO : Only [] w w') : ArgT3 w' v m := by
  obtain ⟨a, cap, rfl, hc⟩ := h
  refine ⟨a, cap, rfl, fun hz => ?_⟩
  obtain ⟨b, off, rfl, hd⟩ := hc hz
  refine ⟨b, off, rfl, fun j hj => ?_⟩
  obtain ⟨x, y, z, h1, h2, h3⟩ := hd j hj
  have hl := World.block_lt_of_cell? w _ h1
  have hb := hO.block b hl (by simp)
  exact ⟨x, y, z, (World.cell?_of_block (a := ⟨b, off + j * 3, none⟩) hb).trans h1, (World.cell?_of_block (a := ⟨b, off + j * 3 + 1, none⟩) hb).trans h2, (World.cell?_of_block (a := ⟨b, off + j * 3 + 2, none⟩) hb).trans h3⟩

/-- The state between two turns, behind so many turns. -/
def Turned (w0 wr : World) (L : PoolL) (M : MixL) (ns : List Value) (c : Nat) : Prop :=
  ∃ st stk os hd ps hvs hxs, Mid w0 wr L M ns st stk os hd ps hvs hxs (fun _ => True) ∧ Free M.n hd (allOf stk os) ∧ HoldsAll M.n hd hxs ∧ 0 ≤ st ∧ st ≤ 13 + c

set_option maxRecDepth 100000 in
set_option maxHeartbeats 20000000 in
theorem poolMixed_walk (slots : Int) (v : Value) (m : Nat) (w : World) (hz : ArgT3 w v m) (hm : m ≤ 9223372036854775807) (hs : -9223372036854775808 ≤ slots ∧ slots ≤ 9223372036854775807) :
    Calls Try.prog 9 #[.int .i64 slots, v] w (True0 w) := by
  obtain ⟨za, zc, rfl, -⟩ := id hz
  have Hz := Lib.hid hz
  clear hz
  have hmb := umod_bd slots 12 (by omega) (by omega)
  go_enter Try.func9, Try.ntmps9
  go_wp2_with fail
  obtain ⟨n, hn⟩ : ∃ n : Nat, 1 + wrap64 ((IntKind.u64.wrap slots).tmod 12) = n := ⟨(1 + wrap64 ((IntKind.u64.wrap slots).tmod 12)).toNat, by omega⟩
  rw [hn]
  have hn1 : 1 ≤ n ∧ n ≤ 12 := by omega
  generalize wrap64 ((IntKind.u64.wrap slots).tmod 12) = m0 at *
  have Hm0 := Lib.hid (And.intro hn hmb)
  clear hn hmb
  refine (freshP_any n 4 w (by omega) (by decide)).mono ?_
  rintro e w1 ⟨L, cs, rfl, q1, q2, q3, q4, hP1, hO1⟩
  have Q := Lib.hid (And.intro q1 (And.intro q2 (And.intro q3 q4)))
  clear q1 q2 q3 q4
  go_wp2_with fail
  refine (pools_any w1).mono ?_
  rintro e w2 ⟨rfl, hO2⟩
  have HP2 := Lib.hid (hP1.only hO2 (by simp))
  have HO2 := Lib.hid (hO1.trans hO2)
  clear hP1 hO1 hO2
  go_wp2_with fail
  refine (worldNew_any n w2 (by omega)).mono ?_
  rintro e w3 ⟨wb, hvv, rfl, hwb, hB3, hI3, hO3⟩
  obtain ⟨ha, hc, rfl⟩ := hI3.slice'
  rw [List.length_replicate] at hB3 hI3
  obtain ⟨hb, rfl, -, -, -⟩ := hI3.cell 0 (by simp; omega)
  obtain ⟨fx, hS, hF, hH⟩ := mid_start Q.out.1 Q.out.2.1 Q.out.2.2.1 Q.out.2.2.2 HP2.out HO2.out hO3 hwb hB3 hI3 hn1
  have HS := Lib.hid (show Turned w _ L _ _ 0 from ⟨_, _, _, _, _, _, _, hS, hF, hH, by omega, by omega⟩)
  have FX := Lib.hid fx
  clear fx hS hF hH hO3 hwb hB3 hI3
  go_upto_block 0 with fail
  generalize ((w3.alloc (.cells #[.pointer none, .pointer none, .pointer none, .pointer none] 82)).alloc (.cells #[.slice none 0 0, .slice none 0 0, .slice none 0 0, .slice none 0 0] 49)) = w4 at *
  generalize w3.heap.size + 1 = xb at *
  generalize w3.heap.size = pb at *
  generalize nodesZ n = ns at *
  obtain ⟨M, hM⟩ : ∃ M : MixL, M = { wb := wb, hb := hb, hc := hc, pb := pb, xb := xb, n := n } := ⟨_, rfl⟩
  rw [← hM] at HS FX
  have e1 : M.wb = wb := by rw [hM]
  have e2 : M.pb = pb := by rw [hM]
  have e3 : M.xb = xb := by rw [hM]
  have e4 : M.n = n := by rw [hM]
  clear hM HP2 Q Hm0
  subst e1 e2 e3 e4
  go_cut [] from 43 to 247 (fun wx => ∃ c, c ≤ 300 ∧ Turned w wx L M ns c)
  case first =>
    go_wp2_with fail
    go_loopw [11] (fun i wr => ∃ c : Nat, c ≤ 300 ∧ c ≤ m ∧ i = .int .i64 c ∧ Turned w wr L M ns c) (fun i _ => 300 - (intOf i).toNat)
    case atStart => exact ⟨0, by omega, by omega, rfl, HS.out⟩
    case round =>
      obtain ⟨c, hc1, hc2, rfl, hT⟩ := hrel
      clear HS
      have HT := Lib.hid hT
      clear hT
      by_cases h1 : c < m
      · by_cases h2 : c < 300
        · obtain ⟨st, stk, os, hd, ps, hvs, hxs, hM, hF, hH, hs0, hs1⟩ := HT.out
          obtain ⟨a', cap', e1, hc⟩ := Hz.out.only hM.only0
          obtain ⟨b, off, e2, hdt⟩ := hc (by omega)
          simp only [Value.slice.injEq] at e1
          obtain ⟨rfl, -, rfl⟩ := e1
          subst e2
          obtain ⟨x, y, z, d0, d1, d2⟩ := hdt c h1
          clear hc hdt
          have HM := Lib.hid hM
          have HF := Lib.hid hF
          have HH := Lib.hid hH
          clear hM hF hH HT
          go_upto_region 13 with fail
          have hw := umod_bd x 4 (by omega) (by omega)
          generalize wrap64 ((IntKind.u64.wrap x).tmod 4) = who at *
          have hT := Blk.new wr [.int .i64 x, .int .i64 y, .int .i64 z] 84
          have HM5 := Lib.hid (HM.out.fresh ((Only.refl [] wr).alloc (.cells #[.int .i64 x, .int .i64 y, .int .i64 z] 84)))
          generalize hw5 : wr.alloc (.cells #[.int .i64 x, .int .i64 y, .int .i64 z] 84) = w5 at *
          clear hw5 d0 d1 d2 HM
          generalize wr.heap.size = tb at *
          obtain ⟨i, rfl⟩ := Int.eq_ofNat_of_zero_le hw.1
          have hi : i < 4 := by omega
          clear hw
          obtain ⟨hB, hI, hA, hx, hl1, hl2, hl3, hl4⟩ := HM5.out.blks
          have Hl := Lib.hid (And.intro hl1 (And.intro hl2 (And.intro hl3 hl4)))
          have t1 := hT.cell (o := 1) rfl
          have t2 := hT.cell (o := 2) rfl
          have pf := hA.froz i
          have xf := hx.froz i
          have n1 := hA.ty hx (by decide)
          have n2 := hA.ty hT (by decide)
          have n3 := hx.ty hT (by decide)
          have HA := Lib.hid hA
          have HX := Lib.hid hx
          have HI := Lib.hid hI
          have HB := Lib.hid hB
          have x1 := hx.cell (o := i) (v := hvs.getD i nilS) (getD_of nilS (by omega))
          have x0 := HM5.out.hint i hi
          rcases HM5.out.act FX.out (by omega) HF.out hi with hp | ⟨lb, ab, give, slot, fr, s, ph, T, nx, hp, hlb, hab, haa, hg, hg', hst⟩
          · have p0 := hA.cell (o := i) (v := .pointer none) (by rw [getD_of nilP (by omega), hp])
            have HP := Lib.hid hp
            clear hA hx hI hB hT hp hl1 hl2 hl3 hl4
            obtain ⟨hv, ehv⟩ : ∃ hv, hvs.getD i nilS = hv := ⟨_, rfl⟩
            obtain ⟨hx, ehx⟩ : ∃ hx, hxs.getD i [] = hx := ⟨_, rfl⟩
            rw [ehv, ehx] at x0
            rw [ehv] at x1
            have hxl := HH.out i hi |>.len
            rw [ehx] at hxl
            obtain ⟨va, vc, rfl⟩ := x0.slice'
            have Ehv := Lib.hid ehv
            have Ehx := Lib.hid ehx
            have X0 := Lib.hid x0
            clear ehv ehx x0
            by_cases hy : y = 4
            · subst hy
              by_cases hlen : 0 < hx.length
              · have hlen' : (0 : Int) < (hx.length : Int) := by omega
                as_aux_lemma =>
                  obtain ⟨g, eva, hg1, hg2, -, hcap, hcell⟩ := X0.out.reads.resolve_left (by rintro ⟨_, _, _, e⟩; rw [e] at hlen; simp at hlen)
                  subst eva
                  have hnz : ((hx.length : Int) == 0) = false := beq_eq_false_iff_ne.2 (by omega)
                  have hum := umod_bd z hx.length (by omega) (by omega)
                  have HC := Lib.hid hcell
                  clear hcell
                  go_upto_region 15 with fail
                  go_quiet (fail)
                  go_upto_region 16 with fail
                  obtain ⟨j, hj⟩ : ∃ j : Nat, wrap64 ((IntKind.u64.wrap z).tmod (hx.length : Int)) = j := ⟨_, (Int.toNat_of_nonneg hum.1).symm⟩
                  rw [hj]
                  have hjl : j < hx.length := by omega
                  obtain ⟨q1, q2, q3, q4, q5⟩ := HH.out.erase hi Hl.out.2.2.1 (j := j) (by rw [Ehx.out]; exact hjl)
                  rw [Ehx.out] at q1 q2 q3 q4 q5
                  have c1 := HC.out j hjl
                  obtain ⟨s, es⟩ : ∃ s, hx.getD j 0 = s := ⟨_, rfl⟩
                  rw [es] at q2 q3 q4 q5 c1
                  have Q1 := Lib.hid q1
                  have Q4 := Lib.hid (And.intro q4 q5)
                  clear es q1 q4 q5 hj hum
                  go_upto_region 17 with fail
                  have HM6 := Lib.hid (HM5.out.fresh ((Only.refl [] w5).drewN nq))
                  have x6 : (w5.drewN nq).cell? ⟨M.xb, i, none⟩ = some (.slice (some ⟨g, 0, none⟩) hx.length vc) := x1
                  have hw6 : (w5.drewN nq).heap.size = w5.heap.size := rfl
                  have X6 := Lib.hid (X0.out.only ((Only.refl [] w5).drewN nq) (by simp))
                  generalize w5.drewN nq = w6 at *
                  have hj1 : IntKind.i64.wrap ((j : Int) + 1) = (j : Int) + 1 := by rw [IntKind.wrap_i64]; omega
                  have hj2 : (j : Int) ≤ (vc : Int) := by omega
                  have hj3 : (j : Int) + 1 ≤ (hx.length : Int) := by omega
                  have Hw6 := Lib.hid hw6
                  clear hw6 x1 xf p0 pf c1 t1 t2 hnz
                  have hi4 : (i : Int) < 4 := by omega
                  have hj4 : (0 : Int) ≤ (j : Int) + 1 := by omega
                  have hj5 : (hx.length : Int) ≤ (vc : Int) := by omega
                  have hj6 : (0 : Int) ≤ (j : Int) := by omega
                  have OW1 := Lib.hid (show Ints (w6.drew.alloc (.cells #[] 3)) w6.heap.size (.slice (some ⟨w6.heap.size, 0, none⟩) 0 0) [] from World.ownsRow_made (e := 3) (size := 1) (base := w6.heap.size) w6.drew #[] 0 (Nat.le_refl _) (by unfold maxLen; omega) rfl)
                  have R1 := Lib.hid ((X6.out.cutL (j := j) (by omega)).only (((Only.refl [] w6).drew).alloc (.cells #[] 3)))
                  have HXb := Lib.hid HM6.out.blks.2.2.2.1
                  have hxc : hvs[i]? = some (.slice (some ⟨g, 0, none⟩) hx.length vc) := by rw [getD_of nilS (by rw [Hl.out.2.1]; exact hi), Ehv.out]
                  have Hxc := Lib.hid hxc
                  clear hxc
                  refine wp_region_noPanic ?_
                  refine AnyT.begin_ 16 (fun w' => w'.cell? ⟨M.xb, i, none⟩ = some (.slice (some ⟨g, 0, none⟩) hx.length vc)) (by as_aux_lemma => kernel_rfl) x6 (fun hHeld => ?_)
                  refine AnyT.take 0 (v := ?vg0) (by as_aux_lemma => kernel_rfl) rfl (by as_aux_lemma => kernel_rfl) (by as_aux_lemma => kernel_rfl) (by as_aux_lemma => kernel_rfl) (fun _ _ _ h => h) (Or.inl ⟨by rfl, ?yg0⟩) (by assumption) ?rg0
                  case yg0 => ((intro w hSw); (try dsimp only at hSw); go_simp; (try with_reducible rfl))
                  try simp only [Act.put, List.setIfInBounds_toArray, List.set_cons_zero, List.set_cons_succ]
                  refine AnyT.take 2 (v := ?vg2) (by as_aux_lemma => kernel_rfl) rfl (by as_aux_lemma => kernel_rfl) (by as_aux_lemma => kernel_rfl) (by as_aux_lemma => kernel_rfl) (fun _ _ _ h => h) (Or.inl ⟨by rfl, ?yg2⟩) (by assumption) ?rg2
                  case yg2 => ((intro w hSw); (try dsimp only at hSw); go_simp; (try with_reducible rfl))
                  try simp only [Act.put, List.setIfInBounds_toArray, List.set_cons_zero, List.set_cons_succ]
                  refine AnyT.take 3 (v := ?vg3) (by as_aux_lemma => kernel_rfl) rfl (by as_aux_lemma => kernel_rfl) (by as_aux_lemma => kernel_rfl) (by as_aux_lemma => kernel_rfl) (fun _ _ _ h => h) (Or.inl ⟨by rfl, ?yg3⟩) (by assumption) ?rg3
                  case yg3 => ((intro w hSw); (try dsimp only at hSw); go_simp; (try with_reducible rfl))
                  try simp only [Act.put, List.setIfInBounds_toArray, List.set_cons_zero, List.set_cons_succ]
                  refine AnyT.take 4 (v := ?vg4) (by as_aux_lemma => kernel_rfl) rfl (by as_aux_lemma => kernel_rfl) (by as_aux_lemma => kernel_rfl) (by as_aux_lemma => kernel_rfl) (fun _ _ _ h => h) (Or.inl ⟨by rfl, ?yg4⟩) (by assumption) ?rg4
                  case yg4 => ((intro w hSw); (try dsimp only at hSw); go_simp; (try with_reducible rfl))
                  try simp only [Act.put, List.setIfInBounds_toArray, List.set_cons_zero, List.set_cons_succ]
                  refine AnyT.take 5 (v := ?vg5) (by as_aux_lemma => kernel_rfl) rfl (by as_aux_lemma => kernel_rfl) (by as_aux_lemma => kernel_rfl) (by as_aux_lemma => kernel_rfl) (fun _ _ _ h => h) (Or.inl ⟨by rfl, ?yg5⟩) (by assumption) ?rg5
                  case yg5 => ((intro w hSw); (try dsimp only at hSw); go_simp; (try with_reducible rfl))
                  try simp only [Act.put, List.setIfInBounds_toArray, List.set_cons_zero, List.set_cons_succ]
                  refine AnyT.take 6 (v := ?vg6) (by as_aux_lemma => kernel_rfl) rfl (by as_aux_lemma => kernel_rfl) (by as_aux_lemma => kernel_rfl) (by as_aux_lemma => kernel_rfl) (fun _ _ _ h => h) (Or.inl ⟨by rfl, ?yg6⟩) (by assumption) ?rg6
                  case yg6 => ((intro w hSw); (try dsimp only at hSw); go_simp; (try with_reducible rfl))
                  try simp only [Act.put, List.setIfInBounds_toArray, List.set_cons_zero, List.set_cons_succ]
                  refine AnyT.take 8 (v := ?vg8) (by as_aux_lemma => kernel_rfl) rfl (by as_aux_lemma => kernel_rfl) (by as_aux_lemma => kernel_rfl) (by as_aux_lemma => kernel_rfl) (fun _ _ _ h => h) (Or.inl ⟨by rfl, ?yg8⟩) (by assumption) ?rg8
                  case yg8 => ((intro w hSw); (try dsimp only at hSw); go_simp; (try with_reducible rfl))
                  try simp only [Act.put, List.setIfInBounds_toArray, List.set_cons_zero, List.set_cons_succ]
                  refine AnyT.take 9 (v := ?vg9) (by as_aux_lemma => kernel_rfl) rfl (by as_aux_lemma => kernel_rfl) (by as_aux_lemma => kernel_rfl) (by as_aux_lemma => kernel_rfl) (fun _ _ _ h => h) (Or.inl ⟨by rfl, ?yg9⟩) (by assumption) ?rg9
                  case yg9 => ((intro w hSw); (try dsimp only at hSw); go_simp; (try with_reducible rfl))
                  try simp only [Act.put, List.setIfInBounds_toArray, List.set_cons_zero, List.set_cons_succ]
                  refine AnyT.take 10 (v := ?vg10) (by as_aux_lemma => kernel_rfl) rfl (by as_aux_lemma => kernel_rfl) (by as_aux_lemma => kernel_rfl) (by as_aux_lemma => kernel_rfl) (fun _ _ _ h => h) (Or.inl ⟨by rfl, ?yg10⟩) (by assumption) ?rg10
                  case yg10 => ((intro w hSw); (try dsimp only at hSw); go_simp; (try with_reducible rfl))
                  try simp only [Act.put, List.setIfInBounds_toArray, List.set_cons_zero, List.set_cons_succ]
                  refine AnyT.take 11 (v := ?vg11) (by as_aux_lemma => kernel_rfl) rfl (by as_aux_lemma => kernel_rfl) (by as_aux_lemma => kernel_rfl) (by as_aux_lemma => kernel_rfl) (fun _ _ _ h => h) (Or.inl ⟨by rfl, ?yg11⟩) (by assumption) ?rg11
                  case yg11 => ((intro w hSw); (try dsimp only at hSw); go_simp; (try with_reducible rfl))
                  try simp only [Act.put, List.setIfInBounds_toArray, List.set_cons_zero, List.set_cons_succ]
                  refine AnyT.take 12 (v := ?vg12) (by as_aux_lemma => kernel_rfl) rfl (by as_aux_lemma => kernel_rfl) (by as_aux_lemma => kernel_rfl) (by as_aux_lemma => kernel_rfl) (fun _ _ _ h => h) (Or.inl ⟨by rfl, ?yg12⟩) (by assumption) ?rg12
                  case yg12 => ((intro w hSw); (try dsimp only at hSw); go_simp; (try with_reducible rfl))
                  try simp only [Act.put, List.setIfInBounds_toArray, List.set_cons_zero, List.set_cons_succ]
                  refine AnyT.take 13 (v := ?vg13) (by as_aux_lemma => kernel_rfl) rfl (by as_aux_lemma => kernel_rfl) (by as_aux_lemma => kernel_rfl) (by as_aux_lemma => kernel_rfl) (fun _ _ _ h => h) (Or.inl ⟨by rfl, ?yg13⟩) (by assumption) ?rg13
                  case yg13 => ((intro w hSw); (try dsimp only at hSw); go_simp; (try with_reducible rfl))
                  try simp only [Act.put, List.setIfInBounds_toArray, List.set_cons_zero, List.set_cons_succ]
                  refine AnyT.one 1 rfl (by as_aux_lemma => kernel_rfl) (fun K hK => ?_)
                  go_simp
                  refine hK.out _ _ (by go_keep) ?_
                  clear hK K
                  try simp only [Act.put, List.setIfInBounds_toArray, List.set_cons_zero, List.set_cons_succ]
                  refine AnyT.one 7 rfl (by as_aux_lemma => kernel_rfl) (fun K hK => ?_)
                  refine step_append_ints rfl (.tmp 93) (.tmp 98) rfl w6.heap.size (.slice (some ⟨w6.heap.size, 0, none⟩) 0 0) [] (hx.take j) rfl OW1.out (some ⟨g, 0, none⟩) j vc rfl R1.out (by rw [List.length_take]; omega) (by simp; omega) (by simp) ?_
                  intro v1 w7 hown1 hgr1 hat1
                  have HOW := Lib.hid (show Ints w7 w6.heap.size v1 (hx.take j) from hown1)
                  have hO7 : Only [] w6 w7 := (((Only.refl [] w6).drew).alloc (.cells #[] 3)).grown hgr1 (fun k hk => Or.inr (by simp [Value.ownBlock] at hk; omega))
                  have x7 := (hO7.blk HXb.out (by simp)).cell (o := i) Hxc.out
                  have Hv1 := Lib.hid (own_at hat1)
                  have R2 := Lib.hid ((X6.out.only hO7 (by simp)).cutR (j := j + 1) (by omega))
                  have HO7 := Lib.hid hO7
                  have hsz := hO7.size
                  clear hO7 hown1 hgr1 hat1 x6
                  refine hK.out _ _ x7 ?_
                  clear hK K
                  try simp only [Act.put, List.setIfInBounds_toArray, List.set_cons_zero, List.set_cons_succ]
                  refine AnyT.one 14 rfl (by as_aux_lemma => kernel_rfl) (fun K hK => ?_)
                  refine step_append_ints rfl (.tmp 99) (.tmp 105) rfl w6.heap.size v1 (hx.take j) (hx.drop (j + 1)) rfl HOW.out (if vc = j + 1 then some ⟨g, 0, none⟩ else some ⟨g, j + 1, none⟩) (hx.length - (j + 1)) (vc - (j + 1)) rfl R2.out (by rw [List.length_drop]) (by rw [List.length_take]; omega) hsz ?_
                  intro v2 w8 hown2 hgr2 hat2
                  have hO8 : Only [] w6 w8 := HO7.out.grown hgr2 (fun k hk => (by obtain ⟨g1, e, l⟩ := Hv1.out; rw [e] at hk; simp at hk; exact Or.inr (by omega)))
                  have hv2 : ∃ g2, v2.ownBlock = some g2 ∧ w6.heap.size ≤ g2 := by
                    rcases hat2 with e | e
                    · obtain ⟨g1, e1, l⟩ := Hv1.out
                      exact ⟨g1, e.trans e1, l⟩
                    · exact ⟨_, e, hsz⟩
                  have hI8 := hown2
                  obtain ⟨a2, l2, c2, rfl⟩ := hI8.slice
                  have x8 := (hO8.blk HXb.out (by simp)).cell (o := i) Hxc.out
                  have xf8 := (hO8.blk HXb.out (by simp)).froz i
                  have hB9 := (hO8.blk HXb.out (by simp)).set i (.slice a2 l2 c2)
                  have hI9 := (hI8.only (S := [M.xb]) ((Only.refl [M.xb] w8).setCell (p := ⟨M.xb, i, none⟩) (by simp) (.slice a2 l2 c2)) (by intro q hq; simp at hq; subst hq; exact Or.inr (Or.inr ⟨_, _, hO8.blk HXb.out (by simp), by decide⟩))).mono HM6.out.lole
                  have HM9 := Lib.hid (HM6.out.newHolds FX.out hi (fun _ => HP.out) ((hO8.mono (by simp)).setCell (p := ⟨M.xb, i, none⟩) (Or.inl (by simp)) (.slice a2 l2 c2)) hB9 hI9 (Or.inr hv2))
                  clear hO8 hv2 hI8 hB9 hI9 hgr2 hat2 x7
                  refine hK.out _ _ x8 ?_
                  clear hK K
                  try simp only [Act.put, List.setIfInBounds_toArray, List.set_cons_zero, List.set_cons_succ]
                  refine AnyT.take 15 (v := ?vg15) (by as_aux_lemma => kernel_rfl) rfl (by as_aux_lemma => kernel_rfl) (by as_aux_lemma => kernel_rfl) (by as_aux_lemma => kernel_rfl) (fun _ _ _ h => h) (Or.inl ⟨by rfl, ?yg15⟩) (by assumption) ?rg15
                  case yg15 => ((intro w hSw); (try dsimp only at hSw); go_simp; (try with_reducible rfl))
                  try simp only [Act.put, List.setIfInBounds_toArray, List.set_cons_zero, List.set_cons_succ]
                  refine AnyT.last rfl (by as_aux_lemma => kernel_rfl) (by as_aux_lemma => kernel_rfl) (fun K hK => ?_)
                  go_simp
                  refine hK.out _ _ ?_
                  clear hK K
                  refine NoPanic.normal ?_
                  generalize w8.setCell ⟨M.xb, i, none⟩ (.slice a2 l2 c2) = w9 at *
                  clear x8 xf8 R2
                  generalize (if vc = j + 1 then (some ⟨g, 0, none⟩ : Option Addr) else some ⟨g, j + 1, none⟩) = A2
                  have HG := Lib.hid (HM9.out.give FX.out hi s q2 q3)
                  go_wp2_with fail
                  refine HG.out.mono ?_
                  rintro e w10 ⟨ab, rfl, hab, ha10, hO10⟩
                  have HM10 := Lib.hid (HM9.out.fresh hO10)
                  have HA10 := Lib.hid ha10
                  have pb10 := HM10.out.blks.2.2.1
                  have pf10 := pb10.froz i
                  have pl10 := pb10.cell (o := i) (v := .pointer none) (by rw [getD_of nilP (by rw [Hl.out.1]; exact hi), HP.out])
                  have lt10 := pb10.lt
                  have hs10 : w.heap.size ≤ ab := by rw [hab]; exact HM9.out.only0.size
                  clear pb10 ha10 hO10 HG
                  go_wp2_with fail
                  go_roundw
                  case rel =>
                    have hnew := HM10.out.begun FX.out hi (slot := s) (from_ := 0) hs10 HA10.out (fun _ => ⟨rfl, q2, q3, Q4.out.1, by rw [getDx_eq (by rw [Hl.out.2.2.1]; exact hi)]; exact Q4.out.2⟩) (fun e => by cases e)
                    rw [hab] at hnew
                    exact ⟨c + 1, by omega, by omega, by go_num, _, _, _, _, _, _, _, hnew, HF.out, Q1.out, by omega, by omega⟩
                  case measure => simp [intOf]; omega
              · have hlen' : ¬ (0 : Int) < (hx.length : Int) := by omega
                go_upto_region 19 with fail
                go_wp2_with fail
                as_aux_lemma =>
                  refine (HM5.out.take FX.out hi).mono ?_
                  rintro e w6 ⟨ab, rfl, hab, ha6, hO6⟩
                  have HM6 := Lib.hid (HM5.out.fresh hO6)
                  have HA6 := Lib.hid ha6
                  have HO6 := Lib.hid hO6
                  have HS6 := Lib.hid (HM6.out.shared (by omega))
                  clear ha6 hO6
                  go_wp2_with fail
                  refine HS6.out.mono ?_
                  rintro e w7 ⟨v7, rfl, hI7, hO7⟩
                  obtain ⟨a7, c7, rfl⟩ := hI7.slice'
                  have HM7 := Lib.hid (HM6.out.fresh hO7)
                  have HA7 := Lib.hid (hO7.blk HA6.out (by simp))
                  have HO7 := Lib.hid (HO6.out.trans hO7)
                  have HS7 := Lib.hid (HM7.out.own FX.out hi)
                  have hl7 := HM6.out.slen FX.out
                  have hl8 := HM6.out.two FX.out hi
                  clear hI7 hO7 HS6
                  go_wp2_with fail
                  refine HS7.out.mono ?_
                  rintro e w8 ⟨v8, rfl, hI8, hO8⟩
                  obtain ⟨a8, c8, rfl⟩ := hI8.slice'
                  have HM8 := Lib.hid (HM7.out.fresh hO8)
                  have HA8 := Lib.hid (hO8.blk HA7.out (by simp))
                  have HO8 := Lib.hid (HO7.out.trans hO8)
                  clear hI8 hO8 HS7
                  have pb8 := HM8.out.blks.2.2.1
                  have pf8 := pb8.froz i
                  have pl8 := pb8.cell (o := i) (v := .pointer none) (by rw [getD_of nilP (by rw [Hl.out.1]; exact hi), HP.out])
                  have lt8 := pb8.lt
                  clear pb8
                  go_wp2_with fail
                  have hs8 : w.heap.size ≤ ab := by rw [hab]; exact HM5.out.only0.size
                  go_roundw
                  case rel =>
                    have hnew := HM8.out.begun FX.out hi (slot := 0) (from_ := wrap64 (((intsOf stk).length : Int) + ((os.getD i []).length : Int))) hs8 HA8.out (fun e => by cases e) (fun _ => rfl)
                    rw [hab] at hnew
                    exact ⟨c + 1, by omega, by omega, by go_num, _, _, _, _, _, _, _, hnew, HF.out, HH.out, by omega, by omega⟩
                  case measure => simp [intOf]; omega
            · go_upto_region 19 with fail
              go_wp2_with fail
              as_aux_lemma =>
                refine (HM5.out.take FX.out hi).mono ?_
                rintro e w6 ⟨ab, rfl, hab, ha6, hO6⟩
                have HM6 := Lib.hid (HM5.out.fresh hO6)
                have HA6 := Lib.hid ha6
                have HO6 := Lib.hid hO6
                have HS6 := Lib.hid (HM6.out.shared (by omega))
                clear ha6 hO6
                go_wp2_with fail
                refine HS6.out.mono ?_
                rintro e w7 ⟨v7, rfl, hI7, hO7⟩
                obtain ⟨a7, c7, rfl⟩ := hI7.slice'
                have HM7 := Lib.hid (HM6.out.fresh hO7)
                have HA7 := Lib.hid (hO7.blk HA6.out (by simp))
                have HO7 := Lib.hid (HO6.out.trans hO7)
                have HS7 := Lib.hid (HM7.out.own FX.out hi)
                have hl7 := HM6.out.slen FX.out
                have hl8 := HM6.out.two FX.out hi
                clear hI7 hO7 HS6
                go_wp2_with fail
                refine HS7.out.mono ?_
                rintro e w8 ⟨v8, rfl, hI8, hO8⟩
                obtain ⟨a8, c8, rfl⟩ := hI8.slice'
                have HM8 := Lib.hid (HM7.out.fresh hO8)
                have HA8 := Lib.hid (hO8.blk HA7.out (by simp))
                have HO8 := Lib.hid (HO7.out.trans hO8)
                clear hI8 hO8 HS7
                have pb8 := HM8.out.blks.2.2.1
                have pf8 := pb8.froz i
                have pl8 := pb8.cell (o := i) (v := .pointer none) (by rw [getD_of nilP (by rw [Hl.out.1]; exact hi), HP.out])
                have lt8 := pb8.lt
                clear pb8
                go_wp2_with fail
                have hs8 : w.heap.size ≤ ab := by rw [hab]; exact HM5.out.only0.size
                go_roundw
                case rel =>
                  have hnew := HM8.out.begun FX.out hi (slot := 0) (from_ := wrap64 (((intsOf stk).length : Int) + ((os.getD i []).length : Int))) hs8 HA8.out (fun e => by cases e) (fun _ => rfl)
                  rw [hab] at hnew
                  exact ⟨c + 1, by omega, by omega, by go_num, _, _, _, _, _, _, _, hnew, HF.out, HH.out, by omega, by omega⟩
                case measure => simp [intOf]; omega
          · have p0 := hA.cell (o := i) (v := .pointer (some ⟨lb, 0, none⟩)) (by rw [getD_of nilP (by omega), hp])
            have HP := Lib.hid hp
            clear hA hx hI hB hT hp hl1 hl2 hl3 hl4
            have HST := Lib.hid HM5.out.steps
            have HSP := Lib.hid hst
            have l0 := hab.cell (o := 0) rfl
            have Hgg := Lib.hid (And.intro hg hg')
            clear hst hg hg'
            go_wp2_with (first | (go_at_call 23; refine HST.out.mono ?_; rintro e w' ⟨rfl, rfl⟩))
            refine HSP.out.mono ?_
            rintro e w6 ⟨over, s', ph', T', nx', st', stk', os', rfl, hov, f1, f2, hA6, hB6, hM6, hcase⟩
            have HM6 := Lib.hid hM6
            have HA6 := Lib.hid hA6
            have HB6 := Lib.hid hB6
            have HC6 := Lib.hid hcase
            have HST6 := Lib.hid hM6.steps
            have HOV := Lib.hid (overP_any ab L.pp _ s' ph' T' nx' give w6 hA6 over hov)
            have Hov := Lib.hid hov
            have b0 := hB6.cell (o := 0) rfl
            clear hM6 hA6 hB6 hcase hov HST HSP l0 t1 t2 x1 p0 pf xf hab haa n1 n2 n3 x0 HA HX HI HB
            have f3 : ¬ (st + 1 < st') := by omega
            go_upto_region 25 with (first | (go_at_call 23; refine HST6.out.mono ?_; rintro e w' ⟨rfl, rfl⟩) | (go_at_call 38; refine HOV.out.mono ?_; rintro e w' ⟨rfl, rfl⟩))
            clear HST6 HOV b0
            go_wp2_with fail
            go_loopw [19] (fun kv wr => ∃ (k : Nat) (fr' : Int), k ≤ 4 ∧ kv = .int .i64 k ∧ Mid w wr L M ns st' stk' os' hd ps hvs hxs (fun j => j ≠ i ∨ over = false) ∧ Blk wr lb [.pointer (some ⟨ab, 0, none⟩), .bool give, .int .i64 slot, .int .i64 fr'] 86 ∧ Blk wr ab (actP L.pp i give s' ph' T' nx') 108 ∧ (i < k → stk' = [] → os'.getD i [] = [] → fr' ≤ 0)) (fun k _ => 4 - (intOf k).toNat)
            case atStart => exact ⟨0, fr, by omega, rfl, HM6.out, HB6.out, HA6.out, fun h => absurd h (by omega)⟩
            case round =>
              obtain ⟨k, fr', hk, rfl, hMk, hBk, hAk, hQ⟩ := hrel
              clear HM6 HB6 HA6
              by_cases hk4 : k < 4
              · have hk4' : (k : Int) < 4 := by omega
                have hlook : ps.getD k nilP = nilP ∨ ∃ (lk ak : Nat) (v1 v2 : Value) (fk : Int) (gk : Bool) (sk pk tk nk : Int), ps.getD k nilP = .pointer (some ⟨lk, 0, none⟩) ∧ w.heap.size ≤ lk ∧ Blk wr lk [.pointer (some ⟨ak, 0, none⟩), v1, v2, .int .i64 fk] 86 ∧ Blk wr ak (actP L.pp k gk sk pk tk nk) 108 ∧ (k ≠ i → lk ≠ lb) ∧ (k = i → lk = lb) := by
                  by_cases hki : k = i
                  · exact Or.inr ⟨lb, ab, .bool give, .int .i64 slot, fr', give, s', ph', T', nx', by rw [hki]; exact HP.out, hlb, hBk, by rw [hki]; exact hAk, fun h => absurd hki h, fun _ => rfl⟩
                  · rcases hMk.look hk4 (Or.inl hki) with e | ⟨lk, ak, v1, v2, fk, gk, sk, pk, tk, nk, e1, e2, e3, e4⟩
                    · exact Or.inl e
                    · exact Or.inr ⟨lk, ak, v1, v2, fk, gk, sk, pk, tk, nk, e1, e2, e3, e4, fun _ => act_apart e3 hBk e4 hAk hki, fun h => absurd h hki⟩
                have pbk := hMk.blks.2.2.1
                have HMk := Lib.hid hMk
                have HBk := Lib.hid hBk
                have HAk := Lib.hid hAk
                have HQ := Lib.hid hQ
                clear hMk hBk hAk hQ
                rcases hlook with hnil | ⟨lk, ak, v1, v2, fk, gk, sk, pk, tk, nk, e1, e2, e3, e4, e5, e6⟩
                · skip
                  as_aux_lemma =>
                    have pk := pbk.cell (o := k) (v := .pointer none) (by rw [getD_of nilP (by rw [Hl.out.1]; exact hk4), hnil])
                    have Hnil := Lib.hid hnil
                    clear hnil pbk
                    go_wp2_with fail
                    go_roundw
                    case rel =>
                      refine ⟨k + 1, fr', by omega, by go_num, HMk.out, HBk.out, HAk.out, fun h g1 g2 => ?_⟩
                      by_cases hki : k = i
                      · have := Hnil.out
                        rw [hki, HP.out] at this
                        cases this
                      · exact HQ.out (by omega) g1 g2
                    case measure => simp [intOf]; omega
                · skip
                  as_aux_lemma =>
                    have pk0 := pbk.cell (o := k) (v := .pointer (some ⟨lk, 0, none⟩)) (by rw [getD_of nilP (by rw [Hl.out.1]; exact hk4), e1])
                    have pk3 := e3.cell (o := 3) rfl
                    have HE1 := Lib.hid e1
                    have HE3 := Lib.hid e3
                    have HE4 := Lib.hid e4
                    have HE5 := Lib.hid (And.intro e5 e6)
                    have Hpb := Lib.hid pbk
                    obtain ⟨la, hla⟩ : ∃ la, (intsOf stk').length = la := ⟨_, rfl⟩
                    obtain ⟨lo2, hlo2⟩ : ∃ lo2, (os'.getD k []).length = lo2 := ⟨_, rfl⟩
                    have hla1 := HMk.out.slen FX.out
                    have hlo1 := HMk.out.two FX.out hk4
                    rw [hla] at hla1
                    rw [hlo2] at hlo1
                    have Hla := Lib.hid (And.intro hla hlo2)
                    have HS1 := Lib.hid ((HMk.out.fresh (Only.refl [] wr).drew).shared (by omega))
                    clear e1 e3 e4 e5 e6 pbk hla hlo2
                    have hsum : IntKind.i64.wrap ((la : Int) + (lo2 : Int)) = (la : Int) + (lo2 : Int) := by rw [IntKind.wrap_i64]; omega
                    go_upto_region 29 with fail
                    refine wp_region_noPanic ?_
                    refine AnyT.begin_ 20 (fun w' => w'.cell? ⟨M.pb, k, none⟩ = some (.pointer (some ⟨lk, 0, none⟩)) ∧ w'.cell? ⟨lk, 3, none⟩ = some (.int .i64 fk)) (by as_aux_lemma => kernel_rfl) ⟨pk0, pk3⟩ (fun hHeld => ?_)
                    refine AnyT.take 0 (v := ?vs0) (by as_aux_lemma => kernel_rfl) rfl (by as_aux_lemma => kernel_rfl) (by as_aux_lemma => kernel_rfl) (by as_aux_lemma => kernel_rfl) (fun _ _ _ h => h) (Or.inl ⟨by rfl, ?ys0⟩) (by assumption) ?rs0
                    case ys0 => ((intro w hSw); (try dsimp only at hSw); go_simp; (try with_reducible rfl))
                    try simp only [Act.put, List.setIfInBounds_toArray, List.set_cons_zero, List.set_cons_succ]
                    refine AnyT.take 1 (v := ?vs1) (by as_aux_lemma => kernel_rfl) rfl (by as_aux_lemma => kernel_rfl) (by as_aux_lemma => kernel_rfl) (by as_aux_lemma => kernel_rfl) (fun _ _ _ h => h) (Or.inl ⟨by rfl, ?ys1⟩) (by assumption) ?rs1
                    case ys1 => ((intro w hSw); (try dsimp only at hSw); go_simp; (try with_reducible rfl))
                    try simp only [Act.put, List.setIfInBounds_toArray, List.set_cons_zero, List.set_cons_succ]
                    refine AnyT.take 2 (v := ?vs2) (by as_aux_lemma => kernel_rfl) rfl (by as_aux_lemma => kernel_rfl) (by as_aux_lemma => kernel_rfl) (by as_aux_lemma => kernel_rfl) (fun _ _ _ h => h) (Or.inl ⟨by rfl, ?ys2⟩) (by assumption) ?rs2
                    case ys2 => ((intro w hSw); (try dsimp only at hSw); go_simp; (try with_reducible rfl))
                    try simp only [Act.put, List.setIfInBounds_toArray, List.set_cons_zero, List.set_cons_succ]
                    refine AnyT.take 3 (v := ?vs3) (by as_aux_lemma => kernel_rfl) rfl (by as_aux_lemma => kernel_rfl) (by as_aux_lemma => kernel_rfl) (by as_aux_lemma => kernel_rfl) (fun _ _ _ h => h) (Or.inl ⟨by rfl, ?ys3⟩) (by assumption) ?rs3
                    case ys3 => ((intro w hSw); (try dsimp only at hSw); go_simp; (try with_reducible rfl))
                    try simp only [Act.put, List.setIfInBounds_toArray, List.set_cons_zero, List.set_cons_succ]
                    refine AnyT.take 4 (v := ?vs4) (by as_aux_lemma => kernel_rfl) rfl (by as_aux_lemma => kernel_rfl) (by as_aux_lemma => kernel_rfl) (by as_aux_lemma => kernel_rfl) (fun _ _ _ h => h) (Or.inl ⟨by rfl, ?ys4⟩) (by assumption) ?rs4
                    case ys4 => ((intro w hSw); (try dsimp only at hSw); go_simp; (try with_reducible rfl))
                    try simp only [Act.put, List.setIfInBounds_toArray, List.set_cons_zero, List.set_cons_succ]
                    refine AnyT.take 5 (v := ?vs5) (by as_aux_lemma => kernel_rfl) rfl (by as_aux_lemma => kernel_rfl) (by as_aux_lemma => kernel_rfl) (by as_aux_lemma => kernel_rfl) (fun _ _ _ h => h) (Or.inl ⟨by rfl, ?ys5⟩) (by assumption) ?rs5
                    case ys5 => ((intro w hSw); (try dsimp only at hSw); go_simp; (try with_reducible rfl))
                    try simp only [Act.put, List.setIfInBounds_toArray, List.set_cons_zero, List.set_cons_succ]
                    refine AnyT.take 6 (v := ?vs6) (by as_aux_lemma => kernel_rfl) rfl (by as_aux_lemma => kernel_rfl) (by as_aux_lemma => kernel_rfl) (by as_aux_lemma => kernel_rfl) (fun _ _ _ h => h) (Or.inl ⟨by rfl, ?ys6⟩) (by assumption) ?rs6
                    case ys6 => ((intro w hSw); (try dsimp only at hSw); go_simp; (try with_reducible rfl))
                    try simp only [Act.put, List.setIfInBounds_toArray, List.set_cons_zero, List.set_cons_succ]
                    refine AnyT.take 7 (v := ?vs7) (by as_aux_lemma => kernel_rfl) rfl (by as_aux_lemma => kernel_rfl) (by as_aux_lemma => kernel_rfl) (by as_aux_lemma => kernel_rfl) (fun _ _ _ h => h) (Or.inl ⟨by rfl, ?ys7⟩) (by assumption) ?rs7
                    case ys7 => ((intro w hSw); (try dsimp only at hSw); go_simp; (try with_reducible rfl))
                    try simp only [Act.put, List.setIfInBounds_toArray, List.set_cons_zero, List.set_cons_succ]
                    refine AnyT.take 8 (v := ?vs8) (by as_aux_lemma => kernel_rfl) rfl (by as_aux_lemma => kernel_rfl) (by as_aux_lemma => kernel_rfl) (by as_aux_lemma => kernel_rfl) (fun _ _ _ h => h) (Or.inl ⟨by rfl, ?ys8⟩) (by assumption) ?rs8
                    case ys8 => ((intro w hSw); (try dsimp only at hSw); go_simp; (try with_reducible rfl))
                    try simp only [Act.put, List.setIfInBounds_toArray, List.set_cons_zero, List.set_cons_succ]
                    refine AnyT.take 9 (v := ?vs9) (by as_aux_lemma => kernel_rfl) rfl (by as_aux_lemma => kernel_rfl) (by as_aux_lemma => kernel_rfl) (by as_aux_lemma => kernel_rfl) (fun _ _ _ h => h) (Or.inl ⟨by rfl, ?ys9⟩) (by assumption) ?rs9
                    case ys9 => ((intro w hSw); (try dsimp only at hSw); go_simp; (try with_reducible rfl))
                    try simp only [Act.put, List.setIfInBounds_toArray, List.set_cons_zero, List.set_cons_succ]
                    refine AnyT.take 12 (v := ?vs12) (by as_aux_lemma => kernel_rfl) rfl (by as_aux_lemma => kernel_rfl) (by as_aux_lemma => kernel_rfl) (by as_aux_lemma => kernel_rfl) (fun _ _ _ h => h) (Or.inl ⟨by rfl, ?ys12⟩) (by assumption) ?rs12
                    case ys12 => ((intro w hSw); (try dsimp only at hSw); go_simp; (try with_reducible rfl))
                    try simp only [Act.put, List.setIfInBounds_toArray, List.set_cons_zero, List.set_cons_succ]
                    refine AnyT.take 13 (v := ?vs13) (by as_aux_lemma => kernel_rfl) rfl (by as_aux_lemma => kernel_rfl) (by as_aux_lemma => kernel_rfl) (by as_aux_lemma => kernel_rfl) (fun _ _ _ h => h) (Or.inl ⟨by rfl, ?ys13⟩) (by assumption) ?rs13
                    case ys13 => ((intro w hSw); (try dsimp only at hSw); go_simp; (try with_reducible rfl))
                    try simp only [Act.put, List.setIfInBounds_toArray, List.set_cons_zero, List.set_cons_succ]
                    refine AnyT.one 10 rfl (by as_aux_lemma => kernel_rfl) (fun K hK => ?_)
                    go_simp
                    refine HS1.out.mono ?_
                    rintro e w1 ⟨v1', rfl, hI1, hO1⟩
                    obtain ⟨a1, c1, rfl⟩ := hI1.slice'
                    have hO1' : Only [] wr w1 := (Only.refl [] wr).drew.trans hO1
                    have HS2 := Lib.hid ((HMk.out.fresh hO1').own FX.out hk4)
                    have HO1 := Lib.hid hO1'
                    rw [Hla.out.1]
                    have hS1 : w1.cell? ⟨M.pb, k, none⟩ = some (.pointer (some ⟨lk, 0, none⟩)) ∧ w1.cell? ⟨lk, 3, none⟩ = some (.int .i64 fk) := ⟨(hO1'.blk Hpb.out (by simp)).cell (o := k) (by rw [getD_of nilP (by rw [Hl.out.1]; exact hk4), HE1.out]), (hO1'.blk HE3.out (by simp)).cell (o := 3) rfl⟩
                    refine hK.out _ _ hS1 ?_
                    clear hK K HS1 hI1 hO1 hO1' hHeld
                    try simp only [Act.put, List.setIfInBounds_toArray, List.set_cons_zero, List.set_cons_succ]
                    refine AnyT.take 11 (v := ?vs11) (by as_aux_lemma => kernel_rfl) rfl (by as_aux_lemma => kernel_rfl) (by as_aux_lemma => kernel_rfl) (by as_aux_lemma => kernel_rfl) (fun _ _ _ h => h) (Or.inl ⟨by rfl, ?ys11⟩) (by assumption) ?rs11
                    case ys11 => ((intro w hSw); (try dsimp only at hSw); go_simp; (try with_reducible rfl))
                    try simp only [Act.put, List.setIfInBounds_toArray, List.set_cons_zero, List.set_cons_succ]
                    refine AnyT.one 14 rfl (by as_aux_lemma => kernel_rfl) (fun K hK => ?_)
                    go_simp
                    refine HS2.out.mono ?_
                    rintro e w2 ⟨v2', rfl, hI2, hO2⟩
                    obtain ⟨a2, c2, rfl⟩ := hI2.slice'
                    have hO2' : Only [] wr w2 := HO1.out.trans hO2
                    have HO2' := Lib.hid hO2'
                    have pk4 := (hO2'.blk HE3.out (by simp)).cell (o := 3) rfl
                    have pf4 := (hO2'.blk HE3.out (by simp)).froz 3
                    rw [Hla.out.2]
                    have hS2 : w2.cell? ⟨M.pb, k, none⟩ = some (.pointer (some ⟨lk, 0, none⟩)) ∧ w2.cell? ⟨lk, 3, none⟩ = some (.int .i64 fk) := ⟨(hO2'.blk Hpb.out (by simp)).cell (o := k) (by rw [getD_of nilP (by rw [Hl.out.1]; exact hk4), HE1.out]), pk4⟩
                    refine hK.out _ _ hS2 ?_
                    clear hK K HS2 hI2 hO2 hO2' hS1
                    try simp only [Act.put, List.setIfInBounds_toArray, List.set_cons_zero, List.set_cons_succ]
                    refine AnyT.take 15 (v := ?vs15) (by as_aux_lemma => kernel_rfl) rfl (by as_aux_lemma => kernel_rfl) (by as_aux_lemma => kernel_rfl) (by as_aux_lemma => kernel_rfl) (fun _ _ _ h => h) (Or.inl ⟨by rfl, ?ys15⟩) (by assumption) ?rs15
                    case ys15 => ((intro w hSw); (try dsimp only at hSw); go_simp; (try with_reducible rfl))
                    try simp only [Act.put, List.setIfInBounds_toArray, List.set_cons_zero, List.set_cons_succ]
                    refine AnyT.take 16 (v := ?vs16) (by as_aux_lemma => kernel_rfl) rfl (by as_aux_lemma => kernel_rfl) (by as_aux_lemma => kernel_rfl) (by as_aux_lemma => kernel_rfl) (fun _ _ _ h => h) (Or.inl ⟨by rfl, ?ys16⟩) (by assumption) ?rs16
                    case ys16 => ((intro w hSw); (try dsimp only at hSw); go_simp; (try with_reducible rfl))
                    try simp only [Act.put, List.setIfInBounds_toArray, List.set_cons_zero, List.set_cons_succ]
                    refine AnyT.take 17 (v := ?vs17) (by as_aux_lemma => kernel_rfl) rfl (by as_aux_lemma => kernel_rfl) (by as_aux_lemma => kernel_rfl) (by as_aux_lemma => kernel_rfl) (fun _ _ _ h => h) (Or.inl ⟨by rfl, ?ys17⟩) (by assumption) ?rs17
                    case ys17 => ((intro w hSw); (try dsimp only at hSw); go_simp; (try with_reducible rfl))
                    try simp only [Act.put, List.setIfInBounds_toArray, List.set_cons_zero, List.set_cons_succ]
                    refine AnyT.one 18 rfl (by as_aux_lemma => kernel_rfl) (fun K hK => ?_)
                    go_simp
                    refine hK.out _ _ (by assumption) ?_
                    clear hK K
                    try simp only [Act.put, List.setIfInBounds_toArray, List.set_cons_zero, List.set_cons_succ]
                    refine AnyT.take 19 (v := ?vs19) (by as_aux_lemma => kernel_rfl) rfl (by as_aux_lemma => kernel_rfl) (by as_aux_lemma => kernel_rfl) (by as_aux_lemma => kernel_rfl) (fun _ _ _ h => h) (Or.inl ⟨by rfl, ?ys19⟩) (by assumption) ?rs19
                    case ys19 => ((intro w hSw); (try dsimp only at hSw); go_simp; (try with_reducible rfl))
                    try simp only [Act.put, List.setIfInBounds_toArray, List.set_cons_zero, List.set_cons_succ]
                    refine AnyT.last rfl (by as_aux_lemma => kernel_rfl) (by as_aux_lemma => kernel_rfl) (fun K hK => ?_)
                    go_simp
                    refine hK.out _ _ ?_
                    clear hK K
                    refine NoPanic.normal ?_
                    clear hS2
                    generalize hf : (if (la : Int) + (lo2 : Int) < fk then (la : Int) + (lo2 : Int) else fk) = f
                    have hf1 : f ≤ (la : Int) + (lo2 : Int) := by rw [← hf]; split <;> omega
                    have Hf := Lib.hid hf
                    clear hf pk4 pf4 pk0 pk3
                    go_wp2_with fail
                    go_roundw
                    case rel =>
                      have hMn := (HMk.out.fresh HO2'.out).setFrom hk4 HE1.out (HO2'.out.blk HE3.out (by simp)) (HO2'.out.blk HE4.out (by simp)) e2 f
                      have hB2 := HO2'.out.blk HBk.out (by simp)
                      have hA2 := HO2'.out.blk HAk.out (by simp)
                      have hne := hA2.ty (HO2'.out.blk HE3.out (by simp)) (by decide)
                      by_cases hki : k = i
                      · have e := HE5.out.2 hki
                        rw [e] at hMn hne
                        rw [e]
                        refine ⟨k + 1, f, by omega, by go_num, hMn, hB2.set 3 _, hA2.ne _ _ hne, fun _ g1 g2 => ?_⟩
                        have g3 := Hla.out.1
                        have g4 := Hla.out.2
                        rw [g1] at g3
                        rw [hki, g2] at g4
                        simp [intsOf] at g3 g4
                        omega
                      · exact ⟨k + 1, fr', by omega, by go_num, hMn, hB2.ne _ _ (Ne.symm (HE5.out.1 hki)), hA2.ne _ _ hne, fun h => HQ.out (by omega)⟩
                    case measure => simp [intOf]; omega
              · have hk4' : ¬ (k : Int) < 4 := by omega
                have e : k = 4 := by omega
                subst e
                have HMk := Lib.hid hMk
                have HBk := Lib.hid hBk
                have HAk := Lib.hid hAk
                have HQ := Lib.hid hQ
                have pbk := hMk.blks.2.2.1
                clear hMk hBk hAk hQ
                rcases HC6.out with ⟨ho, e1, e2⟩ | ⟨ho, e1, e2⟩
                · subst ho
                  as_aux_lemma =>
                    have HE := Lib.hid (And.intro e1 e2)
                    clear e1 e2 pbk
                    go_wp2_with fail
                    go_roundw
                    case rel =>
                      have hF' := HF.out
                      rw [← HE.out.1, ← HE.out.2] at hF'
                      exact ⟨c + 1, by omega, by omega, by go_num, st', stk', os', hd, ps, hvs, hxs, HMk.out.imp (fun _ _ _ => Or.inr rfl), hF', HH.out, by omega, by omega⟩
                    case measure => simp [intOf]; omega
                · subst ho e1
                  have HE := Lib.hid e2
                  have pk0 := pbk.cell (o := i) (v := .pointer (some ⟨lb, 0, none⟩)) (by rw [getD_of nilP (by rw [Hl.out.1]; exact hi), HP.out])
                  have pkf := pbk.froz i
                  have hi4 : (i : Int) < 4 := by omega
                  have HM7 := Lib.hid (HMk.out.setNil FX.out hi (fun _ _ h => Or.inl h))
                  have HB7 := Lib.hid (HBk.out.ne ⟨M.pb, i, none⟩ nilP (HBk.out.ty pbk (by decide)))
                  have HA7 := Lib.hid (HAk.out.ne ⟨M.pb, i, none⟩ nilP (HAk.out.ty pbk (by decide)))
                  clear e2 pbk
                  go_upto_region 32 with fail
                  generalize wr.setCell ⟨M.pb, i, none⟩ (.pointer none) = w7 at *
                  have b0 := HB7.out.cell (o := 0) rfl
                  have b1 := HB7.out.cell (o := 1) rfl
                  have b2 := HB7.out.cell (o := 2) rfl
                  have b3 := HB7.out.cell (o := 3) rfl
                  have HSL := Lib.hid (slotP_over ab L.pp _ s' 3 T' nx' give w7 HA7.out rfl)
                  have hw7 := HM7.out.blks.1.cell (o := 0) rfl
                  have hos : i < os.length := by rw [Hl.out.2.2.2, FX.out.W]; exact hi
                  have Hos := Lib.hid hos
                  have Hps := Lib.hid (getDv_eq (v := nilP) (d := nilP) (show i < ps.length by rw [Hl.out.1]; exact hi))
                  clear hos pk0 pkf
                  cases give with
                  | true =>
                    as_aux_lemma =>
                      obtain ⟨e1, hperm⟩ := EndCase.give HE.out Hos.out (Hgg.out.1 rfl).2.1
                      obtain ⟨g1, g2, g3, g4, g5⟩ := Hgg.out.1 rfl
                      subst e1 g1
                      obtain ⟨sn, rfl⟩ := Int.eq_ofNat_of_zero_le g2
                      have hsn : sn < M.n := by omega
                      have Hperm := Lib.hid hperm
                      rw [show ((sn : Nat) : Int).toNat = sn by omega] at g4
                      have G4 := Lib.hid g4
                      have G5 := Lib.hid g5
                      have hne : ((sn : Int) != (sn : Int)) = false := by simp
                      obtain ⟨_, hh, hc0, hf0, -⟩ := HM7.out.blks.2.1.cell sn (by rw [HF.out.1]; exact hsn)
                      simp only [Option.some.injEq, Addr.mk.injEq, and_true] at hh
                      subst hh
                      clear hperm g4 g5 HQ
                      go_wp2_with (first | (go_at_call 40; refine HSL.out.mono ?_; rintro e w' ⟨rfl, rfl⟩))
                      go_roundw
                      case rel =>
                        have hM8 := HM7.out.setHolder FX.out HF.out.1 sn (-1) (fun k hk _ => (by
                          by_cases e : k = i
                          · subst e
                            exact Or.inl Hps.out
                          · refine Or.inr ?_
                            rw [G4.out]
                            omega))
                        have hnot : (sn : Int) ∉ allOf stk os := fun hm => (by
                          have h1 := (HF.out.2.2.2 sn hsn).2 hm
                          rw [G4.out] at h1
                          omega)
                        have hF8 := HF.out.give (x := (sn : Int)) (by omega) (by omega) hnot
                        have hH8 := HH.out.give (i := i) (s := (sn : Int)) (by omega) (by rw [show ((sn : Nat) : Int).toNat = sn by omega]; exact G4.out) G5.out
                        rw [show ((sn : Nat) : Int).toNat = sn by omega] at hF8 hH8
                        exact ⟨c + 1, by omega, by omega, by go_num, st', stk', os', _, _, hvs, hxs, hM8, hF8.perm Hperm.out.symm, hH8, by omega, by omega⟩
                      case measure => simp [intOf]; omega
                  | false =>
                    rcases EndCase.take HE.out Hos.out with ⟨e1, e2, e3, e4, e5⟩ | hperm
                    · subst e1
                      as_aux_lemma =>
                        have hfr := HQ.out hi e4 (by rw [e5]; exact e2)
                        have hfr' : ¬ (0 < fr') := by omega
                        have HE2 := Lib.hid (And.intro e3 (And.intro e4 e5))
                        clear e2 e3 e4 e5 HQ
                        go_wp2_with (first | (go_at_call 40; refine HSL.out.mono ?_; rintro e w' ⟨rfl, rfl⟩))
                        go_roundw
                        case rel =>
                          have hF8 := HF.out
                          rw [HE2.out.1, ← HE2.out.2.1, ← HE2.out.2.2] at hF8
                          exact ⟨c + 1, by omega, by omega, by go_num, st', stk', os', hd, _, hvs, hxs, HM7.out, hF8, HH.out, by omega, by omega⟩
                        case measure => simp [intOf]; omega
                    · have hF7 := HF.out.perm hperm
                      as_aux_lemma =>
                        have HF7 := Lib.hid hF7
                        obtain ⟨g2, g3⟩ := hF7.2.2.1 s' (by simp)
                        obtain ⟨sn, rfl⟩ := Int.eq_ofNat_of_zero_le g2
                        have hsn : sn < M.n := by omega
                        have G4 := Lib.hid ((hF7.2.2.2 sn hsn).2 (by simp))
                        obtain ⟨_, hh, hc0, hf0, -⟩ := HM7.out.blks.2.1.cell sn (by rw [HF.out.1]; exact hsn)
                        simp only [Option.some.injEq, Addr.mk.injEq, and_true] at hh
                        subst hh
                        rw [G4.out] at hc0
                        have hne : ((sn : Int) == -1) = false := beq_eq_false_iff_ne.2 (by omega)
                        have hl1 : ¬ ((sn : Int) < 0) := by omega
                        have hl2 : ¬ ((M.n : Int) ≤ (sn : Int)) := by omega
                        clear hperm hF7 HQ
                        go_upto_region 43 with (first | (go_at_call 40; refine HSL.out.mono ?_; rintro e w' ⟨rfl, rfl⟩))
                        have HM8 := Lib.hid (HM7.out.setHolder FX.out HF.out.1 sn i (fun k hk _ => Or.inr (by rw [G4.out]; omega)))
                        generalize w7.setCell ⟨M.hb, sn, none⟩ (.int .i64 i) = w8 at *
                        clear hw7 hc0 hf0 b0 b1 b2 b3 HSL
                        obtain ⟨hv, ehv⟩ : ∃ hv, hvs.getD i nilS = hv := ⟨_, rfl⟩
                        obtain ⟨hx, ehx⟩ : ∃ hx, hxs.getD i [] = hx := ⟨_, rfl⟩
                        have x0 := HM8.out.hint i hi
                        rw [ehv, ehx] at x0
                        have hxl := (HH.out i hi).len
                        rw [ehx] at hxl
                        obtain ⟨va, vc, rfl⟩ := x0.slice'
                        have xb8 := HM8.out.blks.2.2.2.1
                        have x8 := xb8.cell (o := i) (v := .slice va hx.length vc) (by rw [getD_of nilS (by rw [Hl.out.2.1]; exact hi), ehv])
                        have hxn : M.xb ∉ blkOf (.slice va hx.length vc) := fun hm => (by
                          obtain ⟨⟨us, q⟩, _⟩ := x0.blk3 (mem_blkOf.1 hm)
                          exact absurd rfl (xb8.ty q (by decide)))
                        have Hxb8 := Lib.hid xb8
                        have Hxn := Lib.hid hxn
                        have Ehv := Lib.hid ehv
                        have Ehx := Lib.hid ehx
                        have hW := (Only.refl [] w8).alloc (.cells #[.int .i64 sn] 3)
                        have HOW := Lib.hid (x0.only hW (by simp))
                        have hli := Ints.lit w8 [(sn : Int)] (by simp)
                        have HR := Lib.hid (hli.cutL (j := 1) (by simp))
                        have Hlo := Lib.hid (Nat.le_trans HM8.out.lole hW.size)
                        clear xb8 hxn ehv ehx hW hli x0
                        go_wp2_with (at_builtin; (refine list_append_ints rfl (.tmp 243) (.tmp 245) rfl L.lo (.slice va hx.length vc) hx [(sn : Int)] rfl HOW.out (some ⟨w8.heap.size, 0, none⟩) 1 1 rfl HR.out rfl (by omega) Hlo.out ?_); intro v2 w9 hown2 hgr2 hat2; have hI9 := hown2; obtain ⟨a2, l2, c2, rfl⟩ := hI9.slice; have hO9 : Only (blkOf (.slice va hx.length vc)) w8 w9 := ((Only.refl _ w8).alloc (.cells #[.int .i64 sn] 3)).grown hgr2 (fun k hk => Or.inl (mem_blkOf.2 hk)); have Hat := Lib.hid hat2; have xf9 := (hO9.blk Hxb8.out Hxn.out).froz i; have x9 := (hO9.blk Hxb8.out Hxn.out).cell (o := i) (v := .slice va hx.length vc) (by rw [getD_of nilS (by rw [Hl.out.2.1]; exact hi), Ehv.out]); have HO9 := Lib.hid hO9; have HI9 := Lib.hid hI9; clear hgr2 hat2 hO9 hI9 HOW)
                        go_roundw
                        case rel =>
                          have hB9 := (HO9.out.blk Hxb8.out Hxn.out).set i (.slice a2 l2 c2)
                          have hO10 : Only ([M.xb] ++ blkOf (hvs.getD i nilS)) w8 (w9.setCell ⟨M.xb, i, none⟩ (.slice a2 l2 c2)) := by
                            rw [Ehv.out]
                            exact (HO9.out.mono (fun k _ hk => List.mem_append_right _ hk)).setCell (Or.inl (by simp)) _
                          have hI10 := HI9.out.only (S := [M.xb]) ((Only.refl [M.xb] w9).setCell (p := ⟨M.xb, i, none⟩) (by simp) (.slice a2 l2 c2)) (by intro q hq; simp at hq; subst hq; exact Or.inr (Or.inr ⟨_, _, HO9.out.blk Hxb8.out Hxn.out, by decide⟩))
                          have hM10 := HM8.out.newHolds FX.out hi (fun _ => Hps.out) hO10 hB9 hI10 (by
                            rw [Ehv.out]
                            rcases Hat.out with e | e
                            · exact Or.inl e
                            · exact Or.inr ⟨_, e, by rw [World.size_alloc]; exact Nat.le_succ _⟩)
                          have hF8 := HF7.out.take (v := (i : Int)) (by omega)
                          have hH8 := HH.out.take hi Hl.out.2.2.1 HF.out.1 (s := (sn : Int)) (by omega) g3 (by rw [show ((sn : Nat) : Int).toNat = sn by omega]; exact G4.out)
                          rw [show ((sn : Nat) : Int).toNat = sn by omega] at hF8 hH8
                          rw [Ehx.out] at hH8
                          exact ⟨c + 1, by omega, by omega, by go_num, st', stk', os', _, _, _, _, hM10, hF8, hH8, by omega, by omega⟩
                        case measure => simp [intOf]; omega
        · go_wp2_with fail
          as_aux_lemma =>
            go_meet
            case rel => exact ⟨c, hc1, HT.out⟩
      · go_wp2_with fail
        as_aux_lemma =>
          go_meet
          case rel => exact ⟨c, hc1, HT.out⟩
  case rest =>
    obtain ⟨c0, hc0, hT⟩ := hcut
    obtain ⟨st, stk, os, hd, ps, hvs, hxs, hM, hF, hH, hs0, hs1⟩ := hT
    have hs2 : st ≤ 400 := by omega
    have Hl := Lib.hid (And.intro hM.blks.2.2.2.2.1 hM.blks.2.2.2.2.2.2.1)
    have HM := Lib.hid hM
    have HF := Lib.hid hF
    clear HS hM hF hH hs1 hc0
    go_wp2_with fail
    go_loopw [21] (fun kv wr => ∃ (k : Nat) (st : Int) (stk : List Nat) (os : List (List Int)) (hd : List Int), k ≤ 4 ∧ kv = .int .i64 k ∧ Mid w wr L M ns st stk os hd ps hvs hxs (fun j => k ≤ j) ∧ Free M.n hd (allOf stk os) ∧ 0 ≤ st ∧ st ≤ 400 + 5 * k) (fun k _ => 4 - (intOf k).toNat)
    case atStart => exact ⟨0, st, stk, os, hd, by omega, rfl, HM.out.imp (fun _ _ _ => trivial), HF.out, hs0, by omega⟩
    case round =>
      clear HM HF hs0 hs2 st stk os hd
      obtain ⟨k, st, stk, os, hd, hk, rfl, hM, hF, hs0, hs1⟩ := hrel
      by_cases hk4 : k < 4
      · have hk4' : (k : Int) < 4 := by omega
        have hbl := hM.blks.2.2.1
        have hw0 := hM.blks.1.cell (o := 0) rfl
        have HM := Lib.hid hM
        have HF := Lib.hid hF
        rcases hM.runAct FX.out ⟨hs0, by omega⟩ hF hk4 (Nat.le_refl k) (B := fun j => k + 1 ≤ j) (fun j _ hj => ⟨by omega, by omega⟩) with hnil | ⟨lb, ab, give, slot, fr, s, hp, hlb, hg, hrun⟩
        · skip
          as_aux_lemma =>
            have p0 := hbl.cell (o := k) (v := .pointer none) (by rw [getD_of nilP (by rw [Hl.out.1]; exact hk4), hnil])
            have HM9 := Lib.hid (hM.imp (B := fun j => k + 1 ≤ j) (fun j _ (hj : k + 1 ≤ j) => (by omega : k ≤ j)))
            have HF9 := HF
            clear hM hF hbl hw0 hnil HF
            go_upto_region 58 with fail
            have HOw := Lib.hid (HM9.out.own FX.out hk4)
            have h2 := HM9.out.two FX.out hk4
            obtain ⟨l9, hl9⟩ : ∃ l9, (os.getD k []).length = l9 := ⟨_, rfl⟩
            rw [hl9] at h2
            have Hl9 := Lib.hid hl9
            have h2' : ¬ (2 : Int) < (l9 : Int) := by omega
            clear hl9
            go_wp2_with fail
            refine HOw.out.mono ?_
            rintro e w10 ⟨v10, rfl, hI10, hO10⟩
            obtain ⟨a10, c10, rfl⟩ := hI10.slice'
            rw [Hl9.out]
            have HM10 := Lib.hid (HM9.out.fresh hO10)
            clear hI10 hO10 HOw
            go_wp2_with fail
            go_roundw
            case rel => exact ⟨k + 1, st, stk, os, hd, by omega, by go_num, HM10.out, HF9.out, by omega, by omega⟩
            case measure => simp [intOf]; omega
        · have p0 := hbl.cell (o := k) (v := .pointer (some ⟨lb, 0, none⟩)) (by rw [getD_of nilP (by rw [Hl.out.1]; exact hk4), hp])
          have b0 := hlb.cell (o := 0) rfl
          have HR := Lib.hid hrun
          have Hg := Lib.hid hg
          have hos : k < os.length := by rw [hM.blks.2.2.2.2.2.2.2, FX.out.W]; exact hk4
          have Hos := Lib.hid hos
          clear hM hF hbl hw0 hp hlb hg hrun hos
          go_wp2_with fail
          refine HR.out.mono ?_
          rintro e w1 ⟨r, s', T', nx', st', stk', os', rfl, f1, f2, hA1, hB1, hM1, hE⟩
          have HM1 := Lib.hid hM1
          have HE := Lib.hid hE
          have b0 := hB1.cell (o := 0) rfl
          have b1 := hB1.cell (o := 1) rfl
          have hw1 := hM1.blks.1.cell (o := 0) rfl
          have HI1 := Lib.hid hM1.blks.2.1
          have HR2 := Lib.hid (runP_over ab L.pp _ s' T' nx' give w1 hA1)
          have HSL := Lib.hid (slotP_over ab L.pp _ s' 3 T' nx' give w1 hA1 rfl)
          clear hM1 hE hA1 hB1 HR p0
          by_cases hr : r < 0
          case' pos => go_upto_region 51 with (first | (go_at_call 43; refine HR2.out.mono ?_; rintro e w' ⟨rfl, rfl⟩))
          case' neg => go_upto_region 51 with fail
          all_goals
            clear HR2
            cases give with
            | true =>
              as_aux_lemma =>
                obtain ⟨e1, hperm⟩ := EndCase.give HE.out Hos.out (Hg.out rfl).1
                obtain ⟨g2, g3, g4⟩ := Hg.out rfl
                subst e1
                obtain ⟨sn, rfl⟩ := Int.eq_ofNat_of_zero_le g2
                have hsn : sn < M.n := by omega
                have Hperm := Lib.hid hperm
                rw [show ((sn : Nat) : Int).toNat = sn by omega] at g4
                have G4 := Lib.hid g4
                obtain ⟨_, hh, hc0, hf0, -⟩ := HI1.out.cell sn (by rw [HF.out.1]; exact hsn)
                simp only [Option.some.injEq, Addr.mk.injEq, and_true] at hh
                subst hh
                clear hperm g4
                go_upto_region 58 with (first | (go_at_call 40; refine HSL.out.mono ?_; rintro e w' ⟨rfl, rfl⟩))
                have HM9 := Lib.hid (HM1.out.setHolder FX.out HF.out.1 sn (-1) (fun j hj (hjk : k + 1 ≤ j) => Or.inr (by rw [G4.out]; omega)))
                have hnot : (sn : Int) ∉ allOf stk os := fun hm => (by
                  have h1 := (HF.out.2.2.2 sn hsn).2 hm
                  rw [G4.out] at h1
                  omega)
                have hF8 := HF.out.give (x := (sn : Int)) (by omega) (by omega) hnot
                rw [show ((sn : Nat) : Int).toNat = sn by omega] at hF8
                have HF9 := Lib.hid (hF8.perm Hperm.out.symm)
                clear hF8 hnot
                generalize w1.setCell ⟨M.hb, sn, none⟩ (.int .i64 (-1)) = w9 at *
                clear hw1 hc0 hf0 b0 b1
                have HOw := Lib.hid (HM9.out.own FX.out hk4)
                have h2 := HM9.out.two FX.out hk4
                obtain ⟨l9, hl9⟩ : ∃ l9, (os'.getD k []).length = l9 := ⟨_, rfl⟩
                rw [hl9] at h2
                have Hl9 := Lib.hid hl9
                have h2' : ¬ (2 : Int) < (l9 : Int) := by omega
                clear hl9
                go_wp2_with fail
                refine HOw.out.mono ?_
                rintro e w10 ⟨v10, rfl, hI10, hO10⟩
                obtain ⟨a10, c10, rfl⟩ := hI10.slice'
                rw [Hl9.out]
                have HM10 := Lib.hid (HM9.out.fresh hO10)
                clear hI10 hO10 HOw
                go_wp2_with fail
                go_roundw
                case rel => exact ⟨k + 1, st', stk', os', _, by omega, by go_num, HM10.out, HF9.out, by omega, by omega⟩
                case measure => simp [intOf]; omega
            | false =>
              rcases EndCase.take HE.out Hos.out with ⟨e1, e2, e3, e4, e5⟩ | hperm
              · subst e1
                as_aux_lemma =>
                  have hF8 := HF.out
                  rw [e3, ← e4, ← e5] at hF8
                  have HF9 := Lib.hid hF8
                  have HM9 := HM1
                  clear e2 e3 e4 e5 hF8 HI1
                  go_upto_region 58 with (first | (go_at_call 40; refine HSL.out.mono ?_; rintro e w' ⟨rfl, rfl⟩))
                  clear hw1 b0 b1
                  have HOw := Lib.hid (HM9.out.own FX.out hk4)
                  have h2 := HM9.out.two FX.out hk4
                  obtain ⟨l9, hl9⟩ : ∃ l9, (os'.getD k []).length = l9 := ⟨_, rfl⟩
                  rw [hl9] at h2
                  have Hl9 := Lib.hid hl9
                  have h2' : ¬ (2 : Int) < (l9 : Int) := by omega
                  clear hl9
                  go_wp2_with fail
                  refine HOw.out.mono ?_
                  rintro e w10 ⟨v10, rfl, hI10, hO10⟩
                  obtain ⟨a10, c10, rfl⟩ := hI10.slice'
                  rw [Hl9.out]
                  have HM10 := Lib.hid (HM9.out.fresh hO10)
                  clear hI10 hO10 HOw
                  go_wp2_with fail
                  go_roundw
                  case rel => exact ⟨k + 1, st', stk', os', hd, by omega, by go_num, HM10.out, HF9.out, by omega, by omega⟩
                  case measure => simp [intOf]; omega
              · have hF7 := HF.out.perm hperm
                as_aux_lemma =>
                  have HF7 := Lib.hid hF7
                  obtain ⟨g2, g3⟩ := hF7.2.2.1 s' (by simp)
                  obtain ⟨sn, rfl⟩ := Int.eq_ofNat_of_zero_le g2
                  have hsn : sn < M.n := by omega
                  have G4 := Lib.hid ((hF7.2.2.2 sn hsn).2 (by simp))
                  obtain ⟨_, hh, hc0, hf0, -⟩ := HI1.out.cell sn (by rw [HF.out.1]; exact hsn)
                  simp only [Option.some.injEq, Addr.mk.injEq, and_true] at hh
                  subst hh
                  rw [G4.out] at hc0
                  clear hperm hF7
                  go_upto_region 58 with (first | (go_at_call 40; refine HSL.out.mono ?_; rintro e w' ⟨rfl, rfl⟩))
                  have HM9 := Lib.hid (HM1.out.setHolder FX.out HF.out.1 sn k (fun j hj (hjk : k + 1 ≤ j) => Or.inr (by rw [G4.out]; omega)))
                  have hF8 := HF7.out.take (v := (k : Int)) (by omega)
                  rw [show ((sn : Nat) : Int).toNat = sn by omega] at hF8
                  have HF9 := Lib.hid hF8
                  clear hF8
                  generalize w1.setCell ⟨M.hb, sn, none⟩ (.int .i64 k) = w9 at *
                  clear hw1 hc0 hf0 b0 b1
                  have HOw := Lib.hid (HM9.out.own FX.out hk4)
                  have h2 := HM9.out.two FX.out hk4
                  obtain ⟨l9, hl9⟩ : ∃ l9, (os'.getD k []).length = l9 := ⟨_, rfl⟩
                  rw [hl9] at h2
                  have Hl9 := Lib.hid hl9
                  have h2' : ¬ (2 : Int) < (l9 : Int) := by omega
                  clear hl9
                  go_wp2_with fail
                  refine HOw.out.mono ?_
                  rintro e w10 ⟨v10, rfl, hI10, hO10⟩
                  obtain ⟨a10, c10, rfl⟩ := hI10.slice'
                  rw [Hl9.out]
                  have HM10 := Lib.hid (HM9.out.fresh hO10)
                  clear hI10 hO10 HOw
                  go_wp2_with fail
                  go_roundw
                  case rel => exact ⟨k + 1, st', stk', os', _, by omega, by go_num, HM10.out, HF9.out, by omega, by omega⟩
                  case measure => simp [intOf]; omega
      · have hk4' : ¬ (k : Int) < 4 := by omega
        skip
        have hsl := hM.blks.2.2.2.2.2.2.2
        rw [FX.out.W] at hsl
        obtain ⟨o0, o1, o2, o3, hos⟩ := list4 hsl
        have HM := Lib.hid hM
        have HF := Lib.hid hF
        have Hos := Lib.hid hos
        have HB := Lib.hid hM.blks.1
        have HI := Lib.hid hM.blks.2.1
        have ho0 := hM.two FX.out (k := 0) (by omega)
        have ho1 := hM.two FX.out (k := 1) (by omega)
        have ho2 := hM.two FX.out (k := 2) (by omega)
        have ho3 := hM.two FX.out (k := 3) (by omega)
        rw [hos] at ho0 ho1 ho2 ho3
        have hls := hM.slen FX.out
        have Hlen := Lib.hid (show o0.length ≤ 2 ∧ o1.length ≤ 2 ∧ o2.length ≤ 2 ∧ o3.length ≤ 2 ∧ (intsOf stk).length ≤ 12 from ⟨ho0, ho1, ho2, ho3, hls⟩)
        clear hM hF hsl hos ho0 ho1 ho2 ho3 hls
        have HC0 := Lib.hid (show Calls Try.prog 36 #[.pointer (some ⟨L.pp, 0, none⟩), .int .i64 (0 : Int)] wr (Cloned wr o0) from by have h := HM.out.own FX.out (k := 0) (by omega); rw [Hos.out] at h; exact h)
        go_wp2_with fail
        refine HC0.out.mono ?_
        rintro e x0 ⟨v0, rfl, hI0, hO0⟩
        obtain ⟨a0, c0', rfl⟩ := hI0.slice'
        have HM0 := Lib.hid (HM.out.fresh hO0)
        have J0 := Lib.hid hI0
        clear hI0 hO0 HC0
        have HC1 := Lib.hid (show Calls Try.prog 36 #[.pointer (some ⟨L.pp, 0, none⟩), .int .i64 (1 : Int)] x0 (Cloned x0 o1) from by have h := HM0.out.own FX.out (k := 1) (by omega); rw [Hos.out] at h; exact h)
        go_wp2_with fail
        refine HC1.out.mono ?_
        rintro e x1 ⟨v1, rfl, hI1, hO1⟩
        obtain ⟨a1, c1, rfl⟩ := hI1.slice'
        have HM1 := Lib.hid (HM0.out.fresh hO1)
        have J0 := Lib.hid (J0.out.only hO1 (by simp))
        have J1 := Lib.hid hI1
        clear hI1 hO1 HC1
        have HC2 := Lib.hid (show Calls Try.prog 36 #[.pointer (some ⟨L.pp, 0, none⟩), .int .i64 (2 : Int)] x1 (Cloned x1 o2) from by have h := HM1.out.own FX.out (k := 2) (by omega); rw [Hos.out] at h; exact h)
        go_wp2_with fail
        refine HC2.out.mono ?_
        rintro e x2 ⟨v2, rfl, hI2, hO2⟩
        obtain ⟨a2, c2, rfl⟩ := hI2.slice'
        have HM2 := Lib.hid (HM1.out.fresh hO2)
        have J0 := Lib.hid (J0.out.only hO2 (by simp))
        have J1 := Lib.hid (J1.out.only hO2 (by simp))
        have J2 := Lib.hid hI2
        clear hI2 hO2 HC2
        have HC3 := Lib.hid (show Calls Try.prog 36 #[.pointer (some ⟨L.pp, 0, none⟩), .int .i64 (3 : Int)] x2 (Cloned x2 o3) from by have h := HM2.out.own FX.out (k := 3) (by omega); rw [Hos.out] at h; exact h)
        go_wp2_with fail
        refine HC3.out.mono ?_
        rintro e x3 ⟨v3, rfl, hI3, hO3⟩
        obtain ⟨a3, c3, rfl⟩ := hI3.slice'
        have HM3 := Lib.hid (HM2.out.fresh hO3)
        have J0 := Lib.hid (J0.out.only hO3 (by simp))
        have J1 := Lib.hid (J1.out.only hO3 (by simp))
        have J2 := Lib.hid (J2.out.only hO3 (by simp))
        have J3 := Lib.hid hI3
        clear hI3 hO3 HC3
        have HC4 := Lib.hid (HM3.out.shared (by omega))
        go_wp2_with fail
        refine HC4.out.mono ?_
        rintro e x4 ⟨v4, rfl, hI4, hO4⟩
        obtain ⟨a4, c4, rfl⟩ := hI4.slice'
        have HM4 := Lib.hid (HM3.out.fresh hO4)
        have J0 := Lib.hid (J0.out.only hO4 (by simp))
        have J1 := Lib.hid (J1.out.only hO4 (by simp))
        have J2 := Lib.hid (J2.out.only hO4 (by simp))
        have J3 := Lib.hid (J3.out.only hO4 (by simp))
        have J4 := Lib.hid hI4
        clear hI4 hO4 HC4
        have hO5 := (Only.refl [] x4).alloc (.cells #[.slice a0 o0.length c0', .slice a1 o1.length c1, .slice a2 o2.length c2, .slice a3 o3.length c3, .slice a4 (intsOf stk).length c4] 29)
        have hN := Blk.new x4 [.slice a0 o0.length c0', .slice a1 o1.length c1, .slice a2 o2.length c2, .slice a3 o3.length c3, .slice a4 (intsOf stk).length c4] 29
        have hperm := perm_all (stk := stk) Hos.out
        obtain ⟨hB5, hI5, -⟩ := (HM4.out.fresh hO5).blks
        have HOn := Lib.hid (once_any M.wb x4.heap.size 5 M.n _ hd [.slice a0 o0.length c0', .slice a1 o1.length c1, .slice a2 o2.length c2, .slice a3 o3.length c3, .slice a4 (intsOf stk).length c4] [o0, o1, o2, o3, intsOf stk] L.lo _ hB5 hI5 HF.out.1 (by omega) hN rfl (by decide)
          (fun a ha => by
            have hl := Hlen.out
            rcases a with _ | _ | _ | _ | _ | a
            · exact ⟨_, _, rfl, J0.out.only hO5 (by simp), by show o0.length ≤ 1000000; omega⟩
            · exact ⟨_, _, rfl, J1.out.only hO5 (by simp), by show o1.length ≤ 1000000; omega⟩
            · exact ⟨_, _, rfl, J2.out.only hO5 (by simp), by show o2.length ≤ 1000000; omega⟩
            · exact ⟨_, _, rfl, J3.out.only hO5 (by simp), by show o3.length ≤ 1000000; omega⟩
            · exact ⟨_, _, rfl, J4.out.only hO5 (by simp), by show (intsOf stk).length ≤ 1000000; omega⟩
            · omega)
          (fun x hx => HF.out.2.2.1 x (hperm.mem_iff.1 hx))
          (fun s hs => by rw [hperm.count_eq]; exact HF.out.count s hs))
        have HOf := Lib.hid (HM4.out.only0.trans hO5)
        clear hN hO5 hperm hB5 hI5
        go_wp2_with fail
        refine HOn.out.mono ?_
        rintro e x5 ⟨rfl, hO6⟩
        have HO6 := Lib.hid hO6
        clear hO6 HOn
        go_wp2_with fail
        go_ret
        exact ⟨rfl, HOf.out.trans HO6.out⟩
end Go.Proofs.Ytcgiimgdcamkiaa
