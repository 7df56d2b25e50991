/-
  The walk over the statement PoolKeeps.
-/
import Derived.Test.YtcgiimgdcamkiaaPoolG
import Derived.Test.YtcgiimgdcamkiaaArgs
import Derived.Test.YtcgiimgdcamkiaaRunI
import Derived.Laws.AppendOwnNone
namespace Go.Proofs.Ytcgiimgdcamkiaa
open Go.RowKit
set_option linter.unusedVariables false

/-- A list of numbers that came in, with the room that a slice of it asks. -/
def ArgK (w : World) (v : Value) (zs : List Int) : Prop :=
  (v = .slice none 0 0 ∧ zs = []) ∨ ∃ x cap, v = .slice (some x) zs.length cap ∧ zs.length ≤ cap ∧ cap ≤ maxLen ∧ ∀ (j : Nat) u, (zs.map (Value.int .i64))[j]? = some u → w.cell? (x.add j) = some u

theorem ArgK.only {w w' : World} {v : Value} {zs : List Int} (h : ArgK w v zs) (hO : Only [] w w') : ArgK w' v zs := by
  rcases h with h | ⟨x, cap, h1, h2, h3, h4⟩
  · exact Or.inl h
  · refine Or.inr ⟨x, cap, h1, h2, h3, fun j u hj => ?_⟩
    have h5 := h4 j u hj
    exact (World.cell?_of_block (hO.block _ (World.block_lt_of_cell? w _ h5) (by simp))).trans h5

theorem Ints.set {w : World} {lo g n cap : Nat} {xs : List Int} (h : Ints w lo (.slice (some ⟨g, 0, none⟩) n cap) xs) (hn : xs.length = n) (j : Nat) (u : Int) :
    Ints (w.setCell ⟨g, j, none⟩ (.int .i64 u)) lo (.slice (some ⟨g, 0, none⟩) n cap) (xs.set j u) := by
  subst hn
  have := (World.ownsRow.stored h j (.int .i64 u)).1
  unfold Ints
  rw [List.length_set, List.map_set]
  exact this

theorem run_field_path (x : Option Addr) (l c : Nat) (u : Int) (w : World) : (Instr.field 61 (.agg #[.slice x l c, .int .i64 u]) 0).run Try.prog w = .ok (.slice x l c) w := by kernel_rfl

/-- What Keep leaves, whatever the slot. -/
def KeptAny (w : World) (nb : Nat) (n : Nat) (ns : List Value) (s b : Int) (xs : List Int) (e : Ending) (w' : World) : Prop :=
  ∃ ns', e = .returned (.tuple #[]) ∧ Blk w' nb ns' 61 ∧ Only [nb] w w' ∧ ((s < 0 ∨ n ≤ s) ∨ ∃ k : Nat, s = k ∧ k < n ∧ ∃ vk, Ints w' w.heap.size vk xs ∧ ns' = (ns.set (2 * k) vk).set (2 * k + 1) (.int .i64 b))

theorem keepP_all (pp mb nb n ob W : Nat) (base : Int) (ns : List Value) (w : World) (hp : Blk w pp (poolB mb base nb n ob W) 105) (hb : Blk w nb ns 61) (hn : n ≤ 4096) (hl : ns.length = 2 * n) (lo : Nat) (s : Int) (u : Value) (b : Int) (xs : List Int)
    (hx : Ints w lo u xs) (hxl : xs.length ≤ 1099511627776) : Calls Try.prog 28 #[.pointer (some ⟨pp, 0, none⟩), .int .i64 s, .agg #[u, .int .i64 b]] w (KeptAny w nb n ns s b xs) := by
  by_cases h : s < 0 ∨ (n : Int) ≤ s
  · refine (keepP_no pp mb nb n ob W base ns w hp hb hn s h u b).mono ?_
    rintro e w' ⟨rfl, hO⟩
    exact ⟨ns, rfl, hO.blk hb (by simp), hO.mono (by simp), Or.inl h⟩
  · obtain ⟨k, rfl⟩ : ∃ k : Nat, s = k := ⟨s.toNat, by omega⟩
    have hk : k < n := by omega
    have h0 : 2 * k < ns.length := by omega
    have h1 : 2 * k + 1 < ns.length := by omega
    refine (keepP_yes pp mb nb n ob W base ns w hp hb hn lo k hk u b xs hx hxl _ _ (List.getElem?_eq_getElem h0) (List.getElem?_eq_getElem h1)).mono ?_
    rintro e w' ⟨v, rfl, h2, h3, h4⟩
    exact ⟨_, rfl, h2, h4, Or.inr ⟨k, rfl, hk, v, h3, rfl⟩⟩

set_option maxRecDepth 100000 in
set_option maxHeartbeats 800000 in
theorem poolKeeps_walk (slot b : Int) (v : Value) (zs : List Int) (w : World) (hz : ArgK w v zs) (hs : -9223372036854775808 ≤ slot ∧ slot ≤ 9223372036854775807) :
    Calls Try.prog 6 #[.int .i64 slot, v, .int .i64 b] w (True0 w) := by
  obtain ⟨i0, hi, hz0, hz1, hz2⟩ := info_parts Try.info3
  have Hz := Lib.hid hz
  clear hz
  obtain ⟨xs, hxs⟩ : ∃ xs, xs = zs.take 70 := ⟨_, rfl⟩
  have Hxs := Lib.hid hxs
  clear hxs
  obtain ⟨vz, hvz⟩ : ∃ vz, vz = v := ⟨_, rfl⟩
  go_enter Try.func6, Try.ntmps6
  go_wp2_with fail
  refine (freshP_any 5 1 w (by decide) (by decide)).mono ?_
  rintro e w1 ⟨L, cs, rfl, q1, q2, q3, q4, hP1, hO1⟩
  go_upto_region 2 with fail
  go_cut [1] from 19 (fun u w2 => ∃ g cap, u = .slice (some ⟨g, 0, none⟩) xs.length cap ∧ Ints w2 w1.heap.size u xs ∧ Only [] w1 w2)
  case first =>
    have hown : (w1.alloc (.cells #[] 3)).ownsRow w1.heap.size 3 1 (.slice (some ⟨w1.heap.size, 0, none⟩) 0 0) 0 [] := World.ownsRow_made w1 #[] 0 (Nat.le_refl _) (by unfold maxLen; omega) rfl
    have hO2 : Only [] w1 (w1.alloc (.cells #[] 3)) := (Only.refl _ _).alloc _
    have fin : ∀ v' w2, w2.ownsRow w1.heap.size 3 1 v' xs.length (xs.map (Value.int .i64)) → (w1.alloc (.cells #[] 3)).grownBy w2 (some w1.heap.size) → v' ≠ .slice none 0 0 → ∃ g cap, v' = .slice (some ⟨g, 0, none⟩) xs.length cap ∧ Ints w2 w1.heap.size v' xs ∧ Only [] w1 w2 := by
      intro v' w2 h1 h2 h3
      have hI : Ints w2 w1.heap.size v' xs := h1
      rcases hI.form with ⟨h4, _⟩ | ⟨g, cap, h4, _⟩
      · exact absurd h4 h3
      · exact ⟨g, cap, h4, hI, hO2.grown h2 (fun k hk => by simp at hk; right; omega)⟩
    rcases Hz.out.only hO1 with ⟨rfl, rfl⟩ | ⟨x, cap, rfl, hl, hm, hc⟩
    · have : xs = [] := by have := Hxs.out; simpa using this
      subst this
      go_wp2_with fail
      go_meet
      case rel => exact ⟨w1.heap.size, 0, rfl, hown, hO2⟩
    · have hcc : ∀ (j : Nat) u, (zs.map (Value.int .i64))[j]? = some u → (w1.alloc (.cells #[] 3)).cell? (x.add j) = some u := fun j u h => by
        have h5 := hc j u h
        exact (World.cell?_of_block (hO2.block _ (World.block_lt_of_cell? w1 _ h5) (by simp))).trans h5
      have Hcc := Lib.hid hcc
      clear hcc hc
      by_cases h0 : zs = []
      · subst h0
        have : xs = [] := by have := Hxs.out; simpa using this
        subst this
        go_wp2_with fail
        go_meet
        case rel => exact ⟨w1.heap.size, 0, rfl, hown, hO2⟩
      · have hpos : 0 < zs.length := List.length_pos_iff.2 h0
        by_cases h70 : zs.length ≤ 70
        · have e : xs = zs := by rw [Hxs.out]; exact List.take_of_length_le h70
          subst e
          have h70' : (xs.length : Int) ≤ 70 := by omega
          have hlc : (xs.length : Int) ≤ (cap : Int) := by omega
          go_wp2_with (at_builtin; refine (wpList_append_own _ rfl (.tmp 19) (.tmp 24) 29 rfl w1.heap.size 3 i0 (.int .i64 0) 1 8 Try.underlying29 hi hz0 hz1 hz2 rfl (by decide) _ _ _ rfl hown x xs.length cap (xs.map (Value.int .i64)) rfl ?c0 ?c1 ?c2 ?c3 ?c4 ?c5 ?_))
          case c0 => simp
          case c1 => exact Hcc.out
          case c2 => intro u hu; simp at hu; obtain ⟨a, _, rfl⟩ := hu; rfl
          case c3 => unfold maxLen; omega
          case c4 => omega
          case c5 => simp
          intro v' w2 hown' hgrow hnil
          have F := Lib.hid (fin v' w2 (by simpa using hown') (by simpa [Value.ownBlock] using hgrow) (fun h => by simp [h] at hnil))
          clear hown' hgrow hnil hown fin
          go_wp2_with fail
          go_meet
          case rel => exact F.out
        · have e : xs.length = 70 := by rw [Hxs.out]; simp; omega
          have h70' : ¬ (zs.length : Int) ≤ 70 := by omega
          have hlc : (70 : Int) ≤ (cap : Int) := by omega
          have N0 := Lib.hid (show (xs.map (Value.int .i64)).length = 70 * 1 by simp [e])
          have N1 := Lib.hid (show ∀ (j : Nat) u, (xs.map (Value.int .i64))[j]? = some u → (w1.alloc (.cells #[] 3)).cell? (x.add j) = some u by
            intro j u hj
            refine Hcc.out j u ?_
            rw [Hxs.out, List.map_take] at hj
            rw [List.getElem?_take] at hj
            split at hj
            · exact hj
            · cases hj)
          have N2 := Lib.hid (show ∀ u, u ∈ xs.map (Value.int .i64) → u.oneCell' = true by intro u hu; simp at hu; obtain ⟨a, _, rfl⟩ := hu; rfl)
          have N5 := Lib.hid (show w1.heap.size ≤ (w1.alloc (.cells #[] 3)).heap.size by simp)
          go_wp2_with (at_builtin; refine (wpList_append_own _ rfl (.tmp 19) (.tmp 24) 29 rfl w1.heap.size 3 i0 (.int .i64 0) 1 8 Try.underlying29 hi hz0 hz1 hz2 rfl (by decide) _ _ _ rfl hown x 70 cap (xs.map (Value.int .i64)) rfl N0.out N1.out N2.out (by unfold maxLen; omega) (by omega) N5.out ?_))
          intro v' w2 hown' hgrow hnil
          have F := Lib.hid (fin v' w2 (by rw [e]; simpa using hown') (by simpa [Value.ownBlock] using hgrow) (fun h => by simp [h] at hnil))
          clear hown' hgrow hnil hown fin
          go_wp2_with fail
          go_meet
          case rel => exact F.out
  case rest =>
  obtain ⟨g, cap, rfl, hI2, hO2⟩ := hcut
  have hx70 : xs.length ≤ 70 := by rw [Hxs.out]; simp; omega
  have hP2 := hP1.only hO2 (by simp)
  have HQ := Lib.hid (And.intro q1 (And.intro q2 (And.intro q3 (show L.past w.heap.size from q4))))
  have HW2 := Lib.hid (hO1.trans hO2)
  have hw1 : w.heap.size ≤ w1.heap.size := hO1.size
  clear q1 q2 q3 q4 hP1 hO1 hO2 Hz
  go_wp2_with fail
  refine (pools_any wc).mono ?_
  rintro e w3 ⟨rfl, hO3⟩
  have hP3 := hP2.only hO3 (by simp)
  have hI3 := hI2.only hO3 (by simp)
  have HW3 := Lib.hid (HW2.out.trans hO3)
  clear hP2 hI2 HW2 hO3
  go_upto_region 5 with fail
  have hown : (w3.alloc (.cells #[] 3)).ownsRow w3.heap.size 3 1 (.slice (some ⟨w3.heap.size, 0, none⟩) 0 0) 0 [] := World.ownsRow_made w3 #[] 0 (Nat.le_refl _) (by unfold maxLen; omega) rfl
  have hO4 : Only [] w3 (w3.alloc (.cells #[] 3)) := (Only.refl _ _).alloc _
  have hI4 := hI3.only hO4 (by simp)
  have N0 := Lib.hid (show (xs.map (Value.int .i64)).length = xs.length * 1 by simp)
  have N1 := Lib.hid (show ∀ (j : Nat) u, (xs.map (Value.int .i64))[j]? = some u → (w3.alloc (.cells #[] 3)).cell? ((⟨g, 0, none⟩ : Addr).add j) = some u from World.ownsRow.cells hI4 rfl)
  have N2 := Lib.hid (show ∀ u, u ∈ xs.map (Value.int .i64) → u.oneCell' = true by intro u hu; simp at hu; obtain ⟨a, _, rfl⟩ := hu; rfl)
  have N5 := Lib.hid (show w3.heap.size ≤ (w3.alloc (.cells #[] 3)).heap.size by simp)
  go_upto_region 6 with (at_builtin; refine (wpList_append_own _ rfl (.tmp 32) (.tmp 33) 29 rfl w3.heap.size 3 i0 (.int .i64 0) 1 8 Try.underlying29 hi hz0 hz1 hz2 rfl (by decide) (.slice (some ⟨w3.heap.size, 0, none⟩) 0 0) 0 [] rfl hown ⟨g, 0, none⟩ xs.length cap (xs.map (Value.int .i64)) rfl N0.out N1.out N2.out (by unfold maxLen; omega) (by omega) N5.out ?_); intro v' w4 hown' hgrow hnil)
  have hx5 : Ints w4 w3.heap.size v' xs := by unfold Ints; simpa using hown'
  have hO5 : Only [] w3 w4 := hO4.grown hgrow (fun k hk => by simp [Value.ownBlock] at hk; subst hk; exact Or.inr (Nat.le_refl _))
  have hI5 := hI3.only hO5 (by simp)
  have hP5 := hP3.only hO5 (by simp)
  have HW5 := Lib.hid (HW3.out.trans hO5)
  have hg3 : g < w3.heap.size := by
    rcases hI3.form with ⟨h, _⟩ | ⟨g', _, h, _, h2, _⟩
    · cases h
    · simp at h; obtain ⟨⟨rfl, _⟩, _⟩ := h; exact h2
  have hlo : w1.heap.size ≤ g := by
    rcases hI3.form with ⟨h, _⟩ | ⟨g', _, h, h2, _⟩
    · cases h
    · simp at h; obtain ⟨⟨rfl, _⟩, _⟩ := h; exact h2
  have hw35 : w3.heap.size ≤ w4.heap.size := hO5.size
  have hP5n := hP5.nodes
  have hP5p := hP5.pool
  have HK := Lib.hid (keepP_all L.pp L.mb L.nb L.n L.ob L.W L.base _ w4 hP5p hP5n hP5.n2 hP5.nlen w1.heap.size slot _ b xs hI5 (by omega))
  have HP5 := Lib.hid hP5
  clear hown hown' hgrow hnil hO4 hI4 N0 N1 N2 N5 hI3 hP3 HW3 hO5 hP5 hP5n hP5p
  go_wp2_with (go_at_call 28; refine HK.out.mono ?_; rintro e w5 ⟨ns', rfl, hN6, hO6, hcase⟩)
  have hgb : ∃ us, Blk w4 g us 3 := (hI5.blk3 rfl).1
  obtain ⟨us, hgb⟩ := hgb
  have hgn : g ∉ [L.nb] := by simp; exact hgb.ty HP5.out.nodes (by decide)
  have hI6 := hI5.own hO6 (by intro b' hb'; simp [Value.ownBlock] at hb'; subst hb'; exact hgn)
  clear HK hI5
  go_loopw [11] (fun i wr => ∃ (k : Nat) (ys : List Int), k ≤ xs.length ∧ i = .int .i64 k ∧ ys.length = xs.length ∧ Ints wr w1.heap.size (.slice (some ⟨g, 0, none⟩) xs.length cap) ys ∧ Only [g] w5 wr) (fun i _ => xs.length - (intOf i).toNat)
  case atStart => exact ⟨0, xs, by omega, rfl, rfl, hI6, Only.refl _ _⟩
  case round =>
    obtain ⟨k, ys, hk, rfl, hys, hIr, hOr⟩ := hrel
    have HOr := Lib.hid hOr
    have Hys := Lib.hid hys
    have HIr := Lib.hid hIr
    by_cases hlt : k < xs.length
    · have d : wr.cell? ⟨g, k, none⟩ = some (.int .i64 (ys.getD k 0)) := by
        rcases hIr.form with ⟨h, _⟩ | ⟨g', _, h, _, _, _, _, _, hc⟩
        · cases h
        · simp at h; obtain ⟨⟨rfl, _⟩, _⟩ := h; exact hc k (by omega)
      have df : wr.frozen? ⟨g, k, none⟩ = false := by
        rcases hIr.form with ⟨h, _⟩ | ⟨g', _, h, _, _, _, _, hf, hc⟩
        · cases h
        · simp at h; obtain ⟨⟨rfl, _⟩, _⟩ := h; exact hf k
      have b1 : (k : Int) < (xs.length : Int) := by omega
      clear hys hIr hOr
      go_wp2_with fail
      go_roundw
      case rel => exact ⟨k + 1, _, by omega, by go_num, by rw [List.length_set]; exact Hys.out, HIr.out.set Hys.out k _, (HOr.out.setCell (by simp) _)⟩
      case measure => simp [intOf]; omega
    · clear hys hIr hOr
      obtain ⟨wo, rfl⟩ : ∃ wo : World, wo = wr := ⟨_, rfl⟩
      go_upto_region 11 with fail
      have hl3 := HQ.out.2.2.2
      have hWr : Only [] w wo := (HW5.out.behind hO6 (by intro k hk; simp at hk; subst hk; exact Or.inl hl3.2.1)).behind HOr.out (by intro k hk; simp at hk; subst hk; left; omega)
      have hn1 := HQ.out.2.1
      obtain ⟨us2, hg5⟩ := (hI6.blk3 rfl).1
      have hp4 := HP5.out.pool
      have hp5 := hO6.blk hp4 (by simp; exact hp4.ty HP5.out.nodes (by decide))
      have hp6 := HOr.out.blk hp5 (by simp; exact hp5.ty hg5 (by decide))
      have hN7 := HOr.out.blk hN6 (by simp; exact hN6.ty hg5 (by decide))
      rw [hn1] at hp6
      have hx7 := (hx5.own hO6 (by intro b' hb'; obtain ⟨⟨us', q⟩, _⟩ := hx5.blk3 hb'; simp; exact q.ty HP5.out.nodes (by decide))).own HOr.out (by intro b' hb'; have := (hx5.blk3 hb').2.1; simp; omega)
      have HWr := Lib.hid hWr
      have Hx7 := Lib.hid hx7
      rcases hcase with hout | ⟨kk, rfl, hkk, vk, hvk, hns⟩
      · rw [hn1] at hout
        have HN := Lib.hid (nodeP_no L.pp L.mb L.nb 5 L.ob L.W L.base ns' wo hp6 hN7 (by omega) slot hout)
        have hor : (decide (slot < 0) || decide (5 ≤ slot)) = true := by simp; omega
        clear hN6 hO6 hI6 hx5 hgb hg5 hp4 hp5 hx7 hWr hout
        go_upto_region 12 with (go_at_call 29; refine HN.out.mono ?_; rintro e w8 ⟨rfl, hO8⟩)
        by_cases h0 : slot < 0
        · go_wp2
          go_ret
          exact ⟨rfl, (HWr.out.trans hO8).alloc _⟩
        · have h5 : 5 ≤ slot := by simp at hor; omega
          clear hor
          go_wp2
          go_ret
          exact ⟨rfl, (HWr.out.trans hO8).alloc _⟩
      · rw [hn1] at hkk
        have hv0 : ns'[2 * kk]? = some vk := by rw [hns, List.getElem?_set_ne (by omega), List.getElem?_set_self (by rw [nodesZ_len]; omega)]
        have hv1 : ns'[2 * kk + 1]? = some (.int .i64 b) := by rw [hns, List.getElem?_set_self (by rw [List.length_set, nodesZ_len]; omega)]
        obtain ⟨k2, hk2, hmod⟩ : ∃ k2 : Nat, k2 < 5 ∧ k2 ≠ kk ∧ ((kk : Int) + 1).tmod 5 = (k2 : Int) := by
          refine ⟨(kk + 1) % 5, by omega, by omega, ?_⟩
          rw [Int.tmod_eq_emod_of_nonneg (by omega)]
          omega
        have hv2 : ns'[2 * k2]? = some (.slice none 0 0) := by rw [hns, List.getElem?_set_ne (by omega), List.getElem?_set_ne (by omega)]; exact nodesZ_path 5 k2 hk2
        have hv3 : ns'[2 * k2 + 1]? = some (.int .i64 0) := by rw [hns, List.getElem?_set_ne (by omega), List.getElem?_set_ne (by omega)]; exact nodesZ_bound 5 k2 hk2
        have Hv := Lib.hid (And.intro hv0 (And.intro hv1 (And.intro hv2 hv3)))
        have hvk7 := hvk.own HOr.out (by intro b' hb'; have := (hvk.blk3 hb').2.1; simp; omega)
        have HN := Lib.hid (nodeP_yes L.pp L.mb L.nb 5 L.ob L.W L.base ns' wo hp6 hN7 (by omega) _ kk hkk vk b xs hvk7 (by omega) hv0 hv1)
        have HVk := Lib.hid hvk7
        have Hp6 := Lib.hid hp6
        have HN7 := Lib.hid hN7
        have Hmod := Lib.hid hmod
        clear hN6 hO6 hI6 hx5 hgb hg5 hp4 hp5 hx7 hWr hvk hns hv0 hv1 hv2 hv3 hvk7 hp6 hN7 hmod
        go_upto_region 12 with (go_at_call 29; refine HN.out.mono ?_; rintro e w8 ⟨vn, rfl, hI8, hO8⟩; obtain ⟨na, nc, rfl⟩ := hI8.slice')
        have hK9 := Blk.new w8 [.slice na xs.length nc, .int .i64 b] 61
        have hO9 := (Only.refl [] w8).alloc (.cells #[.slice na xs.length nc, .int .i64 b] 61)
        change Blk (w8.alloc (.cells #[.slice na xs.length nc, .int .i64 b] 61)) w8.heap.size [.slice na xs.length nc, .int .i64 b] 61 at hK9
        have hI9 := hI8.only hO9 (by simp)
        have hO79 := hO8.trans hO9
        have hs8 := hO8.size
        generalize w8.alloc (.cells #[.slice na xs.length nc, .int .i64 b] 61) = w9 at *
        generalize hnk : w8.heap.size = nk at *
        have k0 := hK9.cell (o := 0) rfl
        have k1 := hK9.cell (o := 1) rfl
        have hx9 := Hx7.out.only hO79 (by simp)
        have HS := Lib.hid (same_yes _ _ _ v' xs w9 hI9 hx9 (by omega))
        have HB := fun n => Lib.hid (boundP_any L.pp L.mb L.nb 5 L.ob L.W L.base ns' (w9.drewN n) (hO79.blk Hp6.out (by simp)) (hO79.blk HN7.out (by simp)) (by omega) kk hkk b Hv.out.2.1)
        have c1 : 0 ≤ (kk : Int) := by omega
        have c2 : ¬ (5 ≤ (kk : Int)) := by omega
        have c3 : (b != b) = false := by simp
        have j0 := fun n => show (w9.drewN n).cell? ⟨nk, 0, none⟩ = some (.slice na xs.length nc) from k0
        have j1 := fun n => show (w9.drewN n).cell? ⟨nk, 1, none⟩ = some (.int .i64 b) from k1
        have HO79 := Lib.hid hO79
        have HI9 := Lib.hid hI9
        have HK9 := Lib.hid hK9
        clear hO79 hI9 hK9 hx9 hI8 hO8 hO9 HN
        go_upto_region 16 with (first | (go_at_call 24; refine HS.out.mono ?_; rintro e w10 ⟨rfl, nq, rfl⟩) | (go_at_call 30; refine (HB _).out.mono ?_; rintro e w' ⟨rfl, rfl⟩))
        clear HB HS j0 j1 k0 k1
        go_wp2_with fail
        go_loopw [13] (fun i wr' => ∃ (k : Nat) (ys : List Int), k ≤ xs.length ∧ i = .int .i64 k ∧ ys.length = xs.length ∧ Ints wr' wo.heap.size (.slice na xs.length nc) ys ∧ Only (blkOf (.slice na xs.length nc)) w9 wr') (fun i _ => xs.length - (intOf i).toNat)
        case atStart => exact ⟨0, xs, by omega, rfl, rfl, HI9.out, (Only.refl _ _).drewN _⟩
        case round =>
          obtain ⟨k3, ys, hk3, rfl, hys, hIr, hOr2⟩ := hrel
          have HOr2 := Lib.hid hOr2
          have Hys := Lib.hid hys
          have HIr := Lib.hid hIr
          have hb9 : nk ∉ blkOf (.slice na xs.length nc) := by
            intro hm
            obtain ⟨⟨us', q⟩, _⟩ := HI9.out.blk3 (mem_blkOf.1 hm)
            exact absurd rfl (q.ty HK9.out (by decide))
          have hKr := hOr2.blk HK9.out hb9
          have k0 := hKr.cell (o := 0) rfl
          by_cases hlt : k3 < xs.length
          · obtain ⟨g2, rfl, d, df⟩ : ∃ g2, na = some ⟨g2, 0, none⟩ ∧ wr.cell? ⟨g2, k3, none⟩ = some (.int .i64 (ys.getD k3 0)) ∧ wr.frozen? ⟨g2, k3, none⟩ = false := by
              rcases hIr.form with ⟨h, hy0⟩ | ⟨g', _, h, _, _, _, _, hf, hc⟩
              · rw [hy0] at hys; simp at hys; omega
              · simp at h; obtain ⟨rfl, _⟩ := h; exact ⟨g', rfl, hc k3 (by omega), hf k3⟩
            have hng : nk ≠ g2 := by intro e; subst e; exact hb9 (mem_blkOf.2 rfl)
            have b1 : (k3 : Int) < (xs.length : Int) := by omega
            have hK4 := fun u => hKr.ne ⟨g2, k3, none⟩ u hng
            have e0 := fun u => (hK4 u).cell (o := 0) rfl
            clear hys hIr hOr2 hKr hK4
            go_wp2_with fail
            go_region
            go_wp2_with fail
            go_roundw
            case rel =>
              have hS := HIr.out.set Hys.out k3 (bits BinOp.xor IntKind.i64 (ys.getD k3 0) 3)
              refine ⟨k3 + 1, _, by omega, by go_num, ?_, hS, (HOr2.out.setCell (p := ⟨g2, k3, none⟩) (Or.inl (mem_blkOf.2 rfl)) (.int .i64 (bits BinOp.xor IntKind.i64 (ys.getD k3 0) 3))).drew⟩
              rw [List.length_set]
              exact Hys.out
            case measure => simp [intOf]; omega
          · have hwo : w.heap.size ≤ wo.heap.size := HWr.out.size
            have hpB := HI9.out
            have hp9 := HO79.out.blk Hp6.out (by simp)
            have hN9 := HO79.out.blk HN7.out (by simp)
            have hlo9 : ∀ b', b' ∈ blkOf (.slice na xs.length nc) → (∃ us', Blk w9 b' us' 3) ∧ wo.heap.size ≤ b' := fun b' hb' => by
              obtain ⟨q1, q2, _⟩ := hpB.blk3 (mem_blkOf.1 hb')
              exact ⟨q1, q2⟩
            have hp10 := HOr2.out.blk hp9 (by intro hm; have := (hlo9 _ hm).2; have := Hp6.out.lt; omega)
            have hN10 := HOr2.out.blk hN9 (by intro hm; have := (hlo9 _ hm).2; have := HN7.out.lt; omega)
            have hvk10 := (HVk.out.only HO79.out (by simp)).own HOr2.out (by intro b' hb' hm; have := (hlo9 _ hm).2; have := (HVk.out.blk3 hb').2.2; omega)
            have hx10 := (Hx7.out.only HO79.out (by simp)).own HOr2.out (by intro b' hb' hm; have := (hlo9 _ hm).2; have := (Hx7.out.blk3 hb').2.2; omega)
            have hW10 : Only [] w wr := (HWr.out.trans HO79.out).behind HOr2.out (by intro b' hb'; left; have := (hlo9 _ hb').2; omega)
            have HN := Lib.hid (nodeP_yes L.pp L.mb L.nb 5 L.ob L.W L.base ns' wr hp10 hN10 (by omega) _ kk hkk vk b xs hvk10 (by omega) Hv.out.1 Hv.out.2.1)
            have Hp10 := Lib.hid hp10
            have HN10 := Lib.hid hN10
            have Hx10 := Lib.hid hx10
            have HW10 := Lib.hid hW10
            clear hpB hp9 hN9 hp10 hN10 hvk10 hx10 hW10 hys hIr hOr2 hKr
            go_upto_region 20 with fail
            have hfd := run_field_path
            have c1 : ((kk : Int) + 1).tmod 5 = (k2 : Int) := Hmod.out.2
            go_wp2_with (first
              | (go_at_call 29; refine HN.out.mono ?_; rintro e w11 ⟨vn2, rfl, hI11, hO11⟩; obtain ⟨a2, c2, rfl⟩ := hI11.slice'; have HS := Lib.hid (same_yes _ _ _ v' xs w11 hI11 (Hx10.out.only hO11 (by simp)) (by omega)); have HN2 := fun n => Lib.hid (nodeP_yes L.pp L.mb L.nb 5 L.ob L.W L.base ns' (w11.drewN n) (hO11.blk Hp10.out (by simp)) (hO11.blk HN10.out (by simp)) (by omega) 0 k2 hk2 (.slice none 0 0) 0 [] (Ints.nil _ _) (by simp) Hv.out.2.2.1 Hv.out.2.2.2); have HO11 := Lib.hid (HW10.out.trans hO11); clear HN)
              | (go_at_call 24; refine HS.out.mono ?_; rintro e w' ⟨rfl, nq, rfl⟩)
              | (go_at_call 29; refine (HN2 _).out.mono ?_; rintro e w12 ⟨v3, rfl, hI12, hO12⟩; obtain ⟨a3, c3, rfl⟩ := hI12.slice'; have HO12 := Lib.hid ((HO11.out.drewN _).trans hO12)))
            go_ret
            exact ⟨rfl, HO12.out⟩
end Go.Proofs.Ytcgiimgdcamkiaa
