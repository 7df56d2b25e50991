/-
  The walk over Shared.
-/
import Derived.Test.YtcgiimgdcamkiaaPoolR
namespace Go.Proofs.Ytcgiimgdcamkiaa
open Go.RowKit
set_option linter.unusedVariables false

/-- A list of different numbers below n has n at the most. -/
theorem nodup_len : ∀ (n : Nat) (l : List Nat), l.Nodup → (∀ s, s ∈ l → s < n) → l.length ≤ n
  | 0, l, _, h => by
    cases l with
    | nil => simp
    | cons a r => have := h a (by simp); omega
  | n + 1, l, hd, h => by
    have hd2 : (l.erase n).Nodup := hd.erase n
    have h2 : ∀ s, s ∈ l.erase n → s < n := by
      intro s hs
      have h1 := h s (List.mem_of_mem_erase hs)
      have h3 : s ≠ n := fun e => by
        subst e
        exact (List.Nodup.not_mem_erase hd) hs
      omega
    have ih := nodup_len n (l.erase n) hd2 h2
    have := List.le_length_erase (a := n) (l := l)
    omega

theorem chain_drop {cs : List Int} {b : Int} : ∀ (l : List Nat) (k : Nat), Chain cs b l → Chain cs b (l.drop k)
  | [], k, h => by simp; trivial
  | a :: r, 0, h => h
  | a :: r, k + 1, h => chain_drop r k h.2

/-- A list of slots, as numbers. -/
def intsOf (l : List Nat) : List Int := l.map fun (s : Nat) => (s : Int)
theorem intsOf_len (l : List Nat) : (intsOf l).length = l.length := by simp [intsOf]
def lenV : Value → Nat
  | .slice _ l _ => l
  | _ => 0

set_option maxRecDepth 100000 in
set_option maxHeartbeats 1000000 in
theorem sharedP_any {w : World} {L : PoolL} {st ver : Int} {cs : List Int} {stk : List Nat} {ow : List Value} {os : List (List Int)} {ns : List Value} (h : PoolSt w L st ver cs stk ow os ns) (hv : ver < 1073741824) :
    Calls Try.prog 37 #[.pointer (some ⟨L.pp, 0, none⟩)] w (Cloned w (intsOf stk)) := by
  have hcl := h.mem.len
  have hb0 := h.b0
  have hb1 := h.b1
  have hn2 := h.n2
  have hv0 := h.v0
  have htb := topOf_bd h.inn
  have hlen := nodup_len L.n stk h.nodup h.inn
  have HP := fun n => Lib.hid (peek_any L.mb L.cb cs st L.base (w.drewN n) (h.mem.only (S := []) ((Only.refl _ w).drewN n) (by simp) (by simp)) (by omega) (by omega))
  have HU := fun n => Lib.hid (unpack_any _ ver (topOf stk) (w.drewN n) h.top (by omega) (by omega))
  have p0 := h.pool.cell (o := 0) rfl
  have p1 := h.pool.cell (o := 1) rfl
  obtain ⟨i0, hi, hz0, hz1, hz2⟩ := info_parts Try.info3
  have H := Lib.hid h
  clear h
  go_enter Try.func37, Try.ntmps37
  go_wp2_with fail
  go_quiet (first | (go_at_call 49; exact Calls.quiet_of_same ((HP _).out.mono fun e w' ⟨he, hw⟩ => ⟨he, hw.symm⟩)) | (go_at_call 57; exact Calls.quiet_of_same ((HU _).out.mono fun e w' ⟨he, hw⟩ => ⟨he, hw.symm⟩)))
  go_wp2_with fail
  have Hv := Lib.hid (And.intro hv0 (And.intro hv hv0))
  have Htb := Lib.hid htb
  clear p0 p1 HP HU hv0 hv htb
  go_loopw [4, 5] (fun a o wr => ∃ (k : Nat) (oa : Option Addr) (oc : Nat), k ≤ stk.length ∧ a = .int .i64 (topOf (stk.drop k)) ∧ o = .slice oa k oc ∧ Ints wr w.heap.size (.slice oa k oc) (intsOf (stk.take k)) ∧ Only [] w wr) (fun _ o _ => 4097 - lenV o)
  case atStart => exact ⟨0, none, 0, by omega, by simp, rfl, by simpa [intsOf] using Ints.nil _ _, (Only.refl _ w).drewN _⟩
  case round =>
    obtain ⟨k, oa, oc, hk, rfl, rfl, hI, hO⟩ := hrel
    have hOr := hO.size
    have h := H.out.only hO (by simp)
    have p2 := h.pool.cell (o := 2) rfl
    have p0 := h.pool.cell (o := 0) rfl
    have HO := Lib.hid hO
    have HI := Lib.hid hI
    have h' := Lib.hid h
    clear h hO
    by_cases hlt : k < stk.length
    · obtain ⟨s, r, hsr⟩ : ∃ s r, stk.drop k = s :: r := by
        cases hd : stk.drop k with
        | nil => have := congrArg List.length hd; simp at this; omega
        | cons s r => exact ⟨s, r, rfl⟩
      have hsm : s ∈ stk := List.mem_of_mem_drop (by rw [hsr]; simp)
      have hsn := H.out.inn s hsm
      have hch := chain_drop stk k H.out.chain
      rw [hsr] at hch
      have hr : r = stk.drop (k + 1) := by
        have := congrArg List.tail hsr
        simpa using this.symm
      have htk : stk.take (k + 1) = stk.take k ++ [s] := by
        have h1 : stk[k]? = some s := by
          have := congrArg (fun l => l[0]?) hsr
          simpa using this
        rw [List.take_add_one, h1]
        rfl
      rw [hsr]
      have Hch := Lib.hid hch
      have Hr := Lib.hid hr
      have Htk := Lib.hid htk
      have Hsr := Lib.hid hsr
      have b1 : (0 : Int) ≤ (s : Int) := by omega
      have b2 : (k : Int) ≤ (L.n : Int) := by omega
      have b3 : s < L.n := hsn
      rw [show topOf (s :: r) = (s : Int) from rfl]
      clear hch hr htk hsr hsm hsn
      go_wp2_with (at_builtin; (refine wpList_append_lies _ rfl (.tmp 33) (.tmp 35) 29 rfl w.heap.size 3 i0 (.int .i64 0) 1 8 Try.underlying29 hi hz0 hz1 hz2 rfl (by decide) (.slice oa k oc) k ((intsOf (stk.take k)).map (Value.int .i64)) rfl ?c0 ⟨wr.heap.size, 0, none⟩ 1 1 [.int .i64 s] rfl rfl ?c1 ?c2 (by omega) ?c3 ?c4 ?c5 (wr.heap.size + 1) (by simp) ?_))
      case c0 =>
        have := HI.out
        unfold Ints at this
        rw [intsOf_len, List.length_take, Nat.min_eq_left hk] at this
        exact this.alloc _
      case c1 => exact World.news_of_block (cs := #[.int .i64 s]) (t := 3) (fr := (0, 0)) (heap_alloc_new wr _)
      case c2 => simp [Value.oneCell']
      case c3 => unfold maxLen; omega
      case c4 => omega
      case c5 => simp; omega
      intro g cap w2 hown2 hgrow hat hg2
      have hO2 : Only [] w w2 := (HO.out.alloc _).grown hgrow (fun b hb => by
        rcases HI.out.form with ⟨e, _⟩ | ⟨g', cap', e, h1, _⟩
        · rw [e] at hb; simp [Value.ownBlock] at hb
        · rw [e] at hb; simp [Value.ownBlock] at hb; omega)
      have h2 := H.out.only hO2 (by simp)
      have q0 := h2.pool.cell (o := 0) rfl
      have HL := fun n => Lib.hid (linkP_any L.pp L.mb L.nb L.n L.ob L.W L.base (w2.drewN n) h2.pool (by omega) s (by omega))
      have HP := fun n => Lib.hid (peek_any L.mb L.cb cs st (L.base + 1 + s) (w2.drewN n) (h2.mem.only (S := []) ((Only.refl _ w2).drewN n) (by simp) (by simp)) (by omega) (by omega))
      have HW := Lib.hid hown2
      have HO2 := Lib.hid hO2
      clear h2 hown2 hgrow hat hO2 p0 p2
      go_wp2_with fail
      go_quiet (first | (go_at_call 56; exact Calls.quiet_of_same ((HL _).out.mono fun e w' ⟨he, hw⟩ => ⟨he, hw.symm⟩)) | (go_at_call 49; exact Calls.quiet_of_same ((HP _).out.mono fun e w' ⟨he, hw⟩ => ⟨he, hw.symm⟩)))
      go_wp2_with fail
      go_roundw
      case rel =>
        (repeat apply Exists.intro)
        refine ⟨⟨k + 1, _, _, by omega, ?_, rfl, ?_, HO2.out.drewN _⟩, rfl⟩
        · have e : lk cs L.base s = topOf r := Hch.out.1
          rw [← Hr.out, ← e]
          rfl
        · have := HW.out
          unfold Ints
          rw [Htk.out]
          have h3 : w2.ownsRow w.heap.size 3 1 (Value.slice (some ⟨g, 0, none⟩) (k + 1) cap) (intsOf (stk.take k ++ [s])).length ((intsOf (stk.take k ++ [s])).map (Value.int .i64)) := by
            simpa [intsOf, Nat.min_eq_left hk] using this
          exact h3
      case measure => simp [lenV]; omega
    · have e : k = stk.length := by omega
      subst e
      rw [List.drop_length]
      rw [List.take_length] at HI
      rw [show topOf ([] : List Nat) = -1 from rfl]
      go_wp2_with fail
      go_ret
      exact ⟨_, rfl, HI.out, HO.out⟩
end Go.Proofs.Ytcgiimgdcamkiaa
