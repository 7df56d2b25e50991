/-
  The walks over package cell: what each function does to a memory, told of its two blocks.
-/
import Derived.Test.YtcgiimgdcamkiaaRows
import Derived.Test.YtcgiimgdcamkiaaHeap
namespace Go.Proofs.Ytcgiimgdcamkiaa
open Go.RowKit

/-- A memory: its struct in block mb, its cells in block cb. -/
def Mem (w : World) (mb cb : Nat) (cs : List Int) (st : Int) : Prop :=
  mb ≠ cb ∧ cs.length ≤ 1048576 ∧ ∃ (x2 x3 x4 x5 : Int) (x6 : Bool),
    Blk w mb [.slice (some ⟨cb, 0, none⟩) cs.length cs.length, .int .i64 st, .int .i64 x2, .int .i64 x3, .int .i64 x4, .int .i64 x5, .bool x6] 91 ∧
    Blk w cb (cs.map (Value.int .i64)) 3

theorem Mem.lt {w : World} {mb cb : Nat} {cs : List Int} {st : Int} (h : Mem w mb cb cs st) : mb < w.heap.size ∧ cb < w.heap.size := by
  obtain ⟨_, _, _, _, _, _, _, h1, h2⟩ := h; exact ⟨h1.lt, h2.lt⟩
theorem Mem.len {w : World} {mb cb : Nat} {cs : List Int} {st : Int} (h : Mem w mb cb cs st) : cs.length ≤ 1048576 := h.2.1
theorem Mem.only {w w' : World} {mb cb : Nat} {cs : List Int} {st : Int} (h : Mem w mb cb cs st) {S : List Nat} (hO : Only S w w') (hm : mb ∉ S) (hc : cb ∉ S) : Mem w' mb cb cs st := by
  obtain ⟨h0, hl, x2, x3, x4, x5, x6, h1, h2⟩ := h
  exact ⟨h0, hl, x2, x3, x4, x5, x6, hO.blk h1 hm, hO.blk h2 hc⟩

theorem Mem.notin {w : World} {mb cb : Nat} {cs : List Int} {st : Int} (h : Mem w mb cb cs st) {b : Nat} {vs : List Value} {t : TypeId} (hb : Blk w b vs t) (h1 : t ≠ 91) (h2 : t ≠ 3) : b ∉ [mb, cb] := by
  obtain ⟨_, _, _, _, _, _, _, hm, hc⟩ := h
  have e1 := hb.ty hm h1
  have e2 := hb.ty hc h2
  simp [e1, e2]

/-- What a step of the memory leaves. -/
def Stepped (w w' : World) (mb cb : Nat) (cs : List Int) (st : Int) : Prop := Mem w' mb cb cs st ∧ Only [mb, cb] w w'

set_option maxHeartbeats 400000 in
theorem step_any (mb cb : Nat) (cs : List Int) (st : Int) (kind i nv : Int) (done : Bool) (w : World)
    (hM : Mem w mb cb cs st) (hst : 0 ≤ st ∧ st < 9223372036854775807) (h0 : 0 ≤ i) (h1 : i < cs.length) :
    Calls Try.prog 62 #[.pointer (some ⟨mb, 0, none⟩), .int .i64 kind, .int .i64 i, .int .i64 nv, .bool done] w fun e w' =>
      e = .returned (.int .i64 (cs.getD i.toNat 0)) ∧ Stepped w w' mb cb (cs.set i.toNat nv) (st + 1) := by
  obtain ⟨hne, hl, x2, x3, x4, x5, x6, hm, hc⟩ := hM
  have c0 := hm.cell (o := 0) rfl
  have c1 := hm.cell (o := 1) rfl
  have c2 := hm.cell (o := 2) rfl
  have c3 := hm.cell (o := 3) rfl
  have c4 := hm.cell (o := 4) rfl
  have c5 := hm.cell (o := 5) rfl
  have c6 := hm.cell (o := 6) rfl
  have f := hm.froz
  have g := hc.froz i.toNat
  have hi : i.toNat < cs.length := by omega
  have d := hc.cell (o := i.toNat) (v := .int .i64 (cs.getD i.toNat 0)) (by simp [hi])
  go_enter Try.func62, Try.ntmps62
  go_wp2
  go_ret
  refine ⟨by simp [hi], ⟨hne, by simpa using hl, kind, i, cs[i.toNat], nv, done, ?_, ?_⟩, ?_⟩
  · have := ((((((hm.set 2 (.int .i64 kind)).set 3 (.int .i64 i)).set 4 (.int .i64 cs[i.toNat])).set 5 (.int .i64 nv)).set 6 (.bool done)).ne ⟨cb, i.toNat, none⟩ (.int .i64 nv) hne).set 1 (.int .i64 (st + 1))
    simpa using this
  · have := ((((((hc.ne ⟨mb, 2, none⟩ (.int .i64 kind) hne.symm).ne ⟨mb, 3, none⟩ (.int .i64 i) hne.symm).ne ⟨mb, 4, none⟩ (.int .i64 cs[i.toNat]) hne.symm).ne ⟨mb, 5, none⟩ (.int .i64 nv) hne.symm).ne ⟨mb, 6, none⟩ (.bool done) hne.symm).set i.toNat (.int .i64 nv)).ne ⟨mb, 1, none⟩ (.int .i64 (st + 1)) hne.symm
    simpa using this
  · repeat (first | with_reducible exact Only.refl _ _ | refine Only.setCell ?_ (by simp) _)


theorem find_any (mb cb : Nat) (cs : List Int) (st : Int) (i : Int) (w : World) (hM : Mem w mb cb cs st) (h0 : 0 ≤ i) (h1 : i < cs.length) :
    Calls Try.prog 61 #[.pointer (some ⟨mb, 0, none⟩), .int .i64 i] w fun e w' => e = .returned (.int .i64 0) ∧ w = w' := by
  obtain ⟨hne, hl, x2, x3, x4, x5, x6, hm, hc⟩ := hM
  have c0 := hm.cell (o := 0) rfl
  go_enter Try.func61, Try.ntmps61
  go_wp2
  go_ret
  exact ⟨rfl, rfl⟩

theorem size_any (mb cb : Nat) (cs : List Int) (st : Int) (w : World) (hM : Mem w mb cb cs st) :
    Calls Try.prog 45 #[.pointer (some ⟨mb, 0, none⟩)] w fun e w' => e = .returned (.int .i64 cs.length) ∧ w = w' := by
  obtain ⟨hne, hl, x2, x3, x4, x5, x6, hm, hc⟩ := hM
  have c0 := hm.cell (o := 0) rfl
  go_enter Try.func45, Try.ntmps45
  go_wp2
  go_ret
  exact ⟨rfl, rfl⟩

theorem steps_any (mb cb : Nat) (cs : List Int) (st : Int) (w : World) (hM : Mem w mb cb cs st) :
    Calls Try.prog 23 #[.pointer (some ⟨mb, 0, none⟩)] w fun e w' => e = .returned (.int .i64 st) ∧ w = w' := by
  obtain ⟨hne, hl, x2, x3, x4, x5, x6, hm, hc⟩ := hM
  have c1 := hm.cell (o := 1) rfl
  go_enter Try.func23, Try.ntmps23
  go_wp2
  go_ret
  exact ⟨rfl, rfl⟩

set_option maxHeartbeats 400000 in
theorem get_any (mb cb : Nat) (cs : List Int) (st : Int) (i : Int) (w : World)
    (hM : Mem w mb cb cs st) (hst : 0 ≤ st ∧ st < 9223372036854775807) (h0 : 0 ≤ i) (h1 : i < cs.length) :
    Calls Try.prog 50 #[.pointer (some ⟨mb, 0, none⟩), .int .i64 i] w fun e w' =>
      e = .returned (.tuple #[.int .i64 (cs.getD i.toNat 0), .int .i64 0]) ∧ Stepped w w' mb cb cs (st + 1) := by
  have hM0 := hM
  obtain ⟨hne, hl, x2, x3, x4, x5, x6, hm, hc⟩ := hM
  have c0 := hm.cell (o := 0) rfl
  have hi : i.toNat < cs.length := by omega
  have d := hc.cell (o := i.toNat) (v := .int .i64 (cs.getD i.toNat 0)) (by simp [hi])
  have F := find_any mb cb cs st i w hM0 h0 h1
  have S := step_any mb cb cs st 1 i (cs.getD i.toNat 0) true w hM0 hst h0 h1
  have hset : cs.set i.toNat (cs.getD i.toNat 0) = cs := by simp [hi]
  rw [hset] at S
  generalize cs.getD i.toNat 0 = x at *
  clear hset
  have hF := Lib.hid F; clear F
  have hS := Lib.hid S; clear S
  go_enter Try.func50, Try.ntmps50
  go_wp2_with (first | (go_at_call 61; refine hF.out.mono ?_; rintro e w' ⟨rfl, rfl⟩) | (go_at_call 62; refine hS.out.mono ?_; rintro e w' ⟨rfl, hS⟩))
  go_ret2
  exact ⟨rfl, hS⟩

set_option maxHeartbeats 400000 in
theorem set_any (mb cb : Nat) (cs : List Int) (st : Int) (i n : Int) (w : World)
    (hM : Mem w mb cb cs st) (hst : 0 ≤ st ∧ st < 9223372036854775807) (h0 : 0 ≤ i) (h1 : i < cs.length) :
    Calls Try.prog 47 #[.pointer (some ⟨mb, 0, none⟩), .int .i64 i, .int .i64 n] w fun e w' =>
      e = .returned (.int .i64 0) ∧ Stepped w w' mb cb (cs.set i.toNat n) (st + 1) := by
  have hF := Lib.hid (find_any mb cb cs st i w hM h0 h1)
  have hS := Lib.hid (step_any mb cb cs st 2 i n true w hM hst h0 h1)
  go_enter Try.func47, Try.ntmps47
  go_wp2_with (first | (go_at_call 61; refine hF.out.mono ?_; rintro e w' ⟨rfl, rfl⟩) | (go_at_call 62; refine hS.out.mono ?_; rintro e w' ⟨rfl, hS⟩))
  go_ret
  exact ⟨rfl, hS⟩

theorem peek_any (mb cb : Nat) (cs : List Int) (st : Int) (i : Int) (w : World) (hM : Mem w mb cb cs st) (h0 : 0 ≤ i) (h1 : i < cs.length) :
    Calls Try.prog 49 #[.pointer (some ⟨mb, 0, none⟩), .int .i64 i] w fun e w' => e = .returned (.int .i64 (cs.getD i.toNat 0)) ∧ w = w' := by
  have hF := Lib.hid (find_any mb cb cs st i w hM h0 h1)
  obtain ⟨hne, hl, x2, x3, x4, x5, x6, hm, hc⟩ := hM
  have c0 := hm.cell (o := 0) rfl
  have hi : i.toNat < cs.length := by omega
  have d := hc.cell (o := i.toNat) (v := .int .i64 (cs.getD i.toNat 0)) (by simp [hi])
  generalize cs.getD i.toNat 0 = x at *
  go_enter Try.func49, Try.ntmps49
  go_wp2_with (go_at_call 61; refine hF.out.mono ?_; rintro e w' ⟨rfl, rfl⟩)
  go_ret
  exact ⟨rfl, rfl⟩

theorem Try.info3 : (Try.prog.info? 3).map (fun i => (i.zero, i.size, i.bytes)) = some (some (.int .i64 0), 1, 8) := by kernel_rfl

/-- A new memory: n cells of nought. -/
def MemNew (w : World) (n : Nat) (e : Ending) (w' : World) : Prop :=
  ∃ mb cb, e = .returned (.tuple #[.pointer (some ⟨mb, 0, none⟩), .int .i64 0]) ∧ w.heap.size ≤ mb ∧ w.heap.size ≤ cb ∧ Mem w' mb cb (List.replicate n 0) 0 ∧ Only [] w w'

set_option maxHeartbeats 400000 in
theorem cellNew_yes (n : Int) (w : World) (h0 : 0 ≤ n) (h1 : n ≤ 1048576) : Calls Try.prog 10 #[.int .i64 n] w (MemNew w n.toNat) := by
  obtain ⟨i0, hi, hz0, hz1, hz2⟩ := info_parts Try.info3
  have hmk := fun w => run_make_row (P := Try.prog) 29 3 i0 (.int .i64 0) 8 Try.underlying29 hi hz0 hz1 hz2 rfl .i64 .i64 n h0 (by omega) (by omega) w
  clear hi hz0 hz1 hz2
  go_enter Try.func10, Try.ntmps10
  go_wp2
  go_ret2
  refine ⟨w.heap.size + 1, w.heap.size, rfl, by omega, by omega, ⟨by omega, by simp; omega, 0, 0, 0, 0, false, ?_, ?_⟩, ?_⟩
  · have hb := Blk.new (w.alloc (.cells (rowA (List.replicate n.toNat (Value.int .i64 0))) 3)) [.slice (some ⟨w.heap.size, 0, none⟩) n.toNat n.toNat, .int .i64 0, .int .i64 0, .int .i64 0, .int .i64 0, .int .i64 0, .bool false] 91
    simpa using hb
  · have hb := (Blk.newRow w (List.replicate n.toNat (Value.int .i64 0)) 3)
    simpa using hb.alloc _
  · exact ((Only.refl _ _).alloc _).alloc _

theorem cellNew_no (n : Int) (w : World) (h : n < 0 ∨ 1048576 < n) : Calls Try.prog 10 #[.int .i64 n] w fun e w' => e = .returned (.tuple #[.pointer none, .int .i64 1]) ∧ w = w' := by
  rcases h with h | h
  · go_enter Try.func10, Try.ntmps10
    go_wp2
    go_ret2
    exact ⟨rfl, rfl⟩
  · have h' : ¬ n < 0 := by omega
    go_enter Try.func10, Try.ntmps10
    go_wp2
    go_ret2
    exact ⟨rfl, rfl⟩

set_option maxHeartbeats 400000 in
theorem cas_yes (mb cb : Nat) (cs : List Int) (st : Int) (i old n : Int) (w : World)
    (hM : Mem w mb cb cs st) (hst : 0 ≤ st ∧ st < 9223372036854775807) (h0 : 0 ≤ i) (h1 : i < cs.length) (hold : cs.getD i.toNat 0 = old) :
    Calls Try.prog 64 #[.pointer (some ⟨mb, 0, none⟩), .int .i64 i, .int .i64 old, .int .i64 n] w fun e w' =>
      e = .returned (.tuple #[.bool true, .int .i64 0]) ∧ Stepped w w' mb cb (cs.set i.toNat n) (st + 1) := by
  have hF := Lib.hid (find_any mb cb cs st i w hM h0 h1)
  have hS := Lib.hid (step_any mb cb cs st 3 i n true w hM hst h0 h1)
  obtain ⟨hne, hl, x2, x3, x4, x5, x6, hm, hc⟩ := hM
  have c0 := hm.cell (o := 0) rfl
  have hi : i.toNat < cs.length := by omega
  have d := hc.cell (o := i.toNat) (v := .int .i64 (cs.getD i.toNat 0)) (by simp [hi])
  rw [hold] at d hS
  clear hold hm hc
  have e1 : (old == old) = true := by simp
  have e2 : (old != old) = false := by simp
  go_enter Try.func64, Try.ntmps64
  go_wp2_with (first | (go_at_call 61; refine hF.out.mono ?_; rintro e w' ⟨rfl, rfl⟩) | (go_at_call 62; refine hS.out.mono ?_; rintro e w' ⟨rfl, hS⟩))
  go_ret2
  exact ⟨rfl, hS⟩

set_option maxHeartbeats 400000 in
theorem cas_no (mb cb : Nat) (cs : List Int) (st : Int) (i old n : Int) (w : World)
    (hM : Mem w mb cb cs st) (hst : 0 ≤ st ∧ st < 9223372036854775807) (h0 : 0 ≤ i) (h1 : i < cs.length) (hold : cs.getD i.toNat 0 ≠ old) :
    Calls Try.prog 64 #[.pointer (some ⟨mb, 0, none⟩), .int .i64 i, .int .i64 old, .int .i64 n] w fun e w' =>
      e = .returned (.tuple #[.bool false, .int .i64 0]) ∧ Stepped w w' mb cb cs (st + 1) := by
  have hF := Lib.hid (find_any mb cb cs st i w hM h0 h1)
  have S := step_any mb cb cs st 3 i (cs.getD i.toNat 0) false w hM hst h0 h1
  obtain ⟨hne, hl, x2, x3, x4, x5, x6, hm, hc⟩ := hM
  have c0 := hm.cell (o := 0) rfl
  have hi : i.toNat < cs.length := by omega
  have d := hc.cell (o := i.toNat) (v := .int .i64 (cs.getD i.toNat 0)) (by simp [hi])
  have hset : cs.set i.toNat (cs.getD i.toNat 0) = cs := by simp [hi]
  rw [hset] at S
  generalize cs.getD i.toNat 0 = x at *
  clear hset
  have hS := Lib.hid S; clear S
  have e1 : (x == old) = false := by simpa using hold
  have e2 : (x != old) = true := by simpa using hold
  go_enter Try.func64, Try.ntmps64
  go_wp2_with (first | (go_at_call 61; refine hF.out.mono ?_; rintro e w' ⟨rfl, rfl⟩) | (go_at_call 62; refine hS.out.mono ?_; rintro e w' ⟨rfl, hS⟩))
  go_ret2
  exact ⟨rfl, hS⟩

theorem ret_int {k : IntKind} {a b : Int} (h : a = b) : Ending.returned (.int k a) = .returned (.int k b) := by rw [h]
theorem ret_int2 {k l : IntKind} {a b c d : Int} (h : a = b) (h' : c = d) : Ending.returned (.tuple #[.int k a, .int l c]) = .returned (.tuple #[.int k b, .int l d]) := by rw [h, h']

theorem packc_any (v p : Int) (w : World) (hv : 0 ≤ v ∧ v < 1073741824) (hp : -1 ≤ p ∧ p ≤ 2147483646) :
    Calls Try.prog 55 #[.int .i64 v, .int .i64 p] w fun e w' => e = .returned (.int .i64 (v * 4294967296 + p + 1)) ∧ w = w' := by
  have ha := and_30 v (by omega) (by omega)
  have hm : v % 1073741824 = v := by omega
  by_cases hn : p < 0
  · obtain rfl : p = -1 := by omega
    go_enter Try.func55, Try.ntmps55
    go_wp2
    go_ret
    exact ⟨rfl, rfl⟩
  · go_enter Try.func55, Try.ntmps55
    go_wp2
    go_ret
    exact ⟨rfl, rfl⟩

theorem unpack_any (n v p : Int) (w : World) (hn : n = v * 4294967296 + p + 1) (hv : 0 ≤ v ∧ v < 1073741824) (hp : -1 ≤ p ∧ p ≤ 2147483646) :
    Calls Try.prog 57 #[.int .i64 n] w fun e w' => e = .returned (.tuple #[.int .i64 v, .int .i64 p]) ∧ w = w' := by
  have ha := and_32 n (by omega) (by omega)
  have hb := and_30 (n / 4294967296) (by omega) (by omega)
  have hm : n % 4294967296 = p + 1 := by omega
  have hd : n / 4294967296 % 1073741824 = v := by omega
  have h0 : 0 ≤ n := by omega
  have h1 : n < 9223372036854775807 := by omega
  clear hn
  rw [hm] at ha
  rw [hd] at hb
  clear hm hd
  have Ha := Lib.hid ha
  have Hb := Lib.hid hb
  clear ha hb
  go_enter Try.func57, Try.ntmps57
  go_wp2
  go_ret2
  refine ⟨ret_int2 ?_ ?_, rfl⟩
  · rw [Hb.out]
  · rw [Ha.out]; unfold wrap64; omega

theorem up_any (n v p q : Int) (w : World) (hn : n = v * 4294967296 + p + 1) (hv : 0 ≤ v ∧ v < 1073741823) (hp : -1 ≤ p ∧ p ≤ 2147483646) (hq : -1 ≤ q ∧ q ≤ 2147483646) :
    Calls Try.prog 66 #[.int .i64 n, .int .i64 q] w fun e w' => e = .returned (.int .i64 ((v + 1) * 4294967296 + q + 1)) ∧ w = w' := by
  have hU := Lib.hid (unpack_any n v p w hn (by omega) hp)
  have hP := Lib.hid (packc_any (v + 1) q w (by omega) hq)
  clear hn
  go_enter Try.func66, Try.ntmps66
  go_wp2_with (first | (go_at_call 57; refine hU.out.mono ?_; rintro e w' ⟨rfl, rfl⟩) | (go_at_call 55; refine hP.out.mono ?_; rintro e w' ⟨rfl, rfl⟩))
  go_ret
  exact ⟨rfl, rfl⟩
end Go.Proofs.Ytcgiimgdcamkiaa
