/- Part 3 of 5 of the proof: contracts on trees of values, without conditions of their own beyond those that each theorem states. -/
import Derived.Test.YtedipagekajipaaL2
import Derived.Test.YtedipagekajipaaProg
import Derived.KernelRfl
import Derived.Shelf.SlSortCmp.NoneTotal
import Derived.Shelf.SortG.Plain
import Derived.Shelf.SlLaysF
import Derived.Shelf.SlLaysNS

namespace Go.Lite.LT
open Go.Proofs
def ty : Nat → TyI
  | 2 => { sz := 1, bytes := 8, kd := .int .i64, z := .int .i64 0, known := true }
  | 3 => { sz := 1, bytes := 8, kd := .int .i64, z := .int .i64 0, known := true }
  | 4 => { sz := 1, bytes := 1, kd := .bool, z := .bool false, known := true }
  | 5 => { sz := 1, bytes := 1, kd := .int .u8, z := .int .u8 0, known := true }
  | 9 => { sz := 1, bytes := 16, kd := .str, z := .str [], known := true }
  | 22 => { sz := 1, bytes := 24, kd := .slice 5, z := .isl false 1 [], known := true }
  | 24 => { sz := 1, bytes := 24, kd := .slice 59, z := .isl false 3 [], known := true }
  | 26 => { sz := 3, bytes := 40, kd := .struct, z := .agg [.int .i64 0, .int .i64 0, .isl false 3 []], fo := [(0, 1), (1, 1), (2, 1)], known := true }
  | 28 => { sz := 1, bytes := 24, kd := .slice 31, z := .isl false 1 [], known := true }
  | 31 => { sz := 1, bytes := 24, kd := .slice 2, z := .isl false 1 [], known := true }
  | 43 => { sz := 1, bytes := 8, kd := .other, z := .nilp, known := true }
  | 50 => { sz := 1, bytes := 8, kd := .other, z := .nilp, known := true }
  | 55 => { sz := 1, bytes := 8, kd := .int .u64, z := .int .u64 0, known := true }
  | 57 => { sz := 3, bytes := 40, kd := .struct, z := .agg [.isl false 1 [], .int .i64 0, .int .u64 0], fo := [(0, 1), (1, 1), (2, 1)], known := true }
  | 59 => { sz := 3, bytes := 40, kd := .struct, z := .agg [.isl false 1 [], .int .i64 0, .int .i64 0], fo := [(0, 1), (1, 1), (2, 1)], known := true }
  | 62 => { sz := 1, bytes := 8, kd := .other, z := .nilfn, known := true }
  | 65 => { sz := 1, bytes := 8, kd := .other, z := .nilfn, known := true }
  | 70 => { sz := 1, bytes := 8, kd := .int .u64, z := .int .u64 0, known := true }
  | 77 => { sz := 1, bytes := 8, kd := .int .i64, z := .int .i64 0, known := true }
  | 86 => { sz := 1, bytes := 4, kd := .int .u32, z := .int .u32 0, known := true }
  | 88 => { sz := 1, bytes := 8, kd := .other, z := .nilp, known := true }
  | 95 => { sz := 1, bytes := 8, kd := .int .u64, z := .int .u64 0, known := true }
  | 99 => { sz := 1, bytes := 8, kd := .other, z := .nilp, known := true }
  | 103 => { sz := 1, bytes := 8, kd := .other, z := .nilp, known := true }
  | _ => {}
theorem ty2 : tyOk Try.prog 2 (ty 2) = true := by kernel_rfl
theorem ty3 : tyOk Try.prog 3 (ty 3) = true := by kernel_rfl
theorem ty4 : tyOk Try.prog 4 (ty 4) = true := by kernel_rfl
theorem ty5 : tyOk Try.prog 5 (ty 5) = true := by kernel_rfl
theorem ty9 : tyOk Try.prog 9 (ty 9) = true := by kernel_rfl
theorem ty22 : tyOk Try.prog 22 (ty 22) = true := by kernel_rfl
theorem ty24 : tyOk Try.prog 24 (ty 24) = true := by kernel_rfl
theorem ty26 : tyOk Try.prog 26 (ty 26) = true := by kernel_rfl
theorem ty28 : tyOk Try.prog 28 (ty 28) = true := by kernel_rfl
theorem ty31 : tyOk Try.prog 31 (ty 31) = true := by kernel_rfl
theorem ty43 : tyOk Try.prog 43 (ty 43) = true := by kernel_rfl
theorem ty50 : tyOk Try.prog 50 (ty 50) = true := by kernel_rfl
theorem ty55 : tyOk Try.prog 55 (ty 55) = true := by kernel_rfl
theorem ty57 : tyOk Try.prog 57 (ty 57) = true := by kernel_rfl
theorem ty59 : tyOk Try.prog 59 (ty 59) = true := by kernel_rfl
theorem ty62 : tyOk Try.prog 62 (ty 62) = true := by kernel_rfl
theorem ty65 : tyOk Try.prog 65 (ty 65) = true := by kernel_rfl
theorem ty70 : tyOk Try.prog 70 (ty 70) = true := by kernel_rfl
theorem ty77 : tyOk Try.prog 77 (ty 77) = true := by kernel_rfl
theorem ty86 : tyOk Try.prog 86 (ty 86) = true := by kernel_rfl
theorem ty88 : tyOk Try.prog 88 (ty 88) = true := by kernel_rfl
theorem ty95 : tyOk Try.prog 95 (ty 95) = true := by kernel_rfl
theorem ty99 : tyOk Try.prog 99 (ty 99) = true := by kernel_rfl
theorem ty103 : tyOk Try.prog 103 (ty 103) = true := by kernel_rfl
theorem tyAll : TyOk Try.prog ty := by
  intro t
  unfold ty
  split
  · exact ty2
  · exact ty3
  · exact ty4
  · exact ty5
  · exact ty9
  · exact ty22
  · exact ty24
  · exact ty26
  · exact ty28
  · exact ty31
  · exact ty43
  · exact ty50
  · exact ty55
  · exact ty57
  · exact ty59
  · exact ty62
  · exact ty65
  · exact ty70
  · exact ty77
  · exact ty86
  · exact ty88
  · exact ty95
  · exact ty99
  · exact ty103
  · rfl
theorem mixed : Try.prog.follows .mixedOrders = true := by kernel_rfl
end Go.Lite.LT

namespace Go.Lite.LT
open Go.Proofs
set_option maxRecDepth 4000
set_option linter.unusedSimpArgs false
set_option linter.unusedVariables false
attribute [local simp] ty

/-- a list of numbers that only is read -/
@[simp] def ints (nn : Bool) (xs : List Int) : V := .isl nn 1 (xs.map (.int .i64 ·))
@[simp] def bytes (nn : Bool) (xs : List Int) : V := .isl nn 1 (xs.map (.int .u8 ·))
@[simp] def source (nn : Bool) (code : List Int) (p m : Int) : V := .bx (.agg [bytes nn code, .int .i64 p, .int .u64 m])

theorem in_take_succ {xs : List Int} {i : Nat} {x y : Int} (hx : xs[i]? = some x) (h1 : y ∉ xs.take i) (h2 : ¬ x = y) : y ∉ xs.take (i + 1) := by
  intro h3
  rw [List.take_add_one, hx] at h3
  rcases List.mem_append.1 h3 with h3 | h3
  · exact h1 h3
  · simp at h3; exact h2 h3.symm

theorem wrap_succ {i : Nat} (h : i < 1000000000000) : IntKind.i64.wrap ((i : Int) + 1) = ((i + 1 : Nat) : Int) := by rw [wrap_i64 (by omega) (by omega)]; simp

theorem f4_ok (n1 n2 : Bool) (xs ys : List Int) : Does Try.prog 4 [bytes n1 xs, bytes n2 ys] (fun r outs => r = .bool (decide (48 < xs.length ∨ 48 < ys.length)) ∧ outs = [.dead, .dead]) := by
  refine fn_of tyAll (rs := [.t 4]) 13 Try.func4 rfl rfl rfl rfl (by simp) rfl ?_
  rw [show start 13 [bytes n1 xs, bytes n2 ys] = mk 13 [(1, bytes n2 ys), (0, bytes n1 xs)] [] by simp]
  refine T_seq (T_region ?_)
  refine OL_runs tyAll (by simp <;> rfl) ?_
  refine OL_pick [0,1] (by simp <;> rfl) (OL_nil ?_)
  by_cases h : 48 < xs.length
  · have h' : (48 : Int) < xs.length := by omega
    refine T_seq (T_region ?_)
    refine OL_runs tyAll (by simp [h'] <;> rfl) ?_
    refine OL_pick [4] (by simp <;> rfl) (OL_nil ?_)
    refine T_ret ⟨_, (by simp <;> rfl), by simp [h], rfl⟩
  · have h' : ¬ (48 : Int) < xs.length := by omega
    refine T_seq (T_region ?_)
    refine OL_runs tyAll (by simp [h'] <;> rfl) ?_
    refine OL_pick [4] (by simp <;> rfl) (OL_nil ?_)
    refine T_ret ⟨_, (by simp <;> rfl), ?_, rfl⟩
    simp [h]; omega

theorem f16_ok (nn : Bool) (code : List Int) : Does Try.prog 16 [bytes nn code] (fun r outs => r = source nn code 0 0 ∧ outs = [.dead]) := by
  refine fn_of tyAll (rs := [.t 2]) 6 Try.func16 rfl rfl rfl rfl (by simp) rfl ?_
  rw [show start 6 [bytes nn code] = mk 6 [(0, bytes nn code)] [] by simp]
  refine T_seq (T_region ?_)
  refine OL_runs tyAll (by simp <;> rfl) ?_
  refine OL_pick [0] (by simp <;> rfl) (OL_nil ?_)
  refine T_seq (T_region ?_)
  refine OL_runs tyAll (by simp <;> rfl) ?_
  refine OL_pick [2] (by simp <;> rfl) (OL_nil ?_)
  refine T_ret ⟨_, (by simp <;> rfl), by simp, rfl⟩

theorem f41_ok (nn : Bool) (code : List Int) (hc : ∀ x ∈ code, 0 ≤ x ∧ x < 256) (p m : Int) (h0 : 0 ≤ p) (h1 : p < 1000000000) :
    Does Try.prog 41 [source nn code p m] (fun r outs => ∃ b m', (0 ≤ b ∧ b < 256) ∧ r = .int .i64 b ∧ outs = [source nn code (p + 1) m']) := by
  refine fn_of tyAll (rs := [.t 2]) 62 Try.func41 rfl rfl rfl rfl (by simp) rfl ?_
  rw [show start 62 [source nn code p m] = mk 62 [(0, .ref 1000000 [])] [(1000000, source nn code p m)] by simp]
  refine T_seq (T_region (OL_runs tyAll (by simp <;> rfl) (OL_nil ?_)))
  refine T_seq (T_region (OL_runs tyAll (by simp <;> rfl) (OL_nil ?_)))
  refine T_cut (fun st => ∃ b, (0 ≤ b ∧ b < 256) ∧ st = mk 62 [(0, .ref 1000000 []), (3, .int .i64 b)] [(1000000, source nn code p m)]) ?_ ?_
  · refine T_seq (T_stills tyAll mixed (by kernel_rfl) (by simp <;> rfl) ?_)
    refine OL_form [0,3,13] [1000000] (by simp <;> rfl) (by simp <;> rfl) (by simp) (OL_nil ?_)
    refine T_cond (by simp <;> rfl) (fun h => ?_) (fun h => ?_)
    · simp at h
      have hb : code[p.toNat]? = some code[p.toNat] := List.getElem?_eq_getElem (by omega)
      have hb2 := hc _ (List.getElem_mem (l := code) (n := p.toNat) (by omega))
      have hw : IntKind.i64.wrap code[p.toNat] = code[p.toNat] := wrap_i64 (by omega) (by omega)
      refine (T_stills tyAll mixed (by kernel_rfl) (by simp [h0, h, hb, hw] <;> rfl) ?_)
      refine OL_form [0,3] [1000000] (by simp <;> rfl) (by simp <;> rfl) (by simp) (OL_nil ?_)
      exact ⟨_, hb2, by simp⟩
    · refine T_form [0,3] [1000000] (by simp <;> rfl) (by simp <;> rfl) (by simp) (T_skip ⟨0, ?_⟩)
      simp
  · rintro st ⟨b, ⟨hb0, hb1⟩, rfl⟩
    have hw : IntKind.i64.wrap (p + 1) = p + 1 := wrap_i64 (by omega) (by omega)
    refine T_seq (T_region (OL_runs tyAll (by simp [hw] <;> rfl) ?_))
    refine OL_form [0,3] [1000000] (by simp <;> rfl) (by simp <;> rfl) (by simp) (OL_nil ?_)
    refine T_seq (T_region (OL_runs tyAll (by simp <;> rfl) ?_))
    refine OL_form [0,3] [1000000] (by simp <;> rfl) (by simp <;> rfl) (by simp) (OL_nil ?_)
    refine T_seq (T_seq (T_stills tyAll mixed (by kernel_rfl) (by simp <;> rfl) ?_))
    refine OL_form [0,3,53] [1000000] (by simp <;> rfl) (by simp <;> rfl) (by simp) (OL_nil ?_)
    refine T_cond (by simp <;> rfl) (fun h => ?_) (fun h => ?_)
    · refine T_seq (T_region (OL_runs tyAll (by simp <;> rfl) (OL_nil ?_)))
      refine T_ret ⟨_, (by simp <;> rfl), b, _, ⟨hb0, hb1⟩, rfl, rfl⟩
    · refine T_skip ?_
      refine T_seq (T_region (OL_runs tyAll (by simp <;> rfl) (OL_nil ?_)))
      refine T_ret ⟨_, (by simp <;> rfl), _, _, low_byte _, rfl, rfl⟩

theorem f23_ok (nn : Bool) (code : List Int) (hc : ∀ x ∈ code, 0 ≤ x ∧ x < 256) (p m n : Int) (h0 : 0 ≤ p) (h1 : p < 100000000) (hn : n < 1000000000) :
    Does Try.prog 23 [source nn code p m, .int .i64 n] (fun r outs => ∃ b p' m', (0 ≤ b ∧ (n ≤ 1 → b = 0) ∧ (1 ≤ n → b < n)) ∧ (p ≤ p' ∧ p' ≤ p + 2) ∧ r = .int .i64 b ∧ outs = [source nn code p' m', .dead]) := by
  refine fn_of tyAll (rs := [.t 4]) 20 Try.func23 rfl rfl rfl rfl (by simp) rfl ?_
  rw [show start 20 [source nn code p m, .int .i64 n] = mk 20 [(1, .int .i64 n), (0, .ref 1000000 [])] [(1000000, source nn code p m)] by simp]
  refine T_seq (T_region ?_)
  refine OL_runs tyAll (by simp <;> rfl) ?_
  refine OL_pick [0,1] (by simp <;> rfl) (OL_nil ?_)
  refine T_seq ?_
  refine T_seq (T_region ?_)
  refine OL_runs tyAll (by simp <;> rfl) ?_
  refine OL_pick [0,1,7] (by simp <;> rfl) (OL_nil ?_)
  refine T_cond (by simp <;> rfl) (fun h => ?_) (fun h => ?_)
  · simp at h
    refine T_seq (T_region ?_)
    refine OL_runs tyAll (by simp <;> rfl) ?_
    refine OL_pick [4] (by simp <;> rfl) (OL_nil ?_)
    refine T_ret ⟨_, (by simp <;> rfl), 0, p, m, ?_, ?_, rfl, rfl⟩
    · omega
    · omega
  · simp at h
    refine T_skip ?_
    refine T_seq (T_region ?_)
    refine OL_first 1 tyAll (by simp <;> rfl) ?_
    dsimp only [List.drop]
    refine OL_call [.g 1000000] 10000 (by simp) rfl (by simp <;> rfl) (by simp) (by simp) (by simp <;> rfl) (f41_ok nn code hc p m h0 (by omega)) (by simp) ?_ ?_
    · rintro _ _ ⟨b, m', hb, rfl, rfl⟩
      simp
    rintro _ _ ⟨b, m', hb, rfl, rfl⟩
    refine OL_state (by simp <;> rfl) ?_
    refine OL_runs tyAll (by simp <;> rfl) ?_
    refine OL_form [0,1,5] [1000000] (by simp <;> rfl) (by simp <;> rfl) (by simp) (OL_nil ?_)
    refine T_cut (fun st => ∃ x p' m', (0 ≤ x ∧ x < 65536) ∧ (p ≤ p' ∧ p' ≤ p + 2) ∧ st = mk 20 [(1, .int .i64 n), (5, .int .i64 x)] [(1000000, source nn code p' m')]) ?_ ?_
    · refine T_seq (T_region ?_)
      refine OL_runs tyAll (by simp <;> rfl) ?_
      refine OL_pick [0,1,5,11] (by simp <;> rfl) (OL_nil ?_)
      refine T_cond (by simp <;> rfl) (fun h => ?_) (fun h => ?_)
      · simp at h
        have hw : IntKind.i64.wrap (b * 256) = b * 256 := wrap_i64 (by omega) (by omega)
        refine (T_region ?_)
        refine OL_first 3 tyAll (by simp [hw] <;> rfl) ?_
        dsimp only [List.drop]
        refine OL_call [.g 1000000] 16000 (by simp) rfl (by simp <;> rfl) (by simp) (by simp) (by simp <;> rfl) (f41_ok nn code hc (p + 1) m' (by omega) (by omega)) (by simp) ?_ ?_
        · rintro _ _ ⟨b, m', hb, rfl, rfl⟩
          simp
        rintro _ _ ⟨b2, m2, hb2, rfl, rfl⟩
        refine OL_state (by simp <;> rfl) ?_
        have hw2 : IntKind.i64.wrap (b * 256 + b2) = b * 256 + b2 := wrap_i64 (by omega) (by omega)
        refine OL_runs tyAll (by simp [hw2] <;> rfl) ?_
        refine OL_form [1,5] [1000000] (by simp <;> rfl) (by simp <;> rfl) (by simp) (OL_nil ?_)
        exact ⟨b * 256 + b2, p + 1 + 1, m2, by omega, by omega, by simp⟩
      · simp at h
        refine T_form [1,5] [1000000] (by simp <;> rfl) (by simp <;> rfl) (by simp) (T_skip ?_)
        exact ⟨b, p + 1, m', by omega, by omega, by simp⟩
    rintro st ⟨x, p', m', hx, hp, rfl⟩
    have hn0 : ¬ n = 0 := by omega
    refine T_seq (T_region ?_)
    refine OL_runs tyAll (by simp [hn0] <;> rfl) ?_
    refine OL_pick [4] (by simp <;> rfl) (OL_nil ?_)
    refine T_ret ⟨_, (by simp <;> rfl), _, p', m', ?_, hp, rfl, rfl⟩
    have h1 := Int.tmod_nonneg n hx.1
    have h2 := Int.tmod_lt_of_pos x (show 0 < n by omega)
    omega
end Go.Lite.LT

namespace Go.Lite.LT
open Go.Proofs
set_option maxRecDepth 4000
set_option linter.unusedSimpArgs false
set_option linter.unusedVariables false
attribute [local simp] ty

theorem f15_ok (nn : Bool) (xs : List Int) (y : Int) (hl : xs.length < 1000000000) : Does Try.prog 15 [ints nn xs, .int .i64 y] (fun r outs => r = .bool (decide (y ∈ xs)) ∧ outs = [.dead, .dead]) := by
  refine fn_of tyAll (rs := [.t 4]) 18 Try.func15 rfl rfl rfl rfl (by simp) rfl ?_
  rw [show start 18 [ints nn xs, .int .i64 y] = mk 18 [(1, .int .i64 y), (0, ints nn xs)] [] by simp]
  refine T_seq (T_region ?_)
  refine OL_runs tyAll (by simp <;> rfl) ?_
  refine OL_pick [0,1] (by simp <;> rfl) (OL_nil ?_)
  refine T_seq ?_
  refine T_seq (T_region ?_)
  refine OL_runs tyAll (by simp <;> rfl) ?_
  refine OL_pick [0,1,5] (by simp <;> rfl) (OL_nil ?_)
  refine T_block ?_
  refine T_loopF (fun i : Nat => mk 18 [(0, ints nn xs), (1, .int .i64 y), (5, .int .i64 i)] []) (fun i => i ≤ xs.length ∧ y ∉ xs.take i) (fun i => xs.length - i) 0 (by simp) (by simp) ?_
  rintro i ⟨hi1, hi2⟩
  refine T_seq ?_
  refine T_seq (T_region ?_)
  refine OL_runs tyAll (by simp <;> rfl) ?_
  refine OL_pick [0,1,5,9] (by simp <;> rfl) (OL_nil ?_)
  refine T_cond (by simp <;> rfl) (fun h => ?_) (fun h => ?_)
  · simp at h
    refine T_skip ?_
    refine T_seq ?_
    refine T_block ?_
    have hx : xs[i]? = some xs[i] := List.getElem?_eq_getElem h
    refine T_seq (T_region ?_)
    refine OL_runs tyAll (by simp [h, hx] <;> rfl) ?_
    refine OL_pick [0,1,5,17] (by simp <;> rfl) (OL_nil ?_)
    refine T_cond (by simp <;> rfl) (fun h2 => ?_) (fun h2 => ?_)
    · simp at h2
      refine T_seq (T_region ?_)
      refine OL_runs tyAll (by simp <;> rfl) ?_
      refine OL_pick [4] (by simp <;> rfl) (OL_nil ?_)
      refine T_ret ⟨_, (by simp <;> rfl), ?_, rfl⟩
      have : y ∈ xs := h2 ▸ List.getElem_mem h
      simp [this]
    · simp at h2
      refine T_skip ?_
      refine (T_region ?_)
      refine OL_runs tyAll (by simp [wrap_succ (show i < 1000000000000 by omega)] <;> rfl) ?_
      refine OL_pick [0,1,5] (by simp <;> rfl) (OL_nil ?_)
      exact ⟨i + 1, by simp, ⟨by omega, in_take_succ hx hi2 h2⟩, by omega⟩
  · simp at h
    refine T_exit ?_
    refine T_seq (T_region ?_)
    refine OL_runs tyAll (by simp <;> rfl) ?_
    refine OL_pick [4] (by simp <;> rfl) (OL_nil ?_)
    refine T_ret ⟨_, (by simp <;> rfl), ?_, rfl⟩
    have : i = xs.length := by omega
    subst this
    simp at hi2
    simp [hi2]

theorem f60_ok (nn : Bool) (xs : List Int) (y : Int) (hl : xs.length < 1000000000) : Does Try.prog 60 [ints nn xs, .int .i64 y] (fun r outs => r = .bool (decide (y ∈ xs)) ∧ outs = [.dead, .dead]) := by
  refine fn_of tyAll (rs := [.t 4]) 18 Try.func60 rfl rfl rfl rfl (by simp) rfl ?_
  rw [show start 18 [ints nn xs, .int .i64 y] = mk 18 [(1, .int .i64 y), (0, ints nn xs)] [] by simp]
  refine T_seq (T_region ?_)
  refine OL_runs tyAll (by simp <;> rfl) ?_
  refine OL_pick [0,1] (by simp <;> rfl) (OL_nil ?_)
  refine T_seq ?_
  refine T_seq (T_region ?_)
  refine OL_runs tyAll (by simp <;> rfl) ?_
  refine OL_pick [0,1,5] (by simp <;> rfl) (OL_nil ?_)
  refine T_block ?_
  refine T_loopF (fun i : Nat => mk 18 [(0, ints nn xs), (1, .int .i64 y), (5, .int .i64 i)] []) (fun i => i ≤ xs.length ∧ y ∉ xs.take i) (fun i => xs.length - i) 0 (by simp) (by simp) ?_
  rintro i ⟨hi1, hi2⟩
  refine T_seq ?_
  refine T_seq (T_region ?_)
  refine OL_runs tyAll (by simp <;> rfl) ?_
  refine OL_pick [0,1,5,9] (by simp <;> rfl) (OL_nil ?_)
  refine T_cond (by simp <;> rfl) (fun h => ?_) (fun h => ?_)
  · simp at h
    refine T_skip ?_
    refine T_seq ?_
    refine T_block ?_
    have hx : xs[i]? = some xs[i] := List.getElem?_eq_getElem h
    refine T_seq (T_region ?_)
    refine OL_runs tyAll (by simp [h, hx] <;> rfl) ?_
    refine OL_pick [0,1,5,17] (by simp <;> rfl) (OL_nil ?_)
    refine T_cond (by simp <;> rfl) (fun h2 => ?_) (fun h2 => ?_)
    · simp at h2
      refine T_seq (T_region ?_)
      refine OL_runs tyAll (by simp <;> rfl) ?_
      refine OL_pick [4] (by simp <;> rfl) (OL_nil ?_)
      refine T_ret ⟨_, (by simp <;> rfl), ?_, rfl⟩
      have : y ∈ xs := h2 ▸ List.getElem_mem h
      simp [this]
    · simp at h2
      refine T_skip ?_
      refine (T_region ?_)
      refine OL_runs tyAll (by simp [wrap_succ (show i < 1000000000000 by omega)] <;> rfl) ?_
      refine OL_pick [0,1,5] (by simp <;> rfl) (OL_nil ?_)
      exact ⟨i + 1, by simp, ⟨by omega, in_take_succ hx hi2 h2⟩, by omega⟩
  · simp at h
    refine T_exit ?_
    refine T_seq (T_region ?_)
    refine OL_runs tyAll (by simp <;> rfl) ?_
    refine OL_pick [4] (by simp <;> rfl) (OL_nil ?_)
    refine T_ret ⟨_, (by simp <;> rfl), ?_, rfl⟩
    have : i = xs.length := by omega
    subst this
    simp at hi2
    simp [hi2]

/-- slices.Index -/
def indexI (xs : List Int) (y : Int) : Int := if y ∈ xs then xs.idxOf y else -1

theorem idxOf_at {xs : List Int} {i : Nat} {x : Int} (hx : xs[i]? = some x) (h : x ∉ xs.take i) : xs.idxOf x = i := by
  induction xs generalizing i with
  | nil => simp at hx
  | cons z zs ih =>
    cases i with
    | zero => simp at hx; subst hx; simp
    | succ i =>
      simp at hx h
      rw [List.idxOf_cons]
      have : ¬ z = x := fun he => h.1 he.symm
      have hzx : (z == x) = false := by simp [this]
      rw [hzx]; simp only [cond_false]
      rw [ih hx h.2]

theorem f25_ok (nn : Bool) (xs : List Int) (y : Int) (hl : xs.length < 1000000000) : Does Try.prog 25 [ints nn xs, .int .i64 y] (fun r outs => r = .int .i64 (indexI xs y) ∧ outs = [.dead, .dead]) := by
  refine fn_of tyAll (rs := [.t 4]) 19 Try.func25 rfl rfl rfl rfl (by simp) rfl ?_
  rw [show start 19 [ints nn xs, .int .i64 y] = mk 19 [(1, .int .i64 y), (0, ints nn xs)] [] by simp]
  refine T_seq (T_region ?_)
  refine OL_runs tyAll (by simp <;> rfl) ?_
  refine OL_pick [0,1] (by simp <;> rfl) (OL_nil ?_)
  refine T_seq ?_
  refine T_seq (T_region ?_)
  refine OL_runs tyAll (by simp <;> rfl) ?_
  refine OL_pick [0,1,7,8] (by simp <;> rfl) (OL_nil ?_)
  refine T_block ?_
  refine T_loopF (fun i : Nat => mk 19 [(0, ints nn xs), (1, .int .i64 y), (7, .int .i64 xs.length), (8, .int .i64 i)] []) (fun i => i ≤ xs.length ∧ y ∉ xs.take i) (fun i => xs.length - i) 0 (by simp) (by simp) ?_
  rintro i ⟨hi1, hi2⟩
  refine T_seq (T_region ?_)
  refine OL_runs tyAll (by simp <;> rfl) ?_
  refine OL_pick [0,1,7,8,9] (by simp <;> rfl) (OL_nil ?_)
  refine T_seq ?_
  refine T_cond (by simp <;> rfl) (fun h => ?_) (fun h => ?_)
  · simp at h
    refine T_skip ?_
    refine T_seq ?_
    refine T_block ?_
    have hx : xs[i]? = some xs[i] := List.getElem?_eq_getElem h
    refine T_seq (T_region ?_)
    refine OL_runs tyAll (by simp <;> rfl) ?_
    refine OL_pick [0,1,5,7,8] (by simp <;> rfl) (OL_nil ?_)
    refine T_seq (T_region ?_)
    refine OL_runs tyAll (by simp [h, hx] <;> rfl) ?_
    refine OL_pick [0,1,5,7,8,16] (by simp <;> rfl) (OL_nil ?_)
    refine T_cond (by simp <;> rfl) (fun h2 => ?_) (fun h2 => ?_)
    · simp at h2
      refine T_seq (T_region ?_)
      refine OL_runs tyAll (by simp <;> rfl) ?_
      refine OL_pick [4] (by simp <;> rfl) (OL_nil ?_)
      refine T_ret ⟨_, (by simp <;> rfl), ?_, rfl⟩
      have : y ∈ xs := h2 ▸ List.getElem_mem h
      have h3 := idxOf_at (x := y) (by rw [hx, h2]) hi2
      simp [indexI, this, h3]
    · simp at h2
      refine T_skip ?_
      refine (T_region ?_)
      refine OL_runs tyAll (by simp [wrap_succ (show i < 1000000000000 by omega)] <;> rfl) ?_
      refine OL_pick [0,1,7,8] (by simp <;> rfl) (OL_nil ?_)
      exact ⟨i + 1, by simp, ⟨by omega, in_take_succ hx hi2 (fun he => h2 he.symm)⟩, by omega⟩
  · simp at h
    refine T_exit ?_
    refine T_seq (T_region ?_)
    refine OL_runs tyAll (by simp <;> rfl) ?_
    refine OL_pick [4] (by simp <;> rfl) (OL_nil ?_)
    refine T_ret ⟨_, (by simp <;> rfl), ?_, rfl⟩
    have : i = xs.length := by omega
    subst this
    simp at hi2
    simp [indexI, hi2]

theorem f28_ok (nn : Bool) (xs : List Int) (y : Int) (hl : xs.length < 1000000000) : Does Try.prog 28 [ints nn xs, .int .i64 y] (fun r outs => r = .bool (decide (y ∈ xs)) ∧ outs = [.dead, .dead]) := by
  refine fn_of tyAll (rs := [.t 4]) 9 Try.func28 rfl rfl rfl rfl (by simp) rfl ?_
  rw [show start 9 [ints nn xs, .int .i64 y] = mk 9 [(1, .int .i64 y), (0, ints nn xs)] [] by simp]
  refine T_seq (T_region ?_)
  refine OL_runs tyAll (by simp <;> rfl) ?_
  refine OL_pick [0,1] (by simp <;> rfl) (OL_nil ?_)
  refine T_seq (T_region ?_)
  refine OL_first 2 tyAll (by simp <;> rfl) ?_
  dsimp only [List.drop]
  refine OL_call [.b (ints nn xs), .b (.int .i64 y)] 8000 (by simp) rfl (by simp <;> rfl) (by simp) (by simp) (by simp <;> rfl) (f25_ok nn xs y hl) (by simp) ?_ ?_
  · rintro _ _ ⟨rfl, rfl⟩; simp
  rintro _ _ ⟨rfl, rfl⟩
  refine OL_state (by simp <;> rfl) ?_
  refine OL_runs tyAll (by simp <;> rfl) ?_
  refine OL_pick [4] (by simp <;> rfl) (OL_nil ?_)
  refine T_ret ⟨_, (by simp <;> rfl), ?_, rfl⟩
  by_cases h : y ∈ xs <;> simp [indexI, h]

end Go.Lite.LT

namespace Go.Lite.LT
open Go.Proofs
set_option maxRecDepth 4000
set_option linter.unusedSimpArgs false
set_option linter.unusedVariables false
attribute [local simp] ty

theorem f61_ok (a b : Int) : Does Try.prog 61 [.int .i64 a, .int .i64 b] (fun r outs => r = .int .i64 (max a b) ∧ outs = [.dead, .dead]) := by
  refine fn_of tyAll (rs := [.t 4]) 10 Try.func61 rfl rfl rfl rfl (by simp) rfl ?_
  rw [show start 10 [.int .i64 a, .int .i64 b] = mk 10 [(1, .int .i64 b), (0, .int .i64 a)] [] by simp]
  refine T_seq (T_region ?_)
  refine OL_runs tyAll (by simp <;> rfl) ?_
  refine OL_pick [0,1] (by simp <;> rfl) (OL_nil ?_)
  refine T_seq ?_
  refine T_seq (T_region ?_)
  refine OL_runs tyAll (by simp <;> rfl) ?_
  refine OL_pick [0,1,7] (by simp <;> rfl) (OL_nil ?_)
  refine T_cond (by simp <;> rfl) (fun h => ?_) (fun h => ?_)
  · simp at h
    refine T_seq (T_region ?_)
    refine OL_runs tyAll (by simp <;> rfl) ?_
    refine OL_pick [4] (by simp <;> rfl) (OL_nil ?_)
    refine T_ret ⟨_, (by simp <;> rfl), ?_, rfl⟩
    simp; omega
  · simp at h
    refine T_skip ?_
    refine T_seq (T_region ?_)
    refine OL_runs tyAll (by simp <;> rfl) ?_
    refine OL_pick [4] (by simp <;> rfl) (OL_nil ?_)
    refine T_ret ⟨_, (by simp <;> rfl), ?_, rfl⟩
    simp; omega

theorem f32_ok (a b c : Int) : Does Try.prog 32 [.int .i64 a, .int .i64 b, .int .i64 c] (fun r outs => r = .bool (decide (b ≤ a ∧ a ≤ c)) ∧ outs = [.dead, .dead, .dead]) := by
  refine fn_of tyAll (rs := [.t 6]) 15 Try.func32 rfl rfl rfl rfl (by simp) rfl ?_
  rw [show start 15 [.int .i64 a, .int .i64 b, .int .i64 c] = mk 15 [(2, .int .i64 c), (1, .int .i64 b), (0, .int .i64 a)] [] by simp]
  refine T_seq (T_region ?_)
  refine OL_runs tyAll (by simp <;> rfl) ?_
  refine OL_pick [0,1,2] (by simp <;> rfl) (OL_nil ?_)
  by_cases h : b ≤ a
  · refine T_seq (T_region ?_)
    refine OL_runs tyAll (by simp [h] <;> rfl) ?_
    refine OL_pick [6] (by simp <;> rfl) (OL_nil ?_)
    refine T_ret ⟨_, (by simp <;> rfl), ?_, rfl⟩
    simp [h]
  · refine T_seq (T_region ?_)
    refine OL_runs tyAll (by simp [h] <;> rfl) ?_
    refine OL_pick [6] (by simp <;> rfl) (OL_nil ?_)
    refine T_ret ⟨_, (by simp <;> rfl), ?_, rfl⟩
    simp [h]

theorem f44_ok (nn : Bool) (code : List Int) (hc : ∀ x ∈ code, 0 ≤ x ∧ x < 256) (p m n : Int) (h0 : 0 ≤ p) (h1 : p < 100000000) (hn : n < 1000000000) :
    Does Try.prog 44 [source nn code p m, .int .i64 n] (fun r outs => ∃ b p' m', (p ≤ p' ∧ p' ≤ p + 2) ∧ r = .bool b ∧ outs = [source nn code p' m', .dead]) := by
  refine fn_of tyAll (rs := [.t 4]) 9 Try.func44 rfl rfl rfl rfl (by simp) rfl ?_
  rw [show start 9 [source nn code p m, .int .i64 n] = mk 9 [(1, .int .i64 n), (0, .ref 1000000 [])] [(1000000, source nn code p m)] by simp]
  refine T_seq (T_region ?_)
  refine OL_runs tyAll (by simp <;> rfl) ?_
  refine OL_pick [0,1] (by simp <;> rfl) (OL_nil ?_)
  refine T_seq (T_region ?_)
  refine OL_first 2 tyAll (by simp <;> rfl) ?_
  dsimp only [List.drop]
  refine OL_call [.g 1000000, .b (.int .i64 n)] 8000 (by simp) rfl (by simp <;> rfl) (by simp) (by simp) (by simp <;> rfl) (f23_ok nn code hc p m n h0 h1 hn) (by simp) ?_ ?_
  · rintro _ _ ⟨b, p', m', hb, hp, rfl, rfl⟩; simp
  rintro _ _ ⟨b, p', m', hb, hp, rfl, rfl⟩
  refine OL_state (by simp <;> rfl) ?_
  refine OL_runs tyAll (by simp <;> rfl) ?_
  refine OL_pick [4] (by simp <;> rfl) (OL_nil ?_)
  refine T_ret ⟨_, (by simp <;> rfl), _, p', m', hp, rfl, rfl⟩

/-- an owned list of numbers -/
@[simp] def owns (xs : List Int) : V := .own 1 (xs.map (.int .i64 ·))

theorem allSize_ints (xs : List Int) : allSize 1 (xs.map (V.int .i64 ·)) = true := by
  induction xs with
  | nil => rfl
  | cons x xs ih => simp [allSize, ih]
theorem solid_ints (xs : List Int) : solidL (xs.map (V.int .i64 ·)) = true := by
  induction xs with
  | nil => rfl
  | cons x xs ih => simp [solidL, ih]
theorem immut_ints (xs : List Int) : immutL (xs.map (V.int .i64 ·)) = true := by
  induction xs with
  | nil => rfl
  | cons x xs ih => simp [immutL, ih]
theorem noImm_ints (xs : List Int) : noImmL (xs.map (V.int .i64 ·)) = true := by
  induction xs with
  | nil => rfl
  | cons x xs ih => simp [noImmL, ih]
theorem fz_ints (xs : List Int) : fzL (xs.map (V.int .i64 ·)) = xs.map (V.int .i64 ·) := by
  induction xs with
  | nil => rfl
  | cons x xs ih => simp [fzL, ih]
attribute [simp] List.take_of_length_le allSize_ints solid_ints immut_ints noImm_ints fz_ints

theorem f40_ok (nn : Bool) (xs : List Int) (hl : xs.length < 1000000000) : Does Try.prog 40 [ints nn xs] (fun r outs => r = owns xs ∧ outs = [.dead]) := by
  refine fn_of tyAll (rs := [.t 2]) 6 Try.func40 rfl rfl rfl rfl (by simp) rfl ?_
  rw [show start 6 [ints nn xs] = mk 6 [(0, ints nn xs)] [] by simp]
  refine T_seq (T_region ?_)
  refine OL_runs tyAll (by simp <;> rfl) ?_
  refine OL_pick [0] (by simp <;> rfl) (OL_nil ?_)
  refine T_seq (T_region ?_)
  refine OL_runs tyAll (by simp [show xs.length * 16 ≤ 281474976710656 by omega, show xs.length ≤ 9223372036854775807 by omega] <;> rfl) ?_
  refine OL_pick [2] (by simp <;> rfl) (OL_nil ?_)
  refine T_ret ⟨_, (by simp <;> rfl), by simp, rfl⟩

/-- the numbers below n -/
def upto (n : Nat) : List Int := (List.range n).map Int.ofNat

theorem upto_succ (n : Nat) : upto (n + 1) = upto n ++ [(n : Int)] := by simp [upto, List.range_succ]
@[simp] theorem upto_length (n : Nat) : (upto n).length = n := by simp [upto]

theorem f39_ok (n : Nat) (hn : n < 1000000) : Does Try.prog 39 [.int .i64 n] (fun r outs => r = owns (upto n) ∧ outs = [.dead]) := by
  refine fn_of tyAll (rs := [.t 2]) 16 Try.func39 rfl rfl rfl rfl (by simp) rfl ?_
  rw [show start 16 [.int .i64 n] = mk 16 [(0, .int .i64 n)] [] by simp]
  refine T_seq (T_region ?_)
  refine OL_runs tyAll (by simp <;> rfl) ?_
  refine OL_pick [0] (by simp <;> rfl) (OL_nil ?_)
  refine T_seq (T_region ?_)
  refine OL_runs tyAll (by simp <;> rfl) ?_
  refine OL_pick [0,3] (by simp <;> rfl) ?_
  refine OL_rename 5 14 (by decide) (by simp) (by decide) (by simp <;> rfl) (by simp <;> rfl) (OL_nil ?_)
  refine T_seq ?_
  refine T_seq (T_region ?_)
  refine OL_runs tyAll (by simp <;> rfl) ?_
  refine OL_pick [0,3,4] (by simp <;> rfl) (OL_nil ?_)
  refine T_block ?_
  refine T_loopF (fun i : Nat => mk 16 [(0, .int .i64 n), (3, .sl 14 [] 0 i), (4, .int .i64 i)] [(14, owns (upto i))]) (fun i => i ≤ n) (fun i => n - i) 0 (by simp [upto]) (by simp) ?_
  rintro i hi
  refine T_seq ?_
  refine T_seq (T_region ?_)
  refine OL_runs tyAll (by simp <;> rfl) ?_
  refine OL_pick [0,3,4,8] (by simp <;> rfl) (OL_nil ?_)
  refine T_cond (by simp <;> rfl) (fun h => ?_) (fun h => ?_)
  · simp at h
    refine T_skip ?_
    refine T_seq ?_
    refine T_block ?_
    refine (T_region ?_)
    refine OL_runs tyAll (by simp [show (i + 1) * 16 ≤ 281474976710656 by omega, show i + 1 ≤ 9223372036854775807 by omega] <;> rfl) ?_
    refine OL_drop 13 (by simp <;> rfl) (by simp <;> rfl) ?_
    refine OL_pick [0,3,4] (by simp <;> rfl) (OL_nil ?_)
    refine (T_region ?_)
    refine OL_runs tyAll (by simp [wrap_succ (show i < 1000000000000 by omega)] <;> rfl) ?_
    refine OL_pick [0,3,4] (by simp <;> rfl) (OL_nil ?_)
    exact ⟨i + 1, by simp [upto_succ], by omega, by omega⟩
  · simp at h
    refine T_exit ?_
    refine T_seq (T_region ?_)
    refine OL_runs tyAll (by simp <;> rfl) ?_
    refine OL_pick [2] (by simp <;> rfl) (OL_nil ?_)
    have hin : i = n := by omega
    subst hin
    refine T_ret ⟨_, (by simp <;> rfl), by simp, rfl⟩
end Go.Lite.LT

namespace Go.Lite.LT
open Go.Proofs
set_option maxRecDepth 4000
set_option linter.unusedSimpArgs false
set_option linter.unusedVariables false
attribute [local simp] ty

theorem f13_ok (nn : Bool) (code : List Int) (hc : ∀ x ∈ code, 0 ≤ x ∧ x < 256) (k n : Int) (hk : 0 ≤ k) : Does Try.prog 13 [bytes nn code, .int .i64 k, .int .i64 n]
    (fun r outs => ∃ b, (0 ≤ b ∧ (n ≤ 1 → b = 0) ∧ (1 ≤ n → b < n)) ∧ r = .int .i64 b ∧ outs = [.dead, .dead, .dead]) := by
  refine fn_of tyAll (rs := [.t 6]) 22 Try.func13 rfl rfl rfl rfl (by simp) rfl ?_
  rw [show start 22 [bytes nn code, .int .i64 k, .int .i64 n] = mk 22 [(2, .int .i64 n), (1, .int .i64 k), (0, bytes nn code)] [] by simp]
  refine T_seq (T_region ?_)
  refine OL_runs tyAll (by simp <;> rfl) ?_
  refine OL_pick [0,1,2] (by simp <;> rfl) (OL_nil ?_)
  refine T_seq ?_
  by_cases hn : n ≤ 1
  · refine T_seq (T_region ?_)
    refine OL_runs tyAll (by simp [hn] <;> rfl) ?_
    refine OL_pick [0,1,2,14] (by simp <;> rfl) (OL_nil ?_)
    refine T_cond (b := true) (by simp <;> rfl) (fun h => ?_) (fun h => by cases h)
    refine T_seq (T_region ?_)
    refine OL_runs tyAll (by simp <;> rfl) ?_
    refine OL_pick [6] (by simp <;> rfl) (OL_nil ?_)
    refine T_ret ⟨_, (by simp <;> rfl), 0, ?_, rfl, rfl⟩
    omega
  · refine T_seq (T_region ?_)
    refine OL_runs tyAll (by simp [hn] <;> rfl) ?_
    refine OL_pick [0,1,2,14] (by simp <;> rfl) (OL_nil ?_)
    refine T_cond (by simp <;> rfl) (fun h => ?_) (fun h => ?_)
    · simp at h
      refine T_seq (T_region ?_)
      refine OL_runs tyAll (by simp <;> rfl) ?_
      refine OL_pick [6] (by simp <;> rfl) (OL_nil ?_)
      refine T_ret ⟨_, (by simp <;> rfl), 0, ?_, rfl, rfl⟩
      omega
    · simp at h
      refine T_skip ?_
      have hx : code[k.toNat]? = some code[k.toNat] := List.getElem?_eq_getElem (by omega)
      have hb := hc _ (List.getElem_mem (l := code) (n := k.toNat) (by omega))
      have hw : IntKind.i64.wrap code[k.toNat] = code[k.toNat] := wrap_i64 (by omega) (by omega)
      have hn0 : ¬ n = 0 := by omega
      refine T_seq (T_region ?_)
      refine OL_runs tyAll (by simp [hk, h, hx, hw, hn0] <;> rfl) ?_
      refine OL_pick [6] (by simp <;> rfl) (OL_nil ?_)
      refine T_ret ⟨_, (by simp <;> rfl), _, ?_, rfl, rfl⟩
      have h1 := Int.tmod_nonneg n hb.1
      have h2 := Int.tmod_lt_of_pos code[k.toNat] (show 0 < n by omega)
      omega

theorem take_eq_succ {a b : List Int} {i : Nat} {x : Int} (h : a.take i = b.take i) (ha : a[i]? = some x) (hb : b[i]? = some x) : a.take (i + 1) = b.take (i + 1) := by
  rw [List.take_add_one, List.take_add_one, ha, hb, h]

theorem f10_ok (n1 n2 : Bool) (a b : List Int) (hl : a.length < 1000000000) : Does Try.prog 10 [ints n1 a, ints n2 b] (fun r outs => r = .bool (decide (a = b)) ∧ outs = [.dead, .dead]) := by
  refine fn_of tyAll (rs := [.t 4]) 26 Try.func10 rfl rfl rfl rfl (by simp) rfl ?_
  rw [show start 26 [ints n1 a, ints n2 b] = mk 26 [(1, ints n2 b), (0, ints n1 a)] [] by simp]
  refine T_seq (T_region ?_)
  refine OL_runs tyAll (by simp <;> rfl) ?_
  refine OL_pick [0,1] (by simp <;> rfl) (OL_nil ?_)
  refine T_seq ?_
  refine T_seq (T_region ?_)
  refine OL_runs tyAll (by simp <;> rfl) ?_
  refine OL_pick [0,1,10] (by simp <;> rfl) (OL_nil ?_)
  refine T_cond (by simp <;> rfl) (fun h => ?_) (fun h => ?_)
  · simp at h
    refine T_seq (T_region ?_)
    refine OL_runs tyAll (by simp <;> rfl) ?_
    refine OL_pick [4] (by simp <;> rfl) (OL_nil ?_)
    refine T_ret ⟨_, (by simp <;> rfl), ?_, rfl⟩
    have : a ≠ b := by intro he; subst he; omega
    simp [this]
  · simp at h
    have hlen : a.length = b.length := by omega
    refine T_skip ?_
    refine T_seq ?_
    refine T_seq (T_region ?_)
    refine OL_runs tyAll (by simp <;> rfl) ?_
    refine OL_pick [0,1,5] (by simp <;> rfl) (OL_nil ?_)
    refine T_block ?_
    refine T_loopF (fun i : Nat => mk 26 [(0, ints n1 a), (1, ints n2 b), (5, .int .i64 i)] []) (fun i => i ≤ a.length ∧ a.take i = b.take i) (fun i => a.length - i) 0 (by simp) (by simp) ?_
    rintro i ⟨hi1, hi2⟩
    refine T_seq ?_
    refine T_seq (T_region ?_)
    refine OL_runs tyAll (by simp <;> rfl) ?_
    refine OL_pick [0,1,5,14] (by simp <;> rfl) (OL_nil ?_)
    refine T_cond (by simp <;> rfl) (fun h => ?_) (fun h => ?_)
    · simp at h
      have h' : i < b.length := by omega
      have ha : a[i]? = some a[i] := List.getElem?_eq_getElem h
      have hb : b[i]? = some b[i] := List.getElem?_eq_getElem h'
      refine T_skip ?_
      refine T_seq ?_
      refine T_block ?_
      refine T_seq (T_stills tyAll mixed (by kernel_rfl) (by simp [h, h', ha, hb] <;> rfl) ?_)
      refine OL_pick [0,1,5,25] (by simp <;> rfl) (OL_nil ?_)
      refine T_cond (by simp <;> rfl) (fun h2 => ?_) (fun h2 => ?_)
      · simp at h2
        refine T_seq (T_region ?_)
        refine OL_runs tyAll (by simp <;> rfl) ?_
        refine OL_pick [4] (by simp <;> rfl) (OL_nil ?_)
        refine T_ret ⟨_, (by simp <;> rfl), ?_, rfl⟩
        have : a ≠ b := by intro he; subst he; exact h2 rfl
        simp [this]
      · simp at h2
        refine T_skip ?_
        refine (T_region ?_)
        refine OL_runs tyAll (by simp [wrap_succ (show i < 1000000000000 by omega)] <;> rfl) ?_
        refine OL_pick [0,1,5] (by simp <;> rfl) (OL_nil ?_)
        exact ⟨i + 1, by simp, ⟨by omega, take_eq_succ hi2 ha (by rw [hb, h2])⟩, by omega⟩
    · simp at h
      refine T_exit ?_
      refine T_seq (T_region ?_)
      refine OL_runs tyAll (by simp <;> rfl) ?_
      refine OL_pick [4] (by simp <;> rfl) (OL_nil ?_)
      refine T_ret ⟨_, (by simp <;> rfl), ?_, rfl⟩
      have : a = b := by
        have h1 : a.take i = a := List.take_of_length_le (by omega)
        have h2 : b.take i = b := List.take_of_length_le (by omega)
        rw [h1, h2] at hi2; exact hi2
      simp [this]

/-- lexicographic order -/
def lexLt : List Int → List Int → Bool
  | [], [] => false
  | [], _ :: _ => true
  | _ :: _, [] => false
  | x :: xs, y :: ys => if x = y then lexLt xs ys else decide (x < y)

theorem f12_ok (n1 n2 : Bool) (a b : List Int) (hl : a.length < 1000000000) : Does Try.prog 12 [ints n1 a, ints n2 b] (fun r outs => r = .bool (lexLt a b) ∧ outs = [.dead, .dead]) := by
  refine fn_of tyAll (rs := [.t 4]) 41 Try.func12 rfl rfl rfl rfl (by simp) rfl ?_
  rw [show start 41 [ints n1 a, ints n2 b] = mk 41 [(1, ints n2 b), (0, ints n1 a)] [] by simp]
  refine T_seq (T_region ?_)
  refine OL_runs tyAll (by simp <;> rfl) ?_
  refine OL_pick [0,1] (by simp <;> rfl) (OL_nil ?_)
  refine T_seq ?_
  refine T_seq (T_region ?_)
  refine OL_runs tyAll (by simp <;> rfl) ?_
  refine OL_pick [0,1,5] (by simp <;> rfl) (OL_nil ?_)
  refine T_block ?_
  refine T_loopF (fun i : Nat => mk 41 [(0, ints n1 a), (1, ints n2 b), (5, .int .i64 i)] []) (fun i => i ≤ a.length ∧ i ≤ b.length ∧ lexLt a b = lexLt (a.drop i) (b.drop i)) (fun i => a.length - i) 0 (by simp) (by simp) ?_
  rintro i ⟨hi1, hi2, hi3⟩
  refine T_seq ?_
  have last : ¬ (i < a.length ∧ i < b.length) → lexLt a b = decide (a.length < b.length) := by
    intro h
    rw [hi3]
    by_cases ha : i < a.length
    · have hb : i = b.length := by omega
      subst hb
      rw [List.drop_length, List.drop_eq_getElem_cons ha]
      simp [lexLt]; omega
    · have hb : i = a.length := by omega
      subst hb
      rw [List.drop_length]
      by_cases hb : a.length < b.length
      · rw [List.drop_eq_getElem_cons hb]; simp [lexLt, hb]
      · have : b.drop a.length = [] := List.drop_eq_nil_of_le (by omega)
        rw [this]; simp [lexLt, hb]
  by_cases h : i < a.length
  · by_cases h' : i < b.length
    · refine T_seq (T_region ?_)
      refine OL_runs tyAll (by simp [h, h'] <;> rfl) ?_
      refine OL_pick [0,1,5,15] (by simp <;> rfl) (OL_nil ?_)
      refine T_cond (b := true) (by simp <;> rfl) (fun h => ?_) (fun h => by cases h)
      have ha : a[i]? = some a[i] := List.getElem?_eq_getElem (by omega)
      have hb : b[i]? = some b[i] := List.getElem?_eq_getElem (by omega)
      have hs : lexLt a b = if a[i] = b[i] then lexLt (a.drop (i + 1)) (b.drop (i + 1)) else decide (a[i] < b[i]) := by
        rw [hi3, List.drop_eq_getElem_cons (by omega : i < a.length), List.drop_eq_getElem_cons h']; rfl
      refine T_skip ?_
      refine T_seq ?_
      refine T_block ?_
      refine T_seq (T_stills tyAll mixed (by kernel_rfl) (by simp [*] <;> rfl) ?_)
      refine OL_pick [0,1,5,26] (by simp <;> rfl) (OL_nil ?_)
      refine T_cond (by simp <;> rfl) (fun h2 => ?_) (fun h2 => ?_)
      · simp at h2
        refine T_seq (T_stills tyAll mixed (by kernel_rfl) (by simp [*] <;> rfl) ?_)
        refine OL_pick [4] (by simp <;> rfl) (OL_nil ?_)
        refine T_ret ⟨_, (by simp <;> rfl), ?_, rfl⟩
        rw [hs, if_neg h2]
      · simp at h2
        refine T_skip ?_
        refine (T_region ?_)
        refine OL_runs tyAll (by simp [wrap_succ (show i < 1000000000000 by omega)] <;> rfl) ?_
        refine OL_pick [0,1,5] (by simp <;> rfl) (OL_nil ?_)
        exact ⟨i + 1, by simp, ⟨by omega, by omega, by rw [hs, if_pos h2]⟩, by omega⟩
    · refine T_seq (T_region ?_)
      refine OL_runs tyAll (by simp [h, h'] <;> rfl) ?_
      refine OL_pick [0,1,5,15] (by simp <;> rfl) (OL_nil ?_)
      refine T_cond (b := false) (by simp <;> rfl) (fun h => by cases h) (fun h => ?_)
      refine T_exit ?_
      refine T_seq (T_region ?_)
      refine OL_runs tyAll (by simp <;> rfl) ?_
      refine OL_pick [4] (by simp <;> rfl) (OL_nil ?_)
      refine T_ret ⟨_, (by simp <;> rfl), ?_, rfl⟩
      rw [last (by omega)]
  · refine T_seq (T_region ?_)
    refine OL_runs tyAll (by simp [h] <;> rfl) ?_
    refine OL_pick [0,1,5,15] (by simp <;> rfl) (OL_nil ?_)
    refine T_cond (b := false) (by simp <;> rfl) (fun h => by cases h) (fun h => ?_)
    refine T_exit ?_
    refine T_seq (T_region ?_)
    refine OL_runs tyAll (by simp <;> rfl) ?_
    refine OL_pick [4] (by simp <;> rfl) (OL_nil ?_)
    refine T_ret ⟨_, (by simp <;> rfl), ?_, rfl⟩
    rw [last (by omega)]
end Go.Lite.LT

namespace Go.Lite.LT
open Go.Proofs
set_option maxRecDepth 4000
set_option linter.unusedSimpArgs false
set_option linter.unusedVariables false
attribute [local simp] ty

structure Quo where
  mem : List Int
  least : Int
  most : Int

@[simp] def quoV (q : Quo) : V := .agg [ints true q.mem, .int .i64 q.least, .int .i64 q.most]
structure Poo where
  people : Int
  size : Int
  quotas : List Quo

@[simp] def pooV (p : Poo) : V := .agg [.int .i64 p.people, .int .i64 p.size, .isl true 3 (p.quotas.map quoV)]

/-- how many of a set a quota names -/
def hits (q : Quo) (set : List Int) : Nat := (set.filter fun x => decide (x ∈ q.mem)).length
def missQ (q : Quo) (set : List Int) : Int := max 0 (q.least - hits q set) + max 0 (hits q set - q.most)
def missed (qs : List Quo) (set : List Int) : Int := (qs.map fun q => missQ q set).sum

/-- numbers that are small enough -/
def Small (p : Poo) : Prop := p.quotas.length < 1000 ∧ ∀ q ∈ p.quotas, q.mem.length < 1000 ∧ (-1000 < q.least ∧ q.least < 1000) ∧ (-1000 < q.most ∧ q.most < 1000)

theorem hits_le (q : Quo) (set : List Int) : hits q set ≤ set.length := List.length_filter_le _ _

theorem hits_succ {q : Quo} {set : List Int} {i : Nat} {x : Int} (hx : set[i]? = some x) : hits q (set.take (i + 1)) = hits q (set.take i) + if x ∈ q.mem then 1 else 0 := by
  unfold hits
  rw [List.take_add_one, hx, List.filter_append, List.length_append]
  by_cases h : x ∈ q.mem <;> simp [h]

theorem missed_succ {qs : List Quo} {set : List Int} {i : Nat} {q : Quo} (hq : qs[i]? = some q) : missed (qs.take (i + 1)) set = missed (qs.take i) set + missQ q set := by
  unfold missed
  rw [List.take_add_one, hq]
  simp

theorem missQ_bound {q : Quo} {set : List Int} (h1 : -1000 < q.least ∧ q.least < 1000) (h2 : -1000 < q.most ∧ q.most < 1000) (hs : set.length < 1000) : 0 ≤ missQ q set ∧ missQ q set < 10000 := by
  have := hits_le q set
  unfold missQ
  omega

theorem missed_bound {set : List Int} (hs : set.length < 1000) : ∀ (qs : List Quo), (∀ q ∈ qs, (-1000 < q.least ∧ q.least < 1000) ∧ (-1000 < q.most ∧ q.most < 1000)) → 0 ≤ missed qs set ∧ missed qs set ≤ 10000 * qs.length
  | [], _ => by simp [missed]
  | q :: qs, h => by
    obtain ⟨h1, h2⟩ := missed_bound hs qs (fun q hq => h q (by simp [hq]))
    obtain ⟨h3, h4⟩ := missQ_bound (set := set) (h q (by simp)).1 (h q (by simp)).2 hs
    simp only [missed, List.map_cons, List.sum_cons, List.length_cons] at *
    omega

theorem f45_ok (p : Poo) (nn : Bool) (set : List Int) (hp : Small p) (hs : set.length < 1000) : Does Try.prog 45 [.iptr (pooV p), ints nn set] (fun r outs => r = .int .i64 (missed p.quotas set) ∧ outs = [.dead, .dead]) := by
  obtain ⟨hp1, hp2⟩ := hp
  refine fn_of tyAll (rs := [.t 4]) 60 Try.func45 rfl rfl rfl rfl (by simp) rfl ?_
  rw [show start 60 [.iptr (pooV p), ints nn set] = mk 60 [(1, ints nn set), (0, .iptr (pooV p))] [] by simp]
  refine T_seq (T_region ?_)
  refine OL_runs tyAll (by simp <;> rfl) ?_
  refine OL_pick [0,1] (by simp <;> rfl) (OL_nil ?_)
  refine T_seq (T_region ?_)
  refine OL_runs tyAll (by simp <;> rfl) ?_
  refine OL_pick [0,1,5] (by simp <;> rfl) (OL_nil ?_)
  refine T_seq ?_
  refine T_seq (T_region ?_)
  refine OL_runs tyAll (by simp <;> rfl) ?_
  refine OL_pick [0,1,5,6] (by simp <;> rfl) (OL_nil ?_)
  refine T_block ?_
  refine T_loopF (fun i : Nat => mk 60 [(0, .iptr (pooV p)), (1, ints nn set), (5, .int .i64 (missed (p.quotas.take i) set)), (6, .int .i64 i)] []) (fun i => i ≤ p.quotas.length) (fun i => p.quotas.length - i) 0 (by simp [missed]) (by simp) ?_
  rintro i hi
  refine T_seq ?_
  refine T_seq (T_region ?_)
  refine OL_runs tyAll (by simp <;> rfl) ?_
  refine OL_pick [0,1,5,6,16] (by simp <;> rfl) (OL_nil ?_)
  refine T_cond (by simp <;> rfl) (fun h => ?_) (fun h => ?_)
  · simp at h
    refine T_skip ?_
    refine T_seq ?_
    refine T_block ?_
    have hq : p.quotas[i]? = some p.quotas[i] := List.getElem?_eq_getElem h
    obtain ⟨q, hqe⟩ : ∃ q, q = p.quotas[i] := ⟨_, rfl⟩
    rw [← hqe] at hq
    have hqm : q ∈ p.quotas := hqe ▸ List.getElem_mem h
    obtain ⟨hq1, hq2, hq3⟩ := hp2 q hqm
    refine T_seq (T_region ?_)
    refine OL_runs tyAll (by simp [h, hq] <;> rfl) ?_
    refine OL_pick [0,1,5,6,7] (by simp <;> rfl) (OL_nil ?_)
    refine T_seq (T_region ?_)
    refine OL_runs tyAll (by simp <;> rfl) ?_
    refine OL_pick [0,1,5,6,7,8] (by simp <;> rfl) (OL_nil ?_)
    refine T_seq ?_
    refine T_seq (T_region ?_)
    refine OL_runs tyAll (by simp <;> rfl) ?_
    refine OL_pick [0,1,5,6,7,8,9] (by simp <;> rfl) (OL_nil ?_)
    refine T_block ?_
    refine T_loopF (fun j : Nat => mk 60 [(0, .iptr (pooV p)), (1, ints nn set), (5, .int .i64 (missed (p.quotas.take i) set)), (6, .int .i64 i), (7, .iptr (quoV q)), (8, .int .i64 (hits q (set.take j))), (9, .int .i64 j)] []) (fun j => j ≤ set.length) (fun j => set.length - j) 0 (by simp [hits, ← hqe]) (by simp) ?_
    rintro j hj
    refine T_seq ?_
    refine T_seq (T_region ?_)
    refine OL_runs tyAll (by simp <;> rfl) ?_
    refine OL_pick [0,1,5,6,7,8,9,28] (by simp <;> rfl) (OL_nil ?_)
    refine T_cond (by simp <;> rfl) (fun h2 => ?_) (fun h2 => ?_)
    · simp at h2
      have hx : set[j]? = some set[j] := List.getElem?_eq_getElem h2
      refine T_skip ?_
      refine T_cut (fun st => st = mk 60 [(0, .iptr (pooV p)), (1, ints nn set), (5, .int .i64 (missed (p.quotas.take i) set)), (6, .int .i64 i), (7, .iptr (quoV q)), (8, .int .i64 (hits q (set.take (j + 1)))), (9, .int .i64 j)] []) ?_ ?_
      · refine T_block ?_
        refine T_seq (T_tails 8 tyAll mixed (by kernel_rfl) (by simp [h2, hx] <;> rfl) ?_)
        dsimp only [List.drop]
        refine OL_call [.b (ints true q.mem), .b (.int .i64 set[j])] 40000 (by simp) rfl (by simp <;> rfl) (by simp) (by simp) (by simp <;> rfl) (f60_ok true q.mem set[j] (by omega)) (by simp) ?_ ?_
        · rintro _ _ ⟨rfl, rfl⟩; simp
        rintro _ _ ⟨rfl, rfl⟩
        refine OL_state (by simp <;> rfl) ?_
        refine OL_pick [0,1,5,6,7,8,9,39] (by simp <;> rfl) (OL_nil ?_)
        refine T_cond (by simp <;> rfl) (fun h3 => ?_) (fun h3 => ?_)
        · simp at h3
          refine (T_region ?_)
          have hle := hits_le q (set.take j)
          simp only [List.length_take] at hle
          refine OL_runs tyAll (by simp [wrap_succ (show hits q (set.take j) < 1000000000000 by omega)] <;> rfl) ?_
          refine OL_pick [0,1,5,6,7,8,9] (by simp <;> rfl) (OL_nil ?_)
          show _ = _
          rw [hits_succ hx]; simp [h3]
        · simp at h3
          refine T_pick [0,1,5,6,7,8,9] (by simp <;> rfl) (T_skip ?_)
          show _ = _
          rw [hits_succ hx]; simp [h3]
      rintro st rfl
      refine (T_region ?_)
      refine OL_runs tyAll (by simp [wrap_succ (show j < 1000000000000 by omega)] <;> rfl) ?_
      refine OL_pick [0,1,5,6,7,8,9] (by simp <;> rfl) (OL_nil ?_)
      exact ⟨j + 1, by simp, by omega, by omega⟩
    · simp at h2
      have hjn : j = set.length := by omega
      subst hjn
      refine T_exit ?_
      have hm := missed_bound (set := set) hs (p.quotas.take i) (fun q hq => (hp2 q (List.mem_of_mem_take hq)).2)
      have hml : (p.quotas.take i).length ≤ i := by simp; omega
      have hh := hits_le q set
      have hb := missQ_bound (set := set) hq2 hq3 hs
      have w1 : IntKind.i64.wrap (q.least - hits q set) = q.least - hits q set := wrap_i64 (by omega) (by omega)
      have w2 : IntKind.i64.wrap (hits q set - q.most) = hits q set - q.most := wrap_i64 (by omega) (by omega)
      have w3 : IntKind.i64.wrap (max 0 (q.least - hits q set) + max 0 (hits q set - q.most)) = max 0 (q.least - hits q set) + max 0 (hits q set - q.most) := wrap_i64 (by omega) (by omega)
      have w4 : IntKind.i64.wrap (missed (p.quotas.take i) set + (max 0 (q.least - hits q set) + max 0 (hits q set - q.most))) = missed (p.quotas.take i) set + (max 0 (q.least - hits q set) + max 0 (hits q set - q.most)) := by
        unfold missQ at hb; exact wrap_i64 (by omega) (by omega)
      refine T_then (fun st => st = mk 60 [(0, .iptr (pooV p)), (1, ints nn set), (5, .int .i64 (missed (p.quotas.take (i + 1)) set)), (6, .int .i64 i)] []) ?_ ?_
      · skip
        refine (T_orders mixed (n := 18) (L := #[false, false, false, false, false, false, false, false, false, false, false, false, false, false, false, false, false, false]) rfl rfl ?_)
        refine DA_take 0 tyAll rfl (by kernel_rfl) (by kernel_rfl) (by kernel_rfl) (by simp) (by simp <;> rfl) (by simp) (by simp <;> rfl) ?_
        refine DA_take 1 tyAll rfl (by kernel_rfl) (by kernel_rfl) (by kernel_rfl) (by simp) (by simp <;> rfl) (by simp) (by simp <;> rfl) ?_
        refine DA_take 2 tyAll rfl (by kernel_rfl) (by kernel_rfl) (by kernel_rfl) (by simp) (by simp <;> rfl) (by simp) (by simp <;> rfl) ?_
        refine DA_take 3 tyAll rfl (by kernel_rfl) (by kernel_rfl) (by kernel_rfl) (by simp) (by simp <;> rfl) (by simp) (by simp <;> rfl) ?_
        refine DA_take 5 tyAll rfl (by kernel_rfl) (by kernel_rfl) (by kernel_rfl) (by simp) (by simp <;> rfl) (by simp) (by simp <;> rfl) ?_
        refine DA_take 8 tyAll rfl (by kernel_rfl) (by kernel_rfl) (by kernel_rfl) (by simp) (by simp <;> rfl) (by simp) (by simp <;> rfl) ?_
        refine DA_take 9 tyAll rfl (by kernel_rfl) (by kernel_rfl) (by kernel_rfl) (by simp) (by simp <;> rfl) (by simp) (by simp <;> rfl) ?_
        refine DA_take 10 tyAll rfl (by kernel_rfl) (by kernel_rfl) (by kernel_rfl) (by simp) (by simp <;> rfl) (by simp) (by simp <;> rfl) ?_
        refine DA_take 11 tyAll rfl (by kernel_rfl) (by kernel_rfl) (by kernel_rfl) (by simp) (by simp <;> rfl) (by simp) (by simp <;> rfl) ?_
        refine DA_two 4 12 (by kernel_rfl) ?_ ?_
        ·
          refine D1_op tyAll rfl (by simp) (by simp <;> rfl) ?_
          refine DA_take 6 tyAll rfl (by kernel_rfl) (by kernel_rfl) (by kernel_rfl) (by simp) (by simp [w1] <;> rfl) (by simp) (by simp <;> rfl) ?_
          refine DA_two 7 12 (by kernel_rfl) ?_ ?_
          ·
            refine D1_call [.b (.int .i64 0), .b (.int .i64 (q.least - hits q set))] 50000 rfl (by simp) rfl (by simp <;> rfl) (by simp) (by simp) (by simp <;> rfl) (f61_ok 0 (q.least - hits q set)) (by simp) ?_ ?_
            · rintro _ _ ⟨rfl, rfl⟩; simp
            rintro _ _ ⟨rfl, rfl⟩
            refine DA_state (by simp <;> rfl) ?_
            refine DA_one 12 (by kernel_rfl) ?_
            refine D1_op tyAll rfl (by simp) (by simp <;> rfl) ?_
            refine DA_take 13 tyAll rfl (by kernel_rfl) (by kernel_rfl) (by kernel_rfl) (by simp) (by simp [w2] <;> rfl) (by simp) (by simp <;> rfl) ?_
            refine DA_one 14 (by kernel_rfl) ?_
            refine D1_call [.b (.int .i64 0), .b (.int .i64 (hits q set - q.most))] 57000 rfl (by simp) rfl (by simp <;> rfl) (by simp) (by simp) (by simp <;> rfl) (f61_ok 0 (hits q set - q.most)) (by simp) ?_ ?_
            · rintro _ _ ⟨rfl, rfl⟩; simp
            rintro _ _ ⟨rfl, rfl⟩
            refine DA_state (by simp <;> rfl) ?_
            refine DA_take 15 tyAll rfl (by kernel_rfl) (by kernel_rfl) (by kernel_rfl) (by simp) (by simp [w3] <;> rfl) (by simp) (by simp <;> rfl) ?_
            refine DA_take 16 tyAll rfl (by kernel_rfl) (by kernel_rfl) (by kernel_rfl) (by simp) (by simp [w4] <;> rfl) (by simp) (by simp <;> rfl) ?_
            refine DA_take 17 tyAll rfl (by kernel_rfl) (by kernel_rfl) (by kernel_rfl) (by simp) (by simp <;> rfl) (by simp) (by simp <;> rfl) ?_
            refine DA_fin (by kernel_rfl) ?_
            refine OL_pick [0,1,5,6] (by simp <;> rfl) (OL_nil ?_)
            show _ = _; rw [missed_succ hq]; simp [missQ]
          ·
            refine D1_op tyAll rfl (by simp) (by simp <;> rfl) ?_
            refine DA_take 13 tyAll rfl (by kernel_rfl) (by kernel_rfl) (by kernel_rfl) (by simp) (by simp [w2] <;> rfl) (by simp) (by simp <;> rfl) ?_
            refine DA_one 7 (by kernel_rfl) ?_
            refine D1_call [.b (.int .i64 0), .b (.int .i64 (q.least - hits q set))] 50000 rfl (by simp) rfl (by simp <;> rfl) (by simp) (by simp) (by simp <;> rfl) (f61_ok 0 (q.least - hits q set)) (by simp) ?_ ?_
            · rintro _ _ ⟨rfl, rfl⟩; simp
            rintro _ _ ⟨rfl, rfl⟩
            refine DA_state (by simp <;> rfl) ?_
            refine DA_one 14 (by kernel_rfl) ?_
            refine D1_call [.b (.int .i64 0), .b (.int .i64 (hits q set - q.most))] 57000 rfl (by simp) rfl (by simp <;> rfl) (by simp) (by simp) (by simp <;> rfl) (f61_ok 0 (hits q set - q.most)) (by simp) ?_ ?_
            · rintro _ _ ⟨rfl, rfl⟩; simp
            rintro _ _ ⟨rfl, rfl⟩
            refine DA_state (by simp <;> rfl) ?_
            refine DA_take 15 tyAll rfl (by kernel_rfl) (by kernel_rfl) (by kernel_rfl) (by simp) (by simp [w3] <;> rfl) (by simp) (by simp <;> rfl) ?_
            refine DA_take 16 tyAll rfl (by kernel_rfl) (by kernel_rfl) (by kernel_rfl) (by simp) (by simp [w4] <;> rfl) (by simp) (by simp <;> rfl) ?_
            refine DA_take 17 tyAll rfl (by kernel_rfl) (by kernel_rfl) (by kernel_rfl) (by simp) (by simp <;> rfl) (by simp) (by simp <;> rfl) ?_
            refine DA_fin (by kernel_rfl) ?_
            refine OL_pick [0,1,5,6] (by simp <;> rfl) (OL_nil ?_)
            show _ = _; rw [missed_succ hq]; simp [missQ]
        ·
          refine D1_op tyAll rfl (by simp) (by simp <;> rfl) ?_
          refine DA_take 13 tyAll rfl (by kernel_rfl) (by kernel_rfl) (by kernel_rfl) (by simp) (by simp [w2] <;> rfl) (by simp) (by simp <;> rfl) ?_
          refine DA_one 4 (by kernel_rfl) ?_
          refine D1_op tyAll rfl (by simp) (by simp <;> rfl) ?_
          refine DA_take 6 tyAll rfl (by kernel_rfl) (by kernel_rfl) (by kernel_rfl) (by simp) (by simp [w1] <;> rfl) (by simp) (by simp <;> rfl) ?_
          refine DA_one 7 (by kernel_rfl) ?_
          refine D1_call [.b (.int .i64 0), .b (.int .i64 (q.least - hits q set))] 50000 rfl (by simp) rfl (by simp <;> rfl) (by simp) (by simp) (by simp <;> rfl) (f61_ok 0 (q.least - hits q set)) (by simp) ?_ ?_
          · rintro _ _ ⟨rfl, rfl⟩; simp
          rintro _ _ ⟨rfl, rfl⟩
          refine DA_state (by simp <;> rfl) ?_
          refine DA_one 14 (by kernel_rfl) ?_
          refine D1_call [.b (.int .i64 0), .b (.int .i64 (hits q set - q.most))] 57000 rfl (by simp) rfl (by simp <;> rfl) (by simp) (by simp) (by simp <;> rfl) (f61_ok 0 (hits q set - q.most)) (by simp) ?_ ?_
          · rintro _ _ ⟨rfl, rfl⟩; simp
          rintro _ _ ⟨rfl, rfl⟩
          refine DA_state (by simp <;> rfl) ?_
          refine DA_take 15 tyAll rfl (by kernel_rfl) (by kernel_rfl) (by kernel_rfl) (by simp) (by simp [w3] <;> rfl) (by simp) (by simp <;> rfl) ?_
          refine DA_take 16 tyAll rfl (by kernel_rfl) (by kernel_rfl) (by kernel_rfl) (by simp) (by simp [w4] <;> rfl) (by simp) (by simp <;> rfl) ?_
          refine DA_take 17 tyAll rfl (by kernel_rfl) (by kernel_rfl) (by kernel_rfl) (by simp) (by simp <;> rfl) (by simp) (by simp <;> rfl) ?_
          refine DA_fin (by kernel_rfl) ?_
          refine OL_pick [0,1,5,6] (by simp <;> rfl) (OL_nil ?_)
          show _ = _; rw [missed_succ hq]; simp [missQ]
      rintro st rfl
      refine (T_region ?_)
      refine OL_runs tyAll (by simp [wrap_succ (show i < 1000000000000 by omega)] <;> rfl) ?_
      refine OL_pick [0,1,5,6] (by simp <;> rfl) (OL_nil ?_)
      exact ⟨i + 1, by simp, by omega, by omega⟩
  · simp at h
    refine T_exit ?_
    refine T_seq (T_region ?_)
    refine OL_runs tyAll (by simp <;> rfl) ?_
    refine OL_pick [4] (by simp <;> rfl) (OL_nil ?_)
    have hin : i = p.quotas.length := by omega
    subst hin
    refine T_ret ⟨_, (by simp <;> rfl), rfl, rfl⟩
end Go.Lite.LT

namespace Go.Lite.LT
open Go.Proofs
set_option maxRecDepth 4000
set_option linter.unusedSimpArgs false
set_option linter.unusedVariables false
attribute [local simp] ty

theorem fzL_eq : ∀ xs : List V, fzL xs = xs.map V.fz
  | [] => rfl
  | x :: xs => by simp [fzL, fzL_eq xs]

/-- one above the last place that can be followed -/
def lastAt (n k : Nat) (now : List Int) : Nat → Nat
  | 0 => 0
  | j + 1 => if now.getD j 0 = (n : Int) - k + j then lastAt n k now j else j + 1

def nextTeam (n k : Nat) (now : List Int) : Option (List Int) :=
  match lastAt n k now k with
  | 0 => none
  | j + 1 => some (now.take j ++ (List.range (k - j)).map fun (i : Nat) => now.getD j 0 + 1 + (i : Int))

def teamsFrom (n k : Nat) : Nat → List Int → List (List Int)
  | 0, _ => []
  | f + 1, now => now :: match nextTeam n k now with
    | none => []
    | some t => teamsFrom n k f t

def okFrom (n k : Nat) : Nat → List Int → Bool
  | 0, _ => false
  | f + 1, now => now.length == k && now.all (fun x => decide (0 ≤ x ∧ x < 100)) && match nextTeam n k now with
    | none => true
    | some t => okFrom n k f t

def teams (n k : Nat) : List (List Int) := teamsFrom n k 40 (upto k)

theorem teams_ok : ((List.range 8).all fun n => (List.range (n + 1)).all fun k => okFrom n k 40 (upto k)) = true := by kernel_rfl

theorem teamsFrom_length (n k : Nat) : ∀ (f : Nat) (now : List Int), (teamsFrom n k f now).length ≤ f
  | 0, _ => by simp [teamsFrom]
  | f + 1, now => by
    simp only [teamsFrom]
    split
    · simp
    · rename_i t _; have := teamsFrom_length n k f t; simp; omega

@[simp] def rowsV (T : List (List Int)) : V := .own 1 (T.map (ints true))

theorem f22_ok (n k : Nat) (qs : List Quo) (hk : 1 ≤ k) (hkn : k ≤ n) (hn : n ≤ 7) (hok : okFrom n k 40 (upto k) = true) : Does Try.prog 22 [.iptr (pooV ⟨n, k, qs⟩)] (fun r outs => r = rowsV (teams n k) ∧ outs = [.dead]) := by
  refine fn_of tyAll (rs := [.t 2]) 74 Try.func22 rfl rfl rfl rfl (by simp) rfl ?_
  rw [show start 74 [.iptr (pooV ⟨n, k, qs⟩)] = mk 74 [(0, .iptr (pooV ⟨n, k, qs⟩))] [] by simp]
  refine T_seq (T_region ?_)
  refine OL_runs tyAll (by simp <;> rfl) ?_
  refine OL_pick [0] (by simp <;> rfl) (OL_nil ?_)
  refine T_seq (T_region ?_)
  refine OL_runs tyAll (by simp <;> rfl) ?_
  refine OL_pick [0,3] (by simp <;> rfl) ?_
  refine OL_rename 8 17 (by decide) (by simp) (by decide) (by simp <;> rfl) (by simp <;> rfl) (OL_nil ?_)
  refine T_seq (T_region ?_)
  refine OL_first 4 tyAll (by simp <;> rfl) ?_
  dsimp only [List.drop]
  refine OL_call [.b (.int .i64 k)] 14000 (by simp) rfl (by simp <;> rfl) (by simp) (by simp) (by simp <;> rfl) (f39_ok k (by omega)) (by simp) ?_ ?_
  · rintro _ _ ⟨rfl, rfl⟩; simp
  rintro _ _ ⟨rfl, rfl⟩
  refine OL_state (by simp <;> rfl) ?_
  refine OL_runs tyAll (by simp <;> rfl) ?_
  refine OL_freeze 14000 (by simp <;> rfl) (by simp <;> rfl) ?_
  refine OL_pick [0,3,4] (by simp <;> rfl) (OL_nil ?_)
  refine T_block ?_
  refine T_loopF (fun x : List (List Int) × List Int × Nat => mk 74 [(0, .iptr (pooV ⟨n, k, qs⟩)), (3, .sl 17 [] 0 x.1.length), (4, ints true x.2.1)] [(17, rowsV x.1)])
    (fun x => okFrom n k x.2.2 x.2.1 = true ∧ x.1 ++ teamsFrom n k x.2.2 x.2.1 = teams n k) (fun x => x.2.2) ([], upto k, 40) (by simp) ⟨hok, rfl⟩ ?_
  rintro ⟨out, now, f⟩ ⟨ho, hT⟩
  simp only at ho hT ⊢
  cases f with
  | zero => simp [okFrom] at ho
  | succ g =>
  simp only [okFrom, Bool.and_eq_true, beq_iff_eq, List.all_eq_true, decide_eq_true_eq] at ho
  obtain ⟨⟨hlen, hall⟩, hnext⟩ := ho
  simp only [teamsFrom] at hT
  have hTl : (teams n k).length ≤ 40 := teamsFrom_length n k 40 (upto k)
  have hol : out.length + 1 ≤ 40 := by rw [← hT] at hTl; simp at hTl; omega
  refine T_block ?_
  refine T_seq (T_region ?_)
  refine OL_runs tyAll (by simp [show (out.length + 1) * 48 ≤ 281474976710656 by omega, show out.length + 1 ≤ 9223372036854775807 by omega] <;> rfl) ?_
  refine OL_drop 16 (by simp <;> rfl) (by simp <;> rfl) ?_
  refine OL_form [0,3,4] [17] (by simp <;> rfl) (by simp <;> rfl) (by simp) (OL_nil ?_)
  refine T_seq (T_region ?_)
  have hwk : IntKind.i64.wrap ((k : Int) - 1) = (k : Int) - 1 := wrap_i64 (by omega) (by omega)
  refine OL_runs tyAll (by simp [hwk] <;> rfl) ?_
  refine OL_pick [0,3,4,5] (by simp <;> rfl) (OL_nil ?_)
  refine T_seq ?_
  refine T_block ?_
  refine T_loopF (fun j : Nat => mk 74 [(0, .iptr (pooV ⟨n, k, qs⟩)), (3, .sl 17 [] 0 (out.length + 1)), (4, ints true now), (5, .int .i64 ((j : Int) - 1))] [(17, rowsV (out ++ [now]))])
    (fun j => j ≤ k ∧ lastAt n k now k = lastAt n k now j) (fun j => j) k (by simp) ⟨Nat.le_refl _, rfl⟩ ?_
  rintro j ⟨hj, hla⟩
  refine T_seq ?_
  cases j with
  | zero =>
    refine T_seq (T_stills tyAll mixed (by kernel_rfl) (by simp <;> rfl) ?_)
    refine OL_pick [0,3,4,5,42] (by simp <;> rfl) (OL_nil ?_)
    refine T_cond (b := false) (by simp <;> rfl) (fun h => by cases h) (fun h => ?_)
    refine T_exit ?_
    refine T_seq ?_
    refine T_seq (T_region ?_)
    refine OL_runs tyAll (by simp <;> rfl) ?_
    refine OL_pick [0,3,4,5,46] (by simp <;> rfl) (OL_nil ?_)
    refine T_cond (b := true) (by simp <;> rfl) (fun h => ?_) (fun h => by cases h)
    refine T_seq (T_region ?_)
    refine OL_runs tyAll (by simp <;> rfl) ?_
    refine OL_pick [2] (by simp <;> rfl) (OL_nil ?_)
    have hnt : nextTeam n k now = none := by simp [nextTeam, hla, lastAt]
    rw [hnt] at hT
    simp only at hT
    refine T_ret ⟨_, (by simp <;> rfl), ?_, rfl⟩
    rw [← hT]; simp
  | succ j =>
    have hx : now[j]? = some (now.getD j 0) := by
      rw [List.getD_eq_getElem?_getD, List.getElem?_eq_getElem (by omega)]; rfl
    obtain ⟨x, hxe⟩ : ∃ x, x = now.getD j 0 := ⟨_, rfl⟩
    rw [← hxe] at hx
    have hxb := hall x (List.mem_of_getElem? hx)
    have hjl : j < now.length := by omega
    have w1 : IntKind.i64.wrap ((n : Int) - k) = n - k := wrap_i64 (by omega) (by omega)
    have w2 : IntKind.i64.wrap ((n : Int) - k + j) = n - k + j := wrap_i64 (by omega) (by omega)
    have hxj : now[j] = x := by have := List.getElem?_eq_getElem hjl; rw [hx] at this; exact (Option.some.inj this).symm
    refine T_state (st := mk 74 _ _) (by simp <;> rfl) ?_
    refine T_seq (T_stills tyAll mixed (by kernel_rfl) (by simp [hjl, hxj, w1, w2] <;> rfl) ?_)
    refine OL_pick [0,3,4,5,42] (by simp <;> rfl) (OL_nil ?_)
    refine T_cond (by simp <;> rfl) (fun h => ?_) (fun h => ?_)
    · simp at h
      refine T_skip ?_
      refine T_block ?_
      have w3 : IntKind.i64.wrap ((j : Int) - 1) = (j : Int) - 1 := wrap_i64 (by omega) (by omega)
      refine (T_region ?_)
      refine OL_runs tyAll (by simp [w3] <;> rfl) ?_
      refine OL_pick [0,3,4,5] (by simp <;> rfl) (OL_nil ?_)
      refine ⟨j, by simp, ⟨by omega, ?_⟩, by omega⟩
      rw [hla, lastAt, ← hxe, if_pos h]
    · simp at h
      have hnt : nextTeam n k now = some (now.take j ++ (List.range (k - j)).map fun (i : Nat) => x + 1 + (i : Int)) := by
        simp only [nextTeam, hla, lastAt, ← hxe, if_neg h]
      rw [hnt] at hT hnext
      simp only at hT hnext
      refine T_exit ?_
      refine T_seq ?_
      refine T_seq (T_region ?_)
      have hj0 : ¬ (j : Int) < 0 := by omega
      refine OL_runs tyAll (by simp [hj0] <;> rfl) ?_
      refine OL_pick [0,3,4,5,46] (by simp <;> rfl) (OL_nil ?_)
      refine T_cond (b := false) (by simp <;> rfl) (fun h => by cases h) (fun h => ?_)
      refine T_skip ?_
      refine T_seq (T_region ?_)
      refine OL_first 3 tyAll (by simp [show (j : Int) ≤ now.length by omega] <;> rfl) ?_
      dsimp only [List.drop]
      refine OL_call [.b (ints true (now.take j))] 52000 (by simp) rfl (by simp <;> rfl) (by simp) (by simp) (by simp <;> rfl) (f40_ok true (now.take j) (by simp; omega)) (by simp) ?_ ?_
      · rintro _ _ ⟨rfl, rfl⟩; simp
      rintro _ _ ⟨rfl, rfl⟩
      refine OL_state (by simp <;> rfl) ?_
      refine OL_runs tyAll (by simp <;> rfl) ?_
      refine OL_rename 52000 72 (by decide) (by simp) (by decide) (by simp <;> rfl) (by simp <;> rfl) ?_
      refine OL_pick [0,3,4,5,6] (by simp <;> rfl) (OL_nil ?_)
      refine T_seq ?_
      refine T_seq (T_region ?_)
      refine OL_runs tyAll (by simp <;> rfl) ?_
      refine OL_form [0,3,4,5,6,7] [17,72] (by simp <;> rfl) (by simp <;> rfl) (by simp) (OL_nil ?_)
      refine T_block ?_
      have hml : min j now.length = j := by omega
      refine T_loopF (fun i : Nat => mk 74 [(0, .iptr (pooV ⟨n, k, qs⟩)), (3, .sl 17 [] 0 (out.length + 1)), (4, ints true now), (5, .int .i64 j), (6, .sl 72 [] 0 (j + i)), (7, .int .i64 ((j + i : Nat) : Int))] [(17, rowsV (out ++ [now])), (72, owns (now.take j ++ (List.range i).map fun (i : Nat) => x + 1 + (i : Int)))])
        (fun i => j + i ≤ k) (fun i => k - i) 0 (by simp [hml]) (by omega) ?_
      rintro i hi
      refine T_seq ?_
      refine T_seq (T_region ?_)
      refine OL_runs tyAll (by simp <;> rfl) ?_
      refine OL_pick [0,3,4,5,6,7,58] (by simp <;> rfl) (OL_nil ?_)
      refine T_cond (by simp <;> rfl) (fun h => ?_) (fun h => ?_)
      · simp at h
        refine T_skip ?_
        refine T_seq ?_
        refine T_block ?_
        refine (T_region ?_)
        have v1 : IntKind.i64.wrap (x + 1) = x + 1 := wrap_i64 (by omega) (by omega)
        have v2 : IntKind.i64.wrap (x + 1 + ((j : Int) + i)) = x + 1 + ((j : Int) + i) := wrap_i64 (by omega) (by omega)
        have v3 : IntKind.i64.wrap (x + 1 + ((j : Int) + i) - j) = x + 1 + i := by rw [wrap_i64 (by omega) (by omega)]; omega
        refine OL_runs tyAll (by simp [hjl, hxj, v1, v2, v3, hml, show (j + i + 1) * 16 ≤ 281474976710656 by omega, show j + i + 1 ≤ 9223372036854775807 by omega] <;> rfl) ?_
        refine OL_drop 71 (by simp <;> rfl) (by simp <;> rfl) ?_
        refine OL_form [0,3,4,5,6,7] [17,72] (by simp <;> rfl) (by simp <;> rfl) (by simp) (OL_nil ?_)
        refine (T_region ?_)
        have v4 : IntKind.i64.wrap ((j : Int) + i + 1) = (j : Int) + i + 1 := wrap_i64 (by omega) (by omega)
        refine OL_runs tyAll (by simp [v4] <;> rfl) ?_
        refine OL_form [0,3,4,5,6,7] [17,72] (by simp <;> rfl) (by simp <;> rfl) (by simp) (OL_nil ?_)
        refine ⟨i + 1, ?_, by omega, by omega⟩
        simp [List.range_succ, Nat.add_assoc, Int.add_assoc]
      · simp at h
        have hik : j + i = k := by omega
        refine T_exit ?_
        refine (T_region ?_)
        refine OL_runs tyAll (by simp <;> rfl) ?_
        refine OL_freeze 72 (by simp <;> rfl) (by simp <;> rfl) ?_
        refine OL_form [0,3,4] [17] (by simp <;> rfl) (by simp <;> rfl) (by simp) (OL_nil ?_)
        have hki : k - j = i := by omega
        rw [hki] at hT hnext
        refine ⟨(out ++ [now], now.take j ++ (List.range i).map fun (i : Nat) => x + 1 + (i : Int), g), ?_, ⟨hnext, by simpa using hT⟩, by simp⟩
        simp [hml, fzL_eq, Function.comp_def]
end Go.Lite.LT

namespace Go.Lite.LT
open Go.Proofs
set_option maxRecDepth 4000
set_option linter.unusedSimpArgs false
set_option linter.unusedVariables false
attribute [local simp] ty

theorem allSize_rows (T : List (List Int)) : allSize 1 (T.map (ints true)) = true := by
  induction T with
  | nil => rfl
  | cons x xs ih => simp [allSize, ih]
theorem fz_rows (T : List (List Int)) : fzL (T.map (ints true)) = T.map (ints true) := by
  induction T with
  | nil => rfl
  | cons x xs ih => simp [fzL, ih]
theorem solid_rows (T : List (List Int)) : solidL (T.map (ints true)) = true := by
  induction T with
  | nil => rfl
  | cons x xs ih => simp [solidL, ih]
theorem immut_rows (T : List (List Int)) : immutL (T.map (ints true)) = true := by
  induction T with
  | nil => rfl
  | cons x xs ih => simp [immutL, ih]
attribute [simp] allSize_rows fz_rows solid_rows immut_rows

/-- what the loop over teams has to know of them -/
theorem okFrom_all (n k : Nat) : ∀ (f : Nat) (now : List Int), okFrom n k f now = true → ∀ t ∈ teamsFrom n k f now, t.length = k ∧ ∀ x ∈ t, 0 ≤ x ∧ x < 100
  | 0, now, h => by simp [okFrom] at h
  | f + 1, now, h => by
    simp only [okFrom, Bool.and_eq_true, beq_iff_eq, List.all_eq_true, decide_eq_true_eq] at h
    obtain ⟨⟨h1, h2⟩, h3⟩ := h
    intro t ht
    simp only [teamsFrom, List.mem_cons] at ht
    rcases ht with rfl | ht
    · exact ⟨h1, h2⟩
    · split at ht
      · simp at ht
      · rename_i u hu
        rw [hu] at h3
        exact okFrom_all n k f u h3 t ht

/-- the panels of the reference -/
def panelsOf (n k : Nat) (qs : List Quo) : List (List Int) := (teams n k).filter fun t => missed qs t == 0

theorem filter_take_succ {T : List (List Int)} {p : List Int → Bool} {i : Nat} {x : List Int} (hx : T[i]? = some x) : (T.take (i + 1)).filter p = (T.take i).filter p ++ if p x then [x] else [] := by
  rw [List.take_add_one, hx, List.filter_append]
  cases h : p x <;> simp [h]

theorem f30_ok (n k : Nat) (qs : List Quo) (hk : 1 ≤ k) (hkn : k ≤ n) (hn : n ≤ 7) (hok : okFrom n k 40 (upto k) = true) (hs : Small ⟨n, k, qs⟩) :
    Does Try.prog 30 [.iptr (pooV ⟨n, k, qs⟩)] (fun r outs => r = rowsV (panelsOf n k qs) ∧ outs = [.dead]) := by
  have hT := okFrom_all n k 40 (upto k) hok
  change ∀ t ∈ teams n k, _ at hT
  have hTl : (teams n k).length ≤ 40 := teamsFrom_length n k 40 (upto k)
  refine fn_of tyAll (rs := [.t 2]) 30 Try.func30 rfl rfl rfl rfl (by simp) rfl ?_
  rw [show start 30 [.iptr (pooV ⟨n, k, qs⟩)] = mk 30 [(0, .iptr (pooV ⟨n, k, qs⟩))] [] by simp]
  refine T_seq (T_region ?_)
  refine OL_runs tyAll (by simp <;> rfl) ?_
  refine OL_pick [0] (by simp <;> rfl) (OL_nil ?_)
  refine T_seq (T_region ?_)
  refine OL_runs tyAll (by simp <;> rfl) ?_
  refine OL_rename 6 28 (by decide) (by simp) (by decide) (by simp <;> rfl) (by simp <;> rfl) ?_
  refine OL_pick [0,3] (by simp <;> rfl) (OL_nil ?_)
  refine T_seq (T_region ?_)
  refine OL_first 1 tyAll (by simp <;> rfl) ?_
  dsimp only [List.drop]
  refine OL_call [.b (.iptr (pooV ⟨n, k, qs⟩))] 9000 (by simp) rfl (by simp <;> rfl) (by simp) (by simp) (by simp <;> rfl) (f22_ok n k qs hk hkn hn hok) (by simp) ?_ ?_
  · rintro _ _ ⟨rfl, rfl⟩; simp
  rintro _ _ ⟨rfl, rfl⟩
  refine OL_state (by simp <;> rfl) ?_
  refine OL_runs tyAll (by simp <;> rfl) ?_
  refine OL_freeze 9000 (by simp <;> rfl) (by simp <;> rfl) ?_
  refine OL_form [0,3,4] [28] (by simp <;> rfl) (by simp <;> rfl) (by simp) (OL_nil ?_)
  refine T_seq ?_
  refine T_seq (T_region ?_)
  refine OL_runs tyAll (by simp <;> rfl) ?_
  refine OL_form [0,3,4,5] [28] (by simp <;> rfl) (by simp <;> rfl) (by simp) (OL_nil ?_)
  refine T_block ?_
  refine T_loopF (fun i : Nat => mk 30 [(0, .iptr (pooV ⟨n, k, qs⟩)), (3, .sl 28 [] 0 (((teams n k).take i).filter fun t => missed qs t == 0).length), (4, .isl true 1 ((teams n k).map (ints true))), (5, .int .i64 i)] [(28, rowsV (((teams n k).take i).filter fun t => missed qs t == 0))])
    (fun i => i ≤ (teams n k).length) (fun i => (teams n k).length - i) 0 (by simp) (by simp) ?_
  rintro i hi
  refine T_seq ?_
  refine T_seq (T_region ?_)
  refine OL_runs tyAll (by simp <;> rfl) ?_
  refine OL_pick [0,3,4,5,12] (by simp <;> rfl) (OL_nil ?_)
  refine T_cond (by simp <;> rfl) (fun h => ?_) (fun h => ?_)
  · simp at h
    refine T_skip ?_
    have hx : (teams n k)[i]? = some (teams n k)[i] := List.getElem?_eq_getElem h
    obtain ⟨t, hte⟩ : ∃ t, t = (teams n k)[i] := ⟨_, rfl⟩
    rw [← hte] at hx
    have htm : t ∈ teams n k := hte ▸ List.getElem_mem h
    obtain ⟨ht1, ht2⟩ := hT t htm
    have hfl : (((teams n k).take i).filter fun t => missed qs t == 0).length ≤ 40 := by
      refine Nat.le_trans (List.length_filter_le _ _) ?_
      simp; omega
    refine T_cut (fun st => st = mk 30 [(0, .iptr (pooV ⟨n, k, qs⟩)), (3, .sl 28 [] 0 (((teams n k).take (i + 1)).filter fun t => missed qs t == 0).length), (4, .isl true 1 ((teams n k).map (ints true))), (5, .int .i64 i)] [(28, rowsV (((teams n k).take (i + 1)).filter fun t => missed qs t == 0))]) ?_ ?_
    · refine T_block ?_
      refine T_seq (T_region ?_)
      refine OL_first 5 tyAll (by simp [h, hx, ← hte] <;> rfl) ?_
      dsimp only [List.drop]
      refine OL_call [.b (.iptr (pooV ⟨n, k, qs⟩)), .b (ints true t)] 21000 (by simp) rfl (by simp <;> rfl) (by simp) (by simp) (by simp <;> rfl) (f45_ok ⟨n, k, qs⟩ true t hs (by omega)) (by simp) ?_ ?_
      · rintro _ _ ⟨rfl, rfl⟩; simp
      rintro _ _ ⟨rfl, rfl⟩
      refine OL_state (by simp <;> rfl) ?_
      refine OL_runs tyAll (by simp <;> rfl) ?_
      refine OL_pick [0,3,4,5,21] (by simp <;> rfl) (OL_nil ?_)
      refine T_cond (by simp <;> rfl) (fun h2 => ?_) (fun h2 => ?_)
      · simp at h2
        refine (T_region ?_)
        refine OL_runs tyAll (by simp [h, hx, ← hte, show ((((teams n k).take i).filter fun t => missed qs t == 0).length + 1) * 48 ≤ 281474976710656 by omega, show (((teams n k).take i).filter fun t => missed qs t == 0).length + 1 ≤ 9223372036854775807 by omega] <;> rfl) ?_
        refine OL_drop 27 (by simp <;> rfl) (by simp <;> rfl) ?_
        refine OL_form [0,3,4,5] [28] (by simp <;> rfl) (by simp <;> rfl) (by simp) (OL_nil ?_)
        show _ = _
        rw [filter_take_succ hx]; simp [h2]
      · simp at h2
        refine T_form [0,3,4,5] [28] (by simp <;> rfl) (by simp <;> rfl) (by simp) (T_skip ?_)
        show _ = _
        rw [filter_take_succ hx]; simp [h2]
    rintro st rfl
    refine (T_region ?_)
    refine OL_runs tyAll (by simp [wrap_succ (show i < 1000000000000 by omega)] <;> rfl) ?_
    refine OL_form [0,3,4,5] [28] (by simp <;> rfl) (by simp <;> rfl) (by simp) (OL_nil ?_)
    exact ⟨i + 1, by simp, by omega, by omega⟩
  · simp at h
    refine T_exit ?_
    refine T_seq (T_region ?_)
    refine OL_runs tyAll (by simp <;> rfl) ?_
    refine OL_pick [2] (by simp <;> rfl) (OL_nil ?_)
    refine T_ret ⟨_, (by simp <;> rfl), ?_, rfl⟩
    have : (teams n k).take i = teams n k := List.take_of_length_le h
    simp [this, panelsOf]

theorem f8_ok (nn : Bool) (code : List Int) (hc : ∀ x ∈ code, 0 ≤ x ∧ x < 256) (n k : Nat) (qs : List Quo) (hk : 1 ≤ k) (hkn : k ≤ n) (hn : n ≤ 7) (hok : okFrom n k 40 (upto k) = true) (hne : teams n k ≠ []) :
    Does Try.prog 8 [bytes nn code, pooV ⟨n, k, qs⟩] (fun r outs => ∃ t ∈ teams n k, r = ints true t ∧ outs = [.dead, .dead]) := by
  have hTl : (teams n k).length ≤ 40 := teamsFrom_length n k 40 (upto k)
  have hT0 : 0 < (teams n k).length := by cases h : teams n k with | nil => exact absurd h hne | cons _ _ => simp
  refine fn_of tyAll (rs := [.t 4]) 17 Try.func8 rfl rfl rfl rfl (by simp) rfl ?_
  rw [show start 17 [bytes nn code, pooV ⟨n, k, qs⟩] = mk 17 [(1, pooV ⟨n, k, qs⟩), (0, bytes nn code)] [] by simp]
  refine T_seq (T_region ?_)
  refine OL_runs tyAll (by simp <;> rfl) ?_
  refine OL_pick [0,3] (by simp <;> rfl) (OL_nil ?_)
  refine T_seq (T_region ?_)
  refine OL_first 1 tyAll (by simp <;> rfl) ?_
  dsimp only [List.drop]
  refine OL_call [.b (bytes nn code)] 9000 (by simp) rfl (by simp <;> rfl) (by simp) (by simp) (by simp <;> rfl) (f16_ok nn code) (by simp) ?_ ?_
  · rintro _ _ ⟨rfl, rfl⟩; simp
  rintro _ _ ⟨rfl, rfl⟩
  refine OL_state (by simp <;> rfl) ?_
  refine OL_runs tyAll (by simp <;> rfl) ?_
  refine OL_freeze 3 (by simp <;> rfl) (by simp <;> rfl) ?_
  refine OL_pick [3,5] (by simp <;> rfl) (OL_nil ?_)
  refine T_seq (T_region ?_)
  refine OL_call [.b (.iptr (pooV ⟨n, k, qs⟩))] 10000 (by simp) rfl (by simp <;> rfl) (by simp) (by simp) (by simp <;> rfl) (f22_ok n k qs hk hkn hn hok) (by simp) ?_ ?_
  · rintro _ _ ⟨rfl, rfl⟩; simp
  rintro _ _ ⟨rfl, rfl⟩
  refine OL_state (by simp <;> rfl) ?_
  refine OL_runs tyAll (by simp <;> rfl) ?_
  refine OL_freeze 10000 (by simp <;> rfl) (by simp <;> rfl) ?_
  refine OL_pick [5,6] (by simp <;> rfl) (OL_nil ?_)
  refine T_seq (T_region ?_)
  refine OL_first 4 tyAll (by simp <;> rfl) ?_
  dsimp only [List.drop]
  refine OL_call [.g 9000, .b (.int .i64 (teams n k).length)] 15000 (by simp) rfl (by simp <;> rfl) (by simp) (by simp) (by simp <;> rfl) (f23_ok nn code hc 0 0 (teams n k).length (by omega) (by omega) (by omega)) (by simp) ?_ ?_
  · rintro _ _ ⟨b, p', m', hb, hp, rfl, rfl⟩; simp
  rintro _ _ ⟨b, p', m', hb, hp, rfl, rfl⟩
  have hbl : b.toNat < (teams n k).length := by omega
  have hx : (teams n k)[b.toNat]? = some (teams n k)[b.toNat] := List.getElem?_eq_getElem hbl
  refine OL_state (by simp <;> rfl) ?_
  refine OL_runs tyAll (by simp [show 0 ≤ b by omega, show b < (teams n k).length by omega, hx] <;> rfl) ?_
  refine OL_pick [4] (by simp <;> rfl) (OL_nil ?_)
  refine T_ret ⟨_, (by simp <;> rfl), (teams n k)[b.toNat], List.getElem_mem hbl, rfl, rfl⟩
end Go.Lite.LT

namespace Go.Lite.LT
open Go.Proofs
set_option maxRecDepth 4000
set_option linter.unusedSimpArgs false
set_option linter.unusedVariables false
attribute [local simp] ty

/-- at one place of a set -/
def setAt (xs : List Int) (n : Int) (k : Nat) : Prop := (0 ≤ xs.getD k 0 ∧ xs.getD k 0 ≤ n - 1) ∧ (0 < k → xs.getD (k - 1) 0 < xs.getD k 0)
instance (xs : List Int) (n : Int) (k : Nat) : Decidable (setAt xs n k) := by unfold setAt; exact inferInstance
/-- an increasing list of numbers from 0 to less than n -/
def isSetP (xs : List Int) (n : Int) : Prop := ∀ k, k < xs.length → setAt xs n k
instance (xs : List Int) (n : Int) : Decidable (isSetP xs n) := by unfold isSetP; exact inferInstance

theorem f31_ok (nn : Bool) (xs : List Int) (n : Int) (hl : xs.length < 1000000000) (hn : -9223372036854775808 < n ∧ n < 9223372036854775808) : Does Try.prog 31 [ints nn xs, .int .i64 n] (fun r outs => r = .bool (decide (isSetP xs n)) ∧ outs = [.dead, .dead]) := by
  have hw : IntKind.i64.wrap (n - 1) = n - 1 := wrap_i64 (by omega) (by omega)
  refine fn_of tyAll (rs := [.t 4]) 33 Try.func31 rfl rfl rfl rfl (by simp) rfl ?_
  rw [show start 33 [ints nn xs, .int .i64 n] = mk 33 [(1, .int .i64 n), (0, ints nn xs)] [] by simp]
  refine T_seq (T_region ?_)
  refine OL_runs tyAll (by simp <;> rfl) ?_
  refine OL_pick [0,1] (by simp <;> rfl) (OL_nil ?_)
  refine T_seq ?_
  refine T_seq (T_region ?_)
  refine OL_runs tyAll (by simp <;> rfl) ?_
  refine OL_pick [0,1,7,8,9] (by simp <;> rfl) (OL_nil ?_)
  refine T_block ?_
  refine T_loopF (fun i : Nat => mk 33 [(0, ints nn xs), (1, .int .i64 n), (7, ints nn xs), (8, .int .i64 xs.length), (9, .int .i64 i)] []) (fun i => i ≤ xs.length ∧ ∀ k, k < i → setAt xs n k) (fun i => xs.length - i) 0 (by simp) (by simp) ?_
  rintro i ⟨hi1, hi2⟩
  refine T_seq (T_region ?_)
  refine OL_runs tyAll (by simp <;> rfl) ?_
  refine OL_pick [0,1,7,8,9,10] (by simp <;> rfl) (OL_nil ?_)
  refine T_seq ?_
  refine T_cond (by simp <;> rfl) (fun h => ?_) (fun h => ?_)
  · simp at h
    have hx : xs[i]? = some xs[i] := List.getElem?_eq_getElem h
    obtain ⟨x, hxe⟩ : ∃ x, x = xs[i] := ⟨_, rfl⟩
    have hxg : xs.getD i 0 = x := by rw [List.getD_eq_getElem?_getD, hx, hxe]; rfl
    have bad : ¬ setAt xs n i → decide (isSetP xs n) = false := fun hb => by
      simp only [decide_eq_false_iff_not]; exact fun hp => hb (hp i h)
    refine T_skip ?_
    refine T_seq ?_
    refine T_block ?_
    refine T_seq (T_region ?_)
    refine OL_runs tyAll (by simp [h, ← hxe] <;> rfl) ?_
    refine OL_pick [0,1,5,6,7,8,9] (by simp <;> rfl) (OL_nil ?_)
    refine T_seq (T_region ?_)
    refine OL_first 3 tyAll (by simp [hw] <;> rfl) ?_
    dsimp only [List.drop]
    refine OL_call [.b (.int .i64 x), .b (.int .i64 0), .b (.int .i64 (n - 1))] 18000 (by simp) rfl (by simp <;> rfl) (by simp) (by simp) (by simp <;> rfl) (f32_ok x 0 (n - 1)) (by simp) ?_ ?_
    · rintro _ _ ⟨rfl, rfl⟩; simp
    rintro _ _ ⟨rfl, rfl⟩
    refine OL_state (by simp <;> rfl) ?_
    refine OL_mono (K := fun st => ∃ b : Bool, b = decide (¬ setAt xs n i) ∧ st = mk 33 [(0, ints nn xs), (1, .int .i64 n), (7, ints nn xs), (8, .int .i64 xs.length), (9, .int .i64 i), (31, .bool b)] []) ?_ ?_
    · by_cases hx1 : 0 ≤ x ∧ x ≤ n - 1
      · by_cases hi0 : 0 < i
        · have hj : i - 1 < xs.length := by omega
          obtain ⟨y, hye⟩ : ∃ y, y = xs[i - 1] := ⟨_, rfl⟩
          have hyg : xs.getD (i - 1) 0 = y := by rw [List.getD_eq_getElem?_getD, List.getElem?_eq_getElem hj, hye]; rfl
          have hw2 : IntKind.i64.wrap ((i : Int) - 1) = ((i - 1 : Nat) : Int) := by rw [wrap_i64 (by omega) (by omega)]; omega
          refine OL_runs tyAll (by simp [hx1, hi0, hw2, hj, ← hye] <;> rfl) ?_
          refine OL_pick [0,1,7,8,9,31] (by simp <;> rfl) (OL_nil ?_)
          refine ⟨_, ?_, rfl⟩
          simp only [setAt, hxg, hyg, hx1, hi0, true_and, forall_const]
          simp
        · refine OL_runs tyAll (by simp [hx1, hi0] <;> rfl) ?_
          refine OL_pick [0,1,7,8,9,31] (by simp <;> rfl) (OL_nil ?_)
          refine ⟨_, ?_, rfl⟩
          simp only [setAt, hxg, hx1, hi0, false_implies, and_true]; simp
      · have hb1 : (decide (0 ≤ x) && decide (x ≤ n - 1)) = false := by rw [← Bool.decide_and]; simpa using hx1
        refine OL_runs tyAll (by simp [hb1] <;> rfl) ?_
        refine OL_pick [0,1,7,8,9,31] (by simp <;> rfl) (OL_nil ?_)
        refine ⟨_, ?_, rfl⟩
        simp only [setAt, hxg, hx1]; simp
    · rintro st ⟨b, hb, rfl⟩
      refine T_cond (by simp <;> rfl) (fun h2 => ?_) (fun h2 => ?_)
      · subst h2
        refine T_seq (T_region ?_)
        refine OL_runs tyAll (by simp <;> rfl) ?_
        refine OL_pick [4] (by simp <;> rfl) (OL_nil ?_)
        refine T_ret ⟨_, (by simp <;> rfl), ?_, rfl⟩
        rw [bad (by simpa using hb.symm)]
      · subst h2
        refine T_skip ?_
        refine (T_region ?_)
        refine OL_runs tyAll (by simp [wrap_succ (show i < 1000000000000 by omega)] <;> rfl) ?_
        refine OL_pick [0,1,7,8,9] (by simp <;> rfl) (OL_nil ?_)
        have hs : setAt xs n i := by simpa using hb.symm
        refine ⟨i + 1, by simp, ⟨by omega, fun k hk => ?_⟩, by omega⟩
        by_cases hki : k = i
        · subst hki; exact hs
        · exact hi2 k (by omega)
  · simp at h
    refine T_exit ?_
    refine T_seq (T_region ?_)
    refine OL_runs tyAll (by simp <;> rfl) ?_
    refine OL_pick [4] (by simp <;> rfl) (OL_nil ?_)
    refine T_ret ⟨_, (by simp <;> rfl), ?_, rfl⟩
    have : isSetP xs n := fun k hk => hi2 k (by omega)
    simp [this]
end Go.Lite.LT

namespace Go.Lite.LT
open Go.Proofs
set_option maxRecDepth 4000
set_option linter.unusedSimpArgs false
set_option linter.unusedVariables false
attribute [local simp] ty

def cnt (mem set : List Int) : Nat := (mem.filter fun x => decide (x ∈ set)).length
def shortQ (q : Quo) (set : List Int) : Int := max (q.least - cnt q.mem set) (max (cnt q.mem set - q.most) 0)
def short (qs : List Quo) (set : List Int) : Int := (qs.map fun q => shortQ q set).sum

theorem ite_max (x y : Int) : (if x < y then y else x) = max x y := by
  rw [Int.max_def]; split <;> split <;> omega

theorem cnt_succ {mem set : List Int} {i : Nat} {x : Int} (hx : mem[i]? = some x) : cnt (mem.take (i + 1)) set = cnt (mem.take i) set + if x ∈ set then 1 else 0 := by
  unfold cnt
  rw [List.take_add_one, hx, List.filter_append, List.length_append]
  by_cases h : x ∈ set <;> simp [h]

theorem cnt_le (mem set : List Int) : cnt mem set ≤ mem.length := List.length_filter_le _ _

theorem short_succ {qs : List Quo} {set : List Int} {i : Nat} {q : Quo} (hq : qs[i]? = some q) : short (qs.take (i + 1)) set = short (qs.take i) set + shortQ q set := by
  unfold short
  rw [List.take_add_one, hq]
  simp

theorem short_bound {set : List Int} : ∀ (qs : List Quo), (∀ q ∈ qs, q.mem.length < 1000 ∧ (-1000 < q.least ∧ q.least < 1000) ∧ (-1000 < q.most ∧ q.most < 1000)) → 0 ≤ short qs set ∧ short qs set ≤ 10000 * qs.length
  | [], _ => by simp [short]
  | q :: qs, h => by
    obtain ⟨h1, h2⟩ := short_bound (set := set) qs (fun q hq => h q (by simp [hq]))
    obtain ⟨h3, h4, h5⟩ := h q (by simp)
    have h6 := cnt_le q.mem set
    simp only [short, List.map_cons, List.sum_cons, List.length_cons, shortQ] at *
    omega

theorem f21_ok (p : Poo) (nn : Bool) (set : List Int) (hp : Small p) (hs : set.length < 1000) : Does Try.prog 21 [pooV p, ints nn set] (fun r outs => r = .int .i64 (short p.quotas set) ∧ outs = [.dead, .dead]) := by
  obtain ⟨hp1, hp2⟩ := hp
  refine fn_of tyAll (rs := [.t 4]) 44 Try.func21 rfl rfl rfl rfl (by simp) rfl ?_
  rw [show start 44 [pooV p, ints nn set] = mk 44 [(1, ints nn set), (0, pooV p)] [] by simp]
  refine T_seq (T_region ?_)
  refine OL_runs tyAll (by simp <;> rfl) ?_
  refine OL_pick [1,2] (by simp <;> rfl) (OL_nil ?_)
  refine T_seq (T_region ?_)
  refine OL_runs tyAll (by simp <;> rfl) ?_
  refine OL_pick [1,2,5] (by simp <;> rfl) (OL_nil ?_)
  refine T_seq ?_
  refine T_seq (T_region ?_)
  refine OL_runs tyAll (by simp <;> rfl) ?_
  refine OL_drop 2 (by simp <;> rfl) (by simp <;> rfl) ?_
  refine OL_pick [1,5,12,13,14] (by simp <;> rfl) (OL_nil ?_)
  refine T_block ?_
  refine T_loopF (fun i : Nat => mk 44 [(1, ints nn set), (5, .int .i64 (short (p.quotas.take i) set)), (12, .isl true 3 (p.quotas.map quoV)), (13, .int .i64 p.quotas.length), (14, .int .i64 i)] []) (fun i => i ≤ p.quotas.length) (fun i => p.quotas.length - i) 0 (by simp [short]) (by simp) ?_
  rintro i hi
  refine T_seq (T_region ?_)
  refine OL_runs tyAll (by simp <;> rfl) ?_
  refine OL_pick [1,5,12,13,14,15] (by simp <;> rfl) (OL_nil ?_)
  refine T_seq ?_
  refine T_cond (by simp <;> rfl) (fun h => ?_) (fun h => ?_)
  · simp at h
    have hq : p.quotas[i]? = some p.quotas[i] := List.getElem?_eq_getElem h
    obtain ⟨q, hqe⟩ : ∃ q, q = p.quotas[i] := ⟨_, rfl⟩
    rw [← hqe] at hq
    have hqm : q ∈ p.quotas := hqe ▸ List.getElem_mem h
    obtain ⟨hq1, hq2, hq3⟩ := hp2 q hqm
    refine T_skip ?_
    refine T_seq ?_
    refine T_block ?_
    refine T_seq (T_region ?_)
    refine OL_runs tyAll (by simp [h, ← hqe] <;> rfl) ?_
    refine OL_freeze 4 (by simp <;> rfl) (by simp <;> rfl) ?_
    refine OL_pick [1,5,7,12,13,14] (by simp <;> rfl) (OL_nil ?_)
    refine T_seq (T_region ?_)
    refine OL_runs tyAll (by simp <;> rfl) ?_
    refine OL_freeze 7 (by simp <;> rfl) (by simp <;> rfl) ?_
    refine OL_pick [1,5,7,8,12,13,14] (by simp <;> rfl) (OL_nil ?_)
    refine T_seq ?_
    refine T_seq (T_region ?_)
    refine OL_runs tyAll (by simp <;> rfl) ?_
    refine OL_pick [1,5,7,8,12,13,14,19,20,21] (by simp <;> rfl) (OL_nil ?_)
    refine T_block ?_
    refine T_loopF (fun j : Nat => mk 44 [(1, ints nn set), (5, .int .i64 (short (p.quotas.take i) set)), (7, .iptr (quoV q)), (8, .int .i64 (cnt (q.mem.take j) set)), (12, .isl true 3 (p.quotas.map quoV)), (13, .int .i64 p.quotas.length), (14, .int .i64 i), (19, ints true q.mem), (20, .int .i64 q.mem.length), (21, .int .i64 j)] [])
      (fun j => j ≤ q.mem.length) (fun j => q.mem.length - j) 0 (by simp [cnt, hqe]) (by simp) ?_
    rintro j hj
    refine T_seq (T_region ?_)
    refine OL_runs tyAll (by simp <;> rfl) ?_
    refine OL_pick [1,5,7,8,12,13,14,19,20,21,22] (by simp <;> rfl) (OL_nil ?_)
    refine T_seq ?_
    refine T_cond (by simp <;> rfl) (fun h2 => ?_) (fun h2 => ?_)
    · simp at h2
      have hx : q.mem[j]? = some q.mem[j] := List.getElem?_eq_getElem h2
      obtain ⟨x, hxe⟩ : ∃ x, x = q.mem[j] := ⟨_, rfl⟩
      rw [← hxe] at hx
      refine T_skip ?_
      refine T_cut (fun st => st = mk 44 [(1, ints nn set), (5, .int .i64 (short (p.quotas.take i) set)), (7, .iptr (quoV q)), (8, .int .i64 (cnt (q.mem.take (j + 1)) set)), (12, .isl true 3 (p.quotas.map quoV)), (13, .int .i64 p.quotas.length), (14, .int .i64 i), (19, ints true q.mem), (20, .int .i64 q.mem.length), (21, .int .i64 j)] []) ?_ ?_
      · refine T_block ?_
        refine T_seq (T_region ?_)
        refine OL_runs tyAll (by simp [h2, ← hxe] <;> rfl) ?_
        refine OL_pick [1,5,7,8,10,12,13,14,19,20,21] (by simp <;> rfl) (OL_nil ?_)
        refine T_seq (T_region ?_)
        refine OL_first 2 tyAll (by simp <;> rfl) ?_
        dsimp only [List.drop]
        refine OL_call [.b (ints nn set), .b (.int .i64 x)] 28000 (by simp) rfl (by simp <;> rfl) (by simp) (by simp) (by simp <;> rfl) (f28_ok nn set x (by omega)) (by simp) ?_ ?_
        · rintro _ _ ⟨rfl, rfl⟩; simp
        rintro _ _ ⟨rfl, rfl⟩
        refine OL_state (by simp <;> rfl) ?_
        refine OL_pick [1,5,7,8,12,13,14,19,20,21,27] (by simp <;> rfl) (OL_nil ?_)
        refine T_cond (by simp <;> rfl) (fun h3 => ?_) (fun h3 => ?_)
        · simp at h3
          have hle := cnt_le (q.mem.take j) set
          simp only [List.length_take] at hle
          refine (T_region ?_)
          refine OL_runs tyAll (by simp [wrap_succ (show cnt (q.mem.take j) set < 1000000000000 by omega)] <;> rfl) ?_
          refine OL_pick [1,5,7,8,12,13,14,19,20,21] (by simp <;> rfl) (OL_nil ?_)
          show _ = _
          rw [cnt_succ hx]; simp [h3]
        · simp at h3
          refine T_pick [1,5,7,8,12,13,14,19,20,21] (by simp <;> rfl) (T_skip ?_)
          show _ = _
          rw [cnt_succ hx]; simp [h3]
      rintro st rfl
      refine (T_region ?_)
      refine OL_runs tyAll (by simp [wrap_succ (show j < 1000000000000 by omega)] <;> rfl) ?_
      refine OL_pick [1,5,7,8,12,13,14,19,20,21] (by simp <;> rfl) (OL_nil ?_)
      exact ⟨j + 1, by simp, by omega, by omega⟩
    · simp at h2
      have hjn : j = q.mem.length := by omega
      subst hjn
      have hm := short_bound (set := set) (p.quotas.take i) (fun q hq => hp2 q (List.mem_of_mem_take hq))
      have hml : (p.quotas.take i).length ≤ i := by simp; omega
      have hh := cnt_le q.mem set
      have w1 : IntKind.i64.wrap (q.least - cnt q.mem set) = q.least - cnt q.mem set := wrap_i64 (by omega) (by omega)
      have w2 : IntKind.i64.wrap (cnt q.mem set - q.most) = cnt q.mem set - q.most := wrap_i64 (by omega) (by omega)
      have w3 : IntKind.i64.wrap (short (p.quotas.take i) set + max (q.least - cnt q.mem set) (max (cnt q.mem set - q.most) 0)) = short (p.quotas.take i) set + max (q.least - cnt q.mem set) (max (cnt q.mem set - q.most) 0) := wrap_i64 (by omega) (by omega)
      refine T_exit ?_
      refine (T_region ?_)
      refine OL_runs tyAll (by simp [w1, w2, w3, ite_max] <;> rfl) ?_
      refine OL_pick [1,5,12,13,14] (by simp <;> rfl) (OL_nil ?_)
      refine (T_region ?_)
      refine OL_runs tyAll (by simp [wrap_succ (show i < 1000000000000 by omega)] <;> rfl) ?_
      refine OL_pick [1,5,12,13,14] (by simp <;> rfl) (OL_nil ?_)
      refine ⟨i + 1, ?_, by omega, by omega⟩
      rw [short_succ hq]; simp [shortQ]
  · simp at h
    refine T_exit ?_
    refine T_seq (T_region ?_)
    refine OL_runs tyAll (by simp <;> rfl) ?_
    refine OL_pick [4] (by simp <;> rfl) (OL_nil ?_)
    have hin : i = p.quotas.length := by omega
    subst hin
    refine T_ret ⟨_, (by simp <;> rfl), rfl, rfl⟩
end Go.Lite.LT

namespace Go.Lite.LT
open Go.Proofs
set_option maxRecDepth 4000
set_option linter.unusedSimpArgs false
set_option linter.unusedVariables false
attribute [local simp] ty

/-- a valid pool -/
structure Valid (p : Poo) : Prop where
  quo : ∀ q ∈ p.quotas, q.mem ≠ [] ∧ isSetP q.mem p.people ∧ 0 ≤ q.least ∧ q.least ≤ q.most ∧ q.most ≤ 7 ∧ q.mem.length < 1000
  people : 1 ≤ p.people ∧ p.people ≤ 7
  size : 1 ≤ p.size ∧ p.size ≤ p.people
  few : p.quotas.length ≤ 6

theorem Valid.small {p : Poo} (h : Valid p) : Small p := by
  refine ⟨by have := h.few; omega, fun q hq => ?_⟩
  obtain ⟨_, _, h1, h2, h3, h4⟩ := h.quo q hq
  exact ⟨h4, ⟨by omega, by omega⟩, by omega, by omega⟩

theorem f18_ok (p : Poo) (hp : Valid p) : Does Try.prog 18 [pooV p] (fun r outs => r = .bool true ∧ outs = [.dead]) := by
  have hpe := hp.people
  have hsi := hp.size
  have hfew := hp.few
  refine fn_of tyAll (rs := [.t 2]) 58 Try.func18 rfl rfl rfl rfl (by simp) rfl ?_
  rw [show start 58 [pooV p] = mk 58 [(0, pooV p)] [] by simp]
  refine T_seq (T_region ?_)
  refine OL_runs tyAll (by simp <;> rfl) ?_
  refine OL_freeze 1 (by simp <;> rfl) (by simp <;> rfl) ?_
  refine OL_pick [1] (by simp <;> rfl) (OL_nil ?_)
  refine T_seq ?_
  refine T_seq (T_region ?_)
  refine OL_runs tyAll (by simp <;> rfl) ?_
  refine OL_pick [1,6,7,8] (by simp <;> rfl) (OL_nil ?_)
  refine T_block ?_
  refine T_loopF (fun i : Nat => mk 58 [(1, .iptr (pooV p)), (6, .isl true 3 (p.quotas.map quoV)), (7, .int .i64 p.quotas.length), (8, .int .i64 i)] []) (fun i => i ≤ p.quotas.length) (fun i => p.quotas.length - i) 0 (by simp) (by simp) ?_
  rintro i hi
  refine T_seq (T_region ?_)
  refine OL_runs tyAll (by simp <;> rfl) ?_
  refine OL_pick [1,6,7,8,9] (by simp <;> rfl) (OL_nil ?_)
  refine T_seq ?_
  refine T_cond (by simp <;> rfl) (fun h => ?_) (fun h => ?_)
  · simp at h
    obtain ⟨q, hqe⟩ : ∃ q, q = p.quotas[i] := ⟨_, rfl⟩
    have hqm : q ∈ p.quotas := hqe ▸ List.getElem_mem h
    obtain ⟨hq1, hq2, hq3, hq4, hq5, hq6⟩ := hp.quo q hqm
    refine T_skip ?_
    refine T_seq ?_
    refine T_block ?_
    refine T_seq (T_region ?_)
    refine OL_runs tyAll (by simp [h, ← hqe] <;> rfl) ?_
    refine OL_freeze 4 (by simp <;> rfl) (by simp <;> rfl) ?_
    refine OL_pick [1,4,6,7,8] (by simp <;> rfl) (OL_nil ?_)
    refine T_seq (T_region ?_)
    have hq0 : ((q.mem.length : Int) == 0) = false := by simpa using hq1
    refine OL_first 9 tyAll (by simp [hq0] <;> rfl) ?_
    dsimp only [List.drop]
    refine OL_call [.b (ints true q.mem), .b (.int .i64 p.people)] 22000 (by simp) rfl (by simp <;> rfl) (by simp) (by simp) (by simp <;> rfl) (f31_ok true q.mem p.people (by omega) (by omega)) (by simp) ?_ ?_
    · rintro _ _ ⟨rfl, rfl⟩; simp
    rintro _ _ ⟨rfl, rfl⟩
    refine OL_state (by simp [hq2] <;> rfl) ?_
    refine OL_runs tyAll (by simp [hq2, show ¬ q.least < 0 by omega, show ¬ q.most < q.least by omega, show ¬ 7 < q.most by omega] <;> rfl) ?_
    refine OL_pick [1,6,7,8,40] (by simp <;> rfl) (OL_nil ?_)
    refine T_cond (b := false) (by simp <;> rfl) (fun h => by cases h) (fun h => ?_)
    refine T_skip ?_
    refine (T_region ?_)
    refine OL_runs tyAll (by simp [wrap_succ (show i < 1000000000000 by omega)] <;> rfl) ?_
    refine OL_pick [1,6,7,8] (by simp <;> rfl) (OL_nil ?_)
    exact ⟨i + 1, by simp, by omega, by omega⟩
  · simp at h
    refine T_exit ?_
    refine T_seq (T_region ?_)
    refine OL_first 2 tyAll (by simp <;> rfl) ?_
    dsimp only [List.drop]
    refine OL_call [.b (.int .i64 p.people), .b (.int .i64 1), .b (.int .i64 7)] 45000 (by simp) rfl (by simp <;> rfl) (by simp) (by simp) (by simp <;> rfl) (f32_ok p.people 1 7) (by simp) ?_ ?_
    · rintro _ _ ⟨rfl, rfl⟩; simp
    rintro _ _ ⟨rfl, rfl⟩
    refine OL_state (by simp [hpe] <;> rfl) ?_
    refine OL_first 5 tyAll (by simp [hpe] <;> rfl) ?_
    dsimp only [List.drop]
    refine OL_call [.b (.int .i64 p.size), .b (.int .i64 1), .b (.int .i64 p.people)] 51000 (by simp) rfl (by simp <;> rfl) (by simp) (by simp) (by simp <;> rfl) (f32_ok p.size 1 p.people) (by simp) ?_ ?_
    · rintro _ _ ⟨rfl, rfl⟩; simp
    rintro _ _ ⟨rfl, rfl⟩
    refine OL_state (by simp [hsi] <;> rfl) ?_
    refine OL_runs tyAll (by simp [hsi, show (p.quotas.length : Int) ≤ 6 by omega] <;> rfl) ?_
    refine OL_pick [2] (by simp <;> rfl) (OL_nil ?_)
    refine T_ret ⟨_, (by simp <;> rfl), rfl, rfl⟩
end Go.Lite.LT

namespace Go.Lite.LT
open Go.Proofs
set_option maxRecDepth 4000
set_option linter.unusedSimpArgs false
set_option linter.unusedVariables false
attribute [local simp] ty

/-- a set of as many people as a panel has -/
def SizedP (p : Poo) (xs : List Int) : Prop := (xs.length : Int) = p.size ∧ isSetP xs p.people
instance (p : Poo) (xs : List Int) : Decidable (SizedP p xs) := by unfold SizedP; exact inferInstance

theorem f24_ok (p : Poo) (hp : Valid p) (nn : Bool) (xs : List Int) (hl : xs.length < 1000000000) : Does Try.prog 24 [pooV p, ints nn xs] (fun r outs => r = .bool (decide (SizedP p xs)) ∧ outs = [.dead, .dead]) := by
  have hpe := hp.people
  refine fn_of tyAll (rs := [.t 4]) 20 Try.func24 rfl rfl rfl rfl (by simp) rfl ?_
  rw [show start 20 [pooV p, ints nn xs] = mk 20 [(1, ints nn xs), (0, pooV p)] [] by simp]
  refine T_seq (T_region ?_)
  refine OL_runs tyAll (by simp <;> rfl) ?_
  refine OL_freeze 2 (by simp <;> rfl) (by simp <;> rfl) ?_
  refine OL_pick [1,2] (by simp <;> rfl) (OL_nil ?_)
  refine T_seq (T_region ?_)
  refine OL_first 1 tyAll (by simp <;> rfl) ?_
  dsimp only [List.drop]
  refine OL_call [.b (pooV p)] 7000 (by simp) rfl (by simp <;> rfl) (by simp) (by simp) (by simp <;> rfl) (f18_ok p hp) (by simp) ?_ ?_
  · rintro _ _ ⟨rfl, rfl⟩; simp
  rintro _ _ ⟨rfl, rfl⟩
  refine OL_state (by simp <;> rfl) ?_
  by_cases h : (xs.length : Int) = p.size
  · refine OL_first 11 tyAll (by simp [h] <;> rfl) ?_
    dsimp only [List.drop]
    refine OL_call [.b (ints nn xs), .b (.int .i64 p.people)] 19000 (by simp) rfl (by simp <;> rfl) (by simp) (by simp) (by simp <;> rfl) (f31_ok nn xs p.people hl (by omega)) (by simp) ?_ ?_
    · rintro _ _ ⟨rfl, rfl⟩; simp
    rintro _ _ ⟨rfl, rfl⟩
    refine OL_state (by simp <;> rfl) ?_
    refine OL_runs tyAll (by simp <;> rfl) ?_
    refine OL_pick [4] (by simp <;> rfl) (OL_nil ?_)
    refine T_ret ⟨_, (by simp <;> rfl), ?_, rfl⟩
    simp [SizedP, h]
  · have h0 : ((xs.length : Int) == p.size) = false := by simpa using h
    refine OL_runs tyAll (by simp [h0] <;> rfl) ?_
    refine OL_pick [4] (by simp <;> rfl) (OL_nil ?_)
    refine T_ret ⟨_, (by simp <;> rfl), ?_, rfl⟩
    simp [SizedP, h]

theorem f11_ok (p : Poo) (hp : Valid p) (nn : Bool) (xs : List Int) (hl : xs.length < 1000) : Does Try.prog 11 [pooV p, ints nn xs] (fun r outs => r = .bool (decide (SizedP p xs ∧ short p.quotas xs = 0)) ∧ outs = [.dead, .dead]) := by
  refine fn_of tyAll (rs := [.t 4]) 14 Try.func11 rfl rfl rfl rfl (by simp) rfl ?_
  rw [show start 14 [pooV p, ints nn xs] = mk 14 [(1, ints nn xs), (0, pooV p)] [] by simp]
  refine T_seq (T_region ?_)
  refine OL_runs tyAll (by simp <;> rfl) ?_
  refine OL_freeze 2 (by simp <;> rfl) (by simp <;> rfl) ?_
  refine OL_pick [1,2] (by simp <;> rfl) (OL_nil ?_)
  refine T_seq (T_region ?_)
  refine OL_first 2 tyAll (by simp <;> rfl) ?_
  dsimp only [List.drop]
  refine OL_call [.b (pooV p), .b (ints nn xs)] 8000 (by simp) rfl (by simp <;> rfl) (by simp) (by simp) (by simp <;> rfl) (f24_ok p hp nn xs (by omega)) (by simp) ?_ ?_
  · rintro _ _ ⟨rfl, rfl⟩; simp
  rintro _ _ ⟨rfl, rfl⟩
  refine OL_state (by simp <;> rfl) ?_
  by_cases h : SizedP p xs
  · refine OL_first 3 tyAll (by simp [h] <;> rfl) ?_
    dsimp only [List.drop]
    refine OL_call [.b (pooV p), .b (ints nn xs)] 12000 (by simp) rfl (by simp <;> rfl) (by simp) (by simp) (by simp <;> rfl) (f21_ok p nn xs hp.small hl) (by simp) ?_ ?_
    · rintro _ _ ⟨rfl, rfl⟩; simp
    rintro _ _ ⟨rfl, rfl⟩
    refine OL_state (by simp <;> rfl) ?_
    refine OL_runs tyAll (by simp <;> rfl) ?_
    refine OL_pick [4] (by simp <;> rfl) (OL_nil ?_)
    refine T_ret ⟨_, (by simp <;> rfl), ?_, rfl⟩
    simp only [h, true_and]; congr 1
  · refine OL_runs tyAll (by simp [h] <;> rfl) ?_
    refine OL_pick [4] (by simp <;> rfl) (OL_nil ?_)
    refine T_ret ⟨_, (by simp <;> rfl), ?_, rfl⟩
    simp [h]

theorem f9_ok (p : Poo) (hp : Valid p) (nn : Bool) (xs : List Int) (hl : xs.length < 1000) : Does Try.prog 9 [pooV p, ints nn xs]
    (fun r outs => r = .tup [.int .i64 (if SizedP p xs then short p.quotas xs else 0), .bool (decide (SizedP p xs))] ∧ outs = [.dead, .dead]) := by
  refine fn_of tyAll (rs := [.t 4, .t 5]) 13 Try.func9 rfl rfl rfl rfl (by simp) rfl ?_
  rw [show start 13 [pooV p, ints nn xs] = mk 13 [(1, ints nn xs), (0, pooV p)] [] by simp]
  refine T_seq (T_region ?_)
  refine OL_runs tyAll (by simp <;> rfl) ?_
  refine OL_freeze 2 (by simp <;> rfl) (by simp <;> rfl) ?_
  refine OL_pick [1,2] (by simp <;> rfl) (OL_nil ?_)
  refine T_seq ?_
  refine T_seq (T_region ?_)
  refine OL_first 2 tyAll (by simp <;> rfl) ?_
  dsimp only [List.drop]
  refine OL_call [.b (pooV p), .b (ints nn xs)] 9000 (by simp) rfl (by simp <;> rfl) (by simp) (by simp) (by simp <;> rfl) (f24_ok p hp nn xs (by omega)) (by simp) ?_ ?_
  · rintro _ _ ⟨rfl, rfl⟩; simp
  rintro _ _ ⟨rfl, rfl⟩
  refine OL_state (by simp <;> rfl) ?_
  refine OL_runs tyAll (by simp <;> rfl) ?_
  refine OL_pick [1,2,9] (by simp <;> rfl) (OL_nil ?_)
  refine T_cond (b := !decide (SizedP p xs)) (by simp) (fun h => ?_) (fun h => ?_)
  · simp at h
    refine T_seq (T_region ?_)
    refine OL_runs tyAll (by simp <;> rfl) ?_
    refine OL_pick [4,5] (by simp <;> rfl) (OL_nil ?_)
    refine T_ret ⟨_, (by simp <;> rfl), ?_, rfl⟩
    simp [h]
  · simp at h
    refine T_skip ?_
    refine T_seq (T_region ?_)
    refine OL_first 2 tyAll (by simp <;> rfl) ?_
    dsimp only [List.drop]
    refine OL_call [.b (pooV p), .b (ints nn xs)] 13000 (by simp) rfl (by simp <;> rfl) (by simp) (by simp) (by simp <;> rfl) (f21_ok p nn xs hp.small hl) (by simp) ?_ ?_
    · rintro _ _ ⟨rfl, rfl⟩; simp
    rintro _ _ ⟨rfl, rfl⟩
    refine OL_state (by simp <;> rfl) ?_
    refine OL_runs tyAll (by simp <;> rfl) ?_
    refine OL_pick [4,5] (by simp <;> rfl) (OL_nil ?_)
    refine T_ret ⟨_, (by simp <;> rfl), ?_, rfl⟩
    simp [h]
end Go.Lite.LT

namespace Go.Lite.LT
open Go.Proofs
set_option maxRecDepth 4000
set_option linter.unusedSimpArgs false
set_option linter.unusedVariables false
attribute [local simp] ty

theorem f26_ok (xs : List Int) (hl : xs.length < 1000000000) : Does Try.prog 26 [ints true xs] (fun r outs => r = owns xs ∧ outs = [.dead]) := by
  refine fn_of tyAll (rs := [.t 2]) 8 Try.func26 rfl rfl rfl rfl (by simp) rfl ?_
  rw [show start 8 [ints true xs] = mk 8 [(0, ints true xs)] [] by simp]
  refine T_seq (T_region ?_)
  refine OL_runs tyAll (by simp <;> rfl) ?_
  refine OL_pick [0] (by simp <;> rfl) (OL_nil ?_)
  refine T_seq ?_
  refine T_seq (T_region ?_)
  refine OL_runs tyAll (by simp <;> rfl) ?_
  refine OL_pick [0,4] (by simp <;> rfl) (OL_nil ?_)
  refine T_cond (b := false) (by simp <;> rfl) (fun h => by cases h) (fun h => ?_)
  refine T_skip ?_
  refine T_seq (T_region ?_)
  refine OL_runs tyAll (by simp [show xs.length * 16 ≤ 281474976710656 by omega, show xs.length ≤ 9223372036854775807 by omega] <;> rfl) ?_
  refine OL_pick [2] (by simp <;> rfl) (OL_nil ?_)
  refine T_ret ⟨_, (by simp <;> rfl), by simp, rfl⟩
end Go.Lite.LT

namespace Go.Lite.LT
open Go.Proofs
set_option maxRecDepth 4000
set_option linter.unusedSimpArgs false
set_option linter.unusedVariables false
attribute [local simp] ty

theorem shr_nat (m i : Nat) (hi : i ≤ 64) : (m : Int).fdiv (2 ^ min i IntKind.i64.bits) = ((m / 2 ^ i : Nat) : Int) := by
  have hb : IntKind.i64.bits = 64 := rfl
  rw [hb, Nat.min_eq_left hi, Int.fdiv_eq_ediv_of_nonneg _ (by exact_mod_cast Nat.zero_le _)]
  simp

theorem and_one_nat (a : Nat) (ha : a < 1000) : IntKind.i64.wrap ((a % 2 ^ IntKind.i64.bits &&& 1 % 2 ^ IntKind.i64.bits : Nat) : Int) = ((a % 2 : Nat) : Int) := by
  have h1 : a % 2 ^ IntKind.i64.bits = a := Nat.mod_eq_of_lt (by simp [IntKind.bits]; omega)
  have h2 : 1 % 2 ^ IntKind.i64.bits = 1 := by decide
  rw [h1, h2, Nat.and_one_is_mod a, wrap_i64 (by omega) (by omega)]

/-- the numbers below i whose bits are set -/
def bitsTo (m i : Nat) : List Int := ((List.range i).filter fun k => decide (m / 2 ^ k % 2 = 1)).map Int.ofNat

theorem bitsTo_succ (m i : Nat) : bitsTo m (i + 1) = bitsTo m i ++ if m / 2 ^ i % 2 = 1 then [(i : Int)] else [] := by
  unfold bitsTo
  rw [List.range_succ, List.filter_append]
  by_cases h : m / 2 ^ i % 2 = 1 <;> simp [h]

theorem bitsTo_length (m i : Nat) : (bitsTo m i).length ≤ i := by
  unfold bitsTo
  simp only [List.length_map]
  refine Nat.le_trans (List.length_filter_le _ _) (by simp)

theorem div_zero_of {m i : Nat} (hm : m < 128) (hi : 7 ≤ i) : m / 2 ^ i = 0 := by
  apply Nat.div_eq_of_lt
  have : 2 ^ 7 ≤ 2 ^ i := Nat.pow_le_pow_right (by omega) hi
  omega

theorem bitsTo_end {m : Nat} (hm : m < 128) : ∀ i j, m / 2 ^ i = 0 → bitsTo m (i + j) = bitsTo m i
  | i, 0, _ => rfl
  | i, j + 1, h => by
    rw [← Nat.add_assoc, bitsTo_succ, bitsTo_end hm i j h]
    have : m / 2 ^ (i + j) = 0 := by
      rw [Nat.pow_add, ← Nat.div_div_eq_div_mul, h]; simp
    simp [this]

theorem f35_ok (m : Nat) (hm : m < 128) : Does Try.prog 35 [.int .i64 m] (fun r outs => r = owns (bitsTo m 7) ∧ outs = [.dead]) := by
  refine fn_of tyAll (rs := [.t 2]) 22 Try.func35 rfl rfl rfl rfl (by simp) rfl ?_
  rw [show start 22 [.int .i64 m] = mk 22 [(0, .int .i64 m)] [] by simp]
  refine T_seq (T_region ?_)
  refine OL_runs tyAll (by simp <;> rfl) ?_
  refine OL_pick [0] (by simp <;> rfl) (OL_nil ?_)
  refine T_seq (T_region ?_)
  refine OL_runs tyAll (by simp <;> rfl) ?_
  refine OL_rename 5 20 (by decide) (by simp) (by decide) (by simp <;> rfl) (by simp <;> rfl) ?_
  refine OL_pick [0,3] (by simp <;> rfl) (OL_nil ?_)
  refine T_seq ?_
  refine T_seq (T_region ?_)
  refine OL_runs tyAll (by simp <;> rfl) ?_
  refine OL_pick [0,3,4] (by simp <;> rfl) (OL_nil ?_)
  refine T_block ?_
  refine T_loopF (fun i : Nat => mk 22 [(0, .int .i64 m), (3, .sl 20 [] 0 (bitsTo m i).length), (4, .int .i64 i)] [(20, owns (bitsTo m i))]) (fun i => i ≤ 7) (fun i => 8 - i) 0 (by simp [bitsTo]) (by simp) ?_
  rintro i hi
  have hs := shr_nat m i (by omega)
  have hi0 : ¬ (i : Int) < 0 := by omega
  have hbl := bitsTo_length m i
  obtain ⟨a, ha⟩ : ∃ a, a = m / 2 ^ i := ⟨_, rfl⟩
  rw [← ha] at hs
  have ham : a ≤ m := by rw [ha]; exact Nat.div_le_self _ _
  refine T_seq ?_
  refine T_seq (T_region ?_)
  refine OL_runs tyAll (by simp [hs, hi0] <;> rfl) ?_
  refine OL_pick [0,3,4,9] (by simp <;> rfl) (OL_nil ?_)
  refine T_cond (by simp <;> rfl) (fun h => ?_) (fun h => ?_)
  · simp at h
    have hi7 : i < 7 := by
      rcases Nat.lt_or_ge i 7 with h7 | h7
      · exact h7
      · rw [div_zero_of hm h7] at ha; omega
    refine T_skip ?_
    refine T_cut (fun st => st = mk 22 [(0, .int .i64 m), (3, .sl 20 [] 0 (bitsTo m (i + 1)).length), (4, .int .i64 i)] [(20, owns (bitsTo m (i + 1)))]) ?_ ?_
    · refine T_block ?_
      have hand := and_one_nat a (by omega)
      refine T_seq (T_region ?_)
      refine OL_runs tyAll (by simp [hs, hi0, hand] <;> rfl) ?_
      refine OL_pick [0,3,4,16] (by simp <;> rfl) (OL_nil ?_)
      refine T_cond (by simp <;> rfl) (fun h2 => ?_) (fun h2 => ?_)
      · simp at h2
        have h2' : m / 2 ^ i % 2 = 1 := by rw [← ha]; omega
        refine (T_region ?_)
        refine OL_runs tyAll (by simp [show ((bitsTo m i).length + 1) * 16 ≤ 281474976710656 by omega, show (bitsTo m i).length + 1 ≤ 9223372036854775807 by omega] <;> rfl) ?_
        refine OL_drop 19 (by simp <;> rfl) (by simp <;> rfl) ?_
        refine OL_form [0,3,4] [20] (by simp <;> rfl) (by simp <;> rfl) (by simp) (OL_nil ?_)
        show _ = _
        rw [bitsTo_succ]; simp [h2']
      · simp at h2
        have h2' : ¬ m / 2 ^ i % 2 = 1 := by rw [← ha]; omega
        refine T_form [0,3,4] [20] (by simp <;> rfl) (by simp <;> rfl) (by simp) (T_skip ?_)
        show _ = _
        rw [bitsTo_succ]; simp [h2']
    rintro st rfl
    refine (T_region ?_)
    refine OL_runs tyAll (by simp [wrap_succ (show i < 1000000000000 by omega)] <;> rfl) ?_
    refine OL_form [0,3,4] [20] (by simp <;> rfl) (by simp <;> rfl) (by simp) (OL_nil ?_)
    exact ⟨i + 1, by simp, by omega, by omega⟩
  · simp at h
    refine T_exit ?_
    refine T_seq (T_region ?_)
    refine OL_runs tyAll (by simp <;> rfl) ?_
    refine OL_pick [2] (by simp <;> rfl) (OL_nil ?_)
    refine T_ret ⟨_, (by simp <;> rfl), ?_, rfl⟩
    have he := bitsTo_end hm i (7 - i) (by omega)
    rw [show i + (7 - i) = 7 by omega] at he
    simp [he]
end Go.Lite.LT

namespace Go.Lite.LT
open Go.Proofs
set_option maxRecDepth 4000
set_option linter.unusedSimpArgs false
set_option linter.unusedVariables false
attribute [local simp] ty

theorem f70_ok (a : Int) : Does Try.prog 70 [.int .i64 a] (fun r outs => r = .bool false ∧ outs = [.dead]) := by
  refine fn_of tyAll (rs := [.t 2]) 6 Try.func70 rfl rfl rfl rfl (by simp) rfl ?_
  rw [show start 6 [.int .i64 a] = mk 6 [(0, .int .i64 a)] [] by simp]
  refine T_seq (T_region ?_)
  refine OL_runs tyAll (by simp <;> rfl) ?_
  refine OL_pick [0] (by simp <;> rfl) (OL_nil ?_)
  refine T_seq (T_region ?_)
  refine OL_runs tyAll (by simp <;> rfl) ?_
  refine OL_pick [2] (by simp <;> rfl) (OL_nil ?_)
  refine T_ret ⟨_, (by simp <;> rfl), rfl, rfl⟩

theorem f55_ok (a b : Int) : Does Try.prog 55 [.int .i64 a, .int .i64 b] (fun r outs => r = .bool (decide (a < b)) ∧ outs = [.dead, .dead]) := by
  refine fn_of tyAll (rs := [.t 4]) 17 Try.func55 rfl rfl rfl rfl (by simp) rfl ?_
  rw [show start 17 [.int .i64 a, .int .i64 b] = mk 17 [(1, .int .i64 b), (0, .int .i64 a)] [] by simp]
  refine T_seq (T_region ?_)
  refine OL_runs tyAll (by simp <;> rfl) ?_
  refine OL_pick [0,1] (by simp <;> rfl) (OL_nil ?_)
  refine T_seq (T_region ?_)
  refine OL_first 1 tyAll (by simp <;> rfl) ?_
  dsimp only [List.drop]
  refine OL_call [.b (.int .i64 a)] 7000 (by simp) rfl (by simp <;> rfl) (by simp) (by simp) (by simp <;> rfl) (f70_ok a) (by simp) ?_ ?_
  · rintro _ _ ⟨rfl, rfl⟩; simp
  rintro _ _ ⟨rfl, rfl⟩
  refine OL_state (by simp <;> rfl) ?_
  refine OL_runs tyAll (by simp <;> rfl) ?_
  refine OL_pick [4] (by simp <;> rfl) (OL_nil ?_)
  refine T_ret ⟨_, (by simp <;> rfl), rfl, rfl⟩
end Go.Lite.LT

namespace Go.Lite.LT
open Go.Proofs
set_option maxRecDepth 4000
set_option linter.unusedSimpArgs false
set_option linter.unusedVariables false
attribute [local simp] ty

/-- the first place that meets a condition, or -1 -/
def findI (T : List (List Int)) (pr : List Int → Bool) : Int := match T.findIdx? pr with
  | some i => i
  | none => -1

theorem find_at {T : List (List Int)} {pr : List Int → Bool} {i : Nat} {t : List Int} (ht : T[i]? = some t) (h1 : ∀ u ∈ T.take i, pr u = false) (h2 : pr t = true) : findI T pr = i := by
  have : T.findIdx? pr = some i := by
    rw [List.findIdx?_eq_some_iff_getElem]
    have hlt : i < T.length := (List.getElem?_eq_some_iff.1 ht).1
    refine ⟨hlt, ?_, ?_⟩
    · have := (List.getElem?_eq_some_iff.1 ht).2; rw [this]; exact h2
    · intro j hj
      have hm : T[j] ∈ T.take i := by
        rw [List.mem_take_iff_getElem]; exact ⟨j, by omega, rfl⟩
      simp [h1 _ hm]
  simp [findI, this]

theorem find_none {T : List (List Int)} {pr : List Int → Bool} (h1 : ∀ u ∈ T, pr u = false) : findI T pr = -1 := by
  have : T.findIdx? pr = none := by rw [List.findIdx?_eq_none_iff]; exact h1
  simp [findI, this]

theorem f46_ok (T : List (List Int)) (g : FuncId) (y : V) (pr : List Int → Bool) (hg : ∀ t ∈ T, Does Try.prog g [ints true t, .iptr y] (fun r outs => r = .bool (pr t) ∧ outs = [.dead, .dead])) (hl : T.length < 1000000) :
    Does Try.prog 46 [.isl true 1 (T.map (ints true)), .fn g [.iptr y]] (fun r outs => r = .int .i64 (findI T pr) ∧ outs = [.dead, .dead]) := by
  refine fn_of tyAll (rs := [.t 4]) 19 Try.func46 rfl rfl rfl rfl (by simp) rfl ?_
  rw [show start 19 [.isl true 1 (T.map (ints true)), .fn g [.iptr y]] = mk 19 [(1, .fn g [.iptr y]), (0, .isl true 1 (T.map (ints true)))] [] by simp]
  refine T_seq (T_region ?_)
  refine OL_runs tyAll (by simp <;> rfl) ?_
  refine OL_pick [0,1] (by simp <;> rfl) (OL_nil ?_)
  refine T_seq ?_
  refine T_seq (T_region ?_)
  refine OL_runs tyAll (by simp <;> rfl) ?_
  refine OL_pick [0,1,7,8] (by simp <;> rfl) (OL_nil ?_)
  refine T_block ?_
  refine T_loopF (fun i : Nat => mk 19 [(0, .isl true 1 (T.map (ints true))), (1, .fn g [.iptr y]), (7, .int .i64 T.length), (8, .int .i64 i)] []) (fun i => i ≤ T.length ∧ ∀ u ∈ T.take i, pr u = false) (fun i => T.length - i) 0 (by simp) (by simp) ?_
  rintro i ⟨hi1, hi2⟩
  refine T_seq (T_region ?_)
  refine OL_runs tyAll (by simp <;> rfl) ?_
  refine OL_pick [0,1,7,8,9] (by simp <;> rfl) (OL_nil ?_)
  refine T_seq ?_
  refine T_cond (by simp <;> rfl) (fun h => ?_) (fun h => ?_)
  · simp at h
    have hx : T[i]? = some T[i] := List.getElem?_eq_getElem h
    obtain ⟨t, hte⟩ : ∃ t, t = T[i] := ⟨_, rfl⟩
    have htm : t ∈ T := hte ▸ List.getElem_mem h
    rw [← hte] at hx
    refine T_skip ?_
    refine T_seq ?_
    refine T_block ?_
    refine T_seq (T_region ?_)
    refine OL_runs tyAll (by simp <;> rfl) ?_
    refine OL_pick [0,1,5,7,8] (by simp <;> rfl) (OL_nil ?_)
    refine T_seq (T_region ?_)
    refine OL_first 5 tyAll (by simp [h, ← hte] <;> rfl) ?_
    dsimp only [List.drop]
    refine OL_call (caps := [.iptr y]) [.b (ints true t), .b (.iptr y)] 17000 (by simp) rfl (by simp <;> rfl) (by simp) (by simp) (by simp <;> rfl) (hg t htm) (by simp) ?_ ?_
    · rintro _ _ ⟨rfl, rfl⟩; simp
    rintro _ _ ⟨rfl, rfl⟩
    refine OL_state (by simp <;> rfl) ?_
    refine OL_pick [0,1,5,7,8,16] (by simp <;> rfl) (OL_nil ?_)
    refine T_cond (b := pr t) (by simp <;> rfl) (fun h2 => ?_) (fun h2 => ?_)
    · refine T_seq (T_region ?_)
      refine OL_runs tyAll (by simp <;> rfl) ?_
      refine OL_pick [4] (by simp <;> rfl) (OL_nil ?_)
      refine T_ret ⟨_, (by simp <;> rfl), ?_, rfl⟩
      rw [find_at hx hi2 h2]
    · refine T_skip ?_
      refine (T_region ?_)
      refine OL_runs tyAll (by simp [wrap_succ (show i < 1000000000000 by omega)] <;> rfl) ?_
      refine OL_pick [0,1,7,8] (by simp <;> rfl) (OL_nil ?_)
      refine ⟨i + 1, by simp, ⟨by omega, fun u hu => ?_⟩, by omega⟩
      rw [List.take_add_one, hx] at hu
      rcases List.mem_append.1 hu with hu | hu
      · exact hi2 u hu
      · simp at hu; subst hu; exact h2
  · simp at h
    refine T_exit ?_
    refine T_seq (T_region ?_)
    refine OL_runs tyAll (by simp <;> rfl) ?_
    refine OL_pick [4] (by simp <;> rfl) (OL_nil ?_)
    refine T_ret ⟨_, (by simp <;> rfl), ?_, rfl⟩
    have hin : T.take i = T := List.take_of_length_le (by omega)
    rw [hin] at hi2
    rw [find_none hi2]
end Go.Lite.LT

namespace Go.Lite.LT
open Go.Proofs
set_option maxRecDepth 4000
set_option linter.unusedSimpArgs false
set_option linter.unusedVariables false
attribute [local simp] ty

/-- the closure of panels: a set that misses the quotas -/
theorem f34_ok (p : Poo) (hp : Small p) (nn : Bool) (set : List Int) (hs : set.length < 1000) : Does Try.prog 34 [ints nn set, .iptr (pooV p)] (fun r outs => r = .bool (decide (0 < short p.quotas set)) ∧ outs = [.dead, .dead]) := by
  refine fn_of tyAll (rs := [.t 3]) 8 Try.func34 rfl rfl rfl rfl (by simp) rfl ?_
  rw [show start 8 [ints nn set, .iptr (pooV p)] = mk 8 [(1, .iptr (pooV p)), (0, ints nn set)] [] by simp]
  refine T_seq (T_region ?_)
  refine OL_runs tyAll (by simp <;> rfl) ?_
  refine OL_pick [0,1] (by simp <;> rfl) (OL_nil ?_)
  refine T_seq (T_region ?_)
  refine OL_first 2 tyAll (by simp <;> rfl) ?_
  dsimp only [List.drop]
  refine OL_call [.b (pooV p), .b (ints nn set)] 7000 (by simp) rfl (by simp <;> rfl) (by simp) (by simp) (by simp <;> rfl) (f21_ok p nn set hp hs) (by simp) ?_ ?_
  · rintro _ _ ⟨rfl, rfl⟩; simp
  rintro _ _ ⟨rfl, rfl⟩
  refine OL_state (by simp <;> rfl) ?_
  refine OL_runs tyAll (by simp <;> rfl) ?_
  refine OL_pick [3] (by simp <;> rfl) (OL_nil ?_)
  refine T_ret ⟨_, (by simp <;> rfl), rfl, rfl⟩
end Go.Lite.LT

namespace Go.Lite.LT
open Go.Proofs
set_option maxRecDepth 20000
set_option linter.unusedSimpArgs false
set_option linter.unusedVariables false
attribute [local simp] ty

theorem f59_ok (n : Nat) (hn : n < 256) : Does Try.prog 59 [.int .u64 n] (fun r outs => ∃ l, r = .int .i64 l ∧ outs = [.dead]) := by
  refine fn_of tyAll (rs := [.t 2]) 25 Try.func59 rfl rfl rfl rfl (by simp) rfl ?_
  rw [show start 25 [.int .u64 n] = mk 25 [(0, .int .u64 n)] [] by simp]
  refine T_seq (T_region ?_)
  refine OL_runs tyAll (by simp <;> rfl) ?_
  refine OL_form [0,2] [] (by simp <;> rfl) (by simp <;> rfl) (by simp) (OL_nil ?_)
  refine T_seq ?_
  refine T_seq (T_region ?_)
  refine OL_runs tyAll (by simp [show ¬ (4294967296 : Int) ≤ n by omega] <;> rfl) ?_
  refine OL_pick [0,2,4] (by simp <;> rfl) (OL_nil ?_)
  refine T_cond (b := false) (by simp <;> rfl) (fun h => by cases h) (fun h => ?_)
  refine T_skip ?_
  refine T_seq ?_
  refine T_seq (T_region ?_)
  refine OL_runs tyAll (by simp [show ¬ (65536 : Int) ≤ n by omega] <;> rfl) ?_
  refine OL_pick [0,2,8] (by simp <;> rfl) (OL_nil ?_)
  refine T_cond (b := false) (by simp <;> rfl) (fun h => by cases h) (fun h => ?_)
  refine T_skip ?_
  refine T_seq ?_
  refine T_seq (T_region ?_)
  refine OL_runs tyAll (by simp [show ¬ (256 : Int) ≤ n by omega] <;> rfl) ?_
  refine OL_pick [0,2,14] (by simp <;> rfl) (OL_nil ?_)
  refine T_cond (b := false) (by simp <;> rfl) (fun h => by cases h) (fun h => ?_)
  refine T_skip ?_
  refine T_seq (T_region ?_)
  have hw : IntKind.u8.wrap (n : Int) = n := wrap_u8 (by omega) (by omega)
  refine OL_first 3 tyAll (by simp [hw] <;> rfl) ?_
  dsimp only [List.drop]
  refine OL_first 1 tyAll (by simp [show (n : Int) < 256 by omega, hn] <;> rfl) ?_
  dsimp only [List.drop]
  refine OL_runs tyAll (by simp <;> rfl) ?_
  refine OL_pick [2] (by simp <;> rfl) (OL_nil ?_)
  refine T_ret ⟨_, (by simp <;> rfl), _, rfl, rfl⟩

theorem f43_ok (n : Nat) (hn : n < 256) : Does Try.prog 43 [.int .u64 n] (fun r outs => ∃ l, r = .int .i64 l ∧ outs = [.dead]) := by
  refine fn_of tyAll (rs := [.t 2]) 8 Try.func43 rfl rfl rfl rfl (by simp) rfl ?_
  rw [show start 8 [.int .u64 n] = mk 8 [(0, .int .u64 n)] [] by simp]
  refine T_seq (T_region ?_)
  refine OL_runs tyAll (by simp <;> rfl) ?_
  refine OL_pick [0] (by simp <;> rfl) (OL_nil ?_)
  refine T_seq ?_
  refine T_cond (b := false) (by simp [ev, ofConst] <;> rfl) (fun h => by cases h) (fun h => ?_)
  refine T_skip ?_
  refine T_seq (T_region ?_)
  refine OL_first 1 tyAll (by simp <;> rfl) ?_
  dsimp only [List.drop]
  refine OL_call [.b (.int .u64 n)] 8000 (by simp) rfl (by simp <;> rfl) (by simp) (by simp) (by simp <;> rfl) (f59_ok n hn) (by simp) ?_ ?_
  · rintro _ _ ⟨l, rfl, rfl⟩; simp
  rintro _ _ ⟨l, rfl, rfl⟩
  refine OL_state (by simp <;> rfl) ?_
  refine OL_runs tyAll (by simp <;> rfl) ?_
  refine OL_pick [2] (by simp <;> rfl) (OL_nil ?_)
  refine T_ret ⟨_, (by simp <;> rfl), _, rfl, rfl⟩
end Go.Lite.LT

namespace Go.Lite.LT
open Go.Proofs
set_option maxRecDepth 4000
set_option linter.unusedSimpArgs false
set_option linter.unusedVariables false
set_option maxHeartbeats 8000000
attribute [local simp] ty
theorem isSetP_mono {xs : List Int} {a b : Int} (h : isSetP xs a) (hab : a ≤ b) : isSetP xs b := by
  intro k hk
  have := h k hk
  unfold setAt at *
  omega
theorem isSetP_one {x n : Int} (h : 0 ≤ x ∧ x < n) : isSetP [x] n := by
  intro k hk
  simp at hk
  subst hk
  unfold setAt
  simp
  omega
theorem isSetP_snoc {xs : List Int} {i : Nat} (h : isSetP xs i) : isSetP (xs ++ [(i : Int)]) ((i + 1 : Nat) : Int) := by
  intro k hk
  simp at hk
  by_cases h1 : k < xs.length
  · have := h k h1
    unfold setAt at *
    have e1 : (xs ++ [(i : Int)]).getD k 0 = xs.getD k 0 := by simp [List.getD_eq_getElem?_getD, List.getElem?_append_left h1]
    have e2 : (xs ++ [(i : Int)]).getD (k - 1) 0 = xs.getD (k - 1) 0 := by simp [List.getD_eq_getElem?_getD, List.getElem?_append_left (show k - 1 < xs.length by omega)]
    rw [e1, e2]; omega
  · have hk' : k = xs.length := by omega
    unfold setAt
    have e1 : (xs ++ [(i : Int)]).getD k 0 = i := by subst hk'; simp [List.getD_eq_getElem?_getD]
    rw [e1]
    refine ⟨by omega, fun h0 => ?_⟩
    have := h (k - 1) (by omega)
    unfold setAt at this
    have e2 : (xs ++ [(i : Int)]).getD (k - 1) 0 = xs.getD (k - 1) 0 := by simp [List.getD_eq_getElem?_getD, List.getElem?_append_left (show k - 1 < xs.length by omega)]
    rw [e2]; omega
@[simp] def quoO (q : Quo) : V := .agg [.own 1 (q.mem.map (.int .i64 ·)), .int .i64 q.least, .int .i64 q.most]
@[simp] def pooO (p : Poo) : V := .agg [.int .i64 p.people, .int .i64 p.size, .own 3 (p.quotas.map quoO)]
def OkQ (n : Int) (q : Quo) : Prop := q.mem ≠ [] ∧ isSetP q.mem n ∧ 0 ≤ q.least ∧ q.least ≤ q.most ∧ q.most ≤ 7 ∧ q.mem.length < 1000
theorem f29_ok (nn : Bool) (code : List Int) (hc : ∀ x ∈ code, 0 ≤ x ∧ x < 256) (p m : Int) (h0 : 0 ≤ p) (h1 : p < 10000000) : Does Try.prog 29 [source nn code p m] (fun r outs => ∃ q p' m', Valid q ∧ (p ≤ p' ∧ p' ≤ p + 100) ∧ r = pooO q ∧ outs = [source nn code p' m']) := by
  refine fn_of tyAll (rs := [.c 2 26]) 79 Try.func29 rfl rfl rfl rfl (by simp) rfl ?_
  refine T_from (by simp <;> rfl) ?_
  refine T_seq (T_region ?_)
  refine OL_runs tyAll (by simp <;> rfl) ?_
  refine OL_pick [0,2] (by simp <;> rfl) (OL_nil ?_)
  refine T_seq (T_region ?_)
  refine OL_first 1 tyAll (by simp (disch := first | exact InR.mk (by omega) (by omega) | simp) [wrapR] <;> rfl) ?_
  dsimp only [List.drop]
  refine OL_callA [some 1000000] 9000 (by simp) rfl (by simp <;> rfl) (by simp <;> rfl) (by simp) (by simp) (by simp <;> rfl) (by rfl) (f23_ok _ _ hc _ _ _ (by omega) (by omega) (by omega)) (by simp) ?_ ?_
  · rintro _ _ ⟨b, p1, m1, hb, hp1, rfl, rfl⟩; simp
  rintro _ _ ⟨b, p1, m1, hb, hp1, rfl, rfl⟩
  refine OL_state (by simp <;> rfl) ?_
  refine OL_runs tyAll (by simp (disch := first | exact InR.mk (by omega) (by omega) | simp) [wrapR] <;> rfl) ?_
  refine OL_pick [0,2,3] (by simp <;> rfl) (OL_nil ?_)
  refine T_cutU [0,2,3] [3,1000000] (fun c d => ∃ (n p' m' : Int), (1 ≤ n ∧ n ≤ 7) ∧ (p ≤ p' ∧ p' ≤ p + 4) ∧ c = [] ∧ d = [(3, .bx (.agg [.int .i64 n, .int .i64 0, .own 3 []])), (1000000, source nn code p' m')]) (by simp <;> rfl) (by simp <;> rfl) ?_ ?_
  · skip
    refine T_seq (T_region ?_)
    refine OL_first 1 tyAll (by simp <;> rfl) ?_
    dsimp only [List.drop]
    refine OL_callA [some 1000000] 14000 (by simp) rfl (by simp <;> rfl) (by simp <;> rfl) (by simp) (by simp) (by simp <;> rfl) (by rfl) (f44_ok _ _ hc _ _ _ (by omega) (by omega) (by omega)) (by simp) ?_ ?_
    · rintro _ _ ⟨b2, p2, m2, hp2, rfl, rfl⟩; simp
    rintro _ _ ⟨b2, p2, m2, hp2, rfl, rfl⟩
    refine OL_state (by simp <;> rfl) ?_
    refine OL_pick [0,2,3,13] (by simp <;> rfl) (OL_nil ?_)
    refine T_cond (by simp <;> rfl) (fun h => ?_) (fun h => ?_)
    · try simp at h
      refine (T_region ?_)
      refine OL_runs tyAll (by simp <;> rfl) ?_
      refine OL_formU [0,2,3] [3,1000000] (by simp <;> rfl) (by simp <;> rfl) (OL_nil ?_)
      exact ⟨_, _, ⟨7, p2, m2, (by omega), (by omega), rfl, rfl⟩, (by first | rfl | simp)⟩
    · try simp at h
      refine T_formU [0,2,3] [3,1000000] (by simp <;> rfl) (by simp <;> rfl) ?_
      refine T_skip ?_
      exact ⟨_, _, ⟨1 + b, p2, m2, (by omega), (by omega), rfl, rfl⟩, (by first | rfl | simp)⟩
  rintro _ _ ⟨n, p1, m1, hn, hp1, rfl, rfl⟩
  simp only [List.cons_append, List.nil_append]
  refine T_seq (T_region ?_)
  refine OL_first 3 tyAll (by simp (disch := first | exact InR.mk (by omega) (by omega) | simp) [wrapR] <;> rfl) ?_
  dsimp only [List.drop]
  refine OL_callA [some 1000000] 19000 (by simp) rfl (by simp <;> rfl) (by simp <;> rfl) (by simp) (by simp) (by simp <;> rfl) (by rfl) (f23_ok _ _ hc _ _ _ (by omega) (by omega) (by omega)) (by simp) ?_ ?_
  · rintro _ _ ⟨b, p2, m2, hb, hp2, rfl, rfl⟩; simp
  rintro _ _ ⟨b, p2, m2, hb, hp2, rfl, rfl⟩
  refine OL_state (by simp <;> rfl) ?_
  refine OL_runs tyAll (by simp (disch := first | exact InR.mk (by omega) (by omega) | simp) [wrapR] <;> rfl) ?_
  refine OL_pick [0,2,3] (by simp <;> rfl) (OL_nil ?_)
  refine T_cutU [0,2,3] [3,1000000] (fun c d => ∃ (k p' m' : Int), (1 ≤ k ∧ k ≤ n) ∧ (p ≤ p' ∧ p' ≤ p + 8) ∧ c = [] ∧ d = [(3, .bx (.agg [.int .i64 n, .int .i64 k, .own 3 []])), (1000000, source nn code p' m')]) (by simp <;> rfl) (by simp <;> rfl) ?_ ?_
  · skip
    refine T_seq (T_region ?_)
    refine OL_first 4 tyAll (by simp <;> rfl) ?_
    dsimp only [List.drop]
    by_cases hg : 4 < 1 + b
    · skip
      refine OL_first 1 tyAll (by simp [hg] <;> rfl) ?_
      dsimp only [List.drop]
      refine OL_callA [some 1000000] 27000 (by simp [hg]) rfl (by simp <;> rfl) (by simp <;> rfl) (by simp) (by simp) (by simp <;> rfl) (by rfl) (f44_ok _ _ hc _ _ _ (by omega) (by omega) (by omega)) (by simp) ?_ ?_
      · rintro _ _ ⟨b2, p2, m2, hp2, rfl, rfl⟩; simp
      rintro _ _ ⟨b2, p2, m2, hp2, rfl, rfl⟩
      refine OL_state (by simp <;> rfl) ?_
      refine OL_runs tyAll (by simp [hg] <;> rfl) ?_
      refine OL_pick [0,2,3,27] (by simp <;> rfl) (OL_nil ?_)
      refine T_cond (by simp <;> rfl) (fun h => ?_) (fun h => ?_)
      · try simp at h
        have hd : Int.tdiv n 2 = n / 2 := Int.tdiv_eq_ediv_of_nonneg (by omega)
        refine (T_region ?_)
        refine OL_runs tyAll (by simp (disch := first | exact InR.mk (by omega) (by omega) | simp) [wrapR, hd] <;> rfl) ?_
        refine OL_formU [0,2,3] [3,1000000] (by simp <;> rfl) (by simp <;> rfl) (OL_nil ?_)
        exact ⟨_, _, ⟨n / 2, p2, m2, (by omega), (by omega), rfl, rfl⟩, (by first | rfl | simp)⟩
      · try simp at h
        refine T_formU [0,2,3] [3,1000000] (by simp <;> rfl) (by simp <;> rfl) ?_
        refine T_skip ?_
        exact ⟨_, _, ⟨1 + b, p2, m2, (by omega), (by omega), rfl, rfl⟩, (by first | rfl | simp)⟩
    · skip
      refine OL_runs tyAll (by simp [hg] <;> rfl) ?_
      refine OL_pick [0,2,3,27] (by simp <;> rfl) (OL_nil ?_)
      refine T_cond (b := false) (by simp <;> rfl) (fun h => ?_) (fun h => ?_)
      · cases h
      · skip
        refine T_formU [0,2,3] [3,1000000] (by simp <;> rfl) (by simp <;> rfl) ?_
        refine T_skip ?_
        exact ⟨_, _, ⟨1 + b, p2, m2, (by omega), (by omega), rfl, rfl⟩, (by first | rfl | simp)⟩
  rintro _ _ ⟨k, p1, m1, hk, hp1, rfl, rfl⟩
  simp only [List.cons_append, List.nil_append]
  refine T_seq ?_
  refine T_seq (T_region ?_)
  refine OL_first 1 tyAll (by simp <;> rfl) ?_
  dsimp only [List.drop]
  refine OL_callA [some 1000000] 34000 (by simp) rfl (by simp <;> rfl) (by simp <;> rfl) (by simp) (by simp) (by simp <;> rfl) (by rfl) (f23_ok _ _ hc _ _ _ (by omega) (by omega) (by omega)) (by simp) ?_ ?_
  · rintro _ _ ⟨b, p2, m2, hb, hp2, rfl, rfl⟩; simp
  rintro _ _ ⟨b, p2, m2, hb, hp2, rfl, rfl⟩
  refine OL_state (by simp <;> rfl) ?_
  refine OL_runs tyAll (by simp <;> rfl) ?_
  refine OL_pick [0,2,3,4] (by simp <;> rfl) (OL_nil ?_)
  refine T_block ?_
  refine T_loopU [0,2,3] [4] [3,1000000] (fun x : List Quo × Nat × Int × Int => [(4, .int .i64 (x.2.1 : Nat))]) (fun x : List Quo × Nat × Int × Int => [(3, .bx (pooO ⟨n, k, x.1⟩)), (1000000, source nn code x.2.2.1 x.2.2.2)]) (fun x : List Quo × Nat × Int × Int => x.1.length + x.2.1 ≤ 3 ∧ (∀ q ∈ x.1, OkQ n q) ∧ p ≤ x.2.2.1 ∧ x.2.2.1 ≤ p + 10 + 20 * x.1.length) (fun x : List Quo × Nat × Int × Int => x.2.1) ([], b.toNat, p2, m2) (by simp <;> rfl) (by simp <;> rfl) (by simp; omega) (by simp) (by simp; omega) ?_
  rintro ⟨qs, j, p1, m1⟩ ⟨hj, hqs, hp1, hp1'⟩
  simp only [List.cons_append, List.nil_append]
  simp only at hj hqs hp1 hp1' ⊢
  refine T_seq ?_
  refine T_seq (T_region ?_)
  refine OL_runs tyAll (by simp <;> rfl) ?_
  refine OL_pick [0,2,3,4,35] (by simp <;> rfl) (OL_nil ?_)
  refine T_cond (by simp <;> rfl) (fun h => ?_) (fun h => ?_)
  · try simp at h
    refine T_skip ?_
    refine T_cutU [0,2,3,4] [3,1000000] (fun c d => ∃ (q : Quo) (p' m' : Int), OkQ n q ∧ (p ≤ p' ∧ p' ≤ p + 10 + 20 * (qs.length + 1)) ∧ c = [] ∧ d = [(3, .bx (pooO ⟨n, k, qs ++ [q]⟩)), (1000000, source nn code p' m')]) (by simp <;> rfl) (by simp <;> rfl) ?_ ?_
    · skip
      refine T_block ?_
      refine T_seq (T_region ?_)
      refine OL_runs tyAll (by simp <;> rfl) ?_
      refine OL_pick [0,2,3,4,5] (by simp <;> rfl) (OL_nil ?_)
      refine T_seq ?_
      refine T_seq (T_region ?_)
      refine OL_runs tyAll (by simp <;> rfl) ?_
      refine OL_pick [0,2,3,4,5,6] (by simp <;> rfl) (OL_nil ?_)
      refine T_block ?_
      refine T_loopU [0,2,3,4,5] [6] [5,1000000] (fun x : List Int × Nat × Int × Int => [(6, .int .i64 (x.2.1 : Nat))]) (fun x : List Int × Nat × Int × Int => [(5, .bx (quoO ⟨x.1, 0, 0⟩)), (1000000, source nn code x.2.2.1 x.2.2.2)]) (fun x : List Int × Nat × Int × Int => isSetP x.1 x.2.1 ∧ x.1.length ≤ x.2.1 ∧ x.2.1 ≤ n.toNat ∧ p1 ≤ x.2.2.1 ∧ x.2.2.1 ≤ p1 + 2 * x.2.1) (fun x : List Int × Nat × Int × Int => n.toNat - x.2.1) ([], 0, p1, m1) (by simp <;> rfl) (by simp <;> rfl) (by simp) (by simp) (by simp [isSetP]) ?_
      rintro ⟨ms, i, p2, m2⟩ ⟨hms, hml, hi, hp2, hp2'⟩
      simp only [List.cons_append, List.nil_append]
      simp only at hms hml hi hp2 hp2' ⊢
      refine T_seq ?_
      refine T_seq (T_region ?_)
      refine OL_runs tyAll (by simp <;> rfl) ?_
      refine OL_pick [0,2,3,4,5,6,43] (by simp <;> rfl) (OL_nil ?_)
      refine T_cond (by simp <;> rfl) (fun h => ?_) (fun h => ?_)
      · try simp at h
        refine T_skip ?_
        refine T_cutU [0,2,3,4,5,6] [5,1000000] (fun c d => ∃ (ms' : List Int) (p' m' : Int), (isSetP ms' ((i + 1 : Nat) : Int) ∧ ms'.length ≤ i + 1) ∧ (p2 ≤ p' ∧ p' ≤ p2 + 2) ∧ c = [] ∧ d = [(5, .bx (quoO ⟨ms', 0, 0⟩)), (1000000, source nn code p' m')]) (by simp <;> rfl) (by simp <;> rfl) ?_ ?_
        · skip
          refine T_block ?_
          refine T_seq (T_region ?_)
          refine OL_first 1 tyAll (by simp <;> rfl) ?_
          dsimp only [List.drop]
          refine OL_callA [some 1000000] 48000 (by simp) rfl (by simp <;> rfl) (by simp <;> rfl) (by simp) (by simp) (by simp <;> rfl) (by rfl) (f44_ok _ _ hc _ _ _ (by omega) (by omega) (by omega)) (by simp) ?_ ?_
          · rintro _ _ ⟨b2, p3, m3, hp3, rfl, rfl⟩; simp
          rintro _ _ ⟨b2, p3, m3, hp3, rfl, rfl⟩
          refine OL_state (by simp <;> rfl) ?_
          refine OL_pick [0,2,3,4,5,6,47] (by simp <;> rfl) (OL_nil ?_)
          refine T_cond (by simp <;> rfl) (fun h => ?_) (fun h => ?_)
          · try simp at h
            refine (T_region ?_)
            refine OL_runs tyAll (by simp [show (ms.length + 1) * 16 ≤ 281474976710656 by omega, show ms.length ≤ 9223372036854775806 by omega] <;> rfl) ?_
            refine OL_drop 51 (by simp <;> rfl) (by simp <;> rfl) ?_
            refine OL_formU [0,2,3,4,5,6] [5,1000000] (by simp <;> rfl) (by simp <;> rfl) (OL_nil ?_)
            exact ⟨_, _, ⟨ms ++ [(i : Int)], p3, m3, ⟨isSetP_snoc hms, (by simp; omega)⟩, (by omega), rfl, rfl⟩, (by first | rfl | simp)⟩
          · try simp at h
            refine T_formU [0,2,3,4,5,6] [5,1000000] (by simp <;> rfl) (by simp <;> rfl) ?_
            refine T_skip ?_
            exact ⟨_, _, ⟨ms, p3, m3, ⟨isSetP_mono hms (by omega), (by omega)⟩, (by omega), rfl, rfl⟩, (by first | rfl | simp)⟩
        rintro _ _ ⟨ms', p3, m3, ⟨hms', hml'⟩, hp3, rfl, rfl⟩
        simp only [List.cons_append, List.nil_append]
        refine (T_region ?_)
        refine OL_runs tyAll (by simp (disch := first | exact InR.mk (by omega) (by omega) | simp) [wrapR] <;> rfl) ?_
        refine OL_formU [6,0,2,3,4,5] [5,1000000] (by simp <;> rfl) (by simp <;> rfl) (OL_nil ?_)
        exact ⟨⟨ms', i + 1, p3, m3⟩, (by first | rfl | simp), ⟨hms', hml', (by simp only; omega), (by simp only; omega), (by simp only; omega)⟩, (by simp only; omega)⟩
      · try simp at h
        refine T_exit ?_
        refine T_cutU [0,2,3,4,5] [5] (fun c d => ∃ (ms' : List Int), (ms' ≠ [] ∧ isSetP ms' n ∧ ms'.length < 1000) ∧ c = [] ∧ d = [(5, .bx (quoO ⟨ms', 0, 0⟩))]) (by simp <;> rfl) (by simp <;> rfl) ?_ ?_
        · skip
          refine T_seq (T_region ?_)
          refine OL_runs tyAll (by simp <;> rfl) ?_
          refine OL_pick [0,2,3,4,5,57] (by simp <;> rfl) (OL_nil ?_)
          refine T_cond (by simp <;> rfl) (fun h2 => ?_) (fun h2 => ?_)
          · try simp at h2
            refine (T_region ?_)
            refine OL_runs tyAll (by simp (disch := first | exact InR.mk (by omega) (by omega) | simp) [wrapR] <;> rfl) ?_
            refine OL_formU [0,2,3,4,5] [5] (by simp <;> rfl) (by simp <;> rfl) (OL_nil ?_)
            exact ⟨_, _, ⟨[n - 1], ⟨(by simp), isSetP_one (by omega), (by simp)⟩, rfl, rfl⟩, (by first | rfl | simp)⟩
          · try simp at h2
            refine T_formU [0,2,3,4,5] [5] (by simp <;> rfl) (by simp <;> rfl) ?_
            refine T_skip ?_
            exact ⟨_, _, ⟨ms, ⟨(by simpa using h2), isSetP_mono hms (by omega), (by omega)⟩, rfl, rfl⟩, (by first | rfl | simp)⟩
        rintro _ _ ⟨ms', hms', rfl, rfl⟩
        simp only [List.cons_append, List.nil_append]
        refine T_seq (T_region ?_)
        refine OL_first 1 tyAll (by simp <;> rfl) ?_
        dsimp only [List.drop]
        refine OL_callA [some 1000000] 65000 (by simp) rfl (by simp <;> rfl) (by simp <;> rfl) (by simp) (by simp) (by simp <;> rfl) (by rfl) (f23_ok _ _ hc _ _ _ (by omega) (by omega) (by omega)) (by simp) ?_ ?_
        · rintro _ _ ⟨b3, p3, m3, hb3, hp3, rfl, rfl⟩; simp
        rintro _ _ ⟨b3, p3, m3, hb3, hp3, rfl, rfl⟩
        refine OL_state (by simp <;> rfl) ?_
        refine OL_runs tyAll (by simp <;> rfl) ?_
        refine OL_pick [0,2,3,4,5] (by simp <;> rfl) (OL_nil ?_)
        refine T_cutU [0,2,3,4,5] [5,1000000] (fun c d => ∃ b4 p4 m4, (0 ≤ b4 ∧ b4 < 3) ∧ (p3 ≤ p4 ∧ p4 ≤ p3 + 2) ∧ c = [] ∧ d = [(5, .bx (quoO ⟨ms', b3, b3 + b4⟩)), (1000000, source nn code p4 m4)]) (by simp <;> rfl) (by simp <;> rfl) ?_ ?_
        · skip
          refine (T_orders mixed (n := 7) (L := #[false, false, false, false, false, false, false]) rfl rfl ?_)
          refine DA_take 0 tyAll rfl (by kernel_rfl) (by kernel_rfl) (by kernel_rfl) (by simp) (by simp <;> rfl) (by simp) (by simp <;> rfl) ?_
          refine DA_take 2 tyAll rfl (by kernel_rfl) (by kernel_rfl) (by kernel_rfl) (by simp) (by simp <;> rfl) (by simp) (by simp <;> rfl) ?_
          refine DA_two 1 3 (by kernel_rfl) ?_ ?_
          ·
            refine D1_op tyAll rfl (by simp) (by simp <;> rfl) ?_
            refine DA_one 3 (by kernel_rfl) ?_
            refine D1_callA [some 1000000] 70000 rfl (by simp) rfl (by simp <;> rfl) (by simp <;> rfl) (by simp) (by simp) (by simp <;> rfl) (by rfl) (f23_ok _ _ hc _ _ _ (by omega) (by omega) (by omega)) (by simp) ?_ ?_
            · rintro _ _ ⟨b4, p4, m4, hb4, hp4, rfl, rfl⟩; simp
            rintro _ _ ⟨b4, p4, m4, hb4, hp4, rfl, rfl⟩
            refine DA_state (by simp <;> rfl) ?_
            refine DA_take 4 tyAll rfl (by kernel_rfl) (by kernel_rfl) (by kernel_rfl) (by simp) (by simp (disch := first | exact InR.mk (by omega) (by omega) | simp) [wrapR] <;> rfl) (by simp) (by simp <;> rfl) ?_
            refine DA_take 5 tyAll rfl (by kernel_rfl) (by kernel_rfl) (by kernel_rfl) (by simp) (by simp <;> rfl) (by simp) (by simp <;> rfl) ?_
            refine DA_one 6 (by kernel_rfl) ?_
            refine D1_op tyAll rfl (by simp) (by simp <;> rfl) ?_
            refine DA_fin (by kernel_rfl) ?_
            refine OL_formU [0,2,3,4,5] [5,1000000] (by simp <;> rfl) (by simp <;> rfl) (OL_nil ?_)
            exact ⟨_, _, ⟨b4, p4, m4, (by omega), (by omega), rfl, rfl⟩, (by first | rfl | simp)⟩
          ·
            refine D1_callA [some 1000000] 70000 rfl (by simp) rfl (by simp <;> rfl) (by simp <;> rfl) (by simp) (by simp) (by simp <;> rfl) (by rfl) (f23_ok _ _ hc _ _ _ (by omega) (by omega) (by omega)) (by simp) ?_ ?_
            · rintro _ _ ⟨b4, p4, m4, hb4, hp4, rfl, rfl⟩; simp
            rintro _ _ ⟨b4, p4, m4, hb4, hp4, rfl, rfl⟩
            refine DA_state (by simp <;> rfl) ?_
            refine DA_one 1 (by kernel_rfl) ?_
            refine D1_op tyAll rfl (by simp) (by simp <;> rfl) ?_
            refine DA_take 4 tyAll rfl (by kernel_rfl) (by kernel_rfl) (by kernel_rfl) (by simp) (by simp (disch := first | exact InR.mk (by omega) (by omega) | simp) [wrapR] <;> rfl) (by simp) (by simp <;> rfl) ?_
            refine DA_take 5 tyAll rfl (by kernel_rfl) (by kernel_rfl) (by kernel_rfl) (by simp) (by simp <;> rfl) (by simp) (by simp <;> rfl) ?_
            refine DA_one 6 (by kernel_rfl) ?_
            refine D1_op tyAll rfl (by simp) (by simp <;> rfl) ?_
            refine DA_fin (by kernel_rfl) ?_
            refine OL_formU [0,2,3,4,5] [5,1000000] (by simp <;> rfl) (by simp <;> rfl) (OL_nil ?_)
            exact ⟨_, _, ⟨b4, p4, m4, (by omega), (by omega), rfl, rfl⟩, (by first | rfl | simp)⟩
        rintro _ _ ⟨b4, p4, m4, hb4, hp4, rfl, rfl⟩
        simp only [List.cons_append, List.nil_append]
        refine (T_region ?_)
        refine OL_runs tyAll (by simp [show (qs.length + 1) * 80 ≤ 281474976710656 by omega, show qs.length ≤ 9223372036854775806 by omega] <;> rfl) ?_
        refine OL_drop 75 (by simp <;> rfl) (by simp <;> rfl) ?_
        refine OL_drop 5 (by simp <;> rfl) (by simp <;> rfl) ?_
        refine OL_formU [0,2,3,4] [3,1000000] (by simp <;> rfl) (by simp <;> rfl) (OL_nil ?_)
        exact ⟨_, _, ⟨⟨ms', b3, b3 + b4⟩, p4, m4, ⟨hms'.1, hms'.2.1, (by simp only; omega), (by simp only; omega), (by simp only; omega), hms'.2.2⟩, (by omega), rfl, rfl⟩, (by first | rfl | simp)⟩
    rintro _ _ ⟨q, p2, m2, hq, hp2, rfl, rfl⟩
    simp only [List.cons_append, List.nil_append]
    refine (T_region ?_)
    refine OL_runs tyAll (by simp (disch := first | exact InR.mk (by omega) (by omega) | simp) [wrapR, show (j : Int) - 1 = ((j - 1 : Nat) : Int) by omega] <;> rfl) ?_
    refine OL_drop 5 (by simp <;> rfl) (by simp <;> rfl) ?_
    refine OL_formU [4,0,2,3] [3,1000000] (by simp <;> rfl) (by simp <;> rfl) (OL_nil ?_)
    exact ⟨⟨qs ++ [q], j - 1, p2, m2⟩, (by first | rfl | simp), ⟨(by simp; omega), (by intro y hy; rcases List.mem_append.1 hy with hy | hy <;> first | exact hqs y hy | (simp at hy; subst hy; exact hq)), (by simp only; omega), (by simp; omega)⟩, (by simp only; omega)⟩
  · try simp at h
    refine T_exit ?_
    refine T_seq (T_region ?_)
    refine OL_runs tyAll (by simp <;> rfl) ?_
    refine OL_pick [2] (by simp <;> rfl) (OL_nil ?_)
    refine T_ret ⟨_, (by simp <;> rfl), ⟨n, k, qs⟩, p1, m1, ⟨hqs, hn, hk, (by simp only; omega)⟩, (by omega), rfl, rfl⟩

end Go.Lite.LT

namespace Go.Lite.LT
open Go.Proofs
set_option maxRecDepth 4000
set_option linter.unusedSimpArgs false
set_option linter.unusedVariables false
set_option maxHeartbeats 8000000
attribute [local simp] ty
theorem teamsOk (n k : Nat) (hk : 1 ≤ k) (hkn : k ≤ n) (hn : n ≤ 7) : okFrom n k 40 (upto k) = true := by
  have h := teams_ok
  rw [List.all_eq_true] at h
  have h2 := h n (by simp; omega)
  rw [List.all_eq_true] at h2
  exact h2 k (by simp; omega)

@[simp] theorem fz_quos (qs : List Quo) : fzL (qs.map quoO) = qs.map quoV := by
  induction qs with
  | nil => rfl
  | cons q qs ih =>
    have : ∀ xs : List Int, fzL (xs.map (V.int .i64 ·)) = xs.map (V.int .i64 ·) := by
      intro xs; induction xs with
      | nil => rfl
      | cons x xs ih => simp [fzL, ih]
    simp [fzL, ih, V.fz, this]

theorem missed_nil (t : List Int) : missed [] t = 0 := rfl
theorem panels_nil (n k : Nat) : panelsOf n k [] = teams n k := by simp [panelsOf, missed_nil]
theorem teams_ne (n k : Nat) : teams n k ≠ [] := by simp [teams, teamsFrom]
theorem f30_len (n k : Nat) (qs : List Quo) (hk : 1 ≤ k) (hkn : k ≤ n) (hn : n ≤ 7) (hs : Small ⟨n, k, qs⟩) :
    Does Try.prog 30 [.iptr (pooV ⟨n, k, qs⟩)] (fun r outs => r = .own 1 ((panelsOf n k qs).map fun _ => .dead) ∧ outs = [.dead]) :=
  Does_weak (f30_ok n k qs hk hkn hn (teamsOk n k hk hkn hn) hs) (by
    rintro r outs ⟨rfl, rfl⟩
    refine ⟨_, ⟨rfl, rfl⟩, fun H I v F h => ?_⟩
    have := RV_deads h (by intro x hx; simp at hx; obtain ⟨t, _, rfl⟩ := hx; exact ⟨rfl, rfl⟩)
    rw [List.map_map] at this; exact this)
theorem noImm_deads (T : List (List Int)) : noImmL (T.map fun _ => V.dead) = true := by
  induction T with
  | nil => rfl
  | cons x xs ih => simp [noImmL, ih]
attribute [local simp] noImm_deads
theorem f17_ok (nn : Bool) (code : List Int) (hc : ∀ x ∈ code, 0 ≤ x ∧ x < 256) (p m : Int) (h0 : 0 ≤ p) (h1 : p < 10000000) : Does Try.prog 17 [source nn code p m] (fun r outs => ∃ (n k : Nat) (qs : List Quo) (p' m' : Int), (Valid ⟨n, k, qs⟩ ∧ panelsOf n k qs ≠ []) ∧ (p ≤ p' ∧ p' ≤ p + 100) ∧ r = pooO ⟨n, k, qs⟩ ∧ outs = [source nn code p' m']) := by
  refine fn_of tyAll (rs := [.c 2 26]) 12 Try.func17 rfl rfl rfl rfl (by simp) rfl ?_
  refine T_from (by simp <;> rfl) ?_
  refine T_seq (T_region ?_)
  refine OL_runs tyAll (by simp <;> rfl) ?_
  refine OL_pick [0,2] (by simp <;> rfl) (OL_nil ?_)
  refine T_seq (T_region ?_)
  refine OL_first 1 tyAll (by simp <;> rfl) ?_
  dsimp only [List.drop]
  refine OL_callA [some 1000000] 6000 (by simp) rfl (by simp <;> rfl) (by simp <;> rfl) (by simp) (by simp) (by simp <;> rfl) (by rfl) (f29_ok _ _ hc _ _ (by omega) (by omega)) (by simp) ?_ ?_
  · rintro _ _ ⟨⟨n, k, qs⟩, p1, m1, hq, hp1, rfl, rfl⟩; simp
  rintro _ _ ⟨⟨n, k, qs⟩, p1, m1, hq, hp1, rfl, rfl⟩
  refine OL_state (by simp <;> rfl) ?_
  obtain ⟨n, rfl⟩ : ∃ n' : Nat, n = n' := ⟨n.toNat, by have := hq.people; simp only at this; omega⟩
  obtain ⟨k, rfl⟩ : ∃ k' : Nat, k = k' := ⟨k.toNat, by have := hq.size; simp only at this; omega⟩
  have hpe := hq.people
  have hsi := hq.size
  simp only at hpe hsi
  refine OL_runs tyAll (by simp <;> rfl) ?_
  refine OL_pick [2,3] (by simp <;> rfl) (OL_nil ?_)
  refine T_cutU [2,3] [3] (fun c d => ∃ (qs' : List Quo), (Valid ⟨n, k, qs'⟩ ∧ panelsOf n k qs' ≠ []) ∧ c = [] ∧ d = [(3, .bx (pooO ⟨n, k, qs'⟩))]) (by simp <;> rfl) (by simp <;> rfl) ?_ ?_
  · skip
    refine T_seq (T_region ?_)
    refine OL_callA [] 7000 (by simp) rfl (by simp <;> rfl) (by simp <;> rfl) (by simp) (by simp) (by simp <;> rfl) (by simp) (f30_len n k qs (by omega) (by omega) (by omega) hq.small) (by simp) ?_ ?_
    · rintro _ _ ⟨rfl, rfl⟩; simp
    rintro _ _ ⟨rfl, rfl⟩
    refine OL_state (by simp <;> rfl) ?_
    refine OL_runs tyAll (by simp <;> rfl) ?_
    refine OL_drop 7000 (by simp <;> rfl) (by simp <;> rfl) ?_
    refine OL_pick [2,3,8] (by simp <;> rfl) (OL_nil ?_)
    refine T_cond (by simp <;> rfl) (fun h => ?_) (fun h => ?_)
    · try simp at h
      refine (T_region ?_)
      refine OL_runs tyAll (by simp <;> rfl) ?_
      refine OL_formU [2,3] [3] (by simp <;> rfl) (by simp <;> rfl) (OL_nil ?_)
      exact ⟨_, _, ⟨[], ⟨⟨by simp, hq.people, hq.size, by simp⟩, by rw [panels_nil]; exact teams_ne n k⟩, rfl, rfl⟩, (by first | rfl | simp)⟩
    · try simp at h
      refine T_formU [2,3] [3] (by simp <;> rfl) (by simp <;> rfl) ?_
      refine T_skip ?_
      exact ⟨_, _, ⟨qs, ⟨hq, by intro he; rw [he] at h; simp at h⟩, rfl, rfl⟩, (by first | rfl | simp)⟩
  rintro _ _ ⟨qs', hqs, rfl, rfl⟩
  simp only [List.cons_append, List.nil_append]
  refine T_seq (T_region ?_)
  refine OL_runs tyAll (by simp <;> rfl) ?_
  refine OL_pick [2] (by simp <;> rfl) (OL_nil ?_)
  refine T_ret ⟨_, (by simp <;> rfl), n, k, qs', p1, m1, hqs, hp1, rfl, rfl⟩

theorem f5_ok (nn : Bool) (code : List Int) (hc : ∀ x ∈ code, 0 ≤ x ∧ x < 256) : Does Try.prog 5 [bytes nn code] (fun r outs => ∃ (n k : Nat) (qs : List Quo), (Valid ⟨n, k, qs⟩ ∧ panelsOf n k qs ≠ []) ∧ r = pooO ⟨n, k, qs⟩ ∧ outs = [.dead]) := by
  refine fn_of tyAll (rs := [.c 2 26]) 8 Try.func5 rfl rfl rfl rfl (by simp) rfl ?_
  refine T_from (by simp <;> rfl) ?_
  refine T_seq (T_region ?_)
  refine OL_runs tyAll (by simp <;> rfl) ?_
  refine OL_pick [0,2] (by simp <;> rfl) (OL_nil ?_)
  refine T_seq (T_region ?_)
  refine OL_first 1 tyAll (by simp <;> rfl) ?_
  dsimp only [List.drop]
  refine OL_callA [] 6000 (by simp) rfl (by simp <;> rfl) (by simp <;> rfl) (by simp) (by simp) (by simp <;> rfl) (by rfl) (f16_ok nn code) (by simp) ?_ ?_
  · rintro _ _ ⟨rfl, rfl⟩; simp
  rintro _ _ ⟨rfl, rfl⟩
  refine OL_state (by simp <;> rfl) ?_
  refine OL_runs tyAll (by simp <;> rfl) ?_
  refine OL_pick [2,3] (by simp <;> rfl) (OL_nil ?_)
  refine T_seq (T_region ?_)
  refine OL_first 1 tyAll (by simp <;> rfl) ?_
  dsimp only [List.drop]
  refine OL_callA [some 6000] 8000 (by simp) rfl (by simp <;> rfl) (by simp <;> rfl) (by simp) (by simp) (by simp <;> rfl) (by rfl) (f17_ok nn code hc 0 0 (by omega) (by omega)) (by simp) ?_ ?_
  · rintro _ _ ⟨n, k, qs, p', m', hq, hp, rfl, rfl⟩; simp
  rintro _ _ ⟨n, k, qs, p', m', hq, hp, rfl, rfl⟩
  refine OL_state (by simp <;> rfl) ?_
  refine OL_runs tyAll (by simp <;> rfl) ?_
  refine OL_pick [2] (by simp <;> rfl) (OL_nil ?_)
  refine T_ret ⟨_, (by simp <;> rfl), n, k, qs, hq, rfl, rfl⟩

end Go.Lite.LT

namespace Go.Lite.LT
open Go.Proofs
set_option maxRecDepth 4000
set_option linter.unusedSimpArgs false
set_option linter.unusedVariables false
set_option maxHeartbeats 8000000
attribute [local simp] ty
theorem find_cases {T : List (List Int)} {pr : List Int → Bool} (h : ¬ findI T pr = -1) : ∃ i : Nat, findI T pr = i ∧ ∃ hi : i < T.length, pr T[i] = true ∧ ∀ u ∈ T.take i, pr u = false := by
  unfold findI at h ⊢
  cases hq : T.findIdx? pr with
  | none => rw [hq] at h; exact absurd rfl h
  | some i =>
    rw [List.findIdx?_eq_some_iff_getElem] at hq
    obtain ⟨h1, h2, h3⟩ := hq
    refine ⟨i, rfl, h1, h2, ?_⟩
    intro u hu
    rw [List.mem_take_iff_getElem] at hu
    obtain ⟨j, hj, rfl⟩ := hu
    have := h3 j (by omega)
    simpa using this

theorem find_minus {T : List (List Int)} {pr : List Int → Bool} (h : findI T pr = -1) : ∀ u ∈ T, pr u = false := by
  unfold findI at h
  cases hq : T.findIdx? pr with
  | none => rw [List.findIdx?_eq_none_iff] at hq; exact hq
  | some i => rw [hq] at h; simp at h

theorem take_set_one {α : Type} {xs : List α} {i : Nat} {z : α} (h : i < xs.length) : (xs.set i z).take (i + 1) = xs.take i ++ [z] := by
  apply List.ext_getElem?
  intro k
  by_cases h1 : k < i
  · rw [List.getElem?_take_of_lt (by omega), List.getElem?_append_left (by simp; omega), List.getElem?_take_of_lt h1, List.getElem?_set_ne (by omega)]
  · by_cases h2 : k = i
    · subst h2
      rw [List.getElem?_take_of_lt (by omega), List.getElem?_set_self (by omega), List.getElem?_append_right (by simp; omega)]
      simp [show min k xs.length = k by omega]
    · rw [List.getElem?_eq_none (by simp; omega), List.getElem?_eq_none (by simp; omega)]

def kept (T : List (List Int)) (pr : List Int → Bool) : List (List Int) := T.filter fun t => !pr t
theorem kept_succ {T : List (List Int)} {pr : List Int → Bool} {j : Nat} {t : List Int} (ht : T[j]? = some t) : kept (T.take (j + 1)) pr = kept (T.take j) pr ++ if pr t then [] else [t] := by
  unfold kept
  rw [List.take_add_one, ht, List.filter_append]
  cases h : pr t <;> simp [h]
theorem f33_ok (T : List (List Int)) (g : FuncId) (y : V) (pr : List Int → Bool) (hg : ∀ t ∈ T, Does Try.prog g [ints true t, .iptr y] (fun r outs => r = .bool (pr t) ∧ outs = [.dead, .dead])) (hl : T.length < 1000000) : Does Try.prog 33 [.own 1 (T.map (ints true)), .fn g [.iptr y]] (fun r outs => r = .own 1 ((kept T pr).map (ints true)) ∧ outs = [.dead, .dead]) := by
  refine fn_of tyAll (rs := [.t 4]) 42 Try.func33 rfl rfl rfl rfl (by simp) rfl ?_
  refine T_from (by simp <;> rfl) ?_
  refine T_seq (T_region ?_)
  refine OL_runs tyAll (by simp <;> rfl) ?_
  refine OL_pick [0,1] (by simp <;> rfl) (OL_nil ?_)
  refine T_seq (T_region ?_)
  refine OL_first 2 tyAll (by simp <;> rfl) ?_
  dsimp only [List.drop]
  refine OL_callA [] 11000 (by simp) rfl (by simp <;> rfl) (by simp <;> rfl) (by simp) (by simp) (by simp <;> rfl) (by rfl) (f46_ok T g y pr hg hl) (by simp) ?_ ?_
  · rintro _ _ ⟨rfl, rfl⟩; simp
  rintro _ _ ⟨rfl, rfl⟩
  refine OL_state (by simp <;> rfl) ?_
  refine OL_runs tyAll (by simp <;> rfl) ?_
  refine OL_pick [0,1,5] (by simp <;> rfl) (OL_nil ?_)
  refine T_seq ?_
  refine T_seq (T_region ?_)
  refine OL_runs tyAll (by simp <;> rfl) ?_
  refine OL_pick [0,1,5,12] (by simp <;> rfl) (OL_nil ?_)
  refine T_cond (by simp <;> rfl) (fun h => ?_) (fun h => ?_)
  · try simp at h
    refine T_seq (T_region ?_)
    refine OL_runs tyAll (by simp <;> rfl) ?_
    refine OL_pick [4] (by simp <;> rfl) (OL_nil ?_)
    refine T_ret ⟨_, (by simp <;> rfl), (by have hf := find_minus h; rw [show kept T pr = T from List.filter_eq_self.2 (by intro t ht; simp [hf t ht])]), rfl⟩
  · try simp at h
    obtain ⟨i, hfi, hi1, hi2, hi3⟩ := find_cases h
    simp only [hfi]
    refine T_skip ?_
    refine T_seq ?_
    refine T_seq (T_region ?_)
    refine OL_runs tyAll (by simp (disch := first | exact InR.mk (by omega) (by omega) | simp) [wrapR] <;> rfl) ?_
    refine OL_pick [0,1,5,6] (by simp <;> rfl) (OL_nil ?_)
    refine T_block ?_
    refine T_loopU [0,1] [5,6] [1000000] (fun x : List (List Int) × Nat × Nat => [(5, .int .i64 (x.2.1 : Nat)), (6, .int .i64 (x.2.2 : Nat))]) (fun x : List (List Int) × Nat × Nat => [(1000000, .own 1 (x.1.map (ints true)))]) (fun x : List (List Int) × Nat × Nat => x.1.length = T.length ∧ x.1.take x.2.1 = kept (T.take x.2.2) pr ∧ x.1.drop x.2.2 = T.drop x.2.2 ∧ x.2.1 < x.2.2 ∧ x.2.2 ≤ T.length) (fun x : List (List Int) × Nat × Nat => T.length - x.2.2) (T, i, i + 1) (by simp <;> rfl) (by simp <;> rfl) (by simp) (by simp) ⟨rfl, by simp only; rw [kept_succ (List.getElem?_eq_getElem hi1)]; simp only [hi2, if_true, List.append_nil]; exact (List.filter_eq_self.2 (by intro u hu; simp [hi3 u hu])).symm, rfl, by simp only; omega, by simp only; omega⟩ ?_
    rintro ⟨R, i, j⟩ ⟨hR, hR1, hR2, hij, hj⟩
    simp only [List.cons_append, List.nil_append]
    simp only at hR hR1 hR2 hij hj ⊢
    refine T_seq ?_
    refine T_seq (T_region ?_)
    refine OL_runs tyAll (by simp <;> rfl) ?_
    refine OL_pick [0,1,5,6,19] (by simp <;> rfl) (OL_nil ?_)
    refine T_cond (by simp <;> rfl) (fun h => ?_) (fun h => ?_)
    · try simp at h
      have ht : T[j]? = some T[j] := List.getElem?_eq_getElem h
      obtain ⟨t, hte⟩ : ∃ t, t = T[j] := ⟨_, rfl⟩
      have htm : t ∈ T := hte ▸ List.getElem_mem h
      rw [← hte] at ht
      have hRj : R[j]? = some t := by have := congrArg (fun l => l[0]?) hR2; simpa [ht] using this
      have hRj' : j < R.length := by omega
      have hRg : R[j] = t := by rw [List.getElem?_eq_getElem hRj'] at hRj; simpa using hRj
      refine T_skip ?_
      refine T_cutU [0,1,6] [1000000] (fun c d => ∃ (R' : List (List Int)) (i' : Nat), (R'.length = T.length ∧ R'.take i' = kept (T.take (j + 1)) pr ∧ R'.drop (j + 1) = T.drop (j + 1) ∧ i' < j + 1) ∧ c = [(5, .int .i64 (i' : Nat))] ∧ d = [(1000000, .own 1 (R'.map (ints true)))]) (by simp <;> rfl) (by simp <;> rfl) ?_ ?_
      · skip
        refine T_block ?_
        refine T_seq (T_region ?_)
        refine OL_runs tyAll (by simp [hRj', hRg, h] <;> rfl) ?_
        refine OL_pick [0,1,5,6,7] (by simp <;> rfl) (OL_nil ?_)
        refine T_seq (T_region ?_)
        refine OL_first 2 tyAll (by simp (disch := first | exact InR.mk (by omega) (by omega) | simp) [wrapR] <;> rfl) ?_
        dsimp only [List.drop]
        refine OL_callA [] 29000 (by simp) rfl (by simp <;> rfl) (by simp <;> rfl) (by simp) (by simp) (by simp <;> rfl) (by rfl) (hg t htm) (by simp) ?_ ?_
        · rintro _ _ ⟨rfl, rfl⟩; simp
        rintro _ _ ⟨rfl, rfl⟩
        refine OL_state (by simp <;> rfl) ?_
        refine OL_runs tyAll (by simp (disch := first | exact InR.mk (by omega) (by omega) | simp) [wrapR] <;> rfl) ?_
        refine OL_pick [0,1,5,6,7,29] (by simp <;> rfl) (OL_nil ?_)
        refine T_cond (b := !pr t) (by simp <;> rfl) (fun h2 => ?_) (fun h2 => ?_)
        · try simp at h2
          refine T_seq (T_region ?_)
          refine OL_runs tyAll (by simp [show i < T.length by omega, show i < R.length by omega] <;> rfl) ?_
          refine OL_pick [0,1,5,6] (by simp <;> rfl) (OL_nil ?_)
          refine (T_region ?_)
          refine OL_runs tyAll (by simp (disch := first | exact InR.mk (by omega) (by omega) | simp) [wrapR] <;> rfl) ?_
          refine OL_formU [5,0,1,6] [1000000] (by simp <;> rfl) (by simp <;> rfl) (OL_nil ?_)
          exact ⟨_, _, ⟨R.set i t, i + 1, ⟨by simp [hR], by rw [take_set_one (by omega), hR1, kept_succ ht]; simp [h2], by rw [List.drop_set_of_lt (by omega)]; have := congrArg (List.drop 1) hR2; simpa using this, by omega⟩, rfl, rfl⟩, (by first | rfl | simp)⟩
        · try simp at h2
          refine T_formU [5,0,1,6] [1000000] (by simp <;> rfl) (by simp <;> rfl) ?_
          refine T_skip ?_
          exact ⟨_, _, ⟨R, i, ⟨hR, by rw [hR1, kept_succ ht]; simp [h2], by have := congrArg (List.drop 1) hR2; simpa using this, by omega⟩, rfl, rfl⟩, (by first | rfl | simp)⟩
      rintro _ _ ⟨R', i', hR', rfl, rfl⟩
      simp only [List.cons_append, List.nil_append]
      refine (T_region ?_)
      refine OL_runs tyAll (by simp (disch := first | exact InR.mk (by omega) (by omega) | simp) [wrapR] <;> rfl) ?_
      refine OL_formU [5,6,0,1] [1000000] (by simp <;> rfl) (by simp <;> rfl) (OL_nil ?_)
      exact ⟨⟨R', i', j + 1⟩, (by first | rfl | simp), ⟨hR'.1, hR'.2.1, hR'.2.2.1, by simp only; omega, by simp only; omega⟩, (by simp only; omega)⟩
    · try simp at h
      have hjT : j = T.length := by omega
      have hRk : R.take i = kept T pr := by rw [hR1, hjT]; simp
      refine T_exit ?_
      refine T_seq (T_region ?_)
      refine OL_first 3 tyAll (by simp [show i ≤ T.length by omega] <;> rfl) ?_
      dsimp only [List.drop]
      refine OL_clear tyAll (n := 1000000) (off := i) (len := T.length - i) (t := 28) (e := 31) (xs := R.map (ints true)) (by simp) rfl rfl (by simp <;> rfl) (by simp) (by intro x hx; simp at hx; obtain ⟨a, -, rfl⟩ := hx; rfl) (by omega) rfl rfl rfl rfl ⟨_, _, rfl, rfl, rfl, rfl⟩ ?_
      refine OL_pick [0,5] (by simp <;> rfl) (OL_nil ?_)
      refine T_seq (T_region ?_)
      refine OL_runs tyAll (by simp [show i ≤ T.length by omega, show i ≤ R.length by omega] <;> rfl) ?_
      refine OL_pick [4] (by simp <;> rfl) (OL_nil ?_)
      refine T_ret ⟨_, (by simp <;> rfl), (by simp [← hRk, hR]; rw [List.take_append_of_le_length (by simp; omega), List.take_take, Nat.min_self]), rfl⟩

end Go.Lite.LT

/- Sorting by the library's contracts, as contracts on trees. -/
namespace Go.Lite
open Go.Proofs Go.Sort

theorem AV_of_one {H : Heap} {I : Nat → Prop} {x : V} {v : Value} {F : List Nat} (h : rep H I x [v] F) (h1 : x.isAgg = false) (h2 : x.immut = true) : AV H I x v F := by
  cases x <;> first | exact h | simp [V.isAgg, V.immut] at *

/-- a world in which a row has been written anew, and blocks laid -/
theorem heap_rowed {α : Type} [Inhabited α] (enc : α → Value) (w : World) (b off n : Nat) (d : Array α) (os : Array Obj) {c : Array Value} {e : TypeId} {fr : Nat × Nat} (hb : w.heap[b]? = some (.cells c e fr)) :
    (grow (putRow enc (Sort.ahead w n) b off d) os).heap[b]? = some (.cells (putCells enc off d c) e fr) ∧
    (∀ m, m ≠ b → m < w.heap.size → (grow (putRow enc (Sort.ahead w n) b off d) os).heap[m]? = w.heap[m]?) ∧
    w.heap.size ≤ (grow (putRow enc (Sort.ahead w n) b off d) os).heap.size := by
  have hlt : b < w.heap.size := (Array.getElem?_eq_some_iff.1 hb).1
  have hs : (putRow enc (Sort.ahead w n) b off d).heap.size = w.heap.size := by simp [putRow, mapBlock, Sort.ahead]
  refine ⟨?_, ?_, ?_⟩
  · rw [heap_grow_old _ _ (by rw [hs]; exact hlt)]
    simp [putRow, mapBlock, Sort.ahead, Array.getElem?_modify, hb, onCells]
  · intro m hm hml
    rw [heap_grow_old _ _ (by rw [hs]; exact hml)]
    simp [putRow, mapBlock, Sort.ahead, Array.getElem?_modify, Ne.symm hm]
  · simp only [grow, Array.size_append, hs]; omega

/-- a row of elements of one cell, as it lies -/
theorem repL_ones {H : Heap} {I : Nat → Prop} : ∀ {xs : List V} {ds : List Value} {G : List Nat}, repL H I xs ds G → (∀ x ∈ xs, oneOk x = true) → G = [] ∧ ds.length = xs.length ∧ ∀ (i : Nat) x v, xs[i]? = some x → ds[i]? = some v → rep H I x [v] []
  | [], ds, G, h, _ => by simp only [repL] at h; simp [h.1, h.2]
  | y :: xs, ds, G, h, hk => by
    simp only [repL] at h
    obtain ⟨d, ds', G1, G2, rfl, rfl, h1, h2⟩ := h
    obtain ⟨k1, k2, k3⟩ := repL_ones h2 (fun x hx => hk x (by simp [hx]))
    have hy := hk y (by simp)
    simp only [oneOk, Bool.and_eq_true, beq_iff_eq, Bool.not_eq_true'] at hy
    have hl := rep_len h1
    rw [hy.1.2] at hl
    obtain ⟨u, rfl⟩ := List.length_eq_one_iff.1 hl
    have hG := immut_foot hy.1.1 h1
    subst hG; subst k1
    refine ⟨rfl, by simp [k2], ?_⟩
    intro i x v hi hv
    cases i with
    | zero => simp at hi hv; subst hi hv; exact h1
    | succ i => exact k3 i x v (by simpa using hi) (by simpa using hv)

theorem repL_of_ones {H : Heap} {I : Nat → Prop} : ∀ {xs : List V} {ds : List Value}, ds.length = xs.length → (∀ (i : Nat) x v, xs[i]? = some x → ds[i]? = some v → rep H I x [v] []) → repL H I xs ds []
  | [], ds, hl, _ => by simp at hl; simp [repL, hl]
  | y :: xs, [], hl, _ => by simp at hl
  | y :: xs, d :: ds, hl, h => by
    simp only [repL]
    exact ⟨[d], ds, [], [], rfl, rfl, h 0 y d rfl rfl, repL_of_ones (by simpa using hl) fun i x v hi hv => h (i + 1) x v (by simpa using hi) (by simpa using hv)⟩

/-- an owned row whose cells have been written anew -/
theorem own_rowed {α : Type} [Inhabited α] (enc : α → Value) {w : World} {I : Nat → Prop} {b off cap n : Nat} {d : Array α} {os : Array Obj} {c : Array Value} {e : TypeId} {xs ys : List V}
    (hb : w.heap[b]? = some (.cells c e (0, 0))) (hcap : xs.length ≤ cap) (hsz : off + cap * 1 ≤ c.size) (hI : ¬ I b) (hIs : ∀ m, I m → m < w.heap.size) (hd : d.size = xs.length) (hys : ys.length = xs.length) (hy1 : ∀ y ∈ ys, oneOk y = true)
    (hr : ∀ (i : Nat) y, ys[i]? = some y → rep (hp w) I y [enc d[i]!] []) :
    rep (hp (grow (putRow enc (Sort.ahead w n) b off d) os)) I (.own 1 ys) [.slice (some ⟨b, off, none⟩) xs.length cap] [b] := by
  obtain ⟨k1, k2, k3⟩ := heap_rowed enc w b off n d os hb
  have hH : ∀ m, I m → hp (grow (putRow enc (Sort.ahead w n) b off d) os) m = hp w m := fun m hm => k2 m (fun he => hI (he ▸ hm)) (hIs m hm)
  simp only [rep]
  refine ⟨b, off, cap, _, e, [], (List.range xs.length).map (fun i => enc d[i]!), by rw [hys], by rw [hys]; exact hcap, rfl, k1, by simpa [putCells] using hsz, ?_, ?_, ?_⟩
  · refine repL_of_ones (by simp [hys]) ?_
    intro i y v hi hv
    have hlt : i < xs.length := by rw [← hys]; exact (List.getElem?_eq_some_iff.1 hi).1
    rw [List.getElem?_map, List.getElem?_range hlt] at hv
    simp at hv
    subst hv
    exact rep_mono (fun _ h => h) hH (by simp) (hr i y hi)
  · intro y hy
    have := hy1 y hy
    simp only [oneOk, Bool.and_eq_true, beq_iff_eq] at this
    exact this.1.2
  · intro i hi
    simp only [List.length_map, List.length_range] at hi
    rw [List.getElem?_map, List.getElem?_range hi]
    have h1 : off + i < c.size := by omega
    simp only [putCells, Array.getElem?_mapIdx, Array.getElem?_eq_getElem h1, Option.map_some, hd]
    rw [if_pos ⟨by omega, by omega⟩]
    congr 3; omega

theorem CallOk_sort_left {w w' : World} {I : Nat → Prop} {v1 : Value} {b : Nat} {ys : List V} {vs : List Value} {dd : List V} (hd : ∀ y ∈ dd, y = .dead) (hl : vs.length = dd.length) (hr : rep (hp w') I (.own 1 ys) [v1] [b]) (hb : b < w.heap.size) (hI : ¬ I b) (hIs : ∀ m, I m → m < w.heap.size)
    (h1 : ∀ m, m ≠ b → m < w.heap.size → w'.heap[m]? = w.heap[m]?) (h2 : w.heap.size ≤ w'.heap.size) (h3 : w'.os = w.os) (h4 : w'.tape = w.tape ∧ w.drawn ≤ w'.drawn) (h5 : w'.output = w.output) :
    Left w I (v1 :: vs) [b] (.tup []) (.own 1 ys :: dd) (.returned (.tuple #[])) w' := by
  have hdead : ∀ (dd : List V) (vs : List Value), (∀ y ∈ dd, y = .dead) → vs.length = dd.length → OutL (hp w') I dd vs [] := by
    intro dd
    induction dd with
    | nil => intro vs _ hl; simp [OutL]
    | cons y dd ih =>
      intro vs hd hl
      cases vs with
      | nil => simp at hl
      | cons v vs => exact ⟨[], [], rfl, .inl ⟨hd y (by simp), rfl⟩, ih vs (fun y hy => hd y (by simp [hy])) (by simpa using hl)⟩
  refine ⟨_, I, [], [b], rfl, ⟨[], rfl, rfl, rfl⟩, ?_, by simp, ?_, fun _ h => h, ?_, h2, ?_, h3, h4, h5⟩
  · exact ⟨[b], [], rfl, .inr ⟨rfl, hr⟩, hdead dd vs hd hl⟩
  · intro m hm
    simp at hm; subst hm
    exact ⟨Nat.lt_of_lt_of_le hb h2, hI, .inr (by simp)⟩
  · intro m hm; exact ⟨Nat.lt_of_lt_of_le (hIs m hm) h2, .inl hm⟩
  · intro m hm hnm
    exact h1 m (by simpa using hnm) hm

/-- an order told on the rows that are sorted -/
structure OrdOn (rows : List V) (cf : V → V → Int) : Prop where
  irrefl : ∀ x ∈ rows, ¬ cf x x < 0
  trans : ∀ x ∈ rows, ∀ y ∈ rows, ∀ z ∈ rows, cf x y < 0 → cf y z < 0 → cf x z < 0
  ntrans : ∀ x ∈ rows, ∀ y ∈ rows, ∀ z ∈ rows, ¬ cf x y < 0 → ¬ cf y z < 0 → ¬ cf x z < 0

theorem AVL_caps {H : Heap} {I : Nat → Prop} : ∀ {xs : List V} {vs : List Value} {G : List Nat}, repL H I xs vs G → (∀ x ∈ xs, oneOk x = true) → AVL H I xs vs []
  | [], vs, G, h, _ => by simp only [repL] at h; exact ⟨h.1, rfl⟩
  | x :: xs, vs, G, h, hk => by
    simp only [repL] at h
    obtain ⟨d, ds, G1, G2, rfl, rfl, h1, h2⟩ := h
    have hx := hk x (by simp)
    simp only [oneOk, Bool.and_eq_true, beq_iff_eq, Bool.not_eq_true'] at hx
    have hl := rep_len h1
    rw [hx.1.2] at hl
    obtain ⟨u, rfl⟩ := List.length_eq_one_iff.1 hl
    have hG := immut_foot hx.1.1 h1
    subst hG
    exact ⟨u, ds, [], [], rfl, rfl, AV_of_one h1 hx.2 hx.1.1, AVL_caps h2 fun y hy => hk y (by simp [hy])⟩

set_option maxHeartbeats 1000000 in
/-- slices.SortFunc of an owned row of elements of one cell that own nothing -/
theorem sortFunc_ok {P : Program} {ρ : Shelf.Ren} (L : SlLaysF.n6 P ρ) (hE : Ent P (ρ.f 6)) (rows : List V) (hrows : ∀ x ∈ rows, oneOk x = true) (hlen : rows.length < 4611686018427387904) (hne : rows ≠ []) (g : FuncId) (caps : List V) (hcaps : ∀ x ∈ caps, oneOk x = true) (cf : V → V → Int) (hO : OrdOn rows cf)
    (hg : ∀ x ∈ rows, ∀ y ∈ rows, Does P g ([x, y] ++ caps) (fun r _ => r = .int .i64 (cf x y))) :
    Does P (ρ.f 6) [.own 1 rows, .fn g caps] (fun r outs => r = .tup [] ∧ ∃ rows', rows'.Perm rows ∧ rows'.Pairwise (fun x y => ¬ cf y x < 0) ∧ outs = [.own 1 rows', .dead]) := by
  refine ⟨hE, ?_⟩
  intro w I vs F hA hnd hF hIs
  obtain ⟨v1, vs', G, Gs, rfl, rfl, h1, v2, vs'', G2, Gs2, rfl, rfl, h2, rfl, rfl⟩ := hA
  simp only [AV, rep] at h1 h2
  obtain ⟨b, off, cap, c, e, G', ds, hv, hcap, rfl, hb, hsz, hrl, -, hwin⟩ := h1
  obtain ⟨rfl, cv, hv2, hcv, -⟩ := h2
  simp only [List.append_nil] at hF hnd ⊢
  obtain ⟨rfl⟩ : v1 = _ := by simpa using hv
  obtain ⟨rfl⟩ : v2 = _ := by simpa using hv2
  obtain ⟨rfl, hdl, hdr⟩ := repL_ones hrl hrows
  have hbI := hF b (by simp)
  have hn0 : 0 < rows.length := List.length_pos_iff.2 hne
  letI : Inhabited (Fin rows.length) := ⟨⟨0, hn0⟩⟩
  let enc : Fin rows.length → Value := fun i => ds[i.1]'(by rw [hdl]; exact i.2)
  let row : Fin rows.length → V := fun i => rows[i.1]
  have hmem : ∀ i, row i ∈ rows := fun i => List.getElem_mem _
  have henc : ∀ i, rep (hp w) I (row i) [enc i] [] := fun i => hdr i.1 _ _ (List.getElem?_eq_getElem i.2) (List.getElem?_eq_getElem (by rw [hdl]; exact i.2))
  let d : Array (Fin rows.length) := (List.finRange rows.length).toArray
  have hdsz : d.size = rows.length := by simp [d]
  have hdj : ∀ j (hj : j < rows.length), d[j]! = ⟨j, hj⟩ := by
    intro j hj
    rw [getElem!_pos d j (by rw [hdsz]; exact hj)]
    simp [d]
  have h1c : OneCell enc := by
    intro i
    have h := henc i
    have hk := hrows _ (hmem i)
    simp only [oneOk, Bool.and_eq_true, beq_iff_eq, Bool.not_eq_true'] at hk
    cases hx : row i <;> rw [hx] at h hk <;> simp [V.immut, V.isAgg] at hk
    case int => simp only [rep, List.cons.injEq, and_true] at h; rw [h]; rfl
    case bool => simp only [rep, List.cons.injEq, and_true] at h; rw [h]; rfl
    case str => simp only [rep, List.cons.injEq, and_true] at h; rw [h]; rfl
    case nilp => simp only [rep, List.cons.injEq, and_true] at h; rw [h]; rfl
    case nilfn => simp only [rep, List.cons.injEq, and_true] at h; rw [h]; rfl
    case nilif => simp only [rep, List.cons.injEq, and_true] at h; rw [h]; rfl
    case err => simp only [rep, and_true] at h; obtain ⟨t, v, h⟩ := h; simp at h; rw [h]; rfl
    case isl nn s xs =>
      simp only [rep, true_and] at h
      cases nn with
      | false => have := (h.1 rfl).2; simp at this; rw [this]; rfl
      | true => obtain ⟨b, o, cp, h, _⟩ := h.2 rfl; simp at h; rw [h]; rfl
    case iptr => simp only [rep, true_and] at h; obtain ⟨b, o, c, e, fr, ds, h, _⟩ := h; simp at h; rw [h]; rfl
    case fn => simp only [rep, true_and] at h; obtain ⟨vs, h, _⟩ := h; simp at h; rw [h]; rfl
  have hSWO : SWO (ltOf fun i j => cf (row i) (row j)) := by
    refine ⟨fun x => ?_, fun x y z => ?_, fun x y z => ?_⟩
    · simp only [ltOf, decide_eq_false_iff_not]; exact hO.irrefl _ (hmem x)
    · simp only [ltOf, decide_eq_true_eq]; exact hO.trans _ (hmem x) _ (hmem y) _ (hmem z)
    · simp only [ltOf, decide_eq_false_iff_not]; exact hO.ntrans _ (hmem x) _ (hmem y) _ (hmem z)
  have hH : Holds enc w b off d := by
    intro j hj
    rw [hdsz] at hj
    have hw := hwin j (by rw [hdl]; exact hj)
    rw [List.getElem?_eq_getElem (by rw [hdl]; exact hj)] at hw
    rw [hdj j hj]
    constructor
    · simp only [World.cell?]
      rw [show w.heap[b]? = _ from hb]
      simp only [Option.isSome_none]
      exact hw
    · simp only [World.frozen?]
      rw [show w.heap[b]? = _ from hb]
      simp
  have hbw : w.heap[b]? = some (.cells c e (0, 0)) := hb
  have hcmp : CmpLays1 P g cv.toArray enc (fun i j => cf (row i) (row j)) b off d.size w := by
    intro m os dk hdk x y
    obtain ⟨k1, k2, k3⟩ := heap_rowed enc w b off m dk os hbw
    have hHI : ∀ k, I k → hp (sortWorld enc w b off m dk os) k = hp w k := fun k hk => k2 k (fun he => hbI.2 (he ▸ hk)) (hIs k hk)
    have hx := rep_mono (fun _ h => h) hHI (by simp) (henc x)
    have hy := rep_mono (fun _ h => h) hHI (by simp) (henc y)
    have hkx := hrows _ (hmem x)
    have hky := hrows _ (hmem y)
    simp only [oneOk, Bool.and_eq_true, beq_iff_eq, Bool.not_eq_true'] at hkx hky
    have hcv' : repL (hp (sortWorld enc w b off m dk os)) I caps cv [] := repL_mono (fun _ h => h) hHI (by simp) hcv
    have hcall := (hg _ (hmem x) _ (hmem y)).2 (sortWorld enc w b off m dk os) I ([enc x, enc y] ++ cv) []
      ⟨_, _, [], [], rfl, rfl, AV_of_one hx hkx.2 hkx.1.1, _, _, [], [], rfl, rfl, AV_of_one hy hky.2 hky.1.1, AVL_caps hcv' hcaps⟩ (by simp) (by simp) (fun k hk => Nat.lt_of_lt_of_le (hIs k hk) k3)
    have harr : (#[enc x, enc y] ++ cv.toArray : Array Value) = ([enc x, enc y] ++ cv).toArray := by rw [← Array.toList_inj]; simp
    rw [harr]
    refine hcall.mono ?_
    rintro e' w' ⟨r, outs, rfl, -, v, I', Fr, Fo, rfl, hr, -, -, -, -, -, hs1, hs2, hs3, hs4, hs5⟩
    simp only [RV, AV, rep] at hr
    obtain ⟨hr, -⟩ := hr
    refine ⟨by simpa using hr, w'.drawn - (sortWorld enc w b off m dk os).drawn, (w'.heap.extract (sortWorld enc w b off m dk os).heap.size w'.heap.size), ?_⟩
    generalize sortWorld enc w b off m dk os = W at *
    have hheap : w'.heap = W.heap ++ w'.heap.extract W.heap.size w'.heap.size := by
      apply Array.ext_getElem?
      intro i
      by_cases hi : i < W.heap.size
      · rw [Array.getElem?_append_left hi]; exact hs2 i hi (by simp)
      · rw [Array.getElem?_append_right (by omega), Array.getElem?_extract]
        by_cases hi2 : i < w'.heap.size
        · rw [if_pos (by omega)]; congr 1; omega
        · rw [if_neg (by omega), Array.getElem?_eq_none (by omega)]
    cases w'; cases W
    simp only [grow, World.drewN] at *
    simp only [World.mk.injEq]
    exact ⟨hheap, hs4.1, by omega, hs3, hs5⟩
  have hS := Any.slices_SortFunc L enc h1c (fun i j => cf (row i) (row j)) hSWO g cv.toArray b off cap d w (fun args w => run_callFunc (hg _ (hmem default) _ (hmem default)).1 args w) hcmp hH hbI.1 (by rw [hdsz]; exact hlen)
  rw [hdsz] at hS
  refine hS.mono ?_
  rintro e' w' ⟨rfl, d', n, os, hperm, hsort, rfl⟩
  obtain ⟨k1, k2, k3⟩ := heap_rowed enc w b off n d' os hbw
  have hds' : d'.size = rows.length := hperm.1.trans hdsz
  refine ⟨_, _, ⟨rfl, d'.toList.map row, ?_, ?_, rfl⟩, rfl, ?_⟩
  · have hp' := hperm.2.2
    have hex : ∀ (a : Array (Fin rows.length)), a.size = rows.length → (a.extract 0 rows.length).toList = a.toList := by
      intro a ha
      apply List.ext_getElem?
      intro i
      simp only [Array.getElem?_toList, Array.getElem?_extract, Nat.zero_add, Nat.sub_zero]
      by_cases hi : i < rows.length
      · rw [if_pos (by omega)]
      · rw [if_neg (by omega), Array.getElem?_eq_none (by omega)]
    rw [hex d' hds', hex d hdsz] at hp'
    have := hp'.map row
    have e3 : d.toList.map row = rows := by
      apply List.ext_getElem?
      intro i
      by_cases hi : i < rows.length
      · simp [d, row, hi]
      · simp [d, hi]
    rw [e3] at this
    exact this
  · rw [List.pairwise_iff_getElem]
    intro i j hi hj hij
    simp only [List.length_map, Array.length_toList, hds'] at hi hj
    have := hsort i j (Nat.zero_le _) hij hj
    rw [getElem!_pos d' j (by omega), getElem!_pos d' i (by omega)] at this
    simp only [ltOf, decide_eq_false_iff_not] at this
    simpa using this
  · refine CallOk_sort_left (dd := [.dead]) (by simp) rfl ?_ hbI.1 hbI.2 hIs k2 k3 rfl ⟨rfl, by simp [sortWorld, grow, putRow, mapBlock, Sort.ahead]⟩ rfl
    refine own_rowed enc (xs := rows) (ys := d'.toList.map row) (n := n) (os := os) (d := d') hbw hcap hsz hbI.2 hIs hds' (by simp [hds']) ?_ ?_
    · intro y hy
      simp at hy
      obtain ⟨i, -, rfl⟩ := hy
      exact hrows _ (hmem i)
    · intro i y hy
      rw [List.getElem?_map] at hy
      cases hq : d'.toList[i]? with
      | none => rw [hq] at hy; simp at hy
      | some z =>
        rw [hq] at hy
        simp at hy
        subst hy
        have hlt := (List.getElem?_eq_some_iff.1 hq).1
        rw [getElem!_pos d' i (by simpa using hlt)]
        have := (List.getElem?_eq_some_iff.1 hq).2
        simp at this
        rw [this]
        exact henc z
end Go.Lite

/- slices.Sort of numbers, as a contract on trees. -/
namespace Go.Lite
open Go.Proofs Go.Sort

/-- slices.Sort of an owned row of numbers -/
theorem sort_int_ok {P : Program} {ρ : Shelf.Ren} (L : SlLaysN.n53 P ρ) (hE : Ent P (ρ.f 53)) (xs : List Int) (hl : xs.length < 4611686018427387904) :
    Does P (ρ.f 53) [.own 1 (xs.map (.int .i64 ·))] (fun r outs => r = .tup [] ∧ outs = [.own 1 ((xs.mergeSort fun x y => decide (x ≤ y)).map (.int .i64 ·))]) := by
  refine ⟨hE, ?_⟩
  intro w I vs F hA hnd hF hIs
  obtain ⟨v1, vs', G, Gs, rfl, rfl, h1, rfl, rfl⟩ := hA
  simp only [AV, rep] at h1
  obtain ⟨b, off, cap, c, e, G', ds, hv, hcap, rfl, hb, hsz, hrl, -, hwin⟩ := h1
  simp only [List.append_nil] at hF hnd ⊢
  obtain ⟨rfl⟩ : v1 = _ := by simpa using hv
  obtain ⟨rfl, hdl, hdr⟩ := repL_ones hrl (by intro x hx; simp at hx; obtain ⟨a, -, rfl⟩ := hx; rfl)
  have hds : ds = xs.map (Value.int .i64) := by
    refine List.ext_getElem (by simpa using hdl) ?_
    intro i h1 h2
    have := hdr i (.int .i64 (xs[i]'(by simpa using h2))) ds[i] (by simp) (List.getElem?_eq_getElem h1)
    simp only [rep] at this
    simpa using this.1
  have hbI := hF b (by simp)
  have hH : Holds (Value.int .i64) w b off xs.toArray := by
    intro j hj
    simp at hj
    have := hwin j (by rw [hds]; simpa using hj)
    constructor
    · simp only [World.cell?]
      rw [show w.heap[b]? = _ from hb]
      simp only [Option.isSome_none]
      rw [show (if false = true then none else c[off + j]?) = c[off + j]? from rfl, this, hds]
      simp [hj]
    · simp only [World.frozen?]
      rw [show w.heap[b]? = _ from hb]
      simp
  have hS := AnyG.slices_Sort_int L b off cap xs w hH hbI.1 hl
  refine hS.mono ?_
  rintro e' w' ⟨rfl, n, os, rfl⟩
  obtain ⟨k1, k2, k3⟩ := heap_rowed (Value.int .i64) w b off n (xs.mergeSort fun x y => decide (x ≤ y)).toArray os hb
  refine ⟨_, _, ⟨rfl, rfl⟩, rfl, ?_⟩
  refine CallOk_sort_left (dd := []) (by simp) rfl ?_ hbI.1 hbI.2 hIs k2 k3 rfl ⟨rfl, by simp [grow, putRow, mapBlock, Sort.ahead]⟩ rfl
  have := own_rowed (Value.int .i64) (xs := xs.map (.int .i64 ·)) (ys := (xs.mergeSort fun x y => decide (x ≤ y)).map (.int .i64 ·)) (n := n) (os := os) (d := (xs.mergeSort fun x y => decide (x ≤ y)).toArray) hb (by simpa using hcap) hsz hbI.2 hIs (by simp) (by simp)
    (by intro y hy; simp at hy; obtain ⟨a, -, rfl⟩ := hy; rfl) (by
      intro i y hy
      rw [List.getElem?_map] at hy
      cases hq : (xs.mergeSort fun x y => decide (x ≤ y))[i]? with
      | none => rw [hq] at hy; simp at hy
      | some z =>
        rw [hq] at hy
        simp at hy
        subst hy
        have hlt := (List.getElem?_eq_some_iff.1 hq).1
        simp only [rep, and_true]
        rw [getElem!_pos _ i (by simpa using hlt)]
        have := (List.getElem?_eq_some_iff.1 hq).2
        simp [this])
  simpa using this
end Go.Lite

/- The library's sorts, laid at this program. -/
namespace Go.Proofs
def Try.sortRows_ren : Go.Shelf.Ren := ⟨fun | 6 => 36 | 15 => 43 | 14 => 47 | 28 => 58 | 29 => 59 | 20 => 62 | 21 => 63 | 22 => 64 | 23 => 65 | 24 => 66 | 25 => 67 | 26 => 68 | 27 => 69 | 46 => 76 | 47 => 72 | 48 => 73 | 49 => 77 | 50 => 78 | 57 => 80 | n => n, fun | 22 => 28 | 24 => 31 | 25 => 65 | 3 => 3 | 39 => 70 | 0 => 0 | 53 => 86 | 55 => 55 | 4 => 4 | 46 => 78 | 45 => 77 | 50 => 83 | 5 => 5 | 9 => 9 | 66 => 95 | 70 => 99 | 76 => 103 | 77 => 104 | n => n, fun | n => n⟩
theorem Try.sortRows : Go.Proofs.SlLaysF.n6 Try.prog Try.sortRows_ren := {
  mixed := by kernel_rfl
  f6 := ⟨Try.f36.name, by decide, Try.func36.trans (congrArg some (by kernel_rfl))⟩
  f14 := ⟨Try.f47.name, by decide, Try.func47.trans (congrArg some (by kernel_rfl))⟩
  f15 := Try.func43.trans (congrArg some (by kernel_rfl))
  f20 := ⟨Try.f62.name, by decide, Try.func62.trans (congrArg some (by kernel_rfl))⟩
  f21 := ⟨Try.f63.name, by decide, Try.func63.trans (congrArg some (by kernel_rfl))⟩
  f22 := ⟨Try.f64.name, by decide, Try.func64.trans (congrArg some (by kernel_rfl))⟩
  f23 := ⟨Try.f65.name, by decide, Try.func65.trans (congrArg some (by kernel_rfl))⟩
  f24 := ⟨Try.f66.name, by decide, Try.func66.trans (congrArg some (by kernel_rfl))⟩
  f25 := ⟨Try.f67.name, by decide, Try.func67.trans (congrArg some (by kernel_rfl))⟩
  f26 := ⟨Try.f68.name, by decide, Try.func68.trans (congrArg some (by kernel_rfl))⟩
  f27 := ⟨Try.f69.name, by decide, Try.func69.trans (congrArg some (by kernel_rfl))⟩
  f28 := Try.func58.trans (congrArg some (by kernel_rfl))
  f29 := Try.func59.trans (congrArg some (by kernel_rfl))
  f46 := ⟨Try.f76.name, by decide, Try.func76.trans (congrArg some (by kernel_rfl))⟩
  f47 := Try.func72.trans (congrArg some (by kernel_rfl))
  f48 := Try.func73.trans (congrArg some (by kernel_rfl))
  f49 := ⟨Try.f77.name, by decide, Try.func77.trans (congrArg some (by kernel_rfl))⟩
  f50 := ⟨Try.f78.name, by decide, Try.func78.trans (congrArg some (by kernel_rfl))⟩
  f57 := ⟨Try.f80.name, by decide, Try.func80.trans (congrArg some (by kernel_rfl))⟩
  t0 := Try.underlying0
  a0 := Try.isAgg0
  z0 := Try.sizeOf0
  v0 := Try.zeroValue0
  t3 := Try.underlying3
  a3 := Try.isAgg3
  z3 := Try.sizeOf3
  v3 := Try.zeroValue3
  t4 := Try.underlying4
  a4 := Try.isAgg4
  z4 := Try.sizeOf4
  v4 := Try.zeroValue4
  t5 := Try.underlying5
  a5 := Try.isAgg5
  z5 := Try.sizeOf5
  v5 := Try.zeroValue5
  t9 := Try.underlying9
  a9 := Try.isAgg9
  z9 := Try.sizeOf9
  v9 := Try.zeroValue9
  t22 := Try.underlying28
  a22 := Try.isAgg28
  z22 := Try.sizeOf28
  v22 := Try.zeroValue28
  a24 := Try.isAgg31
  z24 := Try.sizeOf31
  t25 := Try.underlying65
  a25 := Try.isAgg65
  z25 := Try.sizeOf65
  v25 := Try.zeroValue65
  t39 := Try.underlying70
  a39 := Try.isAgg70
  z39 := Try.sizeOf70
  v39 := Try.zeroValue70
  t45 := Try.underlying77
  a45 := Try.isAgg77
  z45 := Try.sizeOf77
  v45 := Try.zeroValue77
  t46 := Try.underlying78
  a46 := Try.isAgg78
  z46 := Try.sizeOf78
  v46 := Try.zeroValue78
  t50 := Try.underlying83
  a50 := Try.isAgg83
  z50 := Try.sizeOf83
  v50 := Try.zeroValue83
  t53 := Try.underlying86
  a53 := Try.isAgg86
  z53 := Try.sizeOf86
  v53 := Try.zeroValue86
  t55 := Try.underlying55
  a55 := Try.isAgg55
  z55 := Try.sizeOf55
  v55 := Try.zeroValue55
  t66 := Try.underlying95
  a66 := Try.isAgg95
  z66 := Try.sizeOf95
  v66 := Try.zeroValue95
  t70 := Try.underlying99
  a70 := Try.isAgg99
  z70 := Try.sizeOf99
  v70 := Try.zeroValue99
  t76 := Try.underlying103
  a76 := Try.isAgg103
  z76 := Try.sizeOf103
  v76 := Try.zeroValue103
  t77 := Try.underlying104
  a77 := Try.isAgg104
  z77 := Try.sizeOf104
  v77 := Try.zeroValue104 }

def Try.sortInts_ren : Go.Shelf.Ren := ⟨fun | 53 => 27 | 64 => 43 | 63 => 42 | 78 => 58 | 79 => 59 | 70 => 49 | 71 => 50 | 72 => 51 | 73 => 52 | 74 => 53 | 75 => 54 | 59 => 55 | 76 => 56 | 77 => 57 | 88 => 71 | 89 => 72 | 90 => 73 | 91 => 74 | 92 => 75 | 68 => 70 | 96 => 79 | n => n, fun | 22 => 31 | 23 => 2 | 3 => 3 | 51 => 70 | 0 => 0 | 67 => 86 | 69 => 55 | 4 => 4 | 61 => 78 | 60 => 77 | 44 => 83 | 5 => 5 | 9 => 9 | 75 => 95 | 79 => 99 | 83 => 103 | 84 => 104 | n => n, fun | n => n⟩
theorem Try.sortInts : Go.Proofs.SlLaysN.n53 Try.prog Try.sortInts_ren := {
  mixed := by kernel_rfl
  f53 := ⟨Try.f27.name, by decide, Try.func27.trans (congrArg some (by kernel_rfl))⟩
  f59 := ⟨Try.f55.name, by decide, Try.func55.trans (congrArg some (by kernel_rfl))⟩
  f63 := ⟨Try.f42.name, by decide, Try.func42.trans (congrArg some (by kernel_rfl))⟩
  f64 := Try.func43.trans (congrArg some (by kernel_rfl))
  f68 := ⟨Try.f70.name, by decide, Try.func70.trans (congrArg some (by kernel_rfl))⟩
  f70 := ⟨Try.f49.name, by decide, Try.func49.trans (congrArg some (by kernel_rfl))⟩
  f71 := ⟨Try.f50.name, by decide, Try.func50.trans (congrArg some (by kernel_rfl))⟩
  f72 := ⟨Try.f51.name, by decide, Try.func51.trans (congrArg some (by kernel_rfl))⟩
  f73 := ⟨Try.f52.name, by decide, Try.func52.trans (congrArg some (by kernel_rfl))⟩
  f74 := ⟨Try.f53.name, by decide, Try.func53.trans (congrArg some (by kernel_rfl))⟩
  f75 := ⟨Try.f54.name, by decide, Try.func54.trans (congrArg some (by kernel_rfl))⟩
  f76 := ⟨Try.f56.name, by decide, Try.func56.trans (congrArg some (by kernel_rfl))⟩
  f77 := ⟨Try.f57.name, by decide, Try.func57.trans (congrArg some (by kernel_rfl))⟩
  f78 := Try.func58.trans (congrArg some (by kernel_rfl))
  f79 := Try.func59.trans (congrArg some (by kernel_rfl))
  f88 := ⟨Try.f71.name, by decide, Try.func71.trans (congrArg some (by kernel_rfl))⟩
  f89 := Try.func72.trans (congrArg some (by kernel_rfl))
  f90 := Try.func73.trans (congrArg some (by kernel_rfl))
  f91 := ⟨Try.f74.name, by decide, Try.func74.trans (congrArg some (by kernel_rfl))⟩
  f92 := ⟨Try.f75.name, by decide, Try.func75.trans (congrArg some (by kernel_rfl))⟩
  f96 := ⟨Try.f79.name, by decide, Try.func79.trans (congrArg some (by kernel_rfl))⟩
  t0 := Try.underlying0
  a0 := Try.isAgg0
  z0 := Try.sizeOf0
  v0 := Try.zeroValue0
  t3 := Try.underlying3
  a3 := Try.isAgg3
  z3 := Try.sizeOf3
  v3 := Try.zeroValue3
  t4 := Try.underlying4
  a4 := Try.isAgg4
  z4 := Try.sizeOf4
  v4 := Try.zeroValue4
  t5 := Try.underlying5
  a5 := Try.isAgg5
  z5 := Try.sizeOf5
  v5 := Try.zeroValue5
  t9 := Try.underlying9
  a9 := Try.isAgg9
  z9 := Try.sizeOf9
  v9 := Try.zeroValue9
  t22 := Try.underlying31
  a22 := Try.isAgg31
  z22 := Try.sizeOf31
  v22 := Try.zeroValue31
  t23 := Try.underlying2
  a23 := Try.isAgg2
  z23 := Try.sizeOf2
  v23 := Try.zeroValue2
  t44 := Try.underlying83
  a44 := Try.isAgg83
  z44 := Try.sizeOf83
  v44 := Try.zeroValue83
  t51 := Try.underlying70
  a51 := Try.isAgg70
  z51 := Try.sizeOf70
  v51 := Try.zeroValue70
  t60 := Try.underlying77
  a60 := Try.isAgg77
  z60 := Try.sizeOf77
  v60 := Try.zeroValue77
  t61 := Try.underlying78
  a61 := Try.isAgg78
  z61 := Try.sizeOf78
  v61 := Try.zeroValue78
  t67 := Try.underlying86
  a67 := Try.isAgg86
  z67 := Try.sizeOf86
  v67 := Try.zeroValue86
  t69 := Try.underlying55
  a69 := Try.isAgg55
  z69 := Try.sizeOf55
  v69 := Try.zeroValue55
  t75 := Try.underlying95
  a75 := Try.isAgg95
  z75 := Try.sizeOf95
  v75 := Try.zeroValue95
  t79 := Try.underlying99
  a79 := Try.isAgg99
  z79 := Try.sizeOf99
  v79 := Try.zeroValue99
  t83 := Try.underlying103
  a83 := Try.isAgg103
  z83 := Try.sizeOf103
  v83 := Try.zeroValue103
  t84 := Try.underlying104
  a84 := Try.isAgg104
  z84 := Try.sizeOf104
  v84 := Try.zeroValue104 }

end Go.Proofs
namespace Go.Lite.LT
open Go.Proofs
theorem f27_ok (xs : List Int) (hl : xs.length < 4611686018427387904) : Does Try.prog 27 [.own 1 (xs.map (.int .i64 ·))] (fun r outs => r = .tup [] ∧ outs = [.own 1 ((xs.mergeSort fun x y => decide (x ≤ y)).map (.int .i64 ·))]) :=
  sort_int_ok Try.sortInts ⟨_, Try.func27, rfl, rfl⟩ xs hl
theorem f36_ok (rows : List V) (hrows : ∀ x ∈ rows, oneOk x = true) (hlen : rows.length < 4611686018427387904) (hne : rows ≠ []) (g : FuncId) (caps : List V) (hcaps : ∀ x ∈ caps, oneOk x = true) (cf : V → V → Int) (hO : OrdOn rows cf)
    (hg : ∀ x ∈ rows, ∀ y ∈ rows, Does Try.prog g ([x, y] ++ caps) (fun r _ => r = .int .i64 (cf x y))) :
    Does Try.prog 36 [.own 1 rows, .fn g caps] (fun r outs => r = .tup [] ∧ ∃ rows', rows'.Perm rows ∧ rows'.Pairwise (fun x y => ¬ cf y x < 0) ∧ outs = [.own 1 rows', .dead]) :=
  sortFunc_ok Try.sortRows ⟨_, Try.func36, rfl, rfl⟩ rows hrows hlen hne g caps hcaps cf hO hg
end Go.Lite.LT

namespace Go.Lite.LT
open Go.Proofs
set_option maxRecDepth 4000
set_option linter.unusedSimpArgs false
set_option linter.unusedVariables false
set_option maxHeartbeats 8000000
attribute [local simp] ty
def cmpI (x y : Int) : Int := if x < y then -1 else if y < x then 1 else 0
def cmpL : List Int → List Int → Int
  | [], [] => 0
  | [], _ :: _ => -1
  | _ :: _, [] => 1
  | x :: xs, y :: ys => if cmpI x y ≠ 0 then cmpI x y else cmpL xs ys
theorem cmpL_step {xs ys : List Int} {i : Nat} {x y : Int} (hx : xs[i]? = some x) (hy : ys[i]? = some y) : cmpL (xs.drop i) (ys.drop i) = if cmpI x y ≠ 0 then cmpI x y else cmpL (xs.drop (i + 1)) (ys.drop (i + 1)) := by
  obtain ⟨h1, rfl⟩ := List.getElem?_eq_some_iff.1 hx
  obtain ⟨h2, rfl⟩ := List.getElem?_eq_some_iff.1 hy
  rw [List.drop_eq_getElem_cons h1, List.drop_eq_getElem_cons h2]
  simp only [cmpL]
theorem f48_ok (a b : Int) : Does Try.prog 48 [.int .i64 a, .int .i64 b] (fun r outs => r = .int .i64 (cmpI a b) ∧ outs = [.dead, .dead]) := by
  refine fn_of tyAll (rs := [.t 4]) 20 Try.func48 rfl rfl rfl rfl (by simp) rfl ?_
  refine T_from (by simp <;> rfl) ?_
  refine T_seq (T_region ?_)
  refine OL_runs tyAll (by simp <;> rfl) ?_
  refine OL_pick [0,1] (by simp <;> rfl) (OL_nil ?_)
  refine T_seq (T_region ?_)
  refine OL_first 1 tyAll (by simp <;> rfl) ?_
  dsimp only [List.drop]
  refine OL_callA [] 9000 (by simp) rfl (by simp <;> rfl) (by simp <;> rfl) (by simp) (by simp) (by simp <;> rfl) (by rfl) (f70_ok a) (by simp) ?_ ?_
  · rintro _ _ ⟨rfl, rfl⟩; simp
  rintro _ _ ⟨rfl, rfl⟩
  refine OL_state (by simp <;> rfl) ?_
  refine OL_runs tyAll (by simp <;> rfl) ?_
  refine OL_pick [0,1,5] (by simp <;> rfl) (OL_nil ?_)
  refine T_seq (T_region ?_)
  refine OL_first 1 tyAll (by simp <;> rfl) ?_
  dsimp only [List.drop]
  refine OL_callA [] 11000 (by simp) rfl (by simp <;> rfl) (by simp <;> rfl) (by simp) (by simp) (by simp <;> rfl) (by rfl) (f70_ok b) (by simp) ?_ ?_
  · rintro _ _ ⟨rfl, rfl⟩; simp
  rintro _ _ ⟨rfl, rfl⟩
  refine OL_state (by simp <;> rfl) ?_
  refine OL_runs tyAll (by simp <;> rfl) ?_
  refine OL_pick [0,1,5,6] (by simp <;> rfl) (OL_nil ?_)
  refine T_seq ?_
  refine T_seq (T_region ?_)
  refine OL_runs tyAll (by simp <;> rfl) ?_
  refine OL_pick [0,1,6,11] (by simp <;> rfl) (OL_nil ?_)
  refine T_cond (b := false) (by simp <;> rfl) (fun h => ?_) (fun h => ?_)
  · cases h
  · skip
    refine T_skip ?_
    refine T_seq ?_
    refine T_seq (T_region ?_)
    refine OL_runs tyAll (by simp <;> rfl) ?_
    refine OL_pick [0,1,13] (by simp <;> rfl) (OL_nil ?_)
    refine T_cond (b := false) (by simp <;> rfl) (fun h => ?_) (fun h => ?_)
    · cases h
    · skip
      refine T_skip ?_
      refine T_seq ?_
      refine T_seq (T_region ?_)
      refine OL_runs tyAll (by simp <;> rfl) ?_
      refine OL_pick [0,1,16] (by simp <;> rfl) (OL_nil ?_)
      refine T_cond (by simp <;> rfl) (fun h => ?_) (fun h => ?_)
      · try simp at h
        refine T_seq (T_region ?_)
        refine OL_runs tyAll (by simp <;> rfl) ?_
        refine OL_pick [4] (by simp <;> rfl) (OL_nil ?_)
        refine T_ret ⟨_, (by simp <;> rfl), (by simp [cmpI, h]), rfl⟩
      · try simp at h
        refine T_skip ?_
        refine T_seq ?_
        refine T_seq (T_region ?_)
        refine OL_runs tyAll (by simp <;> rfl) ?_
        refine OL_pick [19] (by simp <;> rfl) (OL_nil ?_)
        refine T_cond (by simp <;> rfl) (fun h => ?_) (fun h => ?_)
        · try simp at h
          refine T_seq (T_region ?_)
          refine OL_runs tyAll (by simp <;> rfl) ?_
          refine OL_pick [4] (by simp <;> rfl) (OL_nil ?_)
          refine T_ret ⟨_, (by simp <;> rfl), (by simp [cmpI, h, show ¬ a < b by omega]), rfl⟩
        · try simp at h
          refine T_skip ?_
          refine T_seq (T_region ?_)
          refine OL_runs tyAll (by simp <;> rfl) ?_
          refine OL_pick [4] (by simp <;> rfl) (OL_nil ?_)
          refine T_ret ⟨_, (by simp <;> rfl), (by simp [cmpI, show ¬ a < b by omega, show ¬ b < a by omega]), rfl⟩

theorem f38_ok (n1 n2 : Bool) (xs ys : List Int) (hl : xs.length < 1000000) (hl2 : ys.length < 1000000) : Does Try.prog 38 [ints n1 xs, ints n2 ys] (fun r outs => r = .int .i64 (cmpL xs ys) ∧ outs = [.dead, .dead]) := by
  refine fn_of tyAll (rs := [.t 4]) 36 Try.func38 rfl rfl rfl rfl (by simp) rfl ?_
  refine T_from (by simp <;> rfl) ?_
  refine T_seq (T_region ?_)
  refine OL_runs tyAll (by simp <;> rfl) ?_
  refine OL_pick [0,1] (by simp <;> rfl) (OL_nil ?_)
  refine T_seq ?_
  refine T_seq (T_region ?_)
  refine OL_runs tyAll (by simp <;> rfl) ?_
  refine OL_pick [0,1,9,10,11] (by simp <;> rfl) (OL_nil ?_)
  refine T_block ?_
  refine T_loopU [0,1,9,10] [11] [] (fun i : Nat => [(11, .int .i64 i)]) (fun i : Nat => []) (fun i : Nat => i ≤ xs.length ∧ i ≤ ys.length ∧ cmpL xs ys = cmpL (xs.drop i) (ys.drop i)) (fun i : Nat => xs.length - i) (0) (by simp <;> rfl) (by simp <;> rfl) (by simp) (by simp) (by simp) ?_
  rintro i ⟨hi, hi2, hc⟩
  simp only [List.cons_append, List.nil_append]
  refine T_seq (T_region ?_)
  refine OL_runs tyAll (by simp <;> rfl) ?_
  refine OL_pick [0,1,9,10,11,12] (by simp <;> rfl) (OL_nil ?_)
  refine T_seq ?_
  refine T_cond (by simp <;> rfl) (fun h => ?_) (fun h => ?_)
  · try simp at h
    have hx : xs[i]? = some xs[i] := List.getElem?_eq_getElem h
    obtain ⟨x, hxe⟩ : ∃ x, x = xs[i] := ⟨_, rfl⟩
    rw [← hxe] at hx
    refine T_skip ?_
    refine T_seq ?_
    refine T_block ?_
    refine T_seq (T_region ?_)
    refine OL_runs tyAll (by simp [h, ← hxe] <;> rfl) ?_
    refine OL_pick [0,1,5,6,9,10,11] (by simp <;> rfl) (OL_nil ?_)
    refine T_seq ?_
    refine T_seq (T_region ?_)
    refine OL_runs tyAll (by simp <;> rfl) ?_
    refine OL_pick [0,1,5,6,9,10,11,19] (by simp <;> rfl) (OL_nil ?_)
    refine T_cond (by simp <;> rfl) (fun h2 => ?_) (fun h2 => ?_)
    · try simp at h2
      refine T_seq (T_region ?_)
      refine OL_runs tyAll (by simp <;> rfl) ?_
      refine OL_pick [4] (by simp <;> rfl) (OL_nil ?_)
      refine T_ret ⟨_, (by simp <;> rfl), (by rw [hc, List.drop_eq_getElem_cons h, List.drop_of_length_le h2]; rfl), rfl⟩
    · try simp at h2
      have hy : ys[i]? = some ys[i] := List.getElem?_eq_getElem h2
      obtain ⟨y, hye⟩ : ∃ y, y = ys[i] := ⟨_, rfl⟩
      rw [← hye] at hy
      have hst := cmpL_step hx hy
      refine T_skip ?_
      refine T_seq (T_region ?_)
      refine OL_runs tyAll (by simp [h2, ← hye] <;> rfl) ?_
      refine OL_pick [0,1,6,7,9,10,11] (by simp <;> rfl) (OL_nil ?_)
      refine T_seq (T_region ?_)
      refine OL_first 2 tyAll (by simp <;> rfl) ?_
      dsimp only [List.drop]
      refine OL_callA [] 27000 (by simp) rfl (by simp <;> rfl) (by simp <;> rfl) (by simp) (by simp) (by simp <;> rfl) (by rfl) (f48_ok x y) (by simp) ?_ ?_
      · rintro _ _ ⟨rfl, rfl⟩; simp
      rintro _ _ ⟨rfl, rfl⟩
      refine OL_state (by simp <;> rfl) ?_
      refine OL_runs tyAll (by simp <;> rfl) ?_
      refine OL_pick [0,1,8,9,10,11] (by simp <;> rfl) (OL_nil ?_)
      refine T_seq (T_region ?_)
      refine OL_runs tyAll (by simp <;> rfl) ?_
      refine OL_pick [0,1,8,9,10,11,28] (by simp <;> rfl) (OL_nil ?_)
      refine T_cond (by simp <;> rfl) (fun h3 => ?_) (fun h3 => ?_)
      · try simp at h3
        refine T_seq (T_region ?_)
        refine OL_runs tyAll (by simp <;> rfl) ?_
        refine OL_pick [4] (by simp <;> rfl) (OL_nil ?_)
        refine T_ret ⟨_, (by simp <;> rfl), (by rw [hc, hst, if_pos h3]), rfl⟩
      · try simp at h3
        refine T_skip ?_
        refine (T_region ?_)
        refine OL_runs tyAll (by simp (disch := first | exact InR.mk (by omega) (by omega) | simp) [wrapR] <;> rfl) ?_
        refine OL_formU [11,0,1,9,10] [] (by simp <;> rfl) (by simp <;> rfl) (OL_nil ?_)
        rw [if_neg (by simpa using h3)] at hst
        exact ⟨i + 1, (by first | rfl | simp), ⟨by omega, by omega, by rw [hc, hst]⟩, (by omega)⟩
  · try simp at h
    refine T_exit ?_
    refine T_seq ?_
    refine T_seq (T_region ?_)
    refine OL_runs tyAll (by simp <;> rfl) ?_
    refine OL_pick [35] (by simp <;> rfl) (OL_nil ?_)
    refine T_cond (by simp <;> rfl) (fun h2 => ?_) (fun h2 => ?_)
    · try simp at h2
      refine T_seq (T_region ?_)
      refine OL_runs tyAll (by simp <;> rfl) ?_
      refine OL_pick [4] (by simp <;> rfl) (OL_nil ?_)
      refine T_ret ⟨_, (by simp <;> rfl), (by rw [hc, List.drop_of_length_le h]; rw [List.drop_eq_getElem_cons (by omega)]; rfl), rfl⟩
    · try simp at h2
      refine T_skip ?_
      refine T_seq (T_region ?_)
      refine OL_runs tyAll (by simp <;> rfl) ?_
      refine OL_pick [4] (by simp <;> rfl) (OL_nil ?_)
      refine T_ret ⟨_, (by simp <;> rfl), (by rw [hc, List.drop_of_length_le h, List.drop_of_length_le (by omega)]; rfl), rfl⟩

theorem f37_ok (n1 n2 : Bool) (xs ys : List Int) (hl : xs.length < 1000000) (hl2 : ys.length < 1000000) : Does Try.prog 37 [ints n1 xs, ints n2 ys] (fun r outs => r = .int .i64 (cmpL xs ys) ∧ outs = [.dead, .dead]) := by
  refine fn_of tyAll (rs := [.t 4]) 8 Try.func37 rfl rfl rfl rfl (by simp) rfl ?_
  refine T_from (by simp <;> rfl) ?_
  refine T_seq (T_region ?_)
  refine OL_runs tyAll (by simp <;> rfl) ?_
  refine OL_pick [0,1] (by simp <;> rfl) (OL_nil ?_)
  refine T_seq (T_region ?_)
  refine OL_first 2 tyAll (by simp <;> rfl) ?_
  dsimp only [List.drop]
  refine OL_callA [] 8000 (by simp) rfl (by simp <;> rfl) (by simp <;> rfl) (by simp) (by simp) (by simp <;> rfl) (by rfl) (f38_ok n1 n2 xs ys hl hl2) (by simp) ?_ ?_
  · rintro _ _ ⟨rfl, rfl⟩; simp
  rintro _ _ ⟨rfl, rfl⟩
  refine OL_state (by simp <;> rfl) ?_
  refine OL_runs tyAll (by simp <;> rfl) ?_
  refine OL_pick [4] (by simp <;> rfl) (OL_nil ?_)
  refine T_ret ⟨_, (by simp <;> rfl), rfl, rfl⟩

def setsTo (k m : Nat) : List (List Int) := ((List.range m).map fun q => bitsTo q 7).filter fun t => decide (t.length = k)
theorem setsTo_succ (k m : Nat) : setsTo k (m + 1) = setsTo k m ++ if (bitsTo m 7).length = k then [bitsTo m 7] else [] := by
  unfold setsTo
  rw [List.range_succ, List.map_append, List.filter_append]
  by_cases h : (bitsTo m 7).length = k <;> simp [h]
theorem setsTo_len (k m : Nat) : (setsTo k m).length ≤ m := by
  have := List.length_filter_le (fun t => decide (t.length = k)) ((List.range m).map fun q => bitsTo q 7)
  simpa [setsTo] using this
theorem cmpI_lt (x y : Int) : cmpI x y < 0 ↔ x < y := by
  unfold cmpI; split <;> (try split) <;> omega
theorem cmpI_eq (x y : Int) : cmpI x y = 0 ↔ x = y := by
  unfold cmpI; split <;> (try split) <;> omega
theorem cmpL_lt : ∀ xs ys : List Int, cmpL xs ys < 0 ↔ xs < ys
  | [], [] => by simp [cmpL]
  | [], _ :: _ => by simp [cmpL]
  | _ :: _, [] => by simp [cmpL]
  | x :: xs, y :: ys => by
    simp only [cmpL, List.cons_lt_cons_iff]
    by_cases h : cmpI x y = 0
    · rw [if_neg (by simpa using h), cmpL_lt xs ys]
      have := (cmpI_eq x y).1 h
      subst this
      simp
    · rw [if_pos h, cmpI_lt]
      have : ¬ x = y := fun he => h ((cmpI_eq x y).2 he)
      simp [this]
def unI : V → List Int
  | .isl _ _ xs => xs.map fun v => match v with | .int _ n => n | _ => 0
  | _ => []
theorem unI_ints (nn : Bool) (xs : List Int) : unI (ints nn xs) = xs := by
  simp only [ints, unI, List.map_map]
  exact List.map_id'' (fun _ => rfl) xs
theorem teams_sets : ((List.range 8).all fun n => (List.range (n + 1)).all fun k => k == 0 || ((setsTo k (2 ^ n)).isPerm (teams n k) && decide ((teams n k).Pairwise fun a b => cmpL a b < 0))) = true := by kernel_rfl
theorem teams_of (n k : Nat) (hk : 1 ≤ k) (hkn : k ≤ n) (hn : n ≤ 7) : (setsTo k (2 ^ n)).Perm (teams n k) ∧ (teams n k).Pairwise fun a b => a < b := by
  have h := teams_sets
  rw [List.all_eq_true] at h
  have h2 := h n (by simp; omega)
  rw [List.all_eq_true] at h2
  have h3 := h2 k (by simp; omega)
  simp only [Bool.or_eq_true, Bool.and_eq_true, beq_iff_eq, decide_eq_true_eq, List.isPerm_iff] at h3
  rcases h3 with h3 | h3
  · omega
  · exact ⟨h3.1, h3.2.imp fun {a b} h => (cmpL_lt a b).1 h⟩
theorem sortTeams (n k : Nat) (hk : 1 ≤ k) (hkn : k ≤ n) (hn : n ≤ 7) : Does Try.prog 36 [rowsV (setsTo k (2 ^ n)), .fn 37 []] (fun r outs => r = .tup [] ∧ outs = [rowsV (teams n k), .dead]) := by
  obtain ⟨hp, hs⟩ := teams_of n k hk hkn hn
  have hl : (setsTo k (2 ^ n)).length ≤ 128 := Nat.le_trans (setsTo_len _ _) (by have : 2 ^ n ≤ 2 ^ 7 := Nat.pow_le_pow_right (by omega) hn; omega)
  have hT : ∀ t ∈ setsTo k (2 ^ n), t.length = k := by
    intro t ht
    simp only [setsTo, List.mem_filter, decide_eq_true_eq] at ht
    exact ht.2
  refine Does_mono (f36_ok _ ?_ ?_ ?_ 37 [] (by simp) (fun x y => cmpL (unI x) (unI y)) ?_ ?_) ?_
  · intro x hx; simp at hx; obtain ⟨t, _, rfl⟩ := hx; rfl
  · simp; omega
  · intro he
    have := congrArg List.length he
    simp at this
    rw [List.length_eq_zero_iff.2 this] at *
    have h0 := hp.length_eq
    rw [List.length_eq_zero_iff.2 this] at h0
    exact teams_ne n k (List.length_eq_zero_iff.1 h0.symm)
  · refine ⟨?_, ?_, ?_⟩
    · intro x _; rw [cmpL_lt]; exact List.lt_irrefl _
    · intro x _ y _ z _; simp only [cmpL_lt]; exact List.lt_trans
    · intro x _ y _ z _; simp only [cmpL_lt, List.not_lt]; exact fun h1 h2 => List.le_trans h2 h1
  · intro x hx y hy
    simp at hx hy
    obtain ⟨a, ha, rfl⟩ := hx
    obtain ⟨b, hb, rfl⟩ := hy
    have ka := hT a ha
    have kb := hT b hb
    refine Does_mono (f37_ok true true a b (by omega) (by omega)) ?_
    rintro r outs ⟨rfl, rfl⟩
    have e1 := unI_ints true a
    have e2 := unI_ints true b
    simp only [ints] at e1 e2
    rw [e1, e2]
  · rintro r outs ⟨rfl, rows', h1, h2, rfl⟩
    refine ⟨rfl, ?_⟩
    have e1 : rows'.map (ints true ∘ unI) = rows' := by
      conv => rhs; rw [← List.map_id rows']
      apply List.map_congr_left
      intro x hx
      obtain ⟨t, _, rfl⟩ := List.mem_map.1 (h1.mem_iff.1 hx)
      show ints true (unI (ints true t)) = id (ints true t)
      rw [unI_ints]; rfl
    have e : (setsTo k (2 ^ n)).map (unI ∘ ints true) = setsTo k (2 ^ n) := by
      conv => rhs; rw [← List.map_id (setsTo k (2 ^ n))]
      apply List.map_congr_left
      intro t _
      exact unI_ints true t
    have hT' : rows'.map unI = teams n k := by
      have p1 := h1.map unI
      rw [List.map_map, e] at p1
      refine List.Perm.eq_of_pairwise (le := fun a b => ¬ b < a) ?_ ?_ ?_ (p1.trans hp)
      · intro a b _ _ h1 h2; rw [List.not_lt] at *; exact List.le_antisymm h1 h2
      · rw [List.pairwise_map]; exact h2.imp fun {a b} h => by rw [cmpL_lt] at h; exact h
      · exact hs.imp fun {a b} h => by rw [List.not_lt]; exact List.le_of_lt h
    rw [← hT', rowsV, List.map_map, e1]
theorem f20_ok (n k : Nat) (qs : List Quo) (hk : 1 ≤ k) (hkn : k ≤ n) (hn : n ≤ 7) : Does Try.prog 20 [pooV ⟨n, k, qs⟩] (fun r outs => r = rowsV (teams n k) ∧ outs = [.dead]) := by
  obtain ⟨N, hN⟩ : ∃ N : Nat, N = 2 ^ n := ⟨_, rfl⟩
  have hsh : IntKind.i64.wrap (2 ^ min n IntKind.i64.bits) = (N : Int) := by
    rw [show min n IntKind.i64.bits = n from Nat.min_eq_left (by simp [IntKind.bits]; omega)]
    have h2 : 2 ^ n ≤ 2 ^ 7 := Nat.pow_le_pow_right (by omega) hn
    have h3 : (2 : Int) ^ n = ((2 ^ n : Nat) : Int) := by simp
    rw [h3, wrap_i64 (by omega) (by omega), hN]
  have h2n : N ≤ 128 := by have : 2 ^ n ≤ 2 ^ 7 := Nat.pow_le_pow_right (by omega) hn; omega
  refine fn_of tyAll (rs := [.t 2]) 28 Try.func20 rfl rfl rfl rfl (by simp) rfl ?_
  refine T_from (by simp <;> rfl) ?_
  refine T_seq (T_region ?_)
  refine OL_runs tyAll (by simp <;> rfl) ?_
  refine OL_pick [1] (by simp <;> rfl) (OL_nil ?_)
  refine T_seq (T_region ?_)
  refine OL_runs tyAll (by simp <;> rfl) ?_
  refine OL_rename 6 23 (by decide) (by simp) (by decide) (by simp <;> rfl) (by simp <;> rfl) ?_
  refine OL_pick [1,3] (by simp <;> rfl) (OL_nil ?_)
  refine T_seq ?_
  refine T_seq (T_region ?_)
  refine OL_runs tyAll (by simp (disch := first | exact InR.mk (by omega) (by omega) | simp) [wrapR, hsh, show ¬ (n : Int) < 0 by omega] <;> rfl) ?_
  refine OL_pick [1,3,9,10] (by simp <;> rfl) (OL_nil ?_)
  refine T_block ?_
  refine T_loopU [1,9] [3,10] [23] (fun m : Nat => [(3, .sl 23 [] 0 (setsTo k m).length), (10, .int .i64 m)]) (fun m : Nat => [(23, rowsV (setsTo k m))]) (fun m : Nat => m ≤ N) (fun m : Nat => N - m) (0) (by simp <;> rfl) (by simp <;> rfl) (by simp [setsTo]) (by simp [setsTo]) (by simp) ?_
  rintro m hm
  simp only [List.cons_append, List.nil_append]
  refine T_seq (T_region ?_)
  refine OL_runs tyAll (by simp <;> rfl) ?_
  refine OL_pick [1,3,9,10,11] (by simp <;> rfl) (OL_nil ?_)
  refine T_seq ?_
  refine T_cond (by simp <;> rfl) (fun h => ?_) (fun h => ?_)
  · try simp at h
    have hlen := setsTo_len k m
    refine T_skip ?_
    refine T_cutU [1,9,10] [23] (fun c d => c = [(3, .sl 23 [] 0 (setsTo k (m + 1)).length)] ∧ d = [(23, rowsV (setsTo k (m + 1)))]) (by simp <;> rfl) (by simp <;> rfl) ?_ ?_
    · skip
      refine T_block ?_
      refine T_seq (T_region ?_)
      refine OL_runs tyAll (by simp <;> rfl) ?_
      refine OL_pick [1,3,4,9,10] (by simp <;> rfl) (OL_nil ?_)
      refine T_seq (T_region ?_)
      refine OL_first 1 tyAll (by simp <;> rfl) ?_
      dsimp only [List.drop]
      refine OL_callA [] 15000 (by simp) rfl (by simp <;> rfl) (by simp <;> rfl) (by simp) (by simp) (by simp <;> rfl) (by rfl) (f35_ok m (by omega)) (by simp) ?_ ?_
      · rintro _ _ ⟨rfl, rfl⟩; simp
      rintro _ _ ⟨rfl, rfl⟩
      refine OL_state (by simp <;> rfl) ?_
      refine OL_runs tyAll (by simp <;> rfl) ?_
      refine OL_freeze 15000 (by simp <;> rfl) (by simp <;> rfl) ?_
      refine OL_pick [1,3,5,9,10] (by simp <;> rfl) (OL_nil ?_)
      refine T_seq (T_region ?_)
      refine OL_runs tyAll (by simp <;> rfl) ?_
      refine OL_pick [1,3,5,9,10,19] (by simp <;> rfl) (OL_nil ?_)
      refine T_cond (by simp <;> rfl) (fun h2 => ?_) (fun h2 => ?_)
      · try simp at h2
        refine (T_region ?_)
        refine OL_runs tyAll (by simp [show ((setsTo k m).length + 1) * 48 ≤ 281474976710656 by omega, show (setsTo k m).length ≤ 9223372036854775806 by omega] <;> rfl) ?_
        refine OL_drop 22 (by simp <;> rfl) (by simp <;> rfl) ?_
        refine OL_formU [3,1,9,10] [23] (by simp <;> rfl) (by simp <;> rfl) (OL_nil ?_)
        have hb : (bitsTo m 7).length = k := by omega
        rw [setsTo_succ, if_pos hb]
        exact ⟨_, _, ⟨rfl, rfl⟩, (by first | rfl | simp)⟩
      · try simp at h2
        refine T_formU [3,1,9,10] [23] (by simp <;> rfl) (by simp <;> rfl) ?_
        refine T_skip ?_
        have hb : ¬ (bitsTo m 7).length = k := by omega
        rw [setsTo_succ, if_neg hb]
        exact ⟨_, _, ⟨rfl, rfl⟩, (by first | rfl | simp)⟩
    rintro _ _ ⟨rfl, rfl⟩
    simp only [List.cons_append, List.nil_append]
    refine (T_region ?_)
    refine OL_runs tyAll (by simp (disch := first | exact InR.mk (by omega) (by omega) | simp) [wrapR] <;> rfl) ?_
    refine OL_formU [3,10,1,9] [23] (by simp <;> rfl) (by simp <;> rfl) (OL_nil ?_)
    exact ⟨m + 1, (by first | rfl | simp), (by omega), (by omega)⟩
  · try simp at h
    have hm : m = N := by omega
    subst hm
    refine T_exit ?_
    have hTL : (setsTo k m).length = (teams n k).length := by rw [hN]; exact (teams_of n k hk hkn hn).1.length_eq
    refine T_seq (T_region ?_)
    refine OL_first 1 tyAll (by simp <;> rfl) ?_
    dsimp only [List.drop]
    refine OL_callA [some 23] 27000 (by simp) rfl (by simp <;> rfl) (by simp <;> rfl) (by simp) (by simp) (by simp <;> rfl) (by rw [hN]; rfl) (sortTeams n k hk hkn hn) (by simp) ?_ ?_
    · rintro _ _ ⟨rfl, rfl⟩; simp [hTL]
    rintro _ _ ⟨rfl, rfl⟩
    refine OL_state (by simp <;> rfl) ?_
    refine OL_pick [3] (by simp <;> rfl) (OL_nil ?_)
    refine T_seq (T_region ?_)
    refine OL_runs tyAll (by simp <;> rfl) ?_
    refine OL_pick [2] (by simp <;> rfl) (OL_nil ?_)
    refine T_ret ⟨_, (by simp <;> rfl), (by rw [hTL]; simp), rfl⟩

end Go.Lite.LT

namespace Go.Lite.LT
open Go.Proofs
set_option maxRecDepth 4000
set_option linter.unusedSimpArgs false
set_option linter.unusedVariables false
set_option maxHeartbeats 8000000
attribute [local simp] ty
def pans (n k : Nat) (qs : List Quo) : List (List Int) := kept (teams n k) fun t => decide (0 < short qs t)
def bestFrom (f : List Int → Int) : List Int → List (List Int) → List Int
  | b, [] => b
  | b, t :: ts => bestFrom f (if f t < f b then t else b) ts
theorem bestFrom_step {f : List Int → Int} {b t : List Int} {T : List (List Int)} {i : Nat} (ht : T[i]? = some t) : bestFrom f b (T.drop i) = bestFrom f (if f t < f b then t else b) (T.drop (i + 1)) := by
  obtain ⟨h, rfl⟩ := List.getElem?_eq_some_iff.1 ht
  rw [List.drop_eq_getElem_cons h]
  rfl
/-- what is known of each team -/
theorem teams_all {n k : Nat} (hk : 1 ≤ k) (hkn : k ≤ n) (hn : n ≤ 7) : ∀ t ∈ teams n k, t.length = k ∧ ∀ x ∈ t, 0 ≤ x ∧ x < 100 := okFrom_all n k 40 (upto k) (teamsOk n k hk hkn hn)
theorem teams_few (n k : Nat) : (teams n k).length ≤ 40 := teamsFrom_length n k 40 (upto k)
def swapAt (panel : List Int) (i : Nat) (x : Int) : List Int := (panel.set i x).mergeSort fun x y => decide (x ≤ y)
def subs (n k : Nat) (qs : List Quo) (panel : List Int) (i m : Nat) : List Int :=
  (upto m).filter fun x => decide (¬ x ∈ panel ∧ SizedP ⟨n, k, qs⟩ (swapAt panel i x) ∧ short qs (swapAt panel i x) = 0)
theorem subs_succ (n k : Nat) (qs : List Quo) (panel : List Int) (i m : Nat) : subs n k qs panel i (m + 1) = subs n k qs panel i m ++ if ¬ (m : Int) ∈ panel ∧ SizedP ⟨n, k, qs⟩ (swapAt panel i m) ∧ short qs (swapAt panel i m) = 0 then [(m : Int)] else [] := by
  unfold subs
  have : upto (m + 1) = upto m ++ [(m : Int)] := by simp [upto, List.range_succ]
  rw [this, List.filter_append]
  congr 1
  by_cases h : ¬ (m : Int) ∈ panel ∧ SizedP ⟨n, k, qs⟩ (swapAt panel i m) ∧ short qs (swapAt panel i m) = 0
  · rw [if_pos h]; simp only [List.filter_cons, decide_eq_true h, if_true, List.filter_nil]
  · rw [if_neg h]; simp only [List.filter_cons, decide_eq_false h, List.filter_nil]; rfl
theorem subs_len (n k : Nat) (qs : List Quo) (panel : List Int) (i m : Nat) : (subs n k qs panel i m).length ≤ m := by
  have := List.length_filter_le (fun x => decide (¬ x ∈ panel ∧ SizedP ⟨n, k, qs⟩ (swapAt panel i x) ∧ short qs (swapAt panel i x) = 0)) (upto m)
  simpa [subs, upto] using this
theorem f19_ok (n k : Nat) (qs : List Quo) (hk : 1 ≤ k) (hkn : k ≤ n) (hn : n ≤ 7) (hs : Small ⟨n, k, qs⟩) : Does Try.prog 19 [pooV ⟨n, k, qs⟩] (fun r outs => r = rowsV (pans n k qs) ∧ outs = [.dead]) := by
  refine fn_of tyAll (rs := [.t 2]) 7 Try.func19 rfl rfl rfl rfl (by simp) rfl ?_
  refine T_from (by simp <;> rfl) ?_
  refine T_seq (T_region ?_)
  refine OL_runs tyAll (by simp <;> rfl) ?_
  refine OL_freeze 1 (by simp <;> rfl) (by simp <;> rfl) ?_
  refine OL_pick [1] (by simp <;> rfl) (OL_nil ?_)
  refine T_seq (T_region ?_)
  refine OL_first 1 tyAll (by simp <;> rfl) ?_
  dsimp only [List.drop]
  refine OL_callA [] 5000 (by simp) rfl (by simp <;> rfl) (by simp <;> rfl) (by simp) (by simp) (by simp <;> rfl) (by rfl) (f20_ok n k qs hk hkn hn) (by simp) ?_ ?_
  · rintro _ _ ⟨rfl, rfl⟩; simp
  rintro _ _ ⟨rfl, rfl⟩
  refine OL_state (by simp <;> rfl) ?_
  refine OL_first 1 tyAll (by simp <;> rfl) ?_
  dsimp only [List.drop]
  refine OL_callA [some 5000] 7000 (by simp) rfl (by simp <;> rfl) (by simp <;> rfl) (by simp) (by simp) (by simp <;> rfl) (by rfl) (f33_ok (teams n k) 34 (pooV ⟨n, k, qs⟩) (fun t => decide (0 < short qs t)) (fun t ht => f34_ok ⟨n, k, qs⟩ hs true t (by have := (teams_all hk hkn hn t ht).1; omega)) (by have := teams_few n k; omega)) (by simp) ?_ ?_
  · rintro _ _ ⟨rfl, rfl⟩; simp
  rintro _ _ ⟨rfl, rfl⟩
  refine OL_state (by simp <;> rfl) ?_
  refine OL_runs tyAll (by simp <;> rfl) ?_
  refine OL_pick [2] (by simp <;> rfl) (OL_nil ?_)
  refine T_ret ⟨_, (by simp <;> rfl), rfl, rfl⟩

theorem f6_ok (n k : Nat) (qs : List Quo) (hv : Valid ⟨n, k, qs⟩) : Does Try.prog 6 [pooV ⟨n, k, qs⟩] (fun r outs => r = .tup [rowsV (pans n k qs), .bool true] ∧ outs = [.dead]) := by
  have hpe := hv.people
  have hsi := hv.size
  simp only at hpe hsi
  refine fn_of tyAll (rs := [.t 2, .t 3]) 9 Try.func6 rfl rfl rfl rfl (by simp) rfl ?_
  refine T_from (by simp <;> rfl) ?_
  refine T_seq (T_region ?_)
  refine OL_runs tyAll (by simp <;> rfl) ?_
  refine OL_freeze 1 (by simp <;> rfl) (by simp <;> rfl) ?_
  refine OL_pick [1] (by simp <;> rfl) (OL_nil ?_)
  refine T_seq ?_
  refine T_seq (T_region ?_)
  refine OL_first 1 tyAll (by simp (disch := first | exact InR.mk (by omega) (by omega) | simp) [wrapR] <;> rfl) ?_
  dsimp only [List.drop]
  refine OL_callA [] 6000 (by simp) rfl (by simp <;> rfl) (by simp <;> rfl) (by simp) (by simp) (by simp <;> rfl) (by rfl) (f18_ok _ hv) (by simp) ?_ ?_
  · rintro _ _ ⟨rfl, rfl⟩; simp
  rintro _ _ ⟨rfl, rfl⟩
  refine OL_state (by simp <;> rfl) ?_
  refine OL_runs tyAll (by simp (disch := first | exact InR.mk (by omega) (by omega) | simp) [wrapR] <;> rfl) ?_
  refine OL_pick [1,6] (by simp <;> rfl) (OL_nil ?_)
  refine T_cond (b := false) (by simp <;> rfl) (fun h => ?_) (fun h => ?_)
  · cases h
  · skip
    refine T_skip ?_
    refine T_seq (T_region ?_)
    refine OL_first 1 tyAll (by simp <;> rfl) ?_
    dsimp only [List.drop]
    refine OL_callA [] 9000 (by simp) rfl (by simp <;> rfl) (by simp <;> rfl) (by simp) (by simp) (by simp <;> rfl) (by rfl) (f19_ok n k qs (by omega) (by omega) (by omega) hv.small) (by simp) ?_ ?_
    · rintro _ _ ⟨rfl, rfl⟩; simp
    rintro _ _ ⟨rfl, rfl⟩
    refine OL_state (by simp <;> rfl) ?_
    refine OL_runs tyAll (by simp <;> rfl) ?_
    refine OL_pick [2,3] (by simp <;> rfl) (OL_nil ?_)
    refine T_ret ⟨_, (by simp <;> rfl), rfl, rfl⟩

theorem f7_ok (n k : Nat) (qs : List Quo) (hv : Valid ⟨n, k, qs⟩) (t0 : List Int) (ht0 : (teams n k)[0]? = some t0) : Does Try.prog 7 [pooV ⟨n, k, qs⟩] (fun r outs => r = .tup [ints true (bestFrom (short qs) t0 (teams n k)), .int .i64 (short qs (bestFrom (short qs) t0 (teams n k))), .bool true] ∧ outs = [.dead]) := by
  have hpe := hv.people
  have hsi := hv.size
  simp only at hpe hsi
  have hall := teams_all (n := n) (k := k) (by omega) (by omega) (by omega)
  have hfew := teams_few n k
  have h0l : 0 < (teams n k).length := (List.getElem?_eq_some_iff.1 ht0).1
  have h0g : (teams n k)[0] = t0 := (List.getElem?_eq_some_iff.1 ht0).2
  have h0m : t0 ∈ teams n k := List.mem_of_getElem? ht0
  refine fn_of tyAll (rs := [.t 2, .t 3, .t 4]) 36 Try.func7 rfl rfl rfl rfl (by simp) rfl ?_
  refine T_from (by simp <;> rfl) ?_
  refine T_seq (T_region ?_)
  refine OL_runs tyAll (by simp <;> rfl) ?_
  refine OL_freeze 1 (by simp <;> rfl) (by simp <;> rfl) ?_
  refine OL_pick [1] (by simp <;> rfl) (OL_nil ?_)
  refine T_seq ?_
  refine T_seq (T_region ?_)
  refine OL_first 1 tyAll (by simp (disch := first | exact InR.mk (by omega) (by omega) | simp) [wrapR] <;> rfl) ?_
  dsimp only [List.drop]
  refine OL_callA [] 11000 (by simp) rfl (by simp <;> rfl) (by simp <;> rfl) (by simp) (by simp) (by simp <;> rfl) (by rfl) (f18_ok _ hv) (by simp) ?_ ?_
  · rintro _ _ ⟨rfl, rfl⟩; simp
  rintro _ _ ⟨rfl, rfl⟩
  refine OL_state (by simp <;> rfl) ?_
  refine OL_runs tyAll (by simp (disch := first | exact InR.mk (by omega) (by omega) | simp) [wrapR] <;> rfl) ?_
  refine OL_pick [1,11] (by simp <;> rfl) (OL_nil ?_)
  refine T_cond (b := false) (by simp <;> rfl) (fun h => ?_) (fun h => ?_)
  · cases h
  · skip
    refine T_skip ?_
    refine T_seq (T_region ?_)
    refine OL_first 1 tyAll (by simp <;> rfl) ?_
    dsimp only [List.drop]
    refine OL_callA [] 14000 (by simp) rfl (by simp <;> rfl) (by simp <;> rfl) (by simp) (by simp) (by simp <;> rfl) (by rfl) (f20_ok n k qs (by omega) (by omega) (by omega)) (by simp) ?_ ?_
    · rintro _ _ ⟨rfl, rfl⟩; simp
    rintro _ _ ⟨rfl, rfl⟩
    refine OL_state (by simp <;> rfl) ?_
    refine OL_runs tyAll (by simp <;> rfl) ?_
    refine OL_freeze 14000 (by simp <;> rfl) (by simp <;> rfl) ?_
    refine OL_pick [1,5] (by simp <;> rfl) (OL_nil ?_)
    refine T_seq (T_region ?_)
    refine OL_runs tyAll (by simp [h0l, h0g] <;> rfl) ?_
    refine OL_pick [1,5,6] (by simp <;> rfl) (OL_nil ?_)
    refine T_seq ?_
    refine T_seq (T_region ?_)
    refine OL_runs tyAll (by simp <;> rfl) ?_
    refine OL_pick [1,6,17,18,19] (by simp <;> rfl) (OL_nil ?_)
    refine T_block ?_
    refine T_loopU [1,17,18] [6,19] [] (fun x : List Int × Nat => [(6, ints true x.1), (19, .int .i64 (x.2 : Nat))]) (fun x : List Int × Nat => []) (fun x : List Int × Nat => x.1 ∈ teams n k ∧ x.2 ≤ (teams n k).length ∧ bestFrom (short qs) x.1 ((teams n k).drop x.2) = bestFrom (short qs) t0 (teams n k)) (fun x : List Int × Nat => (teams n k).length - x.2) (t0, 0) (by simp <;> rfl) (by simp <;> rfl) (by simp) (by simp) ⟨h0m, Nat.zero_le _, rfl⟩ ?_
    rintro ⟨b, i⟩ ⟨hb, hi, hbf⟩
    simp only [List.cons_append, List.nil_append]
    simp only at hb hi hbf ⊢
    have hbl := (hall b hb).1
    refine T_seq (T_region ?_)
    refine OL_runs tyAll (by simp <;> rfl) ?_
    refine OL_pick [1,6,17,18,19,20] (by simp <;> rfl) (OL_nil ?_)
    refine T_seq ?_
    refine T_cond (by simp <;> rfl) (fun h => ?_) (fun h => ?_)
    · try simp at h
      have ht : (teams n k)[i]? = some (teams n k)[i] := List.getElem?_eq_getElem h
      obtain ⟨t, hte⟩ : ∃ t, t = (teams n k)[i] := ⟨_, rfl⟩
      have htm : t ∈ teams n k := hte ▸ List.getElem_mem h
      rw [← hte] at ht
      have htl := (hall t htm).1
      refine T_skip ?_
      refine T_cutU [1,17,18,19] [] (fun c d => c = [(6, ints true (if short qs t < short qs b then t else b))] ∧ d = []) (by simp <;> rfl) (by simp <;> rfl) ?_ ?_
      · skip
        refine T_block ?_
        refine T_seq (T_region ?_)
        refine OL_runs tyAll (by simp [h, ← hte] <;> rfl) ?_
        refine OL_pick [1,6,8,17,18,19] (by simp <;> rfl) (OL_nil ?_)
        refine T_cutU [1,6,8,17,18,19] [] (fun c d => c = [(29, .bool (decide (short qs t < short qs b)))] ∧ d = []) (by simp <;> rfl) (by simp <;> rfl) ?_ ?_
        · skip
          refine (T_orders mixed (n := 7) (L := #[false, false, false, false, false, false, false]) rfl rfl ?_)
          refine DA_take 1 tyAll rfl (by kernel_rfl) (by kernel_rfl) (by kernel_rfl) (by simp) (by simp <;> rfl) (by simp) (by simp <;> rfl) ?_
          refine DA_take 4 tyAll rfl (by kernel_rfl) (by kernel_rfl) (by kernel_rfl) (by simp) (by simp <;> rfl) (by simp) (by simp <;> rfl) ?_
          refine DA_two 0 3 (by kernel_rfl) ?_ ?_
          ·
            refine D1_op tyAll rfl (by simp) (by simp <;> rfl) ?_
            refine DA_two 2 3 (by kernel_rfl) ?_ ?_
            ·
              refine D1_callA [] 26000 rfl (by simp) rfl (by simp <;> rfl) (by simp <;> rfl) (by simp) (by simp) (by simp <;> rfl) (by rfl) (f21_ok ⟨n, k, qs⟩ true t hv.small (by omega)) (by simp) ?_ ?_
              · rintro _ _ ⟨rfl, rfl⟩; simp
              rintro _ _ ⟨rfl, rfl⟩
              refine DA_state (by simp <;> rfl) ?_
              refine DA_one 3 (by kernel_rfl) ?_
              refine D1_op tyAll rfl (by simp) (by simp <;> rfl) ?_
              refine DA_one 5 (by kernel_rfl) ?_
              refine D1_callA [] 29000 rfl (by simp) rfl (by simp <;> rfl) (by simp <;> rfl) (by simp) (by simp) (by simp <;> rfl) (by rfl) (f21_ok ⟨n, k, qs⟩ true b hv.small (by omega)) (by simp) ?_ ?_
              · rintro _ _ ⟨rfl, rfl⟩; simp
              rintro _ _ ⟨rfl, rfl⟩
              refine DA_state (by simp <;> rfl) ?_
              refine DA_take 6 tyAll rfl (by kernel_rfl) (by kernel_rfl) (by kernel_rfl) (by simp) (by simp <;> rfl) (by simp) (by simp <;> rfl) ?_
              refine DA_fin (by kernel_rfl) ?_
              refine OL_formU [29,1,6,8,17,18,19] [] (by simp <;> rfl) (by simp <;> rfl) (OL_nil ?_)
              exact ⟨_, _, ⟨rfl, rfl⟩, (by first | rfl | simp)⟩
            ·
              refine D1_op tyAll rfl (by simp) (by simp <;> rfl) ?_
              refine DA_one 2 (by kernel_rfl) ?_
              refine D1_callA [] 26000 rfl (by simp) rfl (by simp <;> rfl) (by simp <;> rfl) (by simp) (by simp) (by simp <;> rfl) (by rfl) (f21_ok ⟨n, k, qs⟩ true t hv.small (by omega)) (by simp) ?_ ?_
              · rintro _ _ ⟨rfl, rfl⟩; simp
              rintro _ _ ⟨rfl, rfl⟩
              refine DA_state (by simp <;> rfl) ?_
              refine DA_one 5 (by kernel_rfl) ?_
              refine D1_callA [] 29000 rfl (by simp) rfl (by simp <;> rfl) (by simp <;> rfl) (by simp) (by simp) (by simp <;> rfl) (by rfl) (f21_ok ⟨n, k, qs⟩ true b hv.small (by omega)) (by simp) ?_ ?_
              · rintro _ _ ⟨rfl, rfl⟩; simp
              rintro _ _ ⟨rfl, rfl⟩
              refine DA_state (by simp <;> rfl) ?_
              refine DA_take 6 tyAll rfl (by kernel_rfl) (by kernel_rfl) (by kernel_rfl) (by simp) (by simp <;> rfl) (by simp) (by simp <;> rfl) ?_
              refine DA_fin (by kernel_rfl) ?_
              refine OL_formU [29,1,6,8,17,18,19] [] (by simp <;> rfl) (by simp <;> rfl) (OL_nil ?_)
              exact ⟨_, _, ⟨rfl, rfl⟩, (by first | rfl | simp)⟩
          ·
            refine D1_op tyAll rfl (by simp) (by simp <;> rfl) ?_
            refine DA_one 0 (by kernel_rfl) ?_
            refine D1_op tyAll rfl (by simp) (by simp <;> rfl) ?_
            refine DA_one 2 (by kernel_rfl) ?_
            refine D1_callA [] 26000 rfl (by simp) rfl (by simp <;> rfl) (by simp <;> rfl) (by simp) (by simp) (by simp <;> rfl) (by rfl) (f21_ok ⟨n, k, qs⟩ true t hv.small (by omega)) (by simp) ?_ ?_
            · rintro _ _ ⟨rfl, rfl⟩; simp
            rintro _ _ ⟨rfl, rfl⟩
            refine DA_state (by simp <;> rfl) ?_
            refine DA_one 5 (by kernel_rfl) ?_
            refine D1_callA [] 29000 rfl (by simp) rfl (by simp <;> rfl) (by simp <;> rfl) (by simp) (by simp) (by simp <;> rfl) (by rfl) (f21_ok ⟨n, k, qs⟩ true b hv.small (by omega)) (by simp) ?_ ?_
            · rintro _ _ ⟨rfl, rfl⟩; simp
            rintro _ _ ⟨rfl, rfl⟩
            refine DA_state (by simp <;> rfl) ?_
            refine DA_take 6 tyAll rfl (by kernel_rfl) (by kernel_rfl) (by kernel_rfl) (by simp) (by simp <;> rfl) (by simp) (by simp <;> rfl) ?_
            refine DA_fin (by kernel_rfl) ?_
            refine OL_formU [29,1,6,8,17,18,19] [] (by simp <;> rfl) (by simp <;> rfl) (OL_nil ?_)
            exact ⟨_, _, ⟨rfl, rfl⟩, (by first | rfl | simp)⟩
        rintro _ _ ⟨rfl, rfl⟩
        simp only [List.cons_append, List.nil_append]
        refine T_cond (by simp <;> rfl) (fun h2 => ?_) (fun h2 => ?_)
        · try simp at h2
          refine (T_region ?_)
          refine OL_runs tyAll (by simp <;> rfl) ?_
          refine OL_formU [6,1,17,18,19] [] (by simp <;> rfl) (by simp <;> rfl) (OL_nil ?_)
          rw [if_pos h2]
          exact ⟨_, _, ⟨rfl, rfl⟩, (by first | rfl | simp)⟩
        · try simp at h2
          refine T_formU [6,1,17,18,19] [] (by simp <;> rfl) (by simp <;> rfl) ?_
          refine T_skip ?_
          rw [if_neg (by omega)]
          exact ⟨_, _, ⟨rfl, rfl⟩, (by first | rfl | simp)⟩
      rintro _ _ ⟨rfl, rfl⟩
      simp only [List.cons_append, List.nil_append]
      refine (T_region ?_)
      refine OL_runs tyAll (by simp (disch := first | exact InR.mk (by omega) (by omega) | simp) [wrapR] <;> rfl) ?_
      refine OL_formU [6,19,1,17,18] [] (by simp <;> rfl) (by simp <;> rfl) (OL_nil ?_)
      exact ⟨⟨if short qs t < short qs b then t else b, i + 1⟩, (by first | rfl | simp), ⟨(by simp only; split <;> assumption), (by simp only; omega), (by simp only; rw [← hbf]; exact (bestFrom_step ht).symm)⟩, (by simp only; omega)⟩
    · try simp at h
      rw [List.drop_of_length_le h] at hbf
      simp only [bestFrom] at hbf
      refine T_exit ?_
      refine T_seq (T_region ?_)
      refine OL_first 3 tyAll (by simp <;> rfl) ?_
      dsimp only [List.drop]
      refine OL_callA [] 36000 (by simp) rfl (by simp <;> rfl) (by simp <;> rfl) (by simp) (by simp) (by simp <;> rfl) (by rfl) (f21_ok ⟨n, k, qs⟩ true b hv.small (by omega)) (by simp) ?_ ?_
      · rintro _ _ ⟨rfl, rfl⟩; simp
      rintro _ _ ⟨rfl, rfl⟩
      refine OL_state (by simp <;> rfl) ?_
      refine OL_runs tyAll (by simp <;> rfl) ?_
      refine OL_pick [2,3,4] (by simp <;> rfl) (OL_nil ?_)
      refine T_ret ⟨_, (by simp <;> rfl), (by rw [← hbf]; rfl), rfl⟩

end Go.Lite.LT
