/- Part 4 of 5 of the proof: contracts on trees of values, without conditions of their own beyond those that each theorem states. -/
import Derived.Test.YtedipagekajipaaL3

namespace Go.Lite.LT
open Go.Proofs
set_option maxRecDepth 4000
set_option linter.unusedSimpArgs false
set_option linter.unusedVariables false
set_option maxHeartbeats 8000000
attribute [local simp] ty
theorem f14_ok (n k : Nat) (qs : List Quo) (hv : Valid ⟨n, k, qs⟩) (panel : List Int) (hp : SizedP ⟨n, k, qs⟩ panel ∧ short qs panel = 0) (hpl : panel.length = k) (member : Int) (i : Nat) (hi : i < panel.length) (hix : indexI panel member = i) : Does Try.prog 14 [pooV ⟨n, k, qs⟩, ints true panel, .int .i64 member] (fun r outs => r = .tup [.own 1 ((subs n k qs panel i n).map (.int .i64 ·)), .bool true] ∧ outs = [.dead, .dead, .dead]) := by
  have hpe := hv.people
  have hsi := hv.size
  simp only at hpe hsi
  refine fn_of tyAll (rs := [.t 6, .t 7]) 52 Try.func14 rfl rfl rfl rfl (by simp) rfl ?_
  refine T_from (by simp <;> rfl) ?_
  refine T_seq (T_region ?_)
  refine OL_runs tyAll (by simp <;> rfl) ?_
  refine OL_pick [1,2,3] (by simp <;> rfl) (OL_nil ?_)
  refine T_seq (T_region ?_)
  refine OL_first 2 tyAll (by simp <;> rfl) ?_
  dsimp only [List.drop]
  refine OL_callA [] 15000 (by simp) rfl (by simp <;> rfl) (by simp <;> rfl) (by simp) (by simp) (by simp <;> rfl) (by rfl) (f25_ok true panel member (by omega)) (by simp) ?_ ?_
  · rintro _ _ ⟨rfl, rfl⟩; simp
  rintro _ _ ⟨rfl, rfl⟩
  refine OL_state (by simp <;> rfl) ?_
  refine OL_runs tyAll (by simp <;> rfl) ?_
  simp only [hix]
  refine OL_pick [1,3,8] (by simp <;> rfl) (OL_nil ?_)
  refine T_seq ?_
  refine T_seq (T_region ?_)
  refine OL_first 2 tyAll (by simp (disch := first | exact InR.mk (by omega) (by omega) | simp) [wrapR, hp.1, hp.2, show ¬ (i : Int) < 0 by omega] <;> rfl) ?_
  dsimp only [List.drop]
  refine OL_callA [] 18000 (by simp [hp.1, hp.2, show ¬ (i : Int) < 0 by omega]) rfl (by simp <;> rfl) (by simp <;> rfl) (by simp) (by simp) (by simp <;> rfl) (by rfl) (f11_ok _ hv true panel (by omega)) (by simp) ?_ ?_
  · rintro _ _ ⟨rfl, rfl⟩; simp
  rintro _ _ ⟨rfl, rfl⟩
  refine OL_state (by simp <;> rfl) ?_
  refine OL_first 2 tyAll (by simp (disch := first | exact InR.mk (by omega) (by omega) | simp) [wrapR, hp.1, hp.2, show ¬ (i : Int) < 0 by omega] <;> rfl) ?_
  dsimp only [List.drop]
  refine OL_runs tyAll (by simp (disch := first | exact InR.mk (by omega) (by omega) | simp) [wrapR, hp.1, hp.2, show ¬ (i : Int) < 0 by omega] <;> rfl) ?_
  refine OL_pick [1,3,8,22] (by simp <;> rfl) (OL_nil ?_)
  refine T_cond (b := false) (by simp <;> rfl) (fun h => ?_) (fun h => ?_)
  · cases h
  · skip
    refine T_skip ?_
    refine T_seq (T_region ?_)
    refine OL_runs tyAll (by simp <;> rfl) ?_
    refine OL_rename 23 49 (by decide) (by simp) (by decide) (by simp <;> rfl) (by simp <;> rfl) ?_
    refine OL_pick [1,3,8,9] (by simp <;> rfl) (OL_nil ?_)
    refine T_seq ?_
    refine T_seq (T_region ?_)
    refine OL_runs tyAll (by simp <;> rfl) ?_
    refine OL_pick [1,3,8,9,25,26] (by simp <;> rfl) (OL_nil ?_)
    refine T_block ?_
    refine T_loopU [1,3,8,25] [9,26] [49] (fun m : Nat => [(9, .sl 49 [] 0 (subs n k qs panel i m).length), (26, .int .i64 m)]) (fun m : Nat => [(49, .own 1 ((subs n k qs panel i m).map (.int .i64 ·)))]) (fun m : Nat => m ≤ n) (fun m : Nat => n - m) (0) (by simp <;> rfl) (by simp <;> rfl) (by simp [subs, upto]) (by simp [subs, upto]) (by simp) ?_
    rintro m hm
    simp only [List.cons_append, List.nil_append]
    refine T_seq (T_region ?_)
    refine OL_runs tyAll (by simp <;> rfl) ?_
    refine OL_pick [1,3,8,9,25,26,27] (by simp <;> rfl) (OL_nil ?_)
    refine T_seq ?_
    refine T_cond (by simp <;> rfl) (fun h => ?_) (fun h => ?_)
    · try simp at h
      have hml := subs_len n k qs panel i m
      refine T_skip ?_
      refine T_cutU [1,3,8,25,26] [49] (fun c d => c = [(9, .sl 49 [] 0 (subs n k qs panel i (m + 1)).length)] ∧ d = [(49, .own 1 ((subs n k qs panel i (m + 1)).map (.int .i64 ·)))]) (by simp <;> rfl) (by simp <;> rfl) ?_ ?_
      · skip
        refine T_block ?_
        refine T_seq (T_region ?_)
        refine OL_runs tyAll (by simp <;> rfl) ?_
        refine OL_pick [1,3,8,9,10,25,26] (by simp <;> rfl) (OL_nil ?_)
        refine T_seq (T_region ?_)
        refine OL_first 1 tyAll (by simp <;> rfl) ?_
        dsimp only [List.drop]
        refine OL_callA [] 31000 (by simp) rfl (by simp <;> rfl) (by simp <;> rfl) (by simp) (by simp) (by simp <;> rfl) (by rfl) (f26_ok panel (by omega)) (by simp) ?_ ?_
        · rintro _ _ ⟨rfl, rfl⟩; simp
        rintro _ _ ⟨rfl, rfl⟩
        refine OL_state (by simp <;> rfl) ?_
        refine OL_runs tyAll (by simp <;> rfl) ?_
        refine OL_pick [1,3,8,9,10,11,25,26] (by simp <;> rfl) (OL_nil ?_)
        refine T_seq (T_region ?_)
        refine OL_runs tyAll (by simp [hi] <;> rfl) ?_
        refine OL_pick [1,3,8,9,10,11,25,26] (by simp <;> rfl) (OL_nil ?_)
        refine T_seq (T_region ?_)
        refine OL_first 1 tyAll (by simp <;> rfl) ?_
        dsimp only [List.drop]
        refine OL_callA [some 31000] 37000 (by simp) rfl (by simp <;> rfl) (by simp <;> rfl) (by simp) (by simp) (by simp <;> rfl) (by simp) (f27_ok (panel.set i m) (by simp; omega)) (by simp) ?_ ?_
        · rintro _ _ ⟨rfl, rfl⟩; simp
        rintro _ _ ⟨rfl, rfl⟩
        refine OL_state (by simp <;> rfl) ?_
        refine OL_pick [1,3,8,9,10,11,25,26] (by simp <;> rfl) (OL_nil ?_)
        refine T_seq (T_region ?_)
        refine OL_first 2 tyAll (by simp (disch := first | exact InR.mk (by omega) (by omega) | simp) [wrapR] <;> rfl) ?_
        dsimp only [List.drop]
        refine OL_callA [] 40000 (by simp) rfl (by simp <;> rfl) (by simp <;> rfl) (by simp) (by simp) (by simp <;> rfl) (by rfl) (f28_ok true panel m (by omega)) (by simp) ?_ ?_
        · rintro _ _ ⟨rfl, rfl⟩; simp
        rintro _ _ ⟨rfl, rfl⟩
        refine OL_state (by simp <;> rfl) ?_
        refine OL_first 2 tyAll (by simp (disch := first | exact InR.mk (by omega) (by omega) | simp) [wrapR] <;> rfl) ?_
        dsimp only [List.drop]
        by_cases hg : (m : Int) ∈ panel
        · skip
          refine OL_runs tyAll (by simp (disch := first | exact InR.mk (by omega) (by omega) | simp) [wrapR, hg] <;> rfl) ?_
          refine OL_pick [1,3,8,9,10,25,26,45] (by simp <;> rfl) (OL_nil ?_)
          refine T_cond (b := false) (by simp <;> rfl) (fun h => ?_) (fun h => ?_)
          · cases h
          · skip
            refine T_drop 31000 (by simp <;> rfl) (by simp <;> rfl) ?_
            refine T_formU [9,1,3,8,25,26] [49] (by simp <;> rfl) (by simp <;> rfl) ?_
            refine T_skip ?_
            rw [subs_succ, if_neg (by intro h; exact h.1 hg), List.append_nil]
            exact ⟨_, _, ⟨rfl, rfl⟩, (by first | rfl | simp)⟩
        · skip
          refine OL_first 2 tyAll (by simp (disch := first | exact InR.mk (by omega) (by omega) | simp) [wrapR, hg] <;> rfl) ?_
          dsimp only [List.drop]
          refine OL_callA [] 45000 (by simp [hg]) rfl (by simp <;> rfl) (by simp <;> rfl) (by simp) (by simp) (by simp <;> rfl) (by simp [swapAt]) (f11_ok _ hv true (swapAt panel i m) (by simp [swapAt]; omega)) (by simp) ?_ ?_
          · rintro _ _ ⟨rfl, rfl⟩; simp
          rintro _ _ ⟨rfl, rfl⟩
          refine OL_state (by simp <;> rfl) ?_
          refine OL_runs tyAll (by simp (disch := first | exact InR.mk (by omega) (by omega) | simp) [wrapR, hg] <;> rfl) ?_
          refine OL_pick [1,3,8,9,10,25,26,45] (by simp <;> rfl) (OL_nil ?_)
          refine T_cond (by simp <;> rfl) (fun h => ?_) (fun h => ?_)
          · try simp at h
            refine T_drop 31000 (by simp <;> rfl) (by simp <;> rfl) ?_
            refine (T_region ?_)
            refine OL_runs tyAll (by simp [show ((subs n k qs panel i m).length + 1) * 16 ≤ 281474976710656 by omega, show (subs n k qs panel i m).length ≤ 9223372036854775806 by omega] <;> rfl) ?_
            refine OL_drop 48 (by simp <;> rfl) (by simp <;> rfl) ?_
            refine OL_formU [9,1,3,8,25,26] [49] (by simp <;> rfl) (by simp <;> rfl) (OL_nil ?_)
            rw [subs_succ, if_pos ⟨hg, h⟩]
            exact ⟨_, _, ⟨rfl, rfl⟩, (by first | rfl | simp)⟩
          · try simp at h
            refine T_drop 31000 (by simp <;> rfl) (by simp <;> rfl) ?_
            refine T_formU [9,1,3,8,25,26] [49] (by simp <;> rfl) (by simp <;> rfl) ?_
            refine T_skip ?_
            rw [subs_succ, if_neg (by intro h2; exact h h2.2.1 h2.2.2), List.append_nil]
            exact ⟨_, _, ⟨rfl, rfl⟩, (by first | rfl | simp)⟩
      rintro _ _ ⟨rfl, rfl⟩
      simp only [List.cons_append, List.nil_append]
      refine (T_region ?_)
      refine OL_runs tyAll (by simp (disch := first | exact InR.mk (by omega) (by omega) | simp) [wrapR] <;> rfl) ?_
      refine OL_formU [9,26,1,3,8,25] [49] (by simp <;> rfl) (by simp <;> rfl) (OL_nil ?_)
      exact ⟨m + 1, (by first | rfl | simp), (by omega), (by omega)⟩
    · try simp at h
      have hmn : m = n := by omega
      subst hmn
      refine T_exit ?_
      refine T_seq (T_region ?_)
      refine OL_runs tyAll (by simp <;> rfl) ?_
      refine OL_pick [6,7] (by simp <;> rfl) (OL_nil ?_)
      refine T_ret ⟨_, (by simp <;> rfl), rfl, rfl⟩

end Go.Lite.LT

namespace Go.Lite.LT
open Go.Proofs
set_option maxRecDepth 4000
set_option linter.unusedSimpArgs false
set_option linter.unusedVariables false
theorem mem_kept {T : List (List Int)} {pr : List Int → Bool} {t : List Int} : t ∈ kept T pr ↔ t ∈ T ∧ pr t = false := by
  unfold kept
  rw [List.mem_filter]
  simp

theorem teams_set_all : ((List.range 8).all fun n => (List.range (n + 1)).all fun k => k == 0 || (teams n k).all fun t => decide (isSetP t n)) = true := by kernel_rfl
theorem teams_sized {n k : Nat} {qs : List Quo} (hk : 1 ≤ k) (hkn : k ≤ n) (hn : n ≤ 7) {t : List Int} (ht : t ∈ teams n k) : SizedP ⟨n, k, qs⟩ t := by
  refine ⟨by rw [(teams_all hk hkn hn t ht).1], ?_⟩
  have h := teams_set_all
  rw [List.all_eq_true] at h
  have h2 := h n (by simp; omega)
  rw [List.all_eq_true] at h2
  have h3 := h2 k (by simp; omega)
  simp only [Bool.or_eq_true, beq_iff_eq] at h3
  rcases h3 with h3 | h3
  · omega
  · rw [List.all_eq_true] at h3
    simpa using h3 t ht

theorem isSetP_pairwise {xs : List Int} {n : Int} (h : isSetP xs n) : xs.Pairwise (· < ·) := by
  have step : ∀ d i, i + d < xs.length → 0 < d → xs.getD i 0 < xs.getD (i + d) 0 := by
    intro d
    induction d with
    | zero => intro i _ h; omega
    | succ d ih =>
      intro i hi _
      have h1 := (h (i + (d + 1)) hi).2 (by omega)
      rw [show i + (d + 1) - 1 = i + d by omega] at h1
      by_cases hd : 0 < d
      · exact Int.lt_trans (ih i (by omega) hd) h1
      · obtain rfl : d = 0 := by omega
        exact h1
  rw [List.pairwise_iff_getElem]
  intro i j hi hj hij
  have := step (j - i) i (by omega) (by omega)
  rw [show i + (j - i) = j by omega] at this
  simpa [List.getD_eq_getElem?_getD, List.getElem?_eq_getElem hi, List.getElem?_eq_getElem hj] using this

theorem pw_nodup {xs : List Int} (h : xs.Pairwise (· < ·)) : xs.Nodup := h.imp fun {a b} h => by omega

theorem cnt_hits {q : Quo} {t : List Int} (h1 : q.mem.Nodup) (h2 : t.Nodup) : cnt q.mem t = hits q t := by
  unfold cnt hits
  apply List.Perm.length_eq
  rw [List.perm_ext_iff_of_nodup (h1.filter _) (h2.filter _)]
  intro x
  simp [List.mem_filter, And.comm]

theorem short_nonneg {qs : List Quo} {t : List Int} : 0 ≤ short qs t := by
  induction qs with
  | nil => simp [short]
  | cons q qs ih =>
    simp only [short, List.map_cons, List.sum_cons, shortQ] at *
    omega

theorem missed_nonneg {qs : List Quo} {t : List Int} : 0 ≤ missed qs t := by
  induction qs with
  | nil => simp [missed]
  | cons q qs ih =>
    simp only [missed, List.map_cons, List.sum_cons, missQ] at *
    omega

theorem short_of_missed {t : List Int} (ht : t.Nodup) : ∀ {qs : List Quo}, (∀ q ∈ qs, q.mem.Nodup) → missed qs t = 0 → short qs t = 0
  | [], _, _ => rfl
  | q :: qs, hq, h => by
    have e := cnt_hits (hq q (by simp)) ht
    have h1 := missed_nonneg (qs := qs) (t := t)
    have hh : missed (q :: qs) t = missQ q t + missed qs t := by simp [missed]
    have hs : short (q :: qs) t = shortQ q t + short qs t := by simp [short]
    have h2 : 0 ≤ missQ q t := by unfold missQ; omega
    rw [hh] at h
    have ih := short_of_missed ht (qs := qs) (fun q hq' => hq q (by simp [hq'])) (by omega)
    rw [hs, ih]
    have h3 : missQ q t = 0 := by omega
    unfold missQ at h3
    unfold shortQ
    rw [e]
    omega

theorem mem_pans {n k : Nat} {qs : List Quo} {t : List Int} : t ∈ pans n k qs ↔ t ∈ teams n k ∧ short qs t = 0 := by
  unfold pans
  rw [mem_kept]
  have := short_nonneg (qs := qs) (t := t)
  simp
  omega

theorem pans_ne {n k : Nat} {qs : List Quo} (hv : Valid ⟨n, k, qs⟩) (h : panelsOf n k qs ≠ []) : pans n k qs ≠ [] := by
  have hpe := hv.people
  have hsi := hv.size
  simp only at hpe hsi
  obtain ⟨t, ht⟩ := List.exists_mem_of_ne_nil _ h
  unfold panelsOf at ht
  rw [List.mem_filter] at ht
  have hs := (teams_sized (qs := qs) (by omega) (by omega) (by omega) ht.1).2
  have : t ∈ pans n k qs := mem_pans.2 ⟨ht.1, short_of_missed (pw_nodup (isSetP_pairwise hs)) (fun q hq => pw_nodup (isSetP_pairwise (hv.quo q hq).2.1)) (by simpa using ht.2)⟩
  exact List.ne_nil_of_mem this

theorem best_zero {f : List Int → Int} (hf : ∀ t, 0 ≤ f t) : ∀ (T : List (List Int)) (b : List Int), f b = 0 → bestFrom f b T = b
  | [], b, _ => rfl
  | t :: T, b, hb => by
    simp only [bestFrom]
    rw [if_neg (by have := hf t; omega)]
    exact best_zero hf T b hb

theorem best_first {f : List Int → Int} (hf : ∀ t, 0 ≤ f t) : ∀ (T : List (List Int)) (b p : List Int), f b ≠ 0 → (kept T fun t => decide (0 < f t))[0]? = some p → bestFrom f b T = p
  | [], b, p, _, h => by simp [kept] at h
  | t :: T, b, p, hb, h => by
    simp only [bestFrom]
    by_cases ht : f t = 0
    · have e : kept (t :: T) (fun t => decide (0 < f t)) = t :: kept T (fun t => decide (0 < f t)) := by
        unfold kept; rw [List.filter_cons]; simp [ht]
      rw [e] at h
      simp at h
      subst h
      rw [if_pos (by have := hf b; omega)]
      exact best_zero hf T t ht
    · have e : kept (t :: T) (fun t => decide (0 < f t)) = kept T (fun t => decide (0 < f t)) := by
        unfold kept; rw [List.filter_cons]; have := hf t; simp [show 0 < f t by omega]
      rw [e] at h
      exact best_first hf T _ p (by split <;> assumption) h

theorem first_best {n k : Nat} {qs : List Quo} {t0 p0 : List Int} (h0 : (teams n k)[0]? = some t0) (hp : (pans n k qs)[0]? = some p0) : bestFrom (short qs) t0 (teams n k) = p0 := by
  have hf : ∀ t, 0 ≤ short qs t := fun t => short_nonneg
  cases hT : teams n k with
  | nil => rw [hT] at h0; simp at h0
  | cons t T =>
    rw [hT] at h0
    simp at h0
    subst h0
    unfold pans at hp
    rw [hT] at hp
    by_cases ht : short qs t = 0
    · have e : kept (t :: T) (fun t => decide (0 < short qs t)) = t :: kept T (fun t => decide (0 < short qs t)) := by
        unfold kept; rw [List.filter_cons]; simp [ht]
      rw [e] at hp
      simp at hp
      subst hp
      exact best_zero hf _ _ ht
    · exact best_first hf _ _ _ ht hp

theorem lexLt_iff : ∀ a b : List Int, lexLt a b = true ↔ a < b
  | [], [] => by simp [lexLt]
  | [], _ :: _ => by simp [lexLt]
  | _ :: _, [] => by simp [lexLt]
  | x :: xs, y :: ys => by
    simp only [lexLt, List.cons_lt_cons_iff]
    by_cases h : x = y
    · subst h; simp [lexLt_iff xs ys]
    · simp [h]

theorem pans_lt {n k : Nat} {qs : List Quo} (hk : 1 ≤ k) (hkn : k ≤ n) (hn : n ≤ 7) : (pans n k qs).Pairwise fun a b => a < b :=
  by unfold pans kept; exact (teams_of n k hk hkn hn).2.filter _

def nextTo (kk member : Int) (panel : List Int) (x : Nat) : List Int := (upto x).filter fun y => decide (y = kk ∨ ¬ y = member ∧ y ∈ panel)
theorem upto_snoc (m : Nat) : upto (m + 1) = upto m ++ [(m : Int)] := by simp [upto, List.range_succ]
theorem nextTo_succ (kk member : Int) (panel : List Int) (x : Nat) : nextTo kk member panel (x + 1) = nextTo kk member panel x ++ if (x : Int) = kk ∨ ¬ (x : Int) = member ∧ (x : Int) ∈ panel then [(x : Int)] else [] := by
  unfold nextTo
  rw [upto_snoc, List.filter_append]
  congr 1
  by_cases h : (x : Int) = kk ∨ ¬ (x : Int) = member ∧ (x : Int) ∈ panel
  · rw [if_pos h]; simp only [List.filter_cons, decide_eq_true h, if_true, List.filter_nil]
  · rw [if_neg h]; simp only [List.filter_cons, decide_eq_false h, List.filter_nil]; rfl
theorem nextTo_len (kk member : Int) (panel : List Int) (x : Nat) : (nextTo kk member panel x).length ≤ x := by
  have := List.length_filter_le (fun y => decide (y = kk ∨ ¬ y = member ∧ y ∈ panel)) (upto x)
  simpa [nextTo, upto] using this
theorem upto_pw (n : Nat) : (upto n).Pairwise (· < ·) := by
  unfold upto
  rw [List.pairwise_map]
  exact List.pairwise_lt_range.imp fun {a b} h => by simp; omega
theorem mem_upto {n : Nat} {x : Int} : x ∈ upto n ↔ 0 ≤ x ∧ x < n := by
  simp only [upto, List.mem_map, List.mem_range]
  constructor
  · rintro ⟨a, ha, rfl⟩; simp; omega
  · rintro ⟨h1, h2⟩; exact ⟨x.toNat, by omega, by simp; omega⟩

theorem isSetP_mem {xs : List Int} {n x : Int} (h : isSetP xs n) (hx : x ∈ xs) : 0 ≤ x ∧ x < n := by
  obtain ⟨i, hi, rfl⟩ := List.getElem_of_mem hx
  have := (h i hi).1
  simp [List.getD_eq_getElem?_getD, List.getElem?_eq_getElem hi] at this
  omega

/-- the two ways of putting another in a member's place -/
theorem swap_next {n i : Nat} {panel : List Int} {member kk : Int} (hp : isSetP panel n) (hi : panel[i]? = some member) (hk0 : 0 ≤ kk ∧ kk < n) (hk : kk ∉ panel) : swapAt panel i kk = nextTo kk member panel n := by
  have hlt : i < panel.length := (List.getElem?_eq_some_iff.1 hi).1
  have hpw := isSetP_pairwise hp
  have hnd := pw_nodup hpw
  have hset : ∀ y, y ∈ panel.set i kk ↔ y = kk ∨ ¬ y = member ∧ y ∈ panel := by
    intro y
    rw [List.mem_iff_getElem?]
    constructor
    · rintro ⟨j, hj⟩
      rw [List.getElem?_set] at hj
      split at hj
      · simp [hlt] at hj; exact .inl hj.symm
      · rename_i hij
        right
        refine ⟨?_, List.mem_of_getElem? hj⟩
        intro he
        subst he
        exact hij ((List.getElem?_inj hlt hnd).1 (by rw [hi, hj]))
    · rintro (rfl | ⟨h1, h2⟩)
      · exact ⟨i, by simp [hlt]⟩
      · obtain ⟨j, hj⟩ := List.mem_iff_getElem?.1 h2
        refine ⟨j, ?_⟩
        rw [List.getElem?_set, if_neg]
        · exact hj
        · intro hij; subst hij; rw [hi] at hj; exact h1 (by simpa using hj.symm)
  have hsnd : (panel.set i kk).Nodup := by
    rw [List.nodup_iff_pairwise_ne] at *
    rw [List.pairwise_iff_getElem] at *
    intro a b ha hb hab
    simp only [List.length_set] at ha hb
    rw [List.getElem_set, List.getElem_set]
    split
    · rw [if_neg (by omega)]
      intro he; exact hk (he ▸ List.getElem_mem hb)
    · split
      · intro he; exact hk (he ▸ List.getElem_mem ha)
      · exact hnd a b ha hb hab
  have hnn : (nextTo kk member panel n).Pairwise (· < ·) := (upto_pw n).filter _
  have hperm : (panel.set i kk).Perm (nextTo kk member panel n) := by
    rw [List.perm_ext_iff_of_nodup hsnd (pw_nodup hnn)]
    intro y
    rw [hset y]
    unfold nextTo
    rw [List.mem_filter, mem_upto]
    simp only [decide_eq_true_eq]
    constructor
    · intro h
      refine ⟨?_, h⟩
      rcases h with rfl | h
      · exact hk0
      · exact isSetP_mem hp h.2
    · exact fun h => h.2
  refine List.Perm.eq_of_pairwise (le := fun x y => x ≤ y) (fun a b _ _ h1 h2 => by omega) ?_ (hnn.imp fun {a b} h => by omega) ((List.mergeSort_perm _ _).trans hperm)
  have := List.pairwise_mergeSort (le := fun x y : Int => decide (x ≤ y)) (fun a b c h1 h2 => by simp at *; omega) (fun a b => by simp; omega) (panel.set i kk)
  exact this.imp fun {a b} h => by simpa using h

theorem mem_subs {n k : Nat} {qs : List Quo} {panel : List Int} {i : Nat} {x : Int} (hx : 0 ≤ x ∧ x < n) : x ∈ subs n k qs panel i n ↔ ¬ x ∈ panel ∧ SizedP ⟨n, k, qs⟩ (swapAt panel i x) ∧ short qs (swapAt panel i x) = 0 := by
  unfold subs
  rw [List.mem_filter, mem_upto]
  simp only [decide_eq_true_eq]
  constructor
  · exact fun h => h.2
  · exact fun h => ⟨hx, h⟩

theorem index_of {xs : List Int} {n : Int} {i : Nat} {y : Int} (h : isSetP xs n) (hi : xs[i]? = some y) : indexI xs y = i := by
  have hnd := pw_nodup (isSetP_pairwise h)
  have hlt := (List.getElem?_eq_some_iff.1 hi).1
  unfold indexI
  rw [if_pos (List.mem_of_getElem? hi)]
  have : y ∉ xs.take i := by
    intro hm
    obtain ⟨j, hj, he⟩ := List.mem_take_iff_getElem.1 hm
    have : xs[j]? = xs[i]? := by rw [hi, ← he]; exact List.getElem?_eq_getElem (by omega)
    have := (List.getElem?_inj (by omega) hnd).1 this
    omega
  rw [idxOf_at hi this]

theorem mem_take_succ {T : List (List Int)} {i : Nat} {t u : List Int} (ht : T[i]? = some t) : u ∈ T.take (i + 1) ↔ u ∈ T.take i ∨ t = u := by
  rw [List.take_add_one, ht]
  simp [eq_comm]
end Go.Lite.LT

namespace Go.Lite.LT
open Go.Proofs
set_option maxRecDepth 4000
set_option linter.unusedSimpArgs false
set_option linter.unusedVariables false
set_option maxHeartbeats 8000000
attribute [local simp] ty
theorem f3_ok (n1 n2 : Bool) (code more : List Int) (hc : ∀ x ∈ code, 0 ≤ x ∧ x < 256) (hm : ∀ x ∈ more, 0 ≤ x ∧ x < 256) : Does Try.prog 3 [bytes n1 code, bytes n2 more] (fun r outs => r = .bool true ∧ outs = [.dead, .dead]) := by
  refine fn_of tyAll (rs := [.t 4]) 194 Try.func3 rfl rfl rfl rfl (by simp) rfl ?_
  refine T_from (by simp <;> rfl) ?_
  refine T_seq (T_region ?_)
  refine OL_runs tyAll (by simp <;> rfl) ?_
  refine OL_pick [0,1] (by simp <;> rfl) (OL_nil ?_)
  refine T_seq ?_
  refine T_seq (T_region ?_)
  refine OL_first 2 tyAll (by simp <;> rfl) ?_
  dsimp only [List.drop]
  refine OL_callA [] 26000 (by simp) rfl (by simp <;> rfl) (by simp <;> rfl) (by simp) (by simp) (by simp <;> rfl) (by rfl) (f4_ok n1 n2 code more) (by simp) ?_ ?_
  · rintro _ _ ⟨rfl, rfl⟩; simp
  rintro _ _ ⟨rfl, rfl⟩
  refine OL_state (by simp <;> rfl) ?_
  refine OL_pick [0,1,25] (by simp <;> rfl) (OL_nil ?_)
  refine T_cond (by simp <;> rfl) (fun hlong => ?_) (fun hlong => ?_)
  · try simp at hlong
    refine T_seq (T_region ?_)
    refine OL_runs tyAll (by simp <;> rfl) ?_
    refine OL_pick [4] (by simp <;> rfl) (OL_nil ?_)
    refine T_ret ⟨_, (by simp <;> rfl), rfl, rfl⟩
  · try simp at hlong
    refine T_skip ?_
    refine T_seq (T_region ?_)
    refine OL_first 1 tyAll (by simp <;> rfl) ?_
    dsimp only [List.drop]
    refine OL_callA [] 28000 (by simp) rfl (by simp <;> rfl) (by simp <;> rfl) (by simp) (by simp) (by simp <;> rfl) (by rfl) (f5_ok n1 code hc) (by simp) ?_ ?_
    · rintro _ _ ⟨n, k, qs, ⟨hv, hne⟩, rfl, rfl⟩; simp
    rintro _ _ ⟨n, k, qs, ⟨hv, hne⟩, rfl, rfl⟩
    refine OL_state (by simp <;> rfl) ?_
    refine OL_runs tyAll (by simp <;> rfl) ?_
    refine OL_freeze 5 (by simp <;> rfl) (by simp <;> rfl) ?_
    refine OL_pick [1,5] (by simp <;> rfl) (OL_nil ?_)
    have hpe := hv.people
    have hsi := hv.size
    simp only at hpe hsi
    have hPne := pans_ne hv hne
    obtain ⟨p0, hp0⟩ : ∃ p0, (pans n k qs)[0]? = some p0 := by
      cases h : pans n k qs with
      | nil => exact absurd h hPne
      | cons a l => exact ⟨a, by simp⟩
    have hpl : 0 < (pans n k qs).length := List.length_pos_iff.2 hPne
    have hp0g : (pans n k qs)[0] = p0 := (List.getElem?_eq_some_iff.1 hp0).2
    obtain ⟨t0, ht0⟩ : ∃ t0, (teams n k)[0]? = some t0 := by
      cases h : teams n k with
      | nil => exact absurd h (teams_ne n k)
      | cons a l => exact ⟨a, by simp⟩
    have hbest := first_best ht0 hp0
    have hp0s := (mem_pans.1 (List.mem_of_getElem? hp0)).2
    have hl0 : (((pans n k qs).length : Int) == 0) = false := by rw [beq_eq_false_iff_ne]; omega
    have hfew := teams_few n k
    have hpfew : (pans n k qs).length ≤ (teams n k).length := List.length_filter_le _ _
    have hmem : ∀ t ∈ pans n k qs, SizedP ⟨n, k, qs⟩ t ∧ short qs t = 0 ∧ t.length = k := by
      intro t ht
      obtain ⟨h1, h2⟩ := mem_pans.1 ht
      exact ⟨teams_sized (by omega) (by omega) (by omega) h1, h2, (teams_all (by omega) (by omega) (by omega) t h1).1⟩
    refine T_seq (T_region ?_)
    refine OL_first 1 tyAll (by simp <;> rfl) ?_
    dsimp only [List.drop]
    refine OL_callA [] 31000 (by simp) rfl (by simp <;> rfl) (by simp <;> rfl) (by simp) (by simp) (by simp <;> rfl) (by rfl) (f6_ok n k qs hv) (by simp) ?_ ?_
    · rintro _ _ ⟨rfl, rfl⟩; simp
    rintro _ _ ⟨rfl, rfl⟩
    refine OL_state (by simp <;> rfl) ?_
    refine OL_runs tyAll (by simp <;> rfl) ?_
    refine OL_freeze 31000 (by simp <;> rfl) (by simp <;> rfl) ?_
    refine OL_pick [1,5,6,7] (by simp <;> rfl) (OL_nil ?_)
    refine T_seq (T_region ?_)
    refine OL_first 1 tyAll (by simp <;> rfl) ?_
    dsimp only [List.drop]
    refine OL_callA [] 36000 (by simp) rfl (by simp <;> rfl) (by simp <;> rfl) (by simp) (by simp) (by simp <;> rfl) (by rfl) (f7_ok n k qs hv t0 ht0) (by simp) ?_ ?_
    · rintro _ _ ⟨rfl, rfl⟩; simp
    rintro _ _ ⟨rfl, rfl⟩
    refine OL_state (by simp <;> rfl) ?_
    refine OL_runs tyAll (by simp <;> rfl) ?_
    simp only [hbest, hp0s]
    refine OL_pick [1,5,6,7,8,9,10] (by simp <;> rfl) (OL_nil ?_)
    refine T_seq (T_region ?_)
    refine OL_first 2 tyAll (by simp <;> rfl) ?_
    dsimp only [List.drop]
    refine OL_callA [] 42000 (by simp) rfl (by simp <;> rfl) (by simp <;> rfl) (by simp) (by simp) (by simp <;> rfl) (by rfl) (f8_ok n2 more hm n k qs (by omega) (by omega) (by omega) (teamsOk n k (by omega) (by omega) (by omega)) (teams_ne n k)) (by simp) ?_ ?_
    · rintro _ _ ⟨team, hteam, rfl, rfl⟩; simp
    rintro _ _ ⟨team, hteam, rfl, rfl⟩
    refine OL_state (by simp <;> rfl) ?_
    refine OL_runs tyAll (by simp <;> rfl) ?_
    refine OL_pick [1,5,6,7,8,9,10,11] (by simp <;> rfl) (OL_nil ?_)
    have htS := teams_sized (qs := qs) (show 1 ≤ k by omega) (by omega) (by omega) hteam
    have htl := (teams_all (n := n) (k := k) (by omega) (by omega) (by omega) team hteam).1
    refine T_seq (T_region ?_)
    refine OL_first 2 tyAll (by simp [htS] <;> rfl) ?_
    dsimp only [List.drop]
    refine OL_callA [] 46000 (by simp [htS]) rfl (by simp <;> rfl) (by simp <;> rfl) (by simp) (by simp) (by simp <;> rfl) (by rfl) (f9_ok _ hv true team (by omega)) (by simp) ?_ ?_
    · rintro _ _ ⟨rfl, rfl⟩; simp
    rintro _ _ ⟨rfl, rfl⟩
    refine OL_state (by simp <;> rfl) ?_
    refine OL_runs tyAll (by simp [htS] <;> rfl) ?_
    refine OL_pick [1,5,6,7,8,9,10,11,12,13] (by simp <;> rfl) (OL_nil ?_)
    refine T_seq ?_
    refine T_seq (T_region ?_)
    refine OL_first 3 tyAll (by simp (disch := first | exact InR.mk (by omega) (by omega) | simp) [wrapR, htS, hpl, hp0, hp0g, hl0] <;> rfl) ?_
    dsimp only [List.drop]
    refine OL_first 4 tyAll (by simp (disch := first | exact InR.mk (by omega) (by omega) | simp) [wrapR, htS, hpl, hp0, hp0g, hl0] <;> rfl) ?_
    dsimp only [List.drop]
    refine OL_first 4 tyAll (by simp (disch := first | exact InR.mk (by omega) (by omega) | simp) [wrapR, htS, hpl, hp0, hp0g, hl0] <;> rfl) ?_
    dsimp only [List.drop]
    refine OL_first 5 tyAll (by simp (disch := first | exact InR.mk (by omega) (by omega) | simp) [wrapR, htS, hpl, hp0, hp0g, hl0] <;> rfl) ?_
    dsimp only [List.drop]
    refine OL_first 4 tyAll (by simp (disch := first | exact InR.mk (by omega) (by omega) | simp) [wrapR, htS, hpl, hp0, hp0g, hl0] <;> rfl) ?_
    dsimp only [List.drop]
    refine OL_first 4 tyAll (by simp (disch := first | exact InR.mk (by omega) (by omega) | simp) [wrapR, htS, hpl, hp0, hp0g, hl0] <;> rfl) ?_
    dsimp only [List.drop]
    refine OL_callA [] 73000 (by simp [htS, hpl, hp0, hp0g, hl0]) rfl (by simp <;> rfl) (by simp <;> rfl) (by simp) (by simp) (by simp <;> rfl) (by rfl) (f10_ok true true p0 p0 (by have := (hmem p0 (List.mem_of_getElem? hp0)).2.2; omega)) (by simp) ?_ ?_
    · rintro _ _ ⟨rfl, rfl⟩; simp
    rintro _ _ ⟨rfl, rfl⟩
    refine OL_state (by simp <;> rfl) ?_
    refine OL_first 3 tyAll (by simp (disch := first | exact InR.mk (by omega) (by omega) | simp) [wrapR, htS, hpl, hp0, hp0g, hl0] <;> rfl) ?_
    dsimp only [List.drop]
    refine OL_first 4 tyAll (by simp (disch := first | exact InR.mk (by omega) (by omega) | simp) [wrapR, htS, hpl, hp0, hp0g, hl0] <;> rfl) ?_
    dsimp only [List.drop]
    refine OL_callA [] 81000 (by simp [htS, hpl, hp0, hp0g, hl0]) rfl (by simp <;> rfl) (by simp <;> rfl) (by simp) (by simp) (by simp <;> rfl) (by rfl) (f11_ok _ hv true team (by omega)) (by simp) ?_ ?_
    · rintro _ _ ⟨rfl, rfl⟩; simp
    rintro _ _ ⟨rfl, rfl⟩
    refine OL_state (by simp <;> rfl) ?_
    refine OL_runs tyAll (by simp (disch := first | exact InR.mk (by omega) (by omega) | simp) [wrapR, htS, hpl, hp0, hp0g, hl0] <;> rfl) ?_
    refine OL_pick [1,5,6,11,12,82] (by simp <;> rfl) (OL_nil ?_)
    refine T_cond (b := false) (by simp <;> rfl) (fun h => ?_) (fun h => ?_)
    · cases h
    · skip
      refine T_skip ?_
      refine T_seq (T_region ?_)
      refine OL_runs tyAll (by simp <;> rfl) ?_
      refine OL_pick [1,5,6,11,12,14] (by simp <;> rfl) (OL_nil ?_)
      refine T_seq ?_
      refine T_seq (T_region ?_)
      refine OL_runs tyAll (by simp <;> rfl) ?_
      refine OL_pick [1,5,6,11,12,14,15] (by simp <;> rfl) (OL_nil ?_)
      refine T_block ?_
      refine T_loopU [1,5,6,11,12] [14,15] [] (fun i : Nat => [(14, .bool (decide (team ∈ (pans n k qs).take i))), (15, .int .i64 i)]) (fun i : Nat => []) (fun i : Nat => i ≤ (pans n k qs).length) (fun i : Nat => (pans n k qs).length - i) (0) (by simp <;> rfl) (by simp <;> rfl) (by simp) (by simp) (by simp) ?_
      rintro i hi
      simp only [List.cons_append, List.nil_append]
      refine T_seq ?_
      refine T_seq (T_region ?_)
      refine OL_runs tyAll (by simp <;> rfl) ?_
      refine OL_pick [1,5,6,11,12,14,15,86] (by simp <;> rfl) (OL_nil ?_)
      refine T_cond (by simp <;> rfl) (fun hil => ?_) (fun hil => ?_)
      · try simp at hil
        have ht : (pans n k qs)[i]? = some (pans n k qs)[i] := List.getElem?_eq_getElem hil
        obtain ⟨t, hte⟩ : ∃ t, t = (pans n k qs)[i] := ⟨_, rfl⟩
        have htm : t ∈ pans n k qs := hte ▸ List.getElem_mem hil
        rw [← hte] at ht
        obtain ⟨ht1, ht2, ht3⟩ := hmem t htm
        refine T_skip ?_
        refine T_seq ?_
        refine T_block ?_
        refine T_seq ?_
        refine T_cutU [1,5,6,11,12,14,15] [] (fun c d => c = [(112, .bool false)] ∧ d = []) (by simp <;> rfl) (by simp <;> rfl) ?_ ?_
        · skip
          by_cases hg : 0 < i
          · skip
            have hd1 : (1 : Int) ≤ i := by omega
            have hd2 : (i : Int) - 1 < (pans n k qs).length := by omega
            have hd3 : i - 1 < (pans n k qs).length := by omega
            obtain ⟨u, hu⟩ : ∃ u, u = (pans n k qs)[i - 1] := ⟨_, rfl⟩
            have hum : u ∈ pans n k qs := hu ▸ List.getElem_mem hd3
            have hul := (hmem u hum).2.2
            have hup : (pans n k qs)[i - 1]? = some u := by rw [hu]; exact List.getElem?_eq_getElem hd3
            have hlt : lexLt u t = true := by
              rw [lexLt_iff]
              have := List.pairwise_iff_getElem.1 (pans_lt (n := n) (k := k) (qs := qs) (by omega) (by omega) (by omega)) (i - 1) i hd3 hil (by omega)
              rw [← hu, ← hte] at this
              exact this
            refine (T_orders mixed (n := 24) (L := #[false, false, false, false, false, false, false, false, false, false, false, false, false, false, false, false, false, false, false, false, false, false, false, false]) rfl rfl ?_)
            refine DA_take 1 tyAll rfl (by kernel_rfl) (by kernel_rfl) (by kernel_rfl) (by simp) (by simp <;> rfl) (by simp) (by simp <;> rfl) ?_
            refine DA_take 2 tyAll rfl (by kernel_rfl) (by kernel_rfl) (by kernel_rfl) (by simp) (by simp <;> rfl) (by simp) (by simp <;> rfl) ?_
            refine DA_take 3 tyAll rfl (by kernel_rfl) (by kernel_rfl) (by kernel_rfl) (by simp) (by simp [hil, ← hte] <;> rfl) (by simp) (by simp <;> rfl) ?_
            refine DA_two 0 4 (by kernel_rfl) ?_ ?_
            ·
              refine D1_op tyAll rfl (by simp) (by simp <;> rfl) ?_
              refine DA_one 4 (by kernel_rfl) ?_
              refine D1_op tyAll rfl (by simp) (by simp [hil, ← hte] <;> rfl) ?_
              refine DA_one 5 (by kernel_rfl) ?_
              refine D1_callA [] 95000 rfl (by simp) rfl (by simp <;> rfl) (by simp <;> rfl) (by simp) (by simp) (by simp <;> rfl) (by rfl) (f11_ok _ hv true t (by omega)) (by simp) ?_ ?_
              · rintro _ _ ⟨rfl, rfl⟩; simp
              rintro _ _ ⟨rfl, rfl⟩
              refine DA_state (by simp <;> rfl) ?_
              refine DA_take 6 tyAll rfl (by kernel_rfl) (by kernel_rfl) (by kernel_rfl) (by simp) (by simp (disch := first | exact InR.mk (by omega) (by omega) | simp) [wrapR, ht1, ht2] <;> rfl) (by simp) (by simp <;> rfl) ?_
              refine DA_take 7 tyAll rfl (by kernel_rfl) (by kernel_rfl) (by kernel_rfl) (by simp) (by simp <;> rfl) (by simp) (by simp <;> rfl) ?_
              refine DA_take 8 tyAll rfl (by kernel_rfl) (by kernel_rfl) (by kernel_rfl) (by simp [hg]) (by simp [hg] <;> rfl) (by simp) (by simp <;> rfl) ?_
              refine DA_take 9 tyAll rfl (by kernel_rfl) (by kernel_rfl) (by kernel_rfl) (by simp [hg]) (by simp [hg] <;> rfl) (by simp) (by simp <;> rfl) ?_
              refine DA_take 10 tyAll rfl (by kernel_rfl) (by kernel_rfl) (by kernel_rfl) (by simp [hg]) (by simp [hg] <;> rfl) (by simp) (by simp <;> rfl) ?_
              refine DA_take 11 tyAll rfl (by kernel_rfl) (by kernel_rfl) (by kernel_rfl) (by simp [hg]) (by simp [hg] <;> rfl) (by simp) (by simp <;> rfl) ?_
              refine DA_take 12 tyAll rfl (by kernel_rfl) (by kernel_rfl) (by kernel_rfl) (by simp [hg]) (by simp [hg] <;> rfl) (by simp) (by simp <;> rfl) ?_
              refine DA_take 13 tyAll rfl (by kernel_rfl) (by kernel_rfl) (by kernel_rfl) (by simp [hg]) (by simp (disch := first | exact InR.mk (by omega) (by omega) | simp) [wrapR, hg] <;> rfl) (by simp) (by simp <;> rfl) ?_
              refine DA_take 14 tyAll rfl (by kernel_rfl) (by kernel_rfl) (by kernel_rfl) (by simp [hg]) (by simp [hd1, hd2, hup, hg] <;> rfl) (by simp) (by simp <;> rfl) ?_
              refine DA_take 16 tyAll rfl (by kernel_rfl) (by kernel_rfl) (by kernel_rfl) (by simp [hg]) (by simp [hg] <;> rfl) (by simp) (by simp <;> rfl) ?_
              refine DA_take 17 tyAll rfl (by kernel_rfl) (by kernel_rfl) (by kernel_rfl) (by simp [hg]) (by simp [hg] <;> rfl) (by simp) (by simp <;> rfl) ?_
              refine DA_take 18 tyAll rfl (by kernel_rfl) (by kernel_rfl) (by kernel_rfl) (by simp [hg]) (by simp [hil, ← hte, hg] <;> rfl) (by simp) (by simp <;> rfl) ?_
              refine DA_two 15 19 (by kernel_rfl) ?_ ?_
              ·
                refine D1_op tyAll rfl (by simp [hg]) (by simp [hg] <;> rfl) ?_
                refine DA_one 19 (by kernel_rfl) ?_
                refine D1_op tyAll rfl (by simp [hg]) (by simp [hg] <;> rfl) ?_
                refine DA_one 20 (by kernel_rfl) ?_
                refine D1_callA [] 110000 rfl (by simp [hg]) rfl (by simp <;> rfl) (by simp <;> rfl) (by simp) (by simp) (by simp <;> rfl) (by rfl) (f12_ok true true u t (by omega)) (by simp) ?_ ?_
                · rintro _ _ ⟨rfl, rfl⟩; simp
                rintro _ _ ⟨rfl, rfl⟩
                refine DA_state (by simp <;> rfl) ?_
                refine DA_take 21 tyAll rfl (by kernel_rfl) (by kernel_rfl) (by kernel_rfl) (by simp [hg]) (by simp (disch := first | exact InR.mk (by omega) (by omega) | simp) [wrapR, hlt, hg] <;> rfl) (by simp) (by simp <;> rfl) ?_
                refine DA_take 22 tyAll rfl (by kernel_rfl) (by kernel_rfl) (by kernel_rfl) (by simp [hg]) (by simp [hg] <;> rfl) (by simp) (by simp <;> rfl) ?_
                refine DA_take 23 tyAll rfl (by kernel_rfl) (by kernel_rfl) (by kernel_rfl) (by simp) (by simp [hg] <;> rfl) (by simp) (by simp <;> rfl) ?_
                refine DA_fin (by kernel_rfl) ?_
                refine OL_formU [112,1,5,6,11,12,14,15] [] (by simp <;> rfl) (by simp <;> rfl) (OL_nil ?_)
                exact ⟨_, _, ⟨rfl, rfl⟩, (by first | rfl | simp)⟩
              ·
                refine D1_op tyAll rfl (by simp [hg]) (by simp [hg] <;> rfl) ?_
                refine DA_one 15 (by kernel_rfl) ?_
                refine D1_op tyAll rfl (by simp [hg]) (by simp [hg] <;> rfl) ?_
                refine DA_one 20 (by kernel_rfl) ?_
                refine D1_callA [] 110000 rfl (by simp [hg]) rfl (by simp <;> rfl) (by simp <;> rfl) (by simp) (by simp) (by simp <;> rfl) (by rfl) (f12_ok true true u t (by omega)) (by simp) ?_ ?_
                · rintro _ _ ⟨rfl, rfl⟩; simp
                rintro _ _ ⟨rfl, rfl⟩
                refine DA_state (by simp <;> rfl) ?_
                refine DA_take 21 tyAll rfl (by kernel_rfl) (by kernel_rfl) (by kernel_rfl) (by simp [hg]) (by simp (disch := first | exact InR.mk (by omega) (by omega) | simp) [wrapR, hlt, hg] <;> rfl) (by simp) (by simp <;> rfl) ?_
                refine DA_take 22 tyAll rfl (by kernel_rfl) (by kernel_rfl) (by kernel_rfl) (by simp [hg]) (by simp [hg] <;> rfl) (by simp) (by simp <;> rfl) ?_
                refine DA_take 23 tyAll rfl (by kernel_rfl) (by kernel_rfl) (by kernel_rfl) (by simp) (by simp [hg] <;> rfl) (by simp) (by simp <;> rfl) ?_
                refine DA_fin (by kernel_rfl) ?_
                refine OL_formU [112,1,5,6,11,12,14,15] [] (by simp <;> rfl) (by simp <;> rfl) (OL_nil ?_)
                exact ⟨_, _, ⟨rfl, rfl⟩, (by first | rfl | simp)⟩
            ·
              refine D1_op tyAll rfl (by simp) (by simp [hil, ← hte] <;> rfl) ?_
              refine DA_one 0 (by kernel_rfl) ?_
              refine D1_op tyAll rfl (by simp) (by simp <;> rfl) ?_
              refine DA_one 5 (by kernel_rfl) ?_
              refine D1_callA [] 95000 rfl (by simp) rfl (by simp <;> rfl) (by simp <;> rfl) (by simp) (by simp) (by simp <;> rfl) (by rfl) (f11_ok _ hv true t (by omega)) (by simp) ?_ ?_
              · rintro _ _ ⟨rfl, rfl⟩; simp
              rintro _ _ ⟨rfl, rfl⟩
              refine DA_state (by simp <;> rfl) ?_
              refine DA_take 6 tyAll rfl (by kernel_rfl) (by kernel_rfl) (by kernel_rfl) (by simp) (by simp (disch := first | exact InR.mk (by omega) (by omega) | simp) [wrapR, ht1, ht2] <;> rfl) (by simp) (by simp <;> rfl) ?_
              refine DA_take 7 tyAll rfl (by kernel_rfl) (by kernel_rfl) (by kernel_rfl) (by simp) (by simp <;> rfl) (by simp) (by simp <;> rfl) ?_
              refine DA_take 8 tyAll rfl (by kernel_rfl) (by kernel_rfl) (by kernel_rfl) (by simp [hg]) (by simp [hg] <;> rfl) (by simp) (by simp <;> rfl) ?_
              refine DA_take 9 tyAll rfl (by kernel_rfl) (by kernel_rfl) (by kernel_rfl) (by simp [hg]) (by simp [hg] <;> rfl) (by simp) (by simp <;> rfl) ?_
              refine DA_take 10 tyAll rfl (by kernel_rfl) (by kernel_rfl) (by kernel_rfl) (by simp [hg]) (by simp [hg] <;> rfl) (by simp) (by simp <;> rfl) ?_
              refine DA_take 11 tyAll rfl (by kernel_rfl) (by kernel_rfl) (by kernel_rfl) (by simp [hg]) (by simp [hg] <;> rfl) (by simp) (by simp <;> rfl) ?_
              refine DA_take 12 tyAll rfl (by kernel_rfl) (by kernel_rfl) (by kernel_rfl) (by simp [hg]) (by simp [hg] <;> rfl) (by simp) (by simp <;> rfl) ?_
              refine DA_take 13 tyAll rfl (by kernel_rfl) (by kernel_rfl) (by kernel_rfl) (by simp [hg]) (by simp (disch := first | exact InR.mk (by omega) (by omega) | simp) [wrapR, hg] <;> rfl) (by simp) (by simp <;> rfl) ?_
              refine DA_take 14 tyAll rfl (by kernel_rfl) (by kernel_rfl) (by kernel_rfl) (by simp [hg]) (by simp [hd1, hd2, hup, hg] <;> rfl) (by simp) (by simp <;> rfl) ?_
              refine DA_take 16 tyAll rfl (by kernel_rfl) (by kernel_rfl) (by kernel_rfl) (by simp [hg]) (by simp [hg] <;> rfl) (by simp) (by simp <;> rfl) ?_
              refine DA_take 17 tyAll rfl (by kernel_rfl) (by kernel_rfl) (by kernel_rfl) (by simp [hg]) (by simp [hg] <;> rfl) (by simp) (by simp <;> rfl) ?_
              refine DA_take 18 tyAll rfl (by kernel_rfl) (by kernel_rfl) (by kernel_rfl) (by simp [hg]) (by simp [hil, ← hte, hg] <;> rfl) (by simp) (by simp <;> rfl) ?_
              refine DA_two 15 19 (by kernel_rfl) ?_ ?_
              ·
                refine D1_op tyAll rfl (by simp [hg]) (by simp [hg] <;> rfl) ?_
                refine DA_one 19 (by kernel_rfl) ?_
                refine D1_op tyAll rfl (by simp [hg]) (by simp [hg] <;> rfl) ?_
                refine DA_one 20 (by kernel_rfl) ?_
                refine D1_callA [] 110000 rfl (by simp [hg]) rfl (by simp <;> rfl) (by simp <;> rfl) (by simp) (by simp) (by simp <;> rfl) (by rfl) (f12_ok true true u t (by omega)) (by simp) ?_ ?_
                · rintro _ _ ⟨rfl, rfl⟩; simp
                rintro _ _ ⟨rfl, rfl⟩
                refine DA_state (by simp <;> rfl) ?_
                refine DA_take 21 tyAll rfl (by kernel_rfl) (by kernel_rfl) (by kernel_rfl) (by simp [hg]) (by simp (disch := first | exact InR.mk (by omega) (by omega) | simp) [wrapR, hlt, hg] <;> rfl) (by simp) (by simp <;> rfl) ?_
                refine DA_take 22 tyAll rfl (by kernel_rfl) (by kernel_rfl) (by kernel_rfl) (by simp [hg]) (by simp [hg] <;> rfl) (by simp) (by simp <;> rfl) ?_
                refine DA_take 23 tyAll rfl (by kernel_rfl) (by kernel_rfl) (by kernel_rfl) (by simp) (by simp [hg] <;> rfl) (by simp) (by simp <;> rfl) ?_
                refine DA_fin (by kernel_rfl) ?_
                refine OL_formU [112,1,5,6,11,12,14,15] [] (by simp <;> rfl) (by simp <;> rfl) (OL_nil ?_)
                exact ⟨_, _, ⟨rfl, rfl⟩, (by first | rfl | simp)⟩
              ·
                refine D1_op tyAll rfl (by simp [hg]) (by simp [hg] <;> rfl) ?_
                refine DA_one 15 (by kernel_rfl) ?_
                refine D1_op tyAll rfl (by simp [hg]) (by simp [hg] <;> rfl) ?_
                refine DA_one 20 (by kernel_rfl) ?_
                refine D1_callA [] 110000 rfl (by simp [hg]) rfl (by simp <;> rfl) (by simp <;> rfl) (by simp) (by simp) (by simp <;> rfl) (by rfl) (f12_ok true true u t (by omega)) (by simp) ?_ ?_
                · rintro _ _ ⟨rfl, rfl⟩; simp
                rintro _ _ ⟨rfl, rfl⟩
                refine DA_state (by simp <;> rfl) ?_
                refine DA_take 21 tyAll rfl (by kernel_rfl) (by kernel_rfl) (by kernel_rfl) (by simp [hg]) (by simp (disch := first | exact InR.mk (by omega) (by omega) | simp) [wrapR, hlt, hg] <;> rfl) (by simp) (by simp <;> rfl) ?_
                refine DA_take 22 tyAll rfl (by kernel_rfl) (by kernel_rfl) (by kernel_rfl) (by simp [hg]) (by simp [hg] <;> rfl) (by simp) (by simp <;> rfl) ?_
                refine DA_take 23 tyAll rfl (by kernel_rfl) (by kernel_rfl) (by kernel_rfl) (by simp) (by simp [hg] <;> rfl) (by simp) (by simp <;> rfl) ?_
                refine DA_fin (by kernel_rfl) ?_
                refine OL_formU [112,1,5,6,11,12,14,15] [] (by simp <;> rfl) (by simp <;> rfl) (OL_nil ?_)
                exact ⟨_, _, ⟨rfl, rfl⟩, (by first | rfl | simp)⟩
          · skip
            refine (T_orders mixed (n := 24) (L := #[false, false, false, false, false, false, false, false, false, false, false, false, false, false, false, false, false, false, false, false, false, false, false, false]) rfl rfl ?_)
            refine DA_take 1 tyAll rfl (by kernel_rfl) (by kernel_rfl) (by kernel_rfl) (by simp) (by simp <;> rfl) (by simp) (by simp <;> rfl) ?_
            refine DA_take 2 tyAll rfl (by kernel_rfl) (by kernel_rfl) (by kernel_rfl) (by simp) (by simp <;> rfl) (by simp) (by simp <;> rfl) ?_
            refine DA_take 3 tyAll rfl (by kernel_rfl) (by kernel_rfl) (by kernel_rfl) (by simp) (by simp [hil, ← hte] <;> rfl) (by simp) (by simp <;> rfl) ?_
            refine DA_two 0 4 (by kernel_rfl) ?_ ?_
            ·
              refine D1_op tyAll rfl (by simp) (by simp <;> rfl) ?_
              refine DA_one 4 (by kernel_rfl) ?_
              refine D1_op tyAll rfl (by simp) (by simp [hil, ← hte] <;> rfl) ?_
              refine DA_one 5 (by kernel_rfl) ?_
              refine D1_callA [] 95000 rfl (by simp) rfl (by simp <;> rfl) (by simp <;> rfl) (by simp) (by simp) (by simp <;> rfl) (by rfl) (f11_ok _ hv true t (by omega)) (by simp) ?_ ?_
              · rintro _ _ ⟨rfl, rfl⟩; simp
              rintro _ _ ⟨rfl, rfl⟩
              refine DA_state (by simp <;> rfl) ?_
              refine DA_take 6 tyAll rfl (by kernel_rfl) (by kernel_rfl) (by kernel_rfl) (by simp) (by simp (disch := first | exact InR.mk (by omega) (by omega) | simp) [wrapR, ht1, ht2] <;> rfl) (by simp) (by simp <;> rfl) ?_
              refine DA_take 7 tyAll rfl (by kernel_rfl) (by kernel_rfl) (by kernel_rfl) (by simp) (by simp <;> rfl) (by simp) (by simp <;> rfl) ?_
              refine DA_take 8 tyAll rfl (by kernel_rfl) (by kernel_rfl) (by kernel_rfl) (by simp [hg]) (by simp [hg] <;> rfl) (by simp) (by simp <;> rfl) ?_
              refine DA_take 9 tyAll rfl (by kernel_rfl) (by kernel_rfl) (by kernel_rfl) (by simp [hg]) (by simp [hg] <;> rfl) (by simp) (by simp <;> rfl) ?_
              refine DA_take 10 tyAll rfl (by kernel_rfl) (by kernel_rfl) (by kernel_rfl) (by simp [hg]) (by simp [hg] <;> rfl) (by simp) (by simp <;> rfl) ?_
              refine DA_pass 11 rfl (by kernel_rfl) (by kernel_rfl) (by kernel_rfl) (by simp [hg]) (by simp) (by simp <;> rfl) ?_
              refine DA_pass 12 rfl (by kernel_rfl) (by kernel_rfl) (by kernel_rfl) (by simp [hg]) (by simp) (by simp <;> rfl) ?_
              refine DA_pass 13 rfl (by kernel_rfl) (by kernel_rfl) (by kernel_rfl) (by simp [hg]) (by simp) (by simp <;> rfl) ?_
              refine DA_pass 14 rfl (by kernel_rfl) (by kernel_rfl) (by kernel_rfl) (by simp [hg]) (by simp) (by simp <;> rfl) ?_
              refine DA_pass 15 rfl (by kernel_rfl) (by kernel_rfl) (by kernel_rfl) (by simp [hg]) (by simp) (by simp <;> rfl) ?_
              refine DA_pass 16 rfl (by kernel_rfl) (by kernel_rfl) (by kernel_rfl) (by simp [hg]) (by simp) (by simp <;> rfl) ?_
              refine DA_pass 17 rfl (by kernel_rfl) (by kernel_rfl) (by kernel_rfl) (by simp [hg]) (by simp) (by simp <;> rfl) ?_
              refine DA_pass 18 rfl (by kernel_rfl) (by kernel_rfl) (by kernel_rfl) (by simp [hg]) (by simp) (by simp <;> rfl) ?_
              refine DA_pass 19 rfl (by kernel_rfl) (by kernel_rfl) (by kernel_rfl) (by simp [hg]) (by simp) (by simp <;> rfl) ?_
              refine DA_pass 20 rfl (by kernel_rfl) (by kernel_rfl) (by kernel_rfl) (by simp [hg]) (by simp) (by simp <;> rfl) ?_
              refine DA_pass 21 rfl (by kernel_rfl) (by kernel_rfl) (by kernel_rfl) (by simp [hg]) (by simp) (by simp <;> rfl) ?_
              refine DA_take 22 tyAll rfl (by kernel_rfl) (by kernel_rfl) (by kernel_rfl) (by simp [hg]) (by simp [hg] <;> rfl) (by simp) (by simp <;> rfl) ?_
              refine DA_take 23 tyAll rfl (by kernel_rfl) (by kernel_rfl) (by kernel_rfl) (by simp) (by simp [hg] <;> rfl) (by simp) (by simp <;> rfl) ?_
              refine DA_fin (by kernel_rfl) ?_
              refine OL_formU [112,1,5,6,11,12,14,15] [] (by simp <;> rfl) (by simp <;> rfl) (OL_nil ?_)
              exact ⟨_, _, ⟨rfl, rfl⟩, (by first | rfl | simp)⟩
            ·
              refine D1_op tyAll rfl (by simp) (by simp [hil, ← hte] <;> rfl) ?_
              refine DA_one 0 (by kernel_rfl) ?_
              refine D1_op tyAll rfl (by simp) (by simp <;> rfl) ?_
              refine DA_one 5 (by kernel_rfl) ?_
              refine D1_callA [] 95000 rfl (by simp) rfl (by simp <;> rfl) (by simp <;> rfl) (by simp) (by simp) (by simp <;> rfl) (by rfl) (f11_ok _ hv true t (by omega)) (by simp) ?_ ?_
              · rintro _ _ ⟨rfl, rfl⟩; simp
              rintro _ _ ⟨rfl, rfl⟩
              refine DA_state (by simp <;> rfl) ?_
              refine DA_take 6 tyAll rfl (by kernel_rfl) (by kernel_rfl) (by kernel_rfl) (by simp) (by simp (disch := first | exact InR.mk (by omega) (by omega) | simp) [wrapR, ht1, ht2] <;> rfl) (by simp) (by simp <;> rfl) ?_
              refine DA_take 7 tyAll rfl (by kernel_rfl) (by kernel_rfl) (by kernel_rfl) (by simp) (by simp <;> rfl) (by simp) (by simp <;> rfl) ?_
              refine DA_take 8 tyAll rfl (by kernel_rfl) (by kernel_rfl) (by kernel_rfl) (by simp [hg]) (by simp [hg] <;> rfl) (by simp) (by simp <;> rfl) ?_
              refine DA_take 9 tyAll rfl (by kernel_rfl) (by kernel_rfl) (by kernel_rfl) (by simp [hg]) (by simp [hg] <;> rfl) (by simp) (by simp <;> rfl) ?_
              refine DA_take 10 tyAll rfl (by kernel_rfl) (by kernel_rfl) (by kernel_rfl) (by simp [hg]) (by simp [hg] <;> rfl) (by simp) (by simp <;> rfl) ?_
              refine DA_pass 11 rfl (by kernel_rfl) (by kernel_rfl) (by kernel_rfl) (by simp [hg]) (by simp) (by simp <;> rfl) ?_
              refine DA_pass 12 rfl (by kernel_rfl) (by kernel_rfl) (by kernel_rfl) (by simp [hg]) (by simp) (by simp <;> rfl) ?_
              refine DA_pass 13 rfl (by kernel_rfl) (by kernel_rfl) (by kernel_rfl) (by simp [hg]) (by simp) (by simp <;> rfl) ?_
              refine DA_pass 14 rfl (by kernel_rfl) (by kernel_rfl) (by kernel_rfl) (by simp [hg]) (by simp) (by simp <;> rfl) ?_
              refine DA_pass 15 rfl (by kernel_rfl) (by kernel_rfl) (by kernel_rfl) (by simp [hg]) (by simp) (by simp <;> rfl) ?_
              refine DA_pass 16 rfl (by kernel_rfl) (by kernel_rfl) (by kernel_rfl) (by simp [hg]) (by simp) (by simp <;> rfl) ?_
              refine DA_pass 17 rfl (by kernel_rfl) (by kernel_rfl) (by kernel_rfl) (by simp [hg]) (by simp) (by simp <;> rfl) ?_
              refine DA_pass 18 rfl (by kernel_rfl) (by kernel_rfl) (by kernel_rfl) (by simp [hg]) (by simp) (by simp <;> rfl) ?_
              refine DA_pass 19 rfl (by kernel_rfl) (by kernel_rfl) (by kernel_rfl) (by simp [hg]) (by simp) (by simp <;> rfl) ?_
              refine DA_pass 20 rfl (by kernel_rfl) (by kernel_rfl) (by kernel_rfl) (by simp [hg]) (by simp) (by simp <;> rfl) ?_
              refine DA_pass 21 rfl (by kernel_rfl) (by kernel_rfl) (by kernel_rfl) (by simp [hg]) (by simp) (by simp <;> rfl) ?_
              refine DA_take 22 tyAll rfl (by kernel_rfl) (by kernel_rfl) (by kernel_rfl) (by simp [hg]) (by simp [hg] <;> rfl) (by simp) (by simp <;> rfl) ?_
              refine DA_take 23 tyAll rfl (by kernel_rfl) (by kernel_rfl) (by kernel_rfl) (by simp) (by simp [hg] <;> rfl) (by simp) (by simp <;> rfl) ?_
              refine DA_fin (by kernel_rfl) ?_
              refine OL_formU [112,1,5,6,11,12,14,15] [] (by simp <;> rfl) (by simp <;> rfl) (OL_nil ?_)
              exact ⟨_, _, ⟨rfl, rfl⟩, (by first | rfl | simp)⟩
        rintro _ _ ⟨rfl, rfl⟩
        simp only [List.cons_append, List.nil_append]
        refine T_cond (b := false) (by simp <;> rfl) (fun h => ?_) (fun h => ?_)
        · cases h
        · skip
          refine T_skip ?_
          refine T_thenU [1,5,6,11,12,15] [] (fun c d => c = [(14, .bool (decide (team ∈ (pans n k qs).take (i + 1))))] ∧ d = []) (by simp <;> rfl) (by simp <;> rfl) ?_ ?_
          · skip
            refine (T_region ?_)
            refine OL_first 2 tyAll (by simp [hil, ← hte] <;> rfl) ?_
            dsimp only [List.drop]
            by_cases hf : team ∈ (pans n k qs).take i
            · skip
              refine OL_runs tyAll (by simp [hil, ← hte, hf] <;> rfl) ?_
              refine OL_formU [14,1,5,6,11,12,15] [] (by simp <;> rfl) (by simp <;> rfl) (OL_nil ?_)
              rw [show decide (team ∈ (pans n k qs).take (i + 1)) = true by simp [mem_take_succ ht, hf]]
              exact ⟨_, _, ⟨rfl, rfl⟩, (by first | rfl | simp)⟩
            · skip
              refine OL_first 5 tyAll (by simp [hil, ← hte, hf] <;> rfl) ?_
              dsimp only [List.drop]
              refine OL_callA [] 121000 (by simp [hil, ← hte, hf]) rfl (by simp <;> rfl) (by simp <;> rfl) (by simp) (by simp) (by simp <;> rfl) (by rfl) (f10_ok true true t team (by omega)) (by simp) ?_ ?_
              · rintro _ _ ⟨rfl, rfl⟩; simp
              rintro _ _ ⟨rfl, rfl⟩
              refine OL_state (by simp <;> rfl) ?_
              refine OL_runs tyAll (by simp [hil, ← hte, hf] <;> rfl) ?_
              refine OL_formU [14,1,5,6,11,12,15] [] (by simp <;> rfl) (by simp <;> rfl) (OL_nil ?_)
              rw [show decide (team ∈ (pans n k qs).take (i + 1)) = decide (t = team) by simp [mem_take_succ ht, hf]]
              exact ⟨_, _, ⟨rfl, rfl⟩, (by first | rfl | simp)⟩
          rintro _ _ ⟨rfl, rfl⟩
          simp only [List.cons_append, List.nil_append]
          refine (T_region ?_)
          refine OL_runs tyAll (by simp (disch := first | exact InR.mk (by omega) (by omega) | simp) [wrapR] <;> rfl) ?_
          refine OL_formU [14,15,1,5,6,11,12] [] (by simp <;> rfl) (by simp <;> rfl) (OL_nil ?_)
          exact ⟨i + 1, (by first | rfl | simp), (by omega), (by omega)⟩
      · try simp at hil
        have hin : (pans n k qs).take i = pans n k qs := List.take_of_length_le hil
        have hfo : team ∈ pans n k qs ↔ short qs team = 0 := by rw [mem_pans]; exact ⟨fun h => h.2, fun h => ⟨hteam, h⟩⟩
        simp only [hin]
        refine T_exit ?_
        refine T_seq (T_region ?_)
        refine OL_first 4 tyAll (by simp <;> rfl) ?_
        dsimp only [List.drop]
        refine OL_callA [] 127000 (by simp) rfl (by simp <;> rfl) (by simp <;> rfl) (by simp) (by simp) (by simp <;> rfl) (by rfl) (f13_ok n2 more hm 1 (pans n k qs).length (by omega)) (by simp) ?_ ?_
        · rintro _ _ ⟨b, hb, rfl, rfl⟩; simp
        rintro _ _ ⟨b, hb, rfl, rfl⟩
        refine OL_state (by simp <;> rfl) ?_
        obtain ⟨j, rfl⟩ : ∃ j : Nat, b = j := ⟨b.toNat, by omega⟩
        have hj : j < (pans n k qs).length := by omega
        have hpj : (pans n k qs)[j]? = some (pans n k qs)[j] := List.getElem?_eq_getElem hj
        obtain ⟨panel, hpe2⟩ : ∃ panel, panel = (pans n k qs)[j] := ⟨_, rfl⟩
        have hpm : panel ∈ pans n k qs := hpe2 ▸ List.getElem_mem hj
        obtain ⟨hP1, hP2, hP3⟩ := hmem panel hpm
        refine OL_runs tyAll (by simp [hj, ← hpe2] <;> rfl) ?_
        refine OL_pick [1,5,12,14,16] (by simp <;> rfl) (OL_nil ?_)
        refine T_seq (T_region ?_)
        refine OL_first 4 tyAll (by simp <;> rfl) ?_
        dsimp only [List.drop]
        refine OL_callA [] 134000 (by simp) rfl (by simp <;> rfl) (by simp <;> rfl) (by simp) (by simp) (by simp <;> rfl) (by rfl) (f13_ok n2 more hm 2 panel.length (by omega)) (by simp) ?_ ?_
        · rintro _ _ ⟨b, hb, rfl, rfl⟩; simp
        rintro _ _ ⟨b, hb, rfl, rfl⟩
        refine OL_state (by simp <;> rfl) ?_
        obtain ⟨ii, rfl⟩ : ∃ j : Nat, b = j := ⟨b.toNat, by omega⟩
        have hii : ii < panel.length := by omega
        obtain ⟨member, hme⟩ : ∃ member, member = panel[ii] := ⟨_, rfl⟩
        have hmi : panel[ii]? = some member := by rw [hme]; exact List.getElem?_eq_getElem hii
        have hix := index_of hP1.2 hmi
        refine OL_runs tyAll (by simp [hii, ← hme] <;> rfl) ?_
        refine OL_pick [5,12,14,16,17] (by simp <;> rfl) (OL_nil ?_)
        refine T_seq (T_region ?_)
        refine OL_first 3 tyAll (by simp <;> rfl) ?_
        dsimp only [List.drop]
        refine OL_callA [] 141000 (by simp) rfl (by simp <;> rfl) (by simp <;> rfl) (by simp) (by simp) (by simp <;> rfl) (by rfl) (f14_ok n k qs hv panel ⟨hP1, hP2⟩ hP3 member ii hii hix) (by simp) ?_ ?_
        · rintro _ _ ⟨rfl, rfl⟩; simp
        rintro _ _ ⟨rfl, rfl⟩
        refine OL_state (by simp <;> rfl) ?_
        refine OL_runs tyAll (by simp <;> rfl) ?_
        refine OL_freeze 141000 (by simp <;> rfl) (by simp <;> rfl) ?_
        refine OL_pick [5,12,14,16,17,18,19] (by simp <;> rfl) (OL_nil ?_)
        refine T_seq ?_
        refine T_seq (T_region ?_)
        refine OL_first 3 tyAll (by simp (disch := first | exact InR.mk (by omega) (by omega) | simp) [wrapR, hfo] <;> rfl) ?_
        dsimp only [List.drop]
        refine OL_runs tyAll (by simp (disch := first | exact InR.mk (by omega) (by omega) | simp) [wrapR, hfo] <;> rfl) ?_
        refine OL_pick [5,16,17,18,150] (by simp <;> rfl) (OL_nil ?_)
        refine T_cond (b := false) (by simp <;> rfl) (fun h => ?_) (fun h => ?_)
        · cases h
        · skip
          refine T_skip ?_
          refine T_seq ?_
          refine T_seq (T_region ?_)
          refine OL_runs tyAll (by simp <;> rfl) ?_
          refine OL_pick [5,16,17,18,20] (by simp <;> rfl) (OL_nil ?_)
          refine T_block ?_
          refine T_loopU [5,16,17,18] [20] [] (fun kk : Nat => [(20, .int .i64 kk)]) (fun kk : Nat => []) (fun kk : Nat => kk ≤ n) (fun kk : Nat => n - kk) (0) (by simp <;> rfl) (by simp <;> rfl) (by simp) (by simp) (by simp) ?_
          rintro kk hkk
          simp only [List.cons_append, List.nil_append]
          refine T_seq ?_
          refine T_seq (T_region ?_)
          refine OL_runs tyAll (by simp <;> rfl) ?_
          refine OL_pick [5,16,17,18,20,154] (by simp <;> rfl) (OL_nil ?_)
          refine T_cond (by simp <;> rfl) (fun h => ?_) (fun h => ?_)
          · try simp at h
            have hsl := subs_len n k qs panel ii n
            have hms := mem_subs (qs := qs) (k := k) (panel := panel) (i := ii) (n := n) (x := (kk : Int)) (by omega)
            refine T_skip ?_
            refine T_cutU [5,16,17,18,20] [] (fun c d => c = [] ∧ d = []) (by simp <;> rfl) (by simp <;> rfl) ?_ ?_
            · skip
              refine T_block ?_
              refine T_seq ?_
              refine T_seq (T_region ?_)
              refine OL_first 2 tyAll (by simp <;> rfl) ?_
              dsimp only [List.drop]
              refine OL_callA [] 160000 (by simp) rfl (by simp <;> rfl) (by simp <;> rfl) (by simp) (by simp) (by simp <;> rfl) (by rfl) (f15_ok true panel kk (by omega)) (by simp) ?_ ?_
              · rintro _ _ ⟨rfl, rfl⟩; simp
              rintro _ _ ⟨rfl, rfl⟩
              refine OL_state (by simp <;> rfl) ?_
              refine OL_pick [5,16,17,18,20,159] (by simp <;> rfl) (OL_nil ?_)
              refine T_cond (by simp <;> rfl) (fun hin2 => ?_) (fun hin2 => ?_)
              · try simp at hin2
                have hns : ¬ (kk : Int) ∈ subs n k qs panel ii n := fun he => (hms.1 he).1 hin2
                refine T_seq ?_
                refine T_seq (T_region ?_)
                refine OL_first 2 tyAll (by simp <;> rfl) ?_
                dsimp only [List.drop]
                refine OL_callA [] 163000 (by simp) rfl (by simp <;> rfl) (by simp <;> rfl) (by simp) (by simp) (by simp <;> rfl) (by rfl) (f15_ok true (subs n k qs panel ii n) kk (by omega)) (by simp) ?_ ?_
                · rintro _ _ ⟨rfl, rfl⟩; simp
                rintro _ _ ⟨rfl, rfl⟩
                refine OL_state (by simp <;> rfl) ?_
                refine OL_pick [5,16,17,18,20,162] (by simp <;> rfl) (OL_nil ?_)
                refine T_cond (b := false) (by simp [hns] <;> rfl) (fun h => ?_) (fun h => ?_)
                · cases h
                · skip
                  refine T_skip ?_
                  refine T_formU [5,16,17,18,20] [] (by simp <;> rfl) (by simp <;> rfl) ?_
                  refine T_exit ?_
                  exact ⟨_, _, ⟨rfl, rfl⟩, (by first | rfl | simp)⟩
              · try simp at hin2
                rw [swap_next hP1.2 hmi (by omega) hin2] at hms
                refine T_skip ?_
                refine T_seq (T_region ?_)
                refine OL_runs tyAll (by simp <;> rfl) ?_
                refine OL_rename 163 186 (by decide) (by simp) (by decide) (by simp <;> rfl) (by simp <;> rfl) ?_
                refine OL_pick [5,16,17,18,20,21] (by simp <;> rfl) (OL_nil ?_)
                refine T_seq ?_
                refine T_seq (T_region ?_)
                refine OL_runs tyAll (by simp <;> rfl) ?_
                refine OL_pick [5,16,17,18,20,21,22] (by simp <;> rfl) (OL_nil ?_)
                refine T_block ?_
                refine T_loopU [5,16,17,18,20] [21,22] [186] (fun x : Nat => [(21, .sl 186 [] 0 (nextTo kk member panel x).length), (22, .int .i64 x)]) (fun x : Nat => [(186, .own 1 ((nextTo kk member panel x).map (.int .i64 ·)))]) (fun x : Nat => x ≤ n) (fun x : Nat => n - x) (0) (by simp <;> rfl) (by simp <;> rfl) (by simp [nextTo, upto]) (by simp [nextTo, upto]) (by simp) ?_
                rintro x hx
                simp only [List.cons_append, List.nil_append]
                refine T_seq ?_
                refine T_seq (T_region ?_)
                refine OL_runs tyAll (by simp <;> rfl) ?_
                refine OL_pick [5,16,17,18,20,21,22,167] (by simp <;> rfl) (OL_nil ?_)
                refine T_cond (by simp <;> rfl) (fun h => ?_) (fun h => ?_)
                · try simp at h
                  have hxl := nextTo_len kk member panel x
                  refine T_skip ?_
                  refine T_cutU [5,16,17,18,20,22] [186] (fun c d => c = [(21, .sl 186 [] 0 (nextTo kk member panel (x + 1)).length)] ∧ d = [(186, .own 1 ((nextTo kk member panel (x + 1)).map (.int .i64 ·)))]) (by simp <;> rfl) (by simp <;> rfl) ?_ ?_
                  · skip
                    refine T_block ?_
                    refine T_seq (T_region ?_)
                    refine OL_first 4 tyAll (by simp <;> rfl) ?_
                    dsimp only [List.drop]
                    by_cases hg3 : ((x : Int) == (kk : Int)) = true
                    · skip
                      refine OL_runs tyAll (by simp [hg3] <;> rfl) ?_
                      refine OL_pick [5,16,17,18,20,21,22,182] (by simp <;> rfl) (OL_nil ?_)
                      refine T_cond (b := true) (by simp <;> rfl) (fun h9 => ?_) (fun h9 => ?_)
                      · skip
                        refine (T_region ?_)
                        refine OL_runs tyAll (by simp [show ((nextTo kk member panel x).length + 1) * 16 ≤ 281474976710656 by omega, show (nextTo kk member panel x).length ≤ 9223372036854775806 by omega] <;> rfl) ?_
                        refine OL_drop 185 (by simp <;> rfl) (by simp <;> rfl) ?_
                        refine OL_formU [21,5,16,17,18,20,22] [186] (by simp <;> rfl) (by simp <;> rfl) (OL_nil ?_)
                        rw [nextTo_succ, if_pos (.inl (by simpa using hg3))]
                        exact ⟨_, _, ⟨rfl, rfl⟩, (by first | rfl | simp)⟩
                      · cases h9
                    · skip
                      have hg3 : ((x : Int) == (kk : Int)) = false := by simpa using hg3
                      refine OL_first 4 tyAll (by simp [hg3] <;> rfl) ?_
                      dsimp only [List.drop]
                      by_cases hg7 : ((x : Int) != member) = true
                      · skip
                        refine OL_first 2 tyAll (by simp [hg3, hg7] <;> rfl) ?_
                        dsimp only [List.drop]
                        refine OL_callA [] 181000 (by simp [hg3, hg7]) rfl (by simp <;> rfl) (by simp <;> rfl) (by simp) (by simp) (by simp <;> rfl) (by rfl) (f15_ok true panel x (by omega)) (by simp) ?_ ?_
                        · rintro _ _ ⟨rfl, rfl⟩; simp
                        rintro _ _ ⟨rfl, rfl⟩
                        refine OL_state (by simp <;> rfl) ?_
                        refine OL_runs tyAll (by simp [hg3, hg7] <;> rfl) ?_
                        refine OL_pick [5,16,17,18,20,21,22,182] (by simp <;> rfl) (OL_nil ?_)
                        refine T_cond (by simp <;> rfl) (fun h9 => ?_) (fun h9 => ?_)
                        · try simp at h9
                          refine (T_region ?_)
                          refine OL_runs tyAll (by simp [show ((nextTo kk member panel x).length + 1) * 16 ≤ 281474976710656 by omega, show (nextTo kk member panel x).length ≤ 9223372036854775806 by omega] <;> rfl) ?_
                          refine OL_drop 185 (by simp <;> rfl) (by simp <;> rfl) ?_
                          refine OL_formU [21,5,16,17,18,20,22] [186] (by simp <;> rfl) (by simp <;> rfl) (OL_nil ?_)
                          rw [nextTo_succ, if_pos (.inr ⟨by simpa using hg7, h9⟩)]
                          exact ⟨_, _, ⟨rfl, rfl⟩, (by first | rfl | simp)⟩
                        · try simp at h9
                          refine T_formU [21,5,16,17,18,20,22] [186] (by simp <;> rfl) (by simp <;> rfl) ?_
                          refine T_skip ?_
                          rw [nextTo_succ, if_neg (fun h1 => h1.elim (fun h1 => by simp at hg3; omega) (fun h1 => h9 h1.2)), List.append_nil]
                          exact ⟨_, _, ⟨rfl, rfl⟩, (by first | rfl | simp)⟩
                      · skip
                        have hg7 : ((x : Int) != member) = false := by simpa using hg7
                        refine OL_runs tyAll (by simp [hg3, hg7] <;> rfl) ?_
                        refine OL_pick [5,16,17,18,20,21,22,182] (by simp <;> rfl) (OL_nil ?_)
                        refine T_cond (b := false) (by simp <;> rfl) (fun h9 => ?_) (fun h9 => ?_)
                        · cases h9
                        · skip
                          refine T_formU [21,5,16,17,18,20,22] [186] (by simp <;> rfl) (by simp <;> rfl) ?_
                          refine T_skip ?_
                          rw [nextTo_succ, if_neg (fun h1 => h1.elim (fun h1 => by simp at hg3; omega) (fun h1 => h1.1 (by simpa using hg7))), List.append_nil]
                          exact ⟨_, _, ⟨rfl, rfl⟩, (by first | rfl | simp)⟩
                  rintro _ _ ⟨rfl, rfl⟩
                  simp only [List.cons_append, List.nil_append]
                  refine (T_region ?_)
                  refine OL_runs tyAll (by simp (disch := first | exact InR.mk (by omega) (by omega) | simp) [wrapR] <;> rfl) ?_
                  refine OL_formU [21,22,5,16,17,18,20] [186] (by simp <;> rfl) (by simp <;> rfl) (OL_nil ?_)
                  exact ⟨x + 1, (by first | rfl | simp), (by omega), (by omega)⟩
                · try simp at h
                  have hxn : x = n := by omega
                  have hxl := nextTo_len kk member panel x
                  subst hxn
                  refine T_exit ?_
                  refine T_cutU [5,16,17,18,20] [] (fun c d => c = [(193, .bool false)] ∧ d = []) (by simp <;> rfl) (by simp <;> rfl) ?_ ?_
                  · skip
                    refine (T_orders mixed (n := 7) (L := #[false, false, false, false, false, false, false]) rfl rfl ?_)
                    refine DA_take 0 tyAll rfl (by kernel_rfl) (by kernel_rfl) (by kernel_rfl) (by simp) (by simp <;> rfl) (by simp) (by simp <;> rfl) ?_
                    refine DA_take 1 tyAll rfl (by kernel_rfl) (by kernel_rfl) (by kernel_rfl) (by simp) (by simp <;> rfl) (by simp) (by simp <;> rfl) ?_
                    refine DA_take 4 tyAll rfl (by kernel_rfl) (by kernel_rfl) (by kernel_rfl) (by simp) (by simp <;> rfl) (by simp) (by simp <;> rfl) ?_
                    refine DA_two 2 3 (by kernel_rfl) ?_ ?_
                    ·
                      refine D1_callA [] 190000 rfl (by simp) rfl (by simp <;> rfl) (by simp <;> rfl) (by simp) (by simp) (by simp <;> rfl) (by rfl) (f15_ok true (subs x k qs panel ii x) kk (by omega)) (by simp) ?_ ?_
                      · rintro _ _ ⟨rfl, rfl⟩; simp
                      rintro _ _ ⟨rfl, rfl⟩
                      refine DA_state (by simp <;> rfl) ?_
                      refine DA_one 3 (by kernel_rfl) ?_
                      refine D1_op tyAll rfl (by simp) (by simp <;> rfl) ?_
                      refine DA_one 5 (by kernel_rfl) ?_
                      refine D1_callA [] 193000 rfl (by simp) rfl (by simp <;> rfl) (by simp <;> rfl) (by simp) (by simp) (by simp <;> rfl) (by rfl) (f11_ok _ hv true (nextTo kk member panel x) (by omega)) (by simp) ?_ ?_
                      · rintro _ _ ⟨rfl, rfl⟩; simp
                      rintro _ _ ⟨rfl, rfl⟩
                      refine DA_state (by simp <;> rfl) ?_
                      refine DA_take 6 tyAll rfl (by kernel_rfl) (by kernel_rfl) (by kernel_rfl) (by simp) (by simp [hms, hin2] <;> rfl) (by simp) (by simp <;> rfl) ?_
                      refine DA_fin (by kernel_rfl) ?_
                      refine OL_formU [193,5,16,17,18,20] [] (by simp <;> rfl) (by simp <;> rfl) (OL_nil ?_)
                      exact ⟨_, _, ⟨rfl, rfl⟩, (by first | rfl | simp)⟩
                    ·
                      refine D1_op tyAll rfl (by simp) (by simp <;> rfl) ?_
                      refine DA_one 2 (by kernel_rfl) ?_
                      refine D1_callA [] 190000 rfl (by simp) rfl (by simp <;> rfl) (by simp <;> rfl) (by simp) (by simp) (by simp <;> rfl) (by rfl) (f15_ok true (subs x k qs panel ii x) kk (by omega)) (by simp) ?_ ?_
                      · rintro _ _ ⟨rfl, rfl⟩; simp
                      rintro _ _ ⟨rfl, rfl⟩
                      refine DA_state (by simp <;> rfl) ?_
                      refine DA_one 5 (by kernel_rfl) ?_
                      refine D1_callA [] 193000 rfl (by simp) rfl (by simp <;> rfl) (by simp <;> rfl) (by simp) (by simp) (by simp <;> rfl) (by rfl) (f11_ok _ hv true (nextTo kk member panel x) (by omega)) (by simp) ?_ ?_
                      · rintro _ _ ⟨rfl, rfl⟩; simp
                      rintro _ _ ⟨rfl, rfl⟩
                      refine DA_state (by simp <;> rfl) ?_
                      refine DA_take 6 tyAll rfl (by kernel_rfl) (by kernel_rfl) (by kernel_rfl) (by simp) (by simp [hms, hin2] <;> rfl) (by simp) (by simp <;> rfl) ?_
                      refine DA_fin (by kernel_rfl) ?_
                      refine OL_formU [193,5,16,17,18,20] [] (by simp <;> rfl) (by simp <;> rfl) (OL_nil ?_)
                      exact ⟨_, _, ⟨rfl, rfl⟩, (by first | rfl | simp)⟩
                  rintro _ _ ⟨rfl, rfl⟩
                  simp only [List.cons_append, List.nil_append]
                  refine T_cond (b := false) (by simp <;> rfl) (fun h => ?_) (fun h => ?_)
                  · cases h
                  · skip
                    refine T_drop 186 (by simp <;> rfl) (by simp <;> rfl) ?_
                    refine T_formU [5,16,17,18,20] [] (by simp <;> rfl) (by simp <;> rfl) ?_
                    refine T_skip ?_
                    exact ⟨_, _, ⟨rfl, rfl⟩, (by first | rfl | simp)⟩
            rintro _ _ ⟨rfl, rfl⟩
            simp only [List.cons_append, List.nil_append]
            refine (T_region ?_)
            refine OL_runs tyAll (by simp (disch := first | exact InR.mk (by omega) (by omega) | simp) [wrapR] <;> rfl) ?_
            refine OL_formU [20,5,16,17,18] [] (by simp <;> rfl) (by simp <;> rfl) (OL_nil ?_)
            exact ⟨kk + 1, (by first | rfl | simp), (by omega), (by omega)⟩
          · try simp at h
            refine T_exit ?_
            refine T_seq (T_region ?_)
            refine OL_runs tyAll (by simp <;> rfl) ?_
            refine OL_pick [4] (by simp <;> rfl) (OL_nil ?_)
            refine T_ret ⟨_, (by simp <;> rfl), rfl, rfl⟩

end Go.Lite.LT
