/- Part 2 of 5 of the proof: contracts on trees of values, without conditions of their own beyond those that each theorem states. -/
import Derived.Test.YtedipagekajipaaL1
import Derived.StillTail
import Derived.Lib.SliceRun
import Derived.Below

/- New variables, slices made whole, append: sound. -/
namespace Go.Lite

section
variable {P : Program} {ty : Nat → TyI} {E : Env} {I : Nat → Prop} {h : Nat → Value} {F : Nat → List Nat} {st : St} {a : Act} {w : World}

/-- an object made of things that lie nowhere else, and of one new block -/
theorem SatW.fresh_obj (hs : SatW E I h F st a w) {d : Nat} (hd : d < argName) {x : V} {hv : Value} {G : List Nat} {o : Obj}
    (hroot : x.isRoot = true) (hr : Lite.rep (hp { w with heap := w.heap.push o }) I x [hv] (w.heap.size :: G)) (hnd : G.Nodup)
    (hdj : ∀ m, ∀ b ∈ G, b ∉ F m) (hfr : ∀ b ∈ G, b < w.heap.size ∧ ¬ I b ∧ (E.base ≤ b ∨ b ∈ E.A)) :
    ∃ h' F', SatW E I h' F' (Lite.create d x st) a { w with heap := w.heap.push o } ∧ h' d = hv := by
  refine ⟨_, _, (hs.push o).create hroot hr ?_ ?_ ?_ hd, upd_same _ _ _⟩
  · rw [List.nodup_cons]; exact ⟨fun hb => Nat.lt_irrefl _ (hfr _ hb).1, hnd⟩
  · intro m b hb
    rcases List.mem_cons.1 hb with h | h
    · subst h; intro hb2; exact Nat.lt_irrefl _ (hs.fresh m _ hb2).1
    · exact hdj m b h
  · intro b hb
    rcases List.mem_cons.1 hb with h | h
    · subst h; exact ⟨by simp, fun hI => Nat.lt_irrefl _ (hs.imm _ hI), .inl hs.grow⟩
    · obtain ⟨k1, k2, k3⟩ := hfr b h; exact ⟨by simp; omega, k2, k3⟩

/-- the slot of a new object -/
theorem handle_ref {d : Nat} {x : V} {b : Nat} (ho : st.o d = .bx x) (hh : h d = .pointer (some ⟨b, 0, none⟩)) : SV (hp w) I h st.o (.ref d []) (.pointer (some ⟨b, 0, none⟩)) := by
  simp only [SV, SV1, srep]
  exact ⟨(b, 0), x, by rw [ho, hh]; cases x <;> simp [rnav, nav], by rw [ho]; cases x <;> simp [rget, V.get], rfl⟩

theorem SatW.handle_sl (hs : SatW E I h F st a w) {d : Nat} {s : Nat} {ys : List V} (ho : st.o d = .own s ys) : SV (hp w) I h st.o (.sl d [] 0 ys.length) (h d) := by
  have hrep := hs.rep (n := d) (by rw [ho]; rfl)
  rw [ho] at hrep
  simp only [Lite.rep] at hrep
  obtain ⟨b, o, cap, c, e, G, ds, hhv, hcap, _⟩ := hrep
  have hhv' : h d = .slice (some ⟨b, o, none⟩) ys.length cap := by simpa using hhv
  simp only [SV, SV1, srep]
  exact ⟨s, ys, b, o, ys.length, cap, by rw [ho]; simp [rget, V.get], by rw [ho]; simp [rhdr, hhv'], by omega, hcap, o, by rw [hhv']; simp, .inl (by simp)⟩

theorem Stp_alloc (hty : TyOk P ty) {o : Oper} {t d : Nat} (ho : o.op = .alloc t) (hdst : o.dst = some d) (hk : (ty t).known = true) (hz : (ty t).z ≠ .dead) (hd : d < st.n) (hd2 : d < argName) :
    Stp P o st (put (create d (.bx (ty t).z) st) (some d) (.ref d [])) := by
  intro E I h F a w hs
  obtain ⟨i, zv, hi, hzv, hm, _, _⟩ := hty.zero hk hz
  obtain ⟨ds, hds, _, hrep⟩ := zm_ok (H := hp w) (I := I) (h := h) (o := st.o) hm
  simp only [List.append_nil] at hds
  have hrep' : rep (hp { w with heap := w.heap.push (.cells zv.cells t) }) I (.bx (ty t).z) [.pointer (some ⟨w.heap.size, 0, none⟩)] (w.heap.size :: []) := by
    simp only [rep]
    refine ⟨w.heap.size, zv.cells, t, [], ds, rfl, rfl, push_new _ _, rep_mono (fun _ h => h) (fun b hb => push_old _ _ (hs.imm b hb)) (by simp) hrep, ?_⟩
    intro k hk; rw [← hds]; simp
  obtain ⟨h', F', hs', hh'⟩ := hs.fresh_obj hd2 (G := []) rfl hrep' (by simp) (by simp) (by simp)
  refine ⟨.value (.pointer (some ⟨w.heap.size, 0, none⟩)), { w with heap := w.heap.push (.cells zv.cells t) }, _, I, ?_, .inl rfl, fun _ h => h, h', F', ?_⟩
  · simp only [execOp, ho, Instr.alloc]
    simp [zeroValue, typeInfo, hi, hzv, newVar, newRow]
  · rw [hdst]
    exact hs'.put (by simp [dOk, create, hd]) (handle_ref (x := (ty t).z) (by simp [create, upd_same]) hh')

theorem Stp_box {o : Oper} {t d : Nat} {x : Operand} {y : V} {st1 : St} {K : List (Nat × List Nat)} (ho : o.op = .box t x) (hdst : o.dst = some d)
    (ha : absorb st (ev st x) = some (y, st1, K)) (hd : d < st.n) (hd2 : d < argName) :
    Stp P o st (put (create d (.bx y) st1) (some d) (.ref d [])) := by
  intro E I h F a w hs
  have hx := hs.ev x
  have hpart : (ev st x).part = true := by
    cases hq : ev st x <;> rw [hq] at ha <;> simp [absorb] at ha <;> simp [V.part]
  have hcells := SV_cells hx hpart
  obtain ⟨F1, G, hs1, hrep, hnd, hdj, hin, hsub, hn1, _⟩ := absorb_ok hs hcells ha
  have hfr : ∀ b ∈ G, b < w.heap.size ∧ ¬ I b ∧ (E.base ≤ b ∨ b ∈ E.A) := by
    intro b hb; obtain ⟨m, hm⟩ := hin b hb; exact hs.fresh m b hm
  have hrep' : rep (hp { w with heap := w.heap.push (.cells (a.eval x).cells t) }) I (.bx y) [.pointer (some ⟨w.heap.size, 0, none⟩)] (w.heap.size :: G) := by
    simp only [rep]
    refine ⟨w.heap.size, (a.eval x).cells, t, G, (a.eval x).cells.toList, rfl, rfl, push_new _ _, rep_mono (fun _ h => h) (fun b hb => push_old _ _ (hs.imm b hb)) (fun b hb => push_old _ _ (hfr b hb).1) hrep, ?_⟩
    intro k hk; simp
  obtain ⟨h', F', hs', hh'⟩ := hs1.fresh_obj hd2 rfl hrep' hnd hdj hfr
  refine ⟨.value (.pointer (some ⟨w.heap.size, 0, none⟩)), { w with heap := w.heap.push (.cells (a.eval x).cells t) }, _, I, ?_, .inl rfl, fun _ h => h, h', F', ?_⟩
  · simp only [execOp, ho, Instr.box]
    simp [newVar, newRow]
  · rw [hdst]
    exact hs'.put (by simp [dOk, create, hn1, hd]) (handle_ref (x := y) (by simp [create, upd_same]) hh')

/-! slices written out -/
theorem wr_wr (ds es : List Value) : ∀ (c : Array Value) (o : Nat), wr (wr c o ds) (o + ds.length) es = wr c o (ds ++ es) := by
  induction ds with
  | nil => intro c o; rfl
  | cons d ds ih => intro c o; simp only [wr, List.cons_append, List.length_cons]; rw [← ih]; congr 1; omega

theorem wr_all (c : Array Value) (ds : List Value) (hl : ds.length = c.size) : wr c 0 ds = ds.toArray := by
  apply Array.ext_getElem?
  intro k
  by_cases hk : k < ds.length
  · have := wr_in ds c 0 (by omega) k hk
    simpa using this
  · rw [Array.getElem?_eq_none (by rw [wr_size]; omega), Array.getElem?_eq_none (by simp; omega)]

theorem fill_seq {s : Nat} : ∀ (vs : List Value) (k : Nat) (c : Array Value), (∀ v ∈ vs, v.cells.size = s) → k * s + vs.length * s ≤ c.size →
    Instr.fill (fun i => some (i * s, s)) c ((List.range' k vs.length).zip vs) = some (wr c (k * s) (vs.flatMap fun v => v.cells.toList))
  | [], k, c, _, _ => by simp [Instr.fill, wr]
  | v :: vs, k, c, hs, hl => by
    have hv := hs v (by simp)
    have hvl : v.cells.toList.length = s := by simp [hv]
    simp only [List.length_cons, List.range'_succ, List.zip_cons_cons, Instr.fill, List.flatMap_cons]
    have hl' : k * s + s + vs.length * s ≤ c.size := by simp only [List.length_cons, Nat.add_mul] at hl; omega
    have hb : (v.cells.size ≠ s || decide (k * s + v.cells.size > c.size)) = false := by
      simp [hv]; omega
    rw [hb, if_neg (by simp)]
    have hf := foldl_set v.cells.toList c (k * s) (by rw [hvl]; omega)
    simp only [Array.toArray_toList] at hf
    rw [hf, fill_seq vs (k + 1) _ (fun u hu => hs u (by simp [hu])) (by rw [wr_size, Nat.add_mul]; omega)]
    congr 1
    rw [← wr_wr]
    congr 1
    rw [hvl, Nat.add_mul]; omega

theorem absorbL_of (hs : SatW E I h F st a w) : ∀ {xs : List V} {vs : List Value}, xs.length = vs.length → (∀ (i : Nat) x v, xs[i]? = some x → vs[i]? = some v → SV (hp w) I h st.o x v) → (∀ x ∈ xs, x.part = true) →
    srepL (hp w) I h st.o xs (vs.flatMap fun v => v.cells.toList)
  | [], vs, hl, _, _ => by
    have : vs = [] := List.eq_nil_of_length_eq_zero (by simpa using hl.symm)
    subst this; simp [srepL]
  | x :: xs, vs, hl, hv, hp => by
    cases vs with
    | nil => simp at hl
    | cons v vs =>
      simp only [List.flatMap_cons, srepL]
      refine ⟨_, _, rfl, SV_cells (hv 0 x v (by simp) (by simp)) (hp x (by simp)), absorbL_of hs (by simpa using hl) (fun i x u h1 h2 => hv (i + 1) x u (by simpa using h1) (by simpa using h2)) (fun y hy => hp y (by simp [hy]))⟩

theorem absorbL_part : ∀ {xs : List V} {st st' : St} {ys : List V} {K : List (Nat × List Nat)}, absorbL st xs = some (ys, st', K) → (∀ x ∈ xs, x.part = true) ∧ ys.length = xs.length
  | [], st, st', ys, K, ha => by simp only [absorbL, Option.some.injEq, Prod.mk.injEq] at ha; obtain ⟨rfl, _⟩ := ha; simp
  | x :: xs, st, st', ys, K, ha => by
    simp only [absorbL] at ha
    split at ha
    · rename_i y st1 K1 h1
      split at ha
      · cases ha
      · split at ha
        · rename_i zs st2 K2 h2
          simp only [Option.some.injEq, Prod.mk.injEq] at ha
          obtain ⟨rfl, rfl, rfl⟩ := ha
          obtain ⟨k1, k2⟩ := absorbL_part h2
          refine ⟨fun z hz => ?_, by simp [k2]⟩
          rcases List.mem_cons.1 hz with h | h
          · subst h; cases z <;> simp [absorb] at h1 <;> simp [V.part]
          · exact k1 z h
        · cases ha
    · cases ha

mutual
theorem absorb_size : ∀ {x : V} {st st' : St} {y : V} {K : List (Nat × List Nat)}, absorb st x = some (y, st', K) → y.size = x.size
  | .sl n p off len, st, st', y, K, ha => by
    simp only [absorb] at ha
    split at ha
    · simp only [Option.some.injEq, Prod.mk.injEq] at ha; obtain ⟨rfl, _⟩ := ha; rfl
    · split at ha
      · simp only [Option.some.injEq, Prod.mk.injEq] at ha; obtain ⟨rfl, _⟩ := ha; rfl
      · cases ha
  | .agg fs, st, st', y, K, ha => by
    simp only [absorb] at ha
    split at ha
    · rename_i gs st1 K1 h1
      simp only [Option.some.injEq, Prod.mk.injEq] at ha; obtain ⟨rfl, _⟩ := ha
      simp only [V.size]; exact absorbL_size h1
    · cases ha
  | .fn f cs, st, st', y, K, ha => by
    simp only [absorb] at ha
    split at ha
    · simp only [Option.some.injEq, Prod.mk.injEq] at ha; obtain ⟨rfl, _⟩ := ha; rfl
    · cases ha
  | .ref _ _, st, st', y, K, ha => by
    simp only [absorb] at ha
    split at ha
    · simp only [Option.some.injEq, Prod.mk.injEq] at ha; obtain ⟨rfl, _, _⟩ := ha; rfl
    · cases ha
  | .tup _, st, st', y, K, ha => by simp [absorb] at ha
  | .own _ _, st, st', y, K, ha => by simp [absorb] at ha
  | .bx _, st, st', y, K, ha => by simp [absorb] at ha
  | .dead, st, st', y, K, ha => by simp [absorb] at ha
  | .int k n, st, st', y, K, ha => by simp only [absorb, Option.some.injEq, Prod.mk.injEq] at ha; obtain ⟨rfl, _⟩ := ha; rfl
  | .bool b, st, st', y, K, ha => by simp only [absorb, Option.some.injEq, Prod.mk.injEq] at ha; obtain ⟨rfl, _⟩ := ha; rfl
  | .str s, st, st', y, K, ha => by simp only [absorb, Option.some.injEq, Prod.mk.injEq] at ha; obtain ⟨rfl, _⟩ := ha; rfl
  | .nilp, st, st', y, K, ha => by simp only [absorb, Option.some.injEq, Prod.mk.injEq] at ha; obtain ⟨rfl, _⟩ := ha; rfl
  | .nilfn, st, st', y, K, ha => by simp only [absorb, Option.some.injEq, Prod.mk.injEq] at ha; obtain ⟨rfl, _⟩ := ha; rfl
  | .nilif, st, st', y, K, ha => by simp only [absorb, Option.some.injEq, Prod.mk.injEq] at ha; obtain ⟨rfl, _⟩ := ha; rfl
  | .err, st, st', y, K, ha => by simp only [absorb, Option.some.injEq, Prod.mk.injEq] at ha; obtain ⟨rfl, _⟩ := ha; rfl
  | .isl nn s xs, st, st', y, K, ha => by simp only [absorb, Option.some.injEq, Prod.mk.injEq] at ha; obtain ⟨rfl, _⟩ := ha; rfl
  | .iptr z, st, st', y, K, ha => by simp only [absorb, Option.some.injEq, Prod.mk.injEq] at ha; obtain ⟨rfl, _⟩ := ha; rfl
theorem absorbL_size : ∀ {xs : List V} {st st' : St} {ys : List V} {K : List (Nat × List Nat)}, absorbL st xs = some (ys, st', K) → sizeL ys = sizeL xs
  | [], st, st', ys, K, ha => by simp only [absorbL, Option.some.injEq, Prod.mk.injEq] at ha; obtain ⟨rfl, _⟩ := ha; rfl
  | x :: xs, st, st', ys, K, ha => by
    simp only [absorbL] at ha
    split at ha
    · rename_i y st1 K1 h1
      split at ha
      · cases ha
      · split at ha
        · rename_i zs st2 K2 h2
          simp only [Option.some.injEq, Prod.mk.injEq] at ha
          obtain ⟨rfl, _⟩ := ha
          simp [sizeL, absorb_size h1, absorbL_size h2]
        · cases ha
    · cases ha
end

theorem absorbL_sizes {s : Nat} : ∀ {xs : List V} {st st' : St} {ys : List V} {K : List (Nat × List Nat)}, absorbL st xs = some (ys, st', K) → (∀ y ∈ ys, y.size = s) → ∀ x ∈ xs, x.size = s
  | [], st, st', ys, K, ha, _, x, hx => by simp at hx
  | x :: xs, st, st', ys, K, ha, hy, z, hz => by
    simp only [absorbL] at ha
    split at ha
    · rename_i y st1 K1 h1
      split at ha
      · cases ha
      · split at ha
        · rename_i zs st2 K2 h2
          simp only [Option.some.injEq, Prod.mk.injEq] at ha
          obtain ⟨rfl, _⟩ := ha
          rcases List.mem_cons.1 hz with h | h
          · subst h; rw [← absorb_size h1]; exact hy y (by simp)
          · exact absorbL_sizes h2 (fun u hu => hy u (by simp [hu])) z h
        · cases ha
    · cases ha

/-- all parts, in their order -/
def inOrder : Nat → List (Nat × Operand) → Bool
  | _, [] => true
  | k, (i, _) :: r => i == k && inOrder (k + 1) r

theorem inOrder_range : ∀ {k : Nat} {ps : List (Nat × Operand)}, inOrder k ps = true → ps.map (·.1) = List.range' k ps.length
  | k, [], _ => rfl
  | k, (i, x) :: r, hi => by
    simp only [inOrder, Bool.and_eq_true, beq_iff_eq] at hi
    simp only [List.map_cons, List.length_cons, List.range'_succ, hi.1, inOrder_range hi.2]

def allSize (s : Nat) : List V → Bool
  | [] => true
  | x :: xs => x.size == s && allSize s xs

theorem allSize_ok {s : Nat} : ∀ {xs : List V}, allSize s xs = true → ∀ x ∈ xs, x.size = s
  | [], _, x, hx => by simp at hx
  | y :: ys, h, x, hx => by
    simp only [allSize, Bool.and_eq_true, beq_iff_eq] at h
    rcases List.mem_cons.1 hx with he | he
    · subst he; exact h.1
    · exact allSize_ok h.2 x he

theorem Stp_buildSlice (hty : TyOk P ty) {o : Oper} {t d len s e : Nat} {ps : Array (Nat × Operand)} {ys : List V} {st1 : St} {K : List (Nat × List Nat)} (ho : o.op = .buildSlice t len ps) (hdst : o.dst = some d)
    (hk : elemSz ty t = some s) (hkd : (ty t).kd = .slice e) (hz : (ty e).z ≠ .dead) (hin : inOrder 0 ps.toList = true) (hlen : ps.toList.length = len) (hsm : len * s ≤ 16777216)
    (ha : absorbL st (ps.toList.map fun p => ev st p.2) = some (ys, st1, K)) (hsz : allSize s ys = true) (hd : d < st.n) (hd2 : d < argName) :
    Stp P o st (put (create d (.own s ys) st1) (some d) (.sl d [] 0 len)) := by
  intro E I h F a w hs
  obtain ⟨e', ie, hu, hie, hsz', hkd', hke⟩ := elemSz_ok hty hk
  rw [hkd] at hkd'
  obtain rfl : e = e' := by simpa using hkd'
  obtain ⟨i, zv, hi, hzv, hm, _, _⟩ := hty.zero hke hz
  rw [hie] at hi
  obtain rfl : ie = i := by simpa using hi
  obtain ⟨hpart, hyl⟩ := absorbL_part ha
  have hcells := absorbL_of hs (xs := ps.toList.map fun p => ev st p.2) (vs := ps.toList.map fun p => a.eval p.2) (by simp) (by
    intro k x v hx hv
    rw [List.getElem?_map] at hx hv
    cases hq : ps.toList[k]? with
    | none => simp [hq] at hx
    | some q => simp [hq] at hx hv; subst hx hv; exact hs.ev q.2) hpart
  obtain ⟨F1, G, hs1, hrep, hnd, hdj, hinF, hsub, hn1, _⟩ := absorbL_ok hs hcells ha
  have hyn : ys.length = len := by rw [hyl]; simpa using hlen
  have hpv : ∀ v ∈ (ps.toList.map fun p => a.eval p.2), v.cells.size = s := by
    intro v hv
    obtain ⟨q, hq, rfl⟩ := List.mem_map.1 hv
    have h1 := srep_len (SV_cells (hs.ev q.2) (hpart _ (List.mem_map.2 ⟨q, hq, rfl⟩)))
    rw [← Array.length_toList, h1]
    exact absorbL_sizes ha (allSize_ok hsz) _ (List.mem_map.2 ⟨q, hq, rfl⟩)
  generalize hcs : ((ps.toList.map fun p => a.eval p.2).flatMap fun v => v.cells.toList) = cs at hrep
  have hcl : cs.length = len * s := by rw [repL_len hrep, sizeL_uni (s := s) (allSize_ok hsz), hyn]
  have hfr : ∀ b ∈ G, b < w.heap.size ∧ ¬ I b ∧ (E.base ≤ b ∨ b ∈ E.A) := by
    intro b hb; obtain ⟨m, hm⟩ := hinF b hb; exact hs.fresh m b hm
  have hrep' : rep (hp { w with heap := w.heap.push (.cells cs.toArray e) }) I (.own s ys) [.slice (some ⟨w.heap.size, 0, none⟩) len len] (w.heap.size :: G) := by
    simp only [rep]
    refine ⟨w.heap.size, 0, len, cs.toArray, e, G, cs, by rw [hyn], by omega, rfl, push_new _ _, by simp [hcl], repL_mono (fun _ h => h) (fun b hb => push_old _ _ (hs.imm b hb)) (fun b hb => push_old _ _ (hfr b hb).1) hrep, allSize_ok hsz, ?_⟩
    intro k hk; simp
  obtain ⟨h', F', hs', hh'⟩ := hs1.fresh_obj hd2 rfl hrep' hnd hdj hfr
  refine ⟨.value (.slice (some ⟨w.heap.size, 0, none⟩) len len), { w with heap := w.heap.push (.cells cs.toArray e) }, _, I, ?_, .inl rfl, fun _ h => h, h', F', ?_⟩
  · have hfill : Instr.fill (fun i => some (i * ie.size, ie.size)) ((Array.range (len * ie.size)).map ((if len * ie.size = 0 then #[] else zv.cells)[· % (if len * ie.size = 0 then #[] else zv.cells).size]!)) ((ps.toList.map fun p => (p.1, a.eval p.2))) = some cs.toArray := by
      rw [hsz']
      have h1 : (ps.toList.map fun p => (p.1, a.eval p.2)) = (List.range' 0 (ps.toList.map fun p => a.eval p.2).length).zip (ps.toList.map fun p => a.eval p.2) := by
        have := inOrder_range hin
        rw [List.length_map, ← this]
        rw [List.zip_map']
      rw [h1, fill_seq _ 0 _ hpv (by simp at hlen ⊢; rw [hlen]; omega)]
      rw [hcs, Nat.zero_mul, wr_all _ _ (by simp [hcl])]
    simp only [execOp, ho, Instr.buildSlice]
    have hsm' : ¬ (len * ie.size > 2 ^ 24) := by rw [hsz']; omega
    simp only [Sem.run_bind, run_underlying hu, Result.andThen_ok]
    have hso : (sizeOf e).run P w = .ok ie.size w := by simp [sizeOf, typeInfo, hie]
    simp only [hso, Result.andThen_ok]
    rw [if_neg hsm']
    have hps : (ps.map fun (x : Nat × Operand) => match x with | (i, x) => (i, a.eval x)).toList = ps.toList.map fun p => (p.1, a.eval p.2) := by
      rw [Array.toList_map]
    rw [hps]
    have hzv' : (zeroValue e).run P w = .ok zv w := by simp [zeroValue, typeInfo, hie, hzv]
    by_cases h0 : len * ie.size = 0
    · simp only [h0, if_true] at hfill ⊢
      simp only [pure_bind]
      rw [hfill]
      simp [newRow]
    · simp only [h0, if_false] at hfill ⊢
      simp only [Sem.run_bind, pure_bind, hzv', Result.andThen_ok]
      rw [hfill]
      simp [newRow]
  · rw [hdst]
    refine hs'.put (by simp [dOk, create, hn1, hd]) ?_
    have := hs'.handle_sl (d := d) (s := s) (ys := ys) (by simp [create, upd_same])
    rw [hh', hyn] at this; exact this
end
end Go.Lite

/- make and append: sound. -/
namespace Go.Lite

section
variable {P : Program} {ty : Nat → TyI} {E : Env} {I : Nat → Prop} {h : Nat → Value} {F : Nat → List Nat} {st : St} {a : Act} {w : World}

theorem repL_replicate {H : Heap} {x : V} {ds : List Value} (hr : rep H I x ds []) : ∀ n, repL H I (List.replicate n x) ((List.replicate n ds).flatten) []
  | 0 => by simp [repL]
  | n + 1 => by
    simp only [List.replicate_succ, List.flatten_cons, repL]
    exact ⟨ds, _, [], [], rfl, rfl, hr, repL_replicate hr n⟩

theorem zeros_list (ds : Array Value) (s : Nat) (hs : ds.size = s) : ∀ n, (List.range (n * s)).map (fun i => ds[i % s]!) = (List.replicate n ds.toList).flatten
  | 0 => by simp
  | n + 1 => by
    have ih := zeros_list ds s hs n
    rw [Nat.add_mul, Nat.one_mul, List.range_add, List.map_append, ih, List.replicate_succ', List.flatten_append]
    congr 1
    simp only [List.map_map, List.flatten_cons, List.flatten_nil, List.append_nil]
    apply List.ext_getElem?
    intro k
    rw [List.getElem?_map]
    by_cases hk : k < s
    · rw [List.getElem?_range hk]
      simp only [Option.map_some, Function.comp]
      have : (n * s + k) % s = k := by rw [Nat.mul_comm, Nat.mul_add_mod, Nat.mod_eq_of_lt hk]
      rw [this]
      simp [hs, hk]
    · have h1 : (List.range s)[k]? = none := List.getElem?_eq_none (by simp; omega)
      rw [h1]
      rw [List.getElem?_eq_none (by simp [hs]; omega)]
      rfl

theorem wrap_small {n : Int} (h0 : 0 ≤ n) (h1 : n ≤ 281474976710656) : IntKind.i64.wrap n = n := by
  simp only [IntKind.wrap, IntKind.bits, IntKind.signed]
  have : n % (2 ^ 64 : Int) = n := by omega
  simp only [this]
  rw [if_neg]
  simp; omega

theorem Stp_makeSlice (hty : TyOk P ty) {o : Oper} {t d s e : Nat} {x y : Operand} {l c : Int} {k1 k2 : IntKind} (ho : o.op = .makeSlice t x y) (hdst : o.dst = some d)
    (hk : elemSz ty t = some s) (hkd : (ty t).kd = .slice e) (hz : (ty e).z ≠ .dead) (hzz : (ty e).z.size = s) (hx : ev st x = .int k1 l) (hy : ev st y = .int k2 c)
    (h0 : 0 ≤ l) (h1 : l ≤ c) (h2 : c ≤ 281474976710656) (h3 : (ty e).bytes * c ≤ 281474976710656) (hd : d < st.n) (hd2 : d < argName) :
    Stp P o st (put (create d (.own s (List.replicate l.toNat (ty e).z)) st) (some d) (.sl d [] 0 l.toNat)) := by
  intro E I h F a w hs
  obtain ⟨e', ie, hu, hie, hsz', hkd', hke⟩ := elemSz_ok hty hk
  rw [hkd] at hkd'
  obtain rfl : e = e' := by simpa using hkd'
  obtain ⟨i, zv, hi, hzv, hm, hsz2, hby⟩ := hty.zero hke hz
  rw [hie] at hi
  obtain rfl : ie = i := by simpa using hi
  obtain ⟨ds, hds, _, hrep⟩ := zm_ok (H := hp w) (I := I) (h := h) (o := st.o) hm
  simp only [List.append_nil] at hds
  have hdl : ds.length = (ty e).z.size := rep_len hrep
  have hzs : zv.cells.size = ds.length := by rw [← hds]; simp
  have hxv := hs.ev x; rw [hx, SV_int] at hxv
  have hyv := hs.ev y; rw [hy, SV_int] at hyv
  have hsd : ds.length = s := by rw [hdl, hzz]
  · have hcells : repL (hp w) I (List.replicate l.toNat (ty e).z ++ List.replicate (c.toNat - l.toNat) (ty e).z) ((List.replicate c.toNat ds).flatten) [] := by
      rw [List.replicate_append_replicate, show l.toNat + (c.toNat - l.toNat) = c.toNat by omega]; exact repL_replicate hrep _
    obtain ⟨d1, d2, G1, G2, hd12, hG, r1, _⟩ := repL_app.1 hcells
    have hG1 : G1 = [] := by cases G1 <;> simp at hG ⊢
    subst hG1
    let w' : World := { w with heap := w.heap.push (.cells (d1 ++ d2).toArray e) }
    have hrep' : rep (hp w') I (.own s (List.replicate l.toNat (ty e).z)) [.slice (some ⟨w.heap.size, 0, none⟩) l.toNat c.toNat] (w.heap.size :: []) := by
      simp only [rep]
      refine ⟨w.heap.size, 0, c.toNat, (d1 ++ d2).toArray, e, [], d1, by simp, by simp; omega, rfl, push_new _ _, ?_, repL_mono (fun _ h => h) (fun b hb => push_old _ _ (hs.imm b hb)) (by simp) r1, ?_, ?_⟩
      · have : (d1 ++ d2).length = c.toNat * s := by rw [← hd12]; simp [hsd]
        simp at this ⊢; omega
      · intro z hz; rw [List.eq_of_mem_replicate hz, ← hdl, hsd]
      · intro k hk; simp [List.getElem?_append_left hk]
    obtain ⟨h', F', hs', hh'⟩ := hs.fresh_obj hd2 rfl hrep' (by simp) (by simp) (by simp)
    refine ⟨.value (.slice (some ⟨w.heap.size, 0, none⟩) l.toNat c.toNat), w', _, I, ?_, .inl rfl, fun _ h => h, h', F', ?_⟩
    · have hwl := wrap_small h0 (by omega : l ≤ 281474976710656)
      have hwc := wrap_small (by omega : 0 ≤ c) h2
      have hbb : (ie.bytes : Int) * c ≤ 281474976710656 := by rw [hby]; exact h3
      simp only [execOp, ho, Instr.makeSlice, hxv, hyv]
      have hti : (typeInfo e).run P w = .ok ie w := by simp [typeInfo, hie]
      simp only [Sem.run_bind, run_underlying hu, Result.andThen_ok, asInt, asIntOf, Sem.run_pure, hti, hwl, hwc]
      have hq : ¬ ((ie.bytes : Int) * c > 2 ^ 48) := by
        have : (2 : Int) ^ 48 = 281474976710656 := by decide
        rw [this]; omega
      rw [if_neg (by
        simp only [Bool.or_eq_true, decide_eq_true_eq, not_or]
        exact ⟨⟨⟨by omega, hq⟩, by omega⟩, by omega⟩)]
      have hzv' : (zeroValue e).run P w = .ok zv w := by simp [zeroValue, typeInfo, hie, hzv]
      have hso : (sizeOf e).run P w = .ok s w := by simp [sizeOf, typeInfo, hie, hsz']
      simp only [Sem.run_bind, run_askRoom, Result.andThen_ok, hso]
      have harr : ∀ z : Array Value, (c.toNat * s = 0 ∨ z = zv.cells) → (Array.range (c.toNat * s)).map (fun i => z[i % z.size]!) = (d1 ++ d2).toArray := by
        intro z hz
        rcases hz with hz | hz
        · rw [← hd12]
          have : (List.replicate c.toNat ds).flatten = [] := by
            apply List.eq_nil_of_length_eq_zero; simp [hsd, hz]
          rw [this, hz]; apply Array.ext_getElem?; intro k; simp
        · subst hz
          have := zeros_list zv.cells s (by rw [hzs, hsd]) c.toNat
          rw [hds, hd12] at this
          rw [← this, hzs, hsd]
          apply Array.ext_getElem?; intro k
          simp only [Array.getElem?_map, List.getElem?_toArray, List.getElem?_map]
          congr 1
          by_cases hk : k < c.toNat * s
          · rw [List.getElem?_range hk]; simp [hk]
          · rw [List.getElem?_eq_none (by simp; omega), Array.getElem?_eq_none (by simp; omega)]
      by_cases hn : c.toNat * s = 0
      · simp only [hn, if_true]
        have := harr #[] (.inl hn)
        rw [hn] at this
        simp only [Sem.run_bind, newRow, run_newObj, Sem.run_pure, Result.andThen_ok, this]
        rfl
      · simp only [hn, if_false, Sem.run_bind, hzv', Sem.run_pure, Result.andThen_ok]
        have := harr zv.cells (.inr rfl)
        simp only [newRow, Sem.run_bind, run_newObj, Sem.run_pure, Result.andThen_ok, this]
        rfl
    · rw [hdst]
      refine hs'.put (by simp [dOk, create, hd]) ?_
      have := hs'.handle_sl (d := d) (s := s) (ys := List.replicate l.toNat (ty e).z) (by simp [create, upd_same])
      rw [hh'] at this; simpa using this

/-! append -/
def noneV : V → Bool
  | .isl false _ _ => true
  | _ => false

/-- what is appended to: its elements, and the state without it -/
def baseV (st : St) (s : Nat) (x : V) : Option (List V × St × List (Nat × List Nat)) :=
  match x with
  | .isl false _ _ => some ([], st, [])
  | .sl n p off len => match absorb st (.sl n p off len) with
    | some (.own s' ys, st1, K) => if s' = s then some (ys, st1, K) else none
    | _ => none
  | _ => none

/-- what is appended: its elements, and the state without them where they move -/
def srcV (st st1 : St) (K : List (Nat × List Nat)) (s : Nat) (x : V) : Option (List V × St) :=
  match x with
  | .isl _ s' xs => if s' = s ∨ xs = [] then (if solidL xs = true then some (xs, st1) else none) else none
  | .sl n p off len => match rget (st.o n) p with
    | some (.own s' ys) =>
      if s' = s then
        if immutL ((ys.drop off).take len) = true then some ((ys.drop off).take len, st1)
        else if touches K (.sl n p off len) = true then none
        else match absorb st1 (.sl n p off len) with
          | some (.own s2 zs, st2, _) => if s2 = s ∧ solidL zs = true then some (zs, st2) else none
          | _ => none
      else none
    | _ => none
  | _ => none

theorem immut_solid : ∀ {xs : List V}, immutL xs = true → solidL xs = true := by
  have key : ∀ x : V, x.immut = true → x.solid = true := by
    intro x
    exact V.rec (motive_1 := fun x => x.immut = true → x.solid = true) (motive_2 := fun xs => immutL xs = true → solidL xs = true)
      (fun _ _ _ => rfl) (fun _ _ => rfl) (fun _ _ => rfl) (fun _ => rfl) (fun _ => rfl) (fun _ => rfl) (fun _ => rfl)
      (fun fs ih h => ih h) (fun _ _ _ => rfl) (fun _ _ _ _ _ => rfl) (fun _ _ _ => rfl) (fun _ _ _ _ => rfl) (fun _ _ _ => rfl) (fun _ _ _ _ _ => rfl) (fun _ _ _ => rfl)
      (fun _ _ _ _ => rfl) (fun h => h) (fun _ => rfl) (fun x xs h1 h2 h => by
        simp only [immutL, solidL, Bool.and_eq_true] at h ⊢; exact ⟨h1 h.1, h2 h.2⟩) x
  intro xs
  induction xs with
  | nil => intro _; rfl
  | cons x xs ih => intro h; simp only [immutL, solidL, Bool.and_eq_true] at h ⊢; exact ⟨key x h.1, ih h.2⟩

/-- the elements lie in memory -/
def NewsAt (w : World) (I : Nat → Prop) (s : Nat) (v : Value) (zs : List V) (news : List Value) (G : List Nat) : Prop :=
  repL (hp w) I zs news G ∧ news.length = zs.length * s ∧ (∀ u ∈ news, u.oneCell' = true) ∧ (∀ z ∈ zs, z.size = s) ∧
    ∃ A cap, v = .slice A zs.length cap ∧ (zs = [] ∨ ∃ b o, A = some ⟨b, o, none⟩ ∧ ∀ j u, news[j]? = some u → w.cell? ((⟨b, o, none⟩ : Addr).add j) = some u)

theorem news_run {s : Nat} {v : Value} {zs : List V} {news : List Value} {G : List Nat} (hn : NewsAt w I s v zs news G) :
    (Builtin.lenOf v).run P w = .ok zs.length w ∧ (Builtin.firstCells s zs.length v).run P w = .ok news.toArray w := by
  obtain ⟨h1, h2, h3, _, A, cap, rfl, h4⟩ := hn
  refine ⟨by simp [Builtin.lenOf], ?_⟩
  rcases h4 with h4 | ⟨b, o, rfl, h5⟩
  · subst h4
    have : news = [] := List.eq_nil_of_length_eq_zero (by simpa using h2)
    subst this
    cases A <;> simp [Builtin.firstCells, loadCells, loadCellsFrom]
  · exact run_firstCells_some (P := P) w s zs.length ⟨b, o, none⟩ zs.length cap news h2 h5

theorem run_append_in {t T e : TypeId} {i : TypeInfo} (ht : P.underlying t = some (.slice e)) (hi : P.info? e = some i) {b o L cap : Nat} {c : Array Value} {eb : TypeId}
    (hb : w.heap[b]? = some (.cells c eb (0, 0))) {v : Value} {n : Nat} {news : List Value} (hlen : (Builtin.lenOf v).run P w = .ok n w)
    (hf : (Builtin.firstCells i.size n v).run P w = .ok news.toArray w) (h1 : ∀ u ∈ news, u.oneCell' = true) (hroom : L + n ≤ cap) (hfit : o + L * i.size + news.length ≤ c.size) :
    (Builtin.append_ #[t, t] T #[.slice (some ⟨b, o, none⟩) L cap, v]).run P w = .ok (.slice (some ⟨b, o, none⟩) (L + n) cap) (w.setRow b (wr c (o + L * i.size) news)) := by
  have hst := run_storeCells_at P b (o + L * i.size) eb news 0 c w hb (by simpa using hfit) h1
  simp only [Nat.add_zero] at hst
  rw [wr_eq news c _ hfit] at hst
  simp [Builtin.append_, run_underlying ht, sizeOf, typeInfo, hi, hlen, hroom, hf, addr_add, hst]


/-- a block turns that nothing of the state leads to -/
theorem SatW.off (hs : SatW E I h F st a w) {w' : World} (hsz : w.heap.size ≤ w'.heap.size) (hb : ∀ b, b < w.heap.size → (I b ∨ (∃ n, b ∈ F n) ∨ (b < E.base ∧ b ∉ E.A)) → w'.heap[b]? = w.heap[b]?)
    (h1 : w'.os = w.os) (h2 : w'.tape = w.tape ∧ w.drawn ≤ w'.drawn) (h3 : w'.output = w.output) : SatW E I h F st a w' := by
  have hI : ∀ b, I b → hp w' b = hp w b := fun b hb' => hb b (hs.imm b hb') (.inl hb')
  have hF : ∀ n, ∀ b ∈ F n, hp w' b = hp w b := fun n b hb' => hb b (hs.fresh n b hb').1 (.inr (.inl ⟨n, hb'⟩))
  have tr : Tr (hp w) I h st.o (hp w') I h st.o (fun y => y) := by
    refine Tr.same (fun _ h => h) hI ?_ (fun n p a ha => root_of_nav ha) (fun n p s ys hg => hs.root hg (by simp))
    intro n p y hg hroot
    obtain ⟨m1, m2⟩ := rnav_mono hroot (hs.rep hroot) (hF n) p
    exact ⟨hg, m1, fun hown => m2 y hg hown⟩
  refine { hs with slot := ?_, obj := ?_, fresh := ?_, grow := Nat.le_trans hs.grow hsz, imm := fun b hb' => Nat.lt_of_lt_of_le (hs.imm b hb') hsz, frame := ?_, os := by rw [h1]; exact hs.os, tape := ⟨h2.1.trans hs.tape.1, Nat.le_trans hs.tape.2 h2.2⟩, output := by rw [h3]; exact hs.output }
  · intro t; have := SV_tr tr (hs.slot t); rwa [mapA_id] at this
  · intro n
    rcases hs.obj n with hd | ⟨hroot, hr⟩
    · exact .inl hd
    · exact .inr ⟨hroot, rep_mono (fun _ h => h) hI (hF n) hr⟩
  · intro n b hb'
    obtain ⟨k1, k2, k3⟩ := hs.fresh n b hb'
    exact ⟨Nat.lt_of_lt_of_le k1 hsz, k2, k3⟩
  · intro b hb1 hb2
    rw [hb b (Nat.lt_of_lt_of_le hb1 hs.grow) (.inr (.inr ⟨hb1, hb2⟩))]; exact hs.frame b hb1 hb2

mutual
theorem immut_foot {H : Heap} : ∀ {x : V} {cs : List Value} {G : List Nat}, x.immut = true → rep H I x cs G → G = []
  | .agg fs, cs, G, hi, hr => by simp only [V.immut] at hi; simp only [rep] at hr; exact immutL_foot hi hr
  | .fn f cs', cs, G, hi, hr => by simp only [rep] at hr; exact hr.1
  | .sl _ _ _ _, cs, G, hi, hr => by simp [V.immut] at hi
  | .ref _ _, cs, G, hi, hr => by simp [V.immut] at hi
  | .own _ _, cs, G, hi, hr => by simp [V.immut] at hi
  | .bx _, cs, G, hi, hr => by simp [V.immut] at hi
  | .tup _, cs, G, hi, hr => by simp [V.immut] at hi
  | .dead, cs, G, hi, hr => by simp [V.immut] at hi
  | .int k n, cs, G, hi, hr => by simp only [rep] at hr; exact hr.2
  | .bool b, cs, G, hi, hr => by simp only [rep] at hr; exact hr.2
  | .str s, cs, G, hi, hr => by simp only [rep] at hr; exact hr.2
  | .nilp, cs, G, hi, hr => by simp only [rep] at hr; exact hr.2
  | .nilfn, cs, G, hi, hr => by simp only [rep] at hr; exact hr.2
  | .nilif, cs, G, hi, hr => by simp only [rep] at hr; exact hr.2
  | .err, cs, G, hi, hr => by simp only [rep] at hr; exact hr.2
  | .isl nn s xs, cs, G, hi, hr => by simp only [rep] at hr; exact hr.1
  | .iptr x, cs, G, hi, hr => by simp only [rep] at hr; exact hr.1
theorem immutL_foot {H : Heap} : ∀ {xs : List V} {cs : List Value} {G : List Nat}, immutL xs = true → repL H I xs cs G → G = []
  | [], cs, G, hi, hr => by simp only [repL] at hr; exact hr.2
  | x :: xs, cs, G, hi, hr => by
    simp only [immutL, Bool.and_eq_true] at hi
    simp only [repL] at hr
    obtain ⟨d, ds, G1, G2, rfl, rfl, h1, h2⟩ := hr
    rw [immut_foot hi.1 h1, immutL_foot hi.2 h2]; rfl
end

theorem absorb_sl_some {n : Nat} {p : List Nat} {off len s : Nat} {ys : List V} (hg : rget (st.o n) p = some (.own s ys)) : ∃ st' K, absorb st (.sl n p off len) = some (.own s ((ys.drop off).take len), st', K) := by
  simp only [absorb]
  split
  · rename_i s' ys' hO
    rw [hO] at hg
    simp only [rget, V.get, Option.some.injEq, V.own.injEq] at hg
    obtain ⟨rfl, rfl⟩ := hg
    exact ⟨_, _, rfl⟩
  · rw [hg]; exact ⟨_, _, rfl⟩

/-- an owned slice's elements lie in memory -/
theorem news_own {s : Nat} {v : Value} {zs : List V} {G : List Nat} (hr : rep (hp w) I (.own s zs) [v] G) (hsol : solidL zs = true) :
    ∃ news b G2, G = b :: G2 ∧ NewsAt w I s v zs news G2 := by
  simp only [rep] at hr
  obtain ⟨b, o, cap, c, e, G2, ds, hv, hcap, rfl, hb, hsz, hL, huni, hw⟩ := hr
  have hv' : v = .slice (some ⟨b, o, none⟩) zs.length cap := by simpa using hv
  refine ⟨ds, b, G2, rfl, hL, by rw [repL_len hL, sizeL_uni huni], solidL_one hL hsol, huni, _, cap, hv', .inr ⟨b, o, rfl, ?_⟩⟩
  intro j u hu
  rw [cell_hp hb, hw j (lt_of_some hu), hu]

theorem src_ok (hs : SatW E I h F st a w) {F1 : Nat → List Nat} {st1 st2 : St} {K : List (Nat × List Nat)} {s : Nat} {y : V} {v : Value} {zs : List V} (hs1 : SatW E I h F1 st1 a w)
    (hsv : ∀ z v, touches K z = false → SV (hp w) I h st.o z v → SV (hp w) I h st1.o z v) (hy : SV (hp w) I h st.o y v) (ha : srcV st st1 K s y = some (zs, st2)) :
    ∃ F2 news G2, SatW E I h F2 st2 a w ∧ NewsAt w I s v zs news G2 ∧ G2.Nodup ∧ (∀ m, ∀ b ∈ G2, b ∉ F2 m) ∧ (∀ b ∈ G2, ∃ m, b ∈ F1 m) ∧ (∀ m b, b ∈ F2 m → b ∈ F1 m) ∧ st2.n = st1.n := by
  unfold srcV at ha
  split at ha
  · rename_i nn s' xs
    split at ha
    · rename_i hs'
      split at ha
      · rename_i hsol
        simp only [Option.some.injEq, Prod.mk.injEq] at ha
        obtain ⟨rfl, rfl⟩ := ha
        obtain ⟨A, cap, hv, _, _, _⟩ := SV_isl hy
        by_cases he : xs = []
        · subst he
          exact ⟨F1, [], [], hs1, ⟨by simp [repL], by simp, by simp, by simp, A, cap, hv, .inl rfl⟩, by simp, by simp, by simp, fun _ _ h => h, rfl⟩
        · have hss : s' = s := hs'.resolve_right he
          subst hss
          simp only [SV, SV1, srep, rep] at hy
          cases nn with
          | false => exact absurd (hy.2.1 rfl).1 he
          | true =>
            obtain ⟨b, o, cap2, hv2, hcap, huni, hx⟩ := hy.2.2 rfl
            obtain ⟨hI, c, e, fr, ds, hH, hr, hw⟩ := hx.resolve_left he
            refine ⟨F1, ds, [], hs1, ⟨hr, by rw [repL_len hr, sizeL_uni huni], solidL_one hr hsol, huni, _, cap2, by simpa using hv2, .inr ⟨b, o, rfl, ?_⟩⟩, by simp, by simp, by simp, fun _ _ h => h, rfl⟩
            intro j u hu
            rw [cell_hp hH, hw j (lt_of_some hu), hu]
      · cases ha
    · cases ha
  · rename_i n p off len
    split at ha
    · rename_i s' ys hg
      split at ha
      · rename_i hss
        subst hss
        have hcells : srep (hp w) I h st.o (.sl n p off len) [v] := by simpa only [SV, SV1] using hy
        split at ha
        · rename_i him
          simp only [Option.some.injEq, Prod.mk.injEq] at ha
          obtain ⟨rfl, rfl⟩ := ha
          obtain ⟨st', K', hab⟩ := absorb_sl_some (off := off) (len := len) hg
          obtain ⟨F', G', _, hr, _⟩ := absorb_ok hs hcells hab
          obtain ⟨news, b, G2, rfl, hn⟩ := news_own hr (immut_solid him)
          have : G2 = [] := immutL_foot him hn.1
          subst this
          exact ⟨F1, news, [], hs1, hn, by simp, by simp, by simp, fun _ _ h => h, rfl⟩
        · split at ha
          · cases ha
          · rename_i ht
            have ht' : touches K (.sl n p off len) = false := by simpa using ht
            have hy1 := hsv _ _ ht' hy
            have hcells1 : srep (hp w) I h st1.o (.sl n p off len) [v] := by simpa only [SV, SV1] using hy1
            split at ha
            · rename_i s2 zs' st2' K2 hab
              split at ha
              · rename_i hsol
                simp only [Option.some.injEq, Prod.mk.injEq] at ha
                obtain ⟨rfl, rfl⟩ := ha
                obtain ⟨F2, G2, a1, a2, a3, a4, a5, a6, a7, _⟩ := absorb_ok hs1 hcells1 hab
                have hss2 := hsol.1
                subst hss2
                obtain ⟨news, b, G3, rfl, hn⟩ := news_own a2 hsol.2
                rw [List.nodup_cons] at a3
                exact ⟨F2, news, G3, a1, hn, a3.2, fun m b hb => a4 m b (by simp [hb]), fun b hb => a5 b (by simp [hb]), a6, a7⟩
              · cases ha
            · cases ha
      · cases ha
    · cases ha
  · cases ha
end
end Go.Lite

/- append: sound. -/
namespace Go.Lite

section
variable {P : Program} {ty : Nat → TyI} {E : Env} {I : Nat → Prop} {h : Nat → Value} {F : Nat → List Nat} {st : St} {a : Act} {w : World}

theorem zeroCells_size (z : Array Value) (n : Nat) : (Builtin.zeroCells z n).size = n * z.size := by simp [Builtin.zeroCells]

/-- where base and news come together -/
theorem append_ok (hty : TyOk P ty) {F2 : Nat → List Nat} {st2 : St} {t e s T d : Nat} (hk : elemSz ty t = some s) (hkd : (ty t).kd = .slice e) (hz : (ty e).z ≠ .dead) (hzz : (ty e).z.size = s)
    (hs2 : SatW E I h F2 st2 a w) {ys zs : List V} {u v : Value} {news : List Value} {G G2 : List Nat}
    (hbase : (ys = [] ∧ u = .slice none 0 0 ∧ G = []) ∨ rep (hp w) I (.own s ys) [u] G)
    (hGn : G.Nodup) (hGd : ∀ m, ∀ b ∈ G, b ∉ F2 m) (hGf : ∀ b ∈ G, b < w.heap.size ∧ ¬ I b ∧ (E.base ≤ b ∨ b ∈ E.A))
    (hnews : NewsAt w I s v zs news G2) (hG2n : G2.Nodup) (hG2d : ∀ m, ∀ b ∈ G2, b ∉ F2 m) (hG2f : ∀ b ∈ G2, b < w.heap.size ∧ ¬ I b ∧ (E.base ≤ b ∨ b ∈ E.A)) (hGG : ∀ b ∈ G, b ∉ G2)
    (hne : ys ≠ [] ∨ zs ≠ [] ∨ u ≠ .slice none 0 0) (hbd : (ys.length + zs.length) * (2 * (ty e).bytes) ≤ 281474976710656) (hb63 : ys.length + zs.length ≤ 9223372036854775807)
    (hd2 : d < argName) :
    ∃ r w' h' F', (Builtin.append_ #[t, t] T #[u, v]).run P w = .ok r w' ∧ SatW E I h' F' (create d (.own s (ys ++ zs)) st2) a w' ∧ h' d = r := by
  obtain ⟨e', ie, hu, hie, hsz', hkd', hke⟩ := elemSz_ok hty hk
  rw [hkd] at hkd'
  obtain rfl : e = e' := by simpa using hkd'
  obtain ⟨i, zv, hi, hzv, hm, hsz2, hby⟩ := hty.zero hke hz
  rw [hie] at hi
  obtain rfl : ie = i := by simpa using hi
  have hzs : zv.cells.size = s := by
    obtain ⟨ds, hds, _, hrep⟩ := zm_ok (H := hp w) (I := I) (h := h) (o := st2.o) hm
    simp only [List.append_nil] at hds
    rw [← Array.length_toList, hds, rep_len hrep, hzz]
  obtain ⟨hlen, hf⟩ := news_run (P := P) hnews
  obtain ⟨hnr, hnl, hn1, hnu, A, capx, hv, hloc⟩ := hnews
  have happ : (ys ++ zs).length = ys.length + zs.length := by simp
  have newrow : ∀ (olds : List Value) (Go : List Nat) (cap : Nat), repL (hp w) I ys olds Go → olds.length = ys.length * s → (∀ x ∈ ys, x.size = s) → Go.Nodup → (∀ m, ∀ b ∈ Go, b ∉ F2 m) →
      (∀ b ∈ Go, b < w.heap.size ∧ ¬ I b ∧ (E.base ≤ b ∨ b ∈ E.A)) → (∀ b ∈ Go, b ∉ G2) → ys.length + zs.length ≤ cap →
      ∃ h' F', SatW E I h' F' (create d (.own s (ys ++ zs)) st2) a (w.drew.alloc (.cells (olds.toArray ++ news.toArray ++ Builtin.zeroCells zv.cells (cap - (ys.length + zs.length))) e)) ∧
        h' d = .slice (some ⟨w.heap.size, 0, none⟩) (ys.length + zs.length) cap := by
    intro olds Go cap ho hol hou hGon hGod hGof hGo2 hcap
    have hsd : SatW E I h F2 st2 a w.drew := hs2.drew _
    have hrep' : rep (hp { w.drew with heap := w.drew.heap.push (.cells (olds.toArray ++ news.toArray ++ Builtin.zeroCells zv.cells (cap - (ys.length + zs.length))) e) }) I (.own s (ys ++ zs))
        [.slice (some ⟨w.drew.heap.size, 0, none⟩) (ys.length + zs.length) cap] (w.drew.heap.size :: (Go ++ G2)) := by
      simp only [rep]
      refine ⟨w.heap.size, 0, cap, _, e, Go ++ G2, olds ++ news, by rw [happ]; rfl, by rw [happ]; exact hcap, rfl, push_new w.drew _, ?_, ?_, ?_, ?_⟩
      · simp only [Array.size_append, List.size_toArray, zeroCells_size, hzs, hol, hnl, ← Nat.add_mul]
        rw [show ys.length + zs.length + (cap - (ys.length + zs.length)) = cap by omega]; omega
      · refine repL_app.2 ⟨olds, news, Go, G2, rfl, rfl, ?_, ?_⟩
        · exact repL_mono (fun _ h => h) (fun b hb => push_old w.drew _ (hs2.imm b hb)) (fun b hb => push_old w.drew _ (hGof b hb).1) ho
        · exact repL_mono (fun _ h => h) (fun b hb => push_old w.drew _ (hs2.imm b hb)) (fun b hb => push_old w.drew _ (hG2f b hb).1) hnr
      · intro x hx
        rcases List.mem_append.1 hx with h | h
        · exact hou x h
        · exact hnu x h
      · intro k hk
        have : (olds.toArray ++ news.toArray ++ Builtin.zeroCells zv.cells (cap - (ys.length + zs.length))) = (olds ++ news).toArray ++ Builtin.zeroCells zv.cells (cap - (ys.length + zs.length)) := by simp
        rw [this, Nat.zero_add, Array.getElem?_append_left (by simpa using hk)]
        simp
    obtain ⟨h', F', hs', hh'⟩ := hsd.fresh_obj hd2 rfl hrep' (by
      rw [List.nodup_append]; exact ⟨hGon, hG2n, fun b hb c hc he => hGo2 b hb (he ▸ hc)⟩) (by
      intro m b hb
      rcases List.mem_append.1 hb with h | h
      · exact hGod m b h
      · exact hG2d m b h) (by
      intro b hb
      rcases List.mem_append.1 hb with h | h
      · exact hGof b h
      · exact hG2f b h)
    exact ⟨h', F', hs', hh'⟩
  have hbdi : (ys.length + zs.length) * ie.bytes ≤ 281474976710656 := by rw [hby]; exact Nat.le_trans (Nat.mul_le_mul_left _ (by omega)) hbd
  rcases hbase with ⟨rfl, rfl, rfl⟩ | hrep
  ·
    have hzne : zs ≠ [] := by
      rcases hne with h | h | h
      · exact absurd rfl h
      · exact h
      · exact absurd rfl h
    obtain ⟨b, o, rfl, hcell⟩ := hloc.resolve_left hzne
    have hz0 : 0 < zs.length := List.length_pos_iff.2 hzne
    subst hv
    have hr := run_append_nil (P := P) w t T e ie zv hu hie hzv ⟨b, o, none⟩ zs.length capx news (by rw [hsz']; exact hnl) hcell hz0 (by simp at hb63; omega) (by simpa using hbdi)
    obtain ⟨h', F', hs', hh'⟩ := newrow [] [] (grownCap w zs.length 0 e) (by simp [repL]) (by simp) (by simp) (by simp) (by simp) (by simp) (by simp) (by simpa using grownCap_ge w zs.length 0 e)
    simp only [List.length_nil, Nat.zero_add, List.nil_append] at hs' hh'
    have he : (([] : List Value).toArray ++ news.toArray ++ Builtin.zeroCells zv.cells (grownCap w zs.length 0 e - zs.length)) = news.toArray ++ Builtin.zeroCells zv.cells (grownCap w zs.length 0 e - zs.length) := by simp
    rw [he] at hs'
    exact ⟨_, _, h', F', hr, by simpa using hs', hh'⟩
  · have hrep0 := hrep
    simp only [rep] at hrep
    obtain ⟨b, o, cap, c, eb, G0, olds, huv, hcap, rfl, hb, hcs, hol, huni, hw⟩ := hrep
    obtain rfl : u = .slice (some ⟨b, o, none⟩) ys.length cap := by simpa using huv
    have hob := hGf b (by simp)
    have hol' : olds.length = ys.length * s := by rw [repL_len hol, sizeL_uni huni]
    rw [List.nodup_cons] at hGn
    by_cases hroom : ys.length + zs.length ≤ cap
    ·
      have hcs' : (ys.length + zs.length) * s ≤ cap * s := Nat.mul_le_mul_right _ hroom
      have hfit : o + ys.length * ie.size + news.length ≤ c.size := by rw [hsz', hnl]; rw [Nat.add_mul] at hcs'; omega
      have hf' : (Builtin.firstCells ie.size zs.length v).run P w = .ok news.toArray w := by rw [hsz']; exact hf
      have hr := run_append_in (P := P) (T := T) hu hie hb hlen hf' hn1 hroom hfit
      rw [hsz'] at hr hfit
      have hs3 : SatW E I h F2 st2 a (w.setRow b (wr c (o + ys.length * s) news)) := by
        refine hs2.off (by simp) ?_ rfl ⟨rfl, by first | exact Nat.le_refl _ | exact Nat.le_succ _⟩ rfl
        intro k hk hk2
        refine setRow_other w b k _ ?_
        intro he; subst he
        rcases hk2 with h | ⟨m, h⟩ | ⟨h1, h2⟩
        · exact hob.2.1 h
        · exact hGd m k (by simp) h
        · rcases hob.2.2 with h | h
          · omega
          · exact h2 h
      have hother : ∀ k, k ≠ b → hp (w.setRow b (wr c (o + ys.length * s) news)) k = hp w k := fun k hk => setRow_other w b k _ hk
      have hrep' : rep (hp (w.setRow b (wr c (o + ys.length * s) news))) I (.own s (ys ++ zs)) [.slice (some ⟨b, o, none⟩) (ys.length + zs.length) cap] (b :: (G0 ++ G2)) := by
        simp only [rep]
        refine ⟨b, o, cap, wr c (o + ys.length * s) news, eb, G0 ++ G2, olds ++ news, by rw [happ], by rw [happ]; exact hroom, rfl, setRow_heap w b c _ eb (0, 0) hb, by rw [wr_size]; exact hcs, ?_, ?_, ?_⟩
        · refine repL_app.2 ⟨olds, news, G0, G2, rfl, rfl, ?_, ?_⟩
          · exact repL_mono (fun _ h => h) (fun k hk => hother k (fun he => hob.2.1 (he ▸ hk))) (fun k hk => hother k (fun he => hGn.1 (he ▸ hk))) hol
          · exact repL_mono (fun _ h => h) (fun k hk => hother k (fun he => hob.2.1 (he ▸ hk))) (fun k hk => hother k (fun he => hGG b (by simp) (he ▸ hk))) hnr
        · intro x hx
          rcases List.mem_append.1 hx with h | h
          · exact huni x h
          · exact hnu x h
        · refine win_app.2 ⟨?_, ?_⟩
          · exact win_congr hw fun k hk1 hk2 => wr_out _ _ _ _ (by left; omega)
          · rw [hol']; exact wr_in _ _ _ hfit
      have hs4 := hs3.create (d := d) rfl hrep' (by
        rw [List.nodup_cons, List.nodup_append]
        refine ⟨?_, hGn.2, hG2n, fun k hk c' hc he => hGG k (by simp [hk]) (he ▸ hc)⟩
        intro hm
        rcases List.mem_append.1 hm with h | h
        · exact hGn.1 h
        · exact hGG b (by simp) h) (by
        intro m k hk
        rcases List.mem_cons.1 hk with h | h
        · subst h; exact hGd m k (by simp)
        · rcases List.mem_append.1 h with h | h
          · exact hGd m k (by simp [h])
          · exact hG2d m k h) (by
        intro k hk
        simp only [setRow_size]
        rcases List.mem_cons.1 hk with h | h
        · subst h; exact hob
        · rcases List.mem_append.1 h with h | h
          · exact hGf k (by simp [h])
          · exact hG2f k h) hd2
      exact ⟨_, _, _, _, hr, hs4, upd_same _ _ _⟩
    ·
      have hzne : zs ≠ [] := by intro h; subst h; simp at hroom; omega
      obtain ⟨bx, ox, rfl, hcell⟩ := hloc.resolve_left hzne
      subst hv
      have hgrow : cap < ys.length + zs.length := by omega
      have hnc := nextslicecap_le hgrow
      have hfit : Builtin.nextslicecap (ys.length + zs.length) cap * ie.bytes ≤ 281474976710656 := by
        refine Nat.le_trans (Nat.mul_le_mul_right _ hnc) ?_
        rw [hby, Nat.mul_comm 2 _, Nat.mul_assoc]; exact hbd
      have hr := run_append_grow (P := P) w t T e ie zv hu hie hzv ⟨b, o, none⟩ ys.length cap olds (by rw [hsz']; exact hol')
        (fun j x hx => by rw [cell_hp hb, hw j (lt_of_some hx), hx]) ⟨bx, ox, none⟩ zs.length capx news (by rw [hsz']; exact hnl) hcell hgrow (by omega) hfit
      obtain ⟨h', F', hs', hh'⟩ := newrow olds G0 (grownCap w (ys.length + zs.length) cap e) hol hol' huni hGn.2 (fun m k hk => hGd m k (by simp [hk])) (fun k hk => hGf k (by simp [hk])) (fun k hk => hGG k (by simp [hk])) (grownCap_ge w _ cap e)
      exact ⟨_, _, h', F', hr, hs', hh'⟩

theorem Stp_append (hty : TyOk P ty) {o : Oper} {t e s d : Nat} {x y : Operand} {ys zs : List V} {st1 st2 : St} {K : List (Nat × List Nat)}
    (ho : o.op = .call { callee := .builtin .append, args := #[x, y], argTypes := #[t, t] }) (hdst : o.dst = some d)
    (hk : elemSz ty t = some s) (hkd : (ty t).kd = .slice e) (hz : (ty e).z ≠ .dead) (hzz : (ty e).z.size = s)
    (hb : baseV st s (ev st x) = some (ys, st1, K)) (hsr : srcV st st1 K s (ev st y) = some (zs, st2)) (hne : noneV (ev st x) = false ∨ zs ≠ [])
    (hbd : (ys.length + zs.length) * (2 * (ty e).bytes) ≤ 281474976710656) (hb63 : ys.length + zs.length ≤ 9223372036854775807) (hd : d < st.n) (hd2 : d < argName) :
    Stp P o st (put (create d (.own s (ys ++ zs)) st2) (some d) (.sl d [] 0 (ys.length + zs.length))) := by
  intro E I h F a w hs
  have hx := hs.ev x
  have hy := hs.ev y
  have main : ∃ F1 G, SatW E I h F1 st1 a w ∧ ((ys = [] ∧ a.eval x = .slice none 0 0 ∧ G = []) ∨ rep (hp w) I (.own s ys) [a.eval x] G) ∧ G.Nodup ∧ (∀ m, ∀ b ∈ G, b ∉ F1 m) ∧
      (∀ b ∈ G, b < w.heap.size ∧ ¬ I b ∧ (E.base ≤ b ∨ b ∈ E.A)) ∧ (∀ m b, b ∈ F1 m → b ∈ F m) ∧ st1.n = st.n ∧
      (∀ z v, touches K z = false → SV (hp w) I h st.o z v → SV (hp w) I h st1.o z v) ∧ (noneV (ev st x) = false → a.eval x ≠ .slice none 0 0) := by
    unfold baseV at hb
    split at hb
    · rename_i s' xs' hxe
      simp only [Option.some.injEq, Prod.mk.injEq] at hb
      obtain ⟨rfl, rfl, rfl⟩ := hb
      rw [hxe] at hx
      simp only [SV, SV1, srep, rep] at hx
      obtain ⟨rfl, hxv⟩ := hx.2.1 trivial
      exact ⟨F, [], hs, .inl ⟨rfl, by simpa using hxv, rfl⟩, by simp, by simp, by simp, fun _ _ h => h, rfl, fun _ _ _ h => h, by rw [hxe]; simp [noneV]⟩
    · rename_i n p off len hxe
      split at hb
      · rename_i s' ys' st1' K' hab
        split at hb
        · rename_i hss
          subst hss
          simp only [Option.some.injEq, Prod.mk.injEq] at hb
          obtain ⟨rfl, rfl, rfl⟩ := hb
          rw [hxe] at hx
          have hc : srep (hp w) I h st.o (.sl n p off len) [a.eval x] := by simpa only [SV, SV1] using hx
          obtain ⟨F1, G, a1, a2, a3, a4, a5, a6, a7, _, a9, _⟩ := absorb_ok hs hc hab
          refine ⟨F1, G, a1, .inr a2, a3, a4, ?_, a6, a7, a9, fun _ => ?_⟩
          · intro b hb; obtain ⟨m, hm⟩ := a5 b hb; exact hs.fresh m b hm
          · obtain ⟨A, cap, hv, _⟩ := SV_sl hx
            rw [hv]; simp
        · cases hb
      · cases hb
    · cases hb
  obtain ⟨F1, G, hs1, hbase, hGn, hGd, hGf, hsub, hn1, hsv, hnn⟩ := main
  obtain ⟨F2, news, G2, hs2, hnews, hG2n, hG2d, hG2in, hsub2, hn2⟩ := src_ok hs hs1 hsv hy hsr
  have hG2f : ∀ b ∈ G2, b < w.heap.size ∧ ¬ I b ∧ (E.base ≤ b ∨ b ∈ E.A) := by
    intro b hb; obtain ⟨m, hm⟩ := hG2in b hb; exact hs1.fresh m b hm
  have hGG : ∀ b ∈ G, b ∉ G2 := by
    intro b hb hb2; obtain ⟨m, hm⟩ := hG2in b hb2; exact hGd m b hb hm
  obtain ⟨r, w', h', F', hrun, hs', hh'⟩ := append_ok (T := o.type) (d := d) hty hk hkd hz hzz hs2 hbase hGn (fun m b hb hb2 => hGd m b hb (hsub2 m b hb2)) hGf hnews hG2n hG2d hG2f hGG
    (by
      rcases hne with h | h
      · exact .inr (.inr (hnn h))
      · exact .inr (.inl h)) hbd hb63 hd2
  refine ⟨.value r, w', r, I, ?_, .inl rfl, fun _ h => h, h', F', ?_⟩
  · simp only [execOp, ho]
    simp [resolve, invoke, builtin, hrun]
  · rw [hdst]
    refine hs'.put (by simp [dOk, create, hn2, hn1, hd]) ?_
    have := hs'.handle_sl (d := d) (s := s) (ys := ys ++ zs) (by simp [create, upd_same])
    rw [hh'] at this; simpa using this
end
end Go.Lite

/- Contracts of functions on trees, and what a call does to a state. -/
namespace Go.Lite

/-- one argument or result -/
def AV (H : Heap) (I : Nat → Prop) : V → Value → List Nat → Prop
  | .agg fs, v, F => ∃ cs : List Value, v = .agg cs.toArray ∧ repL H I fs cs F
  | .tup _, _, _ => False
  | .dead, _, _ => False
  | x, v, F => rep H I x [v] F

def AVL (H : Heap) (I : Nat → Prop) : List V → List Value → List Nat → Prop
  | [], vs, F => vs = [] ∧ F = []
  | x :: xs, vs, F => ∃ v vs' G Gs, vs = v :: vs' ∧ F = G ++ Gs ∧ AV H I x v G ∧ AVL H I xs vs' Gs

def RV (H : Heap) (I : Nat → Prop) : V → Value → List Nat → Prop
  | .tup rs, v, F => ∃ us : List Value, v = .tuple us.toArray ∧ AVL H I rs us F
  | x, v, F => AV H I x v F

/-- what comes back of the things that were handed over -/
def OutL (H : Heap) (I : Nat → Prop) : List V → List Value → List Nat → Prop
  | [], _, F => F = []
  | _ :: _, [], _ => False
  | y :: ys, v :: vs, F => ∃ G Gs, F = G ++ Gs ∧ ((y = .dead ∧ G = []) ∨ (y.isRoot = true ∧ rep H I y [v] G)) ∧ OutL H I ys vs Gs

/-- what a callee leaves: its value, the things handed over, the rest as it was -/
def Left (w : World) (I : Nat → Prop) (vs : List Value) (F : List Nat) (r : V) (outs : List V) (e : Ending) (w' : World) : Prop :=
  ∃ v I' Fr Fo, e = .returned v ∧ RV (hp w') I' r v Fr ∧ OutL (hp w') I' outs vs Fo ∧ (Fr ++ Fo).Nodup ∧
      (∀ b ∈ Fr ++ Fo, b < w'.heap.size ∧ ¬ I' b ∧ (w.heap.size ≤ b ∨ b ∈ F)) ∧ (∀ b, I b → I' b) ∧ (∀ b, I' b → b < w'.heap.size ∧ (I b ∨ w.heap.size ≤ b ∨ b ∈ F)) ∧
      w.heap.size ≤ w'.heap.size ∧ (∀ b, b < w.heap.size → b ∉ F → w'.heap[b]? = w.heap[b]?) ∧ w'.os = w.os ∧ (w'.tape = w.tape ∧ w.drawn ≤ w'.drawn) ∧ w'.output = w.output

/-- the contract of a function on trees -/
def CallOk (P : Program) (f : FuncId) (xs : List V) (Q : V → List V → Prop) : Prop :=
  ∀ (w : World) (I : Nat → Prop) (vs : List Value) (F : List Nat), AVL (hp w) I xs vs F → F.Nodup → (∀ b ∈ F, b < w.heap.size ∧ ¬ I b) → (∀ b, I b → b < w.heap.size) →
    Calls P f vs.toArray w fun e w' => ∃ r outs, Q r outs ∧ outs.length = xs.length ∧ Left w I vs F r outs e w'

/-! a tree is spread: its owned parts become objects -/
mutual
def spread (base : Nat) : V → St → Nat → V × St × Nat
  | .own s xs, st, c => (.sl (base + c) [] 0 xs.length, { st with o := upd st.o (base + c) (.own s xs) }, c + 1)
  | .bx x, st, c => (.ref (base + c) [], { st with o := upd st.o (base + c) (.bx x) }, c + 1)
  | .agg fs, st, c => match spreadL base fs st c with | (gs, st', c') => (.agg gs, st', c')
  | .tup vs, st, c => match spreadL base vs st c with | (gs, st', c') => (.tup gs, st', c')
  | .int k n, st, c => (.int k n, st, c)
  | .bool b, st, c => (.bool b, st, c)
  | .str s, st, c => (.str s, st, c)
  | .nilp, st, c => (.nilp, st, c)
  | .nilfn, st, c => (.nilfn, st, c)
  | .nilif, st, c => (.nilif, st, c)
  | .err, st, c => (.err, st, c)
  | .isl nn s xs, st, c => (.isl nn s xs, st, c)
  | .iptr x, st, c => (.iptr x, st, c)
  | .fn f cs, st, c => (.fn f cs, st, c)
  | .sl _ _ _ _, st, c => (.dead, st, c)
  | .ref _ _, st, c => (.dead, st, c)
  | .dead, st, c => (.dead, st, c)
def spreadL (base : Nat) : List V → St → Nat → List V × St × Nat
  | [], st, c => ([], st, c)
  | x :: xs, st, c => match spread base x st c with
    | (y, st1, c1) => match spreadL base xs st1 c1 with
      | (ys, st2, c2) => (y :: ys, st2, c2)
end

mutual
def nleaf : V → Nat
  | .own _ _ => 1
  | .bx _ => 1
  | .agg fs => nleafL fs
  | .tup vs => nleafL vs
  | _ => 0
def nleafL : List V → Nat
  | [] => 0
  | x :: xs => nleaf x + nleafL xs
end

/-- what is said behind a spread -/
structure SpreadOk (E : Env) (I : Nat → Prop) (h : Nat → Value) (F : Nat → List Nat) (st : St) (a : Act) (w : World) (base c : Nat) (st' : St) (c' : Nat) (G : List Nat) (R : (Nat → Value) → (Nat → V) → Prop) : Prop where
  ex : ∃ h' F', SatW E I h' F' st' a w ∧ R h' st'.o ∧ (∀ m, (m < base + c ∨ base + c' ≤ m) → h' m = h m ∧ F' m = F m ∧ st'.o m = st.o m) ∧ (∀ m, ∀ b ∈ F' m, b ∈ F m ∨ b ∈ G)
  n : st'.n = st.n
  s : st'.s = st.s
  le : c ≤ c'

section
variable {E : Env} {I : Nat → Prop} {h : Nat → Value} {F : Nat → List Nat} {st : St} {a : Act} {w : World}

/-- what was said of a value stands where only dead names came to life -/
theorem Tr.grow {H : Heap} {h' : Nat → Value} {o o' : Nat → V} (hd : ∀ m, o m ≠ .dead → h' m = h m ∧ o' m = o m) : Tr H I h o H I h' o' (fun y => y) := by
  refine ⟨fun _ h => h, fun _ _ => rfl, ?_, ?_, fun _ _ _ _ => ⟨rfl, by simp, by simp⟩, fun _ _ => ⟨rfl, by simp, by simp⟩⟩
  · intro n p a l cs hh
    simp only [srep] at hh ⊢
    obtain ⟨s, ys, b, ob, L, cap, k1, k2, k3⟩ := hh
    have : o n ≠ .dead := by intro he; rw [he] at k1; cases p <;> simp [rget, V.get] at k1
    obtain ⟨e1, e2⟩ := hd n this
    exact ⟨s, ys, b, ob, L, cap, by rw [e2]; exact k1, by rw [e1, e2]; exact k2, k3⟩
  · intro n p cs hh
    simp only [srep] at hh ⊢
    obtain ⟨ad, y, k1, k2, k3⟩ := hh
    have : o n ≠ .dead := by intro he; rw [he] at k1; simp [rnav] at k1
    obtain ⟨e1, e2⟩ := hd n this
    exact ⟨ad, y, by rw [e1, e2]; exact k1, by rw [e2]; exact k2, k3⟩

theorem grow_srep {H : Heap} {h' : Nat → Value} {o o' : Nat → V} (hd : ∀ m, o m ≠ .dead → h' m = h m ∧ o' m = o m) {x : V} {cs : List Value} (hx : srep H I h o x cs) : srep H I h' o' x cs := by
  have := srep_tr (Tr.grow hd) hx; rwa [mapA_id] at this
theorem grow_SV {H : Heap} {h' : Nat → Value} {o o' : Nat → V} (hd : ∀ m, o m ≠ .dead → h' m = h m ∧ o' m = o m) {x : V} {v : Value} (hx : SV H I h o x v) : SV H I h' o' x v := by
  have := SV_tr (Tr.grow hd) hx; rwa [mapA_id] at this

/-- no names of arguments in the way, or the right handle -/
def NameOk (E : Env) (n : Nat) (v : Value) : Prop := ∀ u, (n, u) ∈ E.ms → v = u

theorem spread_root {base c : Nat} {x : V} {hv : Value} {G : List Nat} (hs : SatW E I h F st a w) (hroot : x.isRoot = true) (hr : rep (hp w) I x [hv] G) (hnd : G.Nodup)
    (hdj : ∀ m, ∀ b ∈ G, b ∉ F m) (hfr : ∀ b ∈ G, b < w.heap.size ∧ ¬ I b ∧ (E.base ≤ b ∨ b ∈ E.A)) (hdead : st.o (base + c) = .dead) (hn : NameOk E (base + c) hv) :
    SpreadOk E I h F st a w base c { st with o := upd st.o (base + c) x } (c + 1) G (fun h' o' => h' (base + c) = hv ∧ o' (base + c) = x) := by
  refine ⟨⟨_, _, hs.add hdead hroot hr hnd hdj hfr hn, ⟨upd_same _ _ _, upd_same _ _ _⟩, ?_, ?_⟩, rfl, rfl, by omega⟩
  · intro m hm
    have : m ≠ base + c := by omega
    exact ⟨upd_ne _ _ this, upd_ne _ _ this, upd_ne _ _ this⟩
  · intro m b hb
    by_cases hm : m = base + c
    · subst hm; rw [upd_same] at hb; exact .inr hb
    · rw [upd_ne _ _ hm] at hb; exact .inl hb

mutual
theorem spread_ok {base : Nat} (hbase : ∀ k v, NameOk E (base + k) v) : ∀ {x : V} {h : Nat → Value} {F : Nat → List Nat} {st : St} {c : Nat} {cs : List Value} {G : List Nat}, SatW E I h F st a w → rep (hp w) I x cs G → G.Nodup →
    (∀ m, ∀ b ∈ G, b ∉ F m) → (∀ b ∈ G, b < w.heap.size ∧ ¬ I b ∧ (E.base ≤ b ∨ b ∈ E.A)) → (∀ k, c ≤ k → k < c + nleaf x → st.o (base + k) = .dead) →
    SpreadOk E I h F st a w base c (spread base x st c).2.1 (spread base x st c).2.2 G (fun h' o' => srep (hp w) I h' o' (spread base x st c).1 cs) ∧ (spread base x st c).2.2 = c + nleaf x
  | .own s xs, h, F, st, c, cs, G, hs, hr, hnd, hdj, hfr, hd => by
    have hl := rep_len hr
    simp only [V.size] at hl
    obtain ⟨hv, rfl⟩ := List.length_eq_one_iff.1 hl
    have := spread_root (base := base) (c := c) hs rfl hr hnd hdj hfr (hd c (Nat.le_refl _) (by simp [nleaf])) (hbase c hv)
    obtain ⟨⟨h', F', k1, k2, k3, k4⟩, k5, k6, k7⟩ := this
    refine ⟨⟨⟨h', F', k1, ?_, k3, k4⟩, k5, k6, k7⟩, by simp [spread, nleaf]⟩
    simp only [spread]
    have h9 := k1.handle_sl (d := base + c) (s := s) (ys := xs) k2.2
    rw [k2.1] at h9
    simpa only [SV, SV1] using h9
  | .bx x, h, F, st, c, cs, G, hs, hr, hnd, hdj, hfr, hd => by
    have hl := rep_len hr
    simp only [V.size] at hl
    obtain ⟨hv, rfl⟩ := List.length_eq_one_iff.1 hl
    have := spread_root (base := base) (c := c) hs rfl hr hnd hdj hfr (hd c (Nat.le_refl _) (by simp [nleaf])) (hbase c hv)
    obtain ⟨⟨h', F', k1, k2, k3, k4⟩, k5, k6, k7⟩ := this
    refine ⟨⟨⟨h', F', k1, ?_, k3, k4⟩, k5, k6, k7⟩, by simp [spread, nleaf]⟩
    simp only [spread]
    have hr2 := hr
    simp only [rep] at hr2
    obtain ⟨b, _, _, _, _, hhv, _⟩ := hr2
    obtain rfl : hv = .pointer (some ⟨b, 0, none⟩) := by simpa using hhv
    have h9 := handle_ref (w := w) (I := I) (h := h') (st := { st with o := upd st.o (base + c) (.bx x) }) (d := base + c) (x := x) k2.2 k2.1
    simpa only [SV, SV1] using h9
  | .agg fs, h, F, st, c, cs, G, hs, hr, hnd, hdj, hfr, hd => by
    simp only [rep] at hr
    obtain ⟨k1, k2⟩ := spreadL_ok hbase hs hr hnd hdj hfr (by simpa only [nleaf] using hd)
    simp only [spread]
    refine ⟨?_, by simpa only [nleaf] using k2⟩
    obtain ⟨⟨h', F', m1, m2, m3, m4⟩, m5, m6, m7⟩ := k1
    exact ⟨⟨h', F', m1, by simp only [srep]; exact m2, m3, m4⟩, m5, m6, m7⟩
  | .tup vs, h, F, st, c, cs, G, hs, hr, hnd, hdj, hfr, hd => by simp [rep] at hr
  | .sl _ _ _ _, h, F, st, c, cs, G, hs, hr, hnd, hdj, hfr, hd => by simp [rep] at hr
  | .ref _ _, h, F, st, c, cs, G, hs, hr, hnd, hdj, hfr, hd => by simp [rep] at hr
  | .dead, h, F, st, c, cs, G, hs, hr, hnd, hdj, hfr, hd => by
    simp only [rep] at hr
    exact ⟨⟨⟨h, F, hs, by simp only [spread, srep]; exact hr.1, fun m _ => ⟨rfl, rfl, rfl⟩, fun m b hb => .inl hb⟩, rfl, rfl, Nat.le_refl _⟩, by simp [spread, nleaf]⟩
  | .int k n, h, F, st, c, cs, G, hs, hr, hnd, hdj, hfr, hd => by
    have hG : G = [] := by simp only [rep] at hr; exact hr.2
    subst hG
    exact ⟨⟨⟨h, F, hs, rep_srep hr, fun m _ => ⟨rfl, rfl, rfl⟩, fun m b hb => .inl hb⟩, rfl, rfl, Nat.le_refl _⟩, by simp [spread, nleaf]⟩
  | .bool b, h, F, st, c, cs, G, hs, hr, hnd, hdj, hfr, hd => by
    have hG : G = [] := by simp only [rep] at hr; exact hr.2
    subst hG
    exact ⟨⟨⟨h, F, hs, rep_srep hr, fun m _ => ⟨rfl, rfl, rfl⟩, fun m b hb => .inl hb⟩, rfl, rfl, Nat.le_refl _⟩, by simp [spread, nleaf]⟩
  | .str s, h, F, st, c, cs, G, hs, hr, hnd, hdj, hfr, hd => by
    have hG : G = [] := by simp only [rep] at hr; exact hr.2
    subst hG
    exact ⟨⟨⟨h, F, hs, rep_srep hr, fun m _ => ⟨rfl, rfl, rfl⟩, fun m b hb => .inl hb⟩, rfl, rfl, Nat.le_refl _⟩, by simp [spread, nleaf]⟩
  | .nilp, h, F, st, c, cs, G, hs, hr, hnd, hdj, hfr, hd => by
    have hG : G = [] := by simp only [rep] at hr; exact hr.2
    subst hG
    exact ⟨⟨⟨h, F, hs, rep_srep hr, fun m _ => ⟨rfl, rfl, rfl⟩, fun m b hb => .inl hb⟩, rfl, rfl, Nat.le_refl _⟩, by simp [spread, nleaf]⟩
  | .nilfn, h, F, st, c, cs, G, hs, hr, hnd, hdj, hfr, hd => by
    have hG : G = [] := by simp only [rep] at hr; exact hr.2
    subst hG
    exact ⟨⟨⟨h, F, hs, rep_srep hr, fun m _ => ⟨rfl, rfl, rfl⟩, fun m b hb => .inl hb⟩, rfl, rfl, Nat.le_refl _⟩, by simp [spread, nleaf]⟩
  | .nilif, h, F, st, c, cs, G, hs, hr, hnd, hdj, hfr, hd => by
    have hG : G = [] := by simp only [rep] at hr; exact hr.2
    subst hG
    exact ⟨⟨⟨h, F, hs, rep_srep hr, fun m _ => ⟨rfl, rfl, rfl⟩, fun m b hb => .inl hb⟩, rfl, rfl, Nat.le_refl _⟩, by simp [spread, nleaf]⟩
  | .err, h, F, st, c, cs, G, hs, hr, hnd, hdj, hfr, hd => by
    have hG : G = [] := by simp only [rep] at hr; exact hr.2
    subst hG
    exact ⟨⟨⟨h, F, hs, rep_srep hr, fun m _ => ⟨rfl, rfl, rfl⟩, fun m b hb => .inl hb⟩, rfl, rfl, Nat.le_refl _⟩, by simp [spread, nleaf]⟩
  | .isl nn s xs, h, F, st, c, cs, G, hs, hr, hnd, hdj, hfr, hd => by
    have hG : G = [] := by simp only [rep] at hr; exact hr.1
    subst hG
    exact ⟨⟨⟨h, F, hs, rep_srep hr, fun m _ => ⟨rfl, rfl, rfl⟩, fun m b hb => .inl hb⟩, rfl, rfl, Nat.le_refl _⟩, by simp [spread, nleaf]⟩
  | .iptr x, h, F, st, c, cs, G, hs, hr, hnd, hdj, hfr, hd => by
    have hG : G = [] := by simp only [rep] at hr; exact hr.1
    subst hG
    exact ⟨⟨⟨h, F, hs, rep_srep hr, fun m _ => ⟨rfl, rfl, rfl⟩, fun m b hb => .inl hb⟩, rfl, rfl, Nat.le_refl _⟩, by simp [spread, nleaf]⟩
  | .fn f cs', h, F, st, c, cs, G, hs, hr, hnd, hdj, hfr, hd => by
    have hG : G = [] := by simp only [rep] at hr; exact hr.1
    subst hG
    exact ⟨⟨⟨h, F, hs, rep_srep hr, fun m _ => ⟨rfl, rfl, rfl⟩, fun m b hb => .inl hb⟩, rfl, rfl, Nat.le_refl _⟩, by simp [spread, nleaf]⟩
theorem spreadL_ok {base : Nat} (hbase : ∀ k v, NameOk E (base + k) v) : ∀ {xs : List V} {h : Nat → Value} {F : Nat → List Nat} {st : St} {c : Nat} {cs : List Value} {G : List Nat}, SatW E I h F st a w → repL (hp w) I xs cs G → G.Nodup →
    (∀ m, ∀ b ∈ G, b ∉ F m) → (∀ b ∈ G, b < w.heap.size ∧ ¬ I b ∧ (E.base ≤ b ∨ b ∈ E.A)) → (∀ k, c ≤ k → k < c + nleafL xs → st.o (base + k) = .dead) →
    SpreadOk E I h F st a w base c (spreadL base xs st c).2.1 (spreadL base xs st c).2.2 G (fun h' o' => srepL (hp w) I h' o' (spreadL base xs st c).1 cs) ∧ (spreadL base xs st c).2.2 = c + nleafL xs
  | [], h, F, st, c, cs, G, hs, hr, hnd, hdj, hfr, hd => by
    simp only [repL] at hr
    exact ⟨⟨⟨h, F, hs, by simp only [spreadL, srepL]; exact hr.1, fun m _ => ⟨rfl, rfl, rfl⟩, fun m b hb => .inl hb⟩, rfl, rfl, Nat.le_refl _⟩, by simp [spreadL, nleafL]⟩
  | x :: xs, h, F, st, c, cs, G, hs, hr, hnd, hdj, hfr, hd => by
    simp only [repL] at hr
    obtain ⟨d, ds, G1, G2, rfl, rfl, h1, h2⟩ := hr
    rw [List.nodup_append] at hnd
    obtain ⟨k1, k2⟩ := spread_ok hbase hs h1 hnd.1 (fun m b hb => hdj m b (by simp [hb])) (fun b hb => hfr b (by simp [hb])) (fun k hk1 hk2 => hd k hk1 (by simp only [nleafL]; omega))
    obtain ⟨y, st1, c1, hsx⟩ : ∃ y st1 c1, spread base x st c = (y, st1, c1) := ⟨_, _, _, rfl⟩
    rw [hsx] at k1 k2
    simp only at k1 k2
    obtain ⟨⟨h', F', m1, m2, m3, m4⟩, m5, m6, m7⟩ := k1
    obtain ⟨j1, j2⟩ := spreadL_ok (xs := xs) (c := c1) hbase m1 h2 hnd.2.1 (fun m b hb hb2 => by
      rcases m4 m b hb2 with h | h
      · exact hdj m b (by simp [hb]) h
      · exact hnd.2.2 b h b hb rfl) (fun b hb => hfr b (by simp [hb])) (fun k hk1 hk2 => by
        rw [(m3 (base + k) (by omega)).2.2]
        exact hd k (by omega) (by simp only [nleafL]; omega))
    obtain ⟨ys, st2, c2, hsl⟩ : ∃ ys st2 c2, spreadL base xs st1 c1 = (ys, st2, c2) := ⟨_, _, _, rfl⟩
    rw [hsl] at j1 j2
    simp only at j1 j2
    obtain ⟨⟨h2', F2', n1, n2, n3, n4⟩, n5, n6, n7⟩ := j1
    simp only [spreadL, hsx, hsl]
    refine ⟨⟨⟨h2', F2', n1, ?_, ?_, ?_⟩, by rw [n5, m5], by rw [n6, m6], by omega⟩, by rw [j2, k2]; simp only [nleafL]; omega⟩
    · simp only [srepL]
      refine ⟨d, ds, rfl, ?_, n2⟩
      refine grow_srep ?_ m2
      intro m hm
      by_cases hin : base + c1 ≤ m ∧ m < base + c2
      · exfalso
        obtain ⟨q1, q2⟩ := hin
        apply hm
        have e1 : m = base + (m - base) := by omega
        rw [e1, (m3 (base + (m - base)) (by omega)).2.2]
        exact hd (m - base) (by omega) (by simp only [nleafL]; omega)
      · obtain ⟨q1, _, q3⟩ := n3 m (by omega)
        exact ⟨q1, q3⟩
    · intro m hm
      obtain ⟨q1, q2, q3⟩ := n3 m (by omega)
      obtain ⟨p1, p2, p3⟩ := m3 m (by omega)
      exact ⟨by rw [q1, p1], by rw [q2, p2], by rw [q3, p3]⟩
    · intro m b hb
      rcases n4 m b hb with h | h
      · rcases m4 m b h with h | h
        · exact .inl h
        · exact .inr (by simp [h])
      · exact .inr (by simp [h])
end
end
end Go.Lite

/- A call: what is lent, what is handed over, what comes back. -/
namespace Go.Lite

mutual
/-- what a callee may read of a value, as long as it runs -/
def snap (st : St) : V → Option V
  | .sl n p off len => match rget (st.o n) p with
    | some (.own s ys) => some (.isl true s (fzL ((ys.drop off).take len)))
    | _ => none
  | .ref n p => match rget (st.o n) p with
    | some y => some (.iptr y.fz)
    | none => none
  | .agg fs => match snapL st fs with | some gs => some (.agg gs) | none => none
  | .fn f cs => match snapL st cs with | some gs => some (.fn f gs) | none => none
  | .tup _ => none
  | .own _ _ => none
  | .bx _ => none
  | .dead => none
  | .int k n => some (.int k n)
  | .bool b => some (.bool b)
  | .str s => some (.str s)
  | .nilp => some .nilp
  | .nilfn => some .nilfn
  | .nilif => some .nilif
  | .err => some .err
  | .isl nn s xs => some (.isl nn s xs)
  | .iptr x => some (.iptr x)
def snapL (st : St) : List V → Option (List V)
  | [] => some []
  | x :: xs => match snap st x with
    | some y => match snapL st xs with
      | some ys => some (y :: ys)
      | none => none
    | none => none
end

mutual
/-- it leads to no memory that must stand still -/
def V.noImm : V → Bool
  | .isl nn _ xs => !nn || xs.isEmpty
  | .iptr _ => false
  | .fn _ cs => noImmL cs
  | .own _ xs => noImmL xs
  | .bx x => x.noImm
  | .agg fs => noImmL fs
  | .tup vs => noImmL vs
  | _ => true
def noImmL : List V → Bool
  | [] => true
  | x :: xs => x.noImm && noImmL xs
end

mutual
theorem noImm_rep {H : Heap} {I I' : Nat → Prop} : ∀ {x : V} {cs : List Value} {F : List Nat}, x.noImm = true → rep H I x cs F → rep H I' x cs F
  | .int k n, cs, F, hn, h => by simp only [rep] at h ⊢; exact h
  | .bool _, cs, F, hn, h => by simp only [rep] at h ⊢; exact h
  | .str _, cs, F, hn, h => by simp only [rep] at h ⊢; exact h
  | .nilp, cs, F, hn, h => by simp only [rep] at h ⊢; exact h
  | .nilfn, cs, F, hn, h => by simp only [rep] at h ⊢; exact h
  | .nilif, cs, F, hn, h => by simp only [rep] at h ⊢; exact h
  | .err, cs, F, hn, h => by simp only [rep] at h ⊢; exact h
  | .agg fs, cs, F, hn, h => by simp only [V.noImm] at hn; simp only [rep] at h ⊢; exact noImmL_rep hn h
  | .tup _, cs, F, hn, h => by simp [rep] at h
  | .isl nn s xs, cs, F, hn, h => by
    simp only [rep] at h ⊢
    refine ⟨h.1, h.2.1, fun hnn => ?_⟩
    obtain ⟨b, o, cap, hc, hl, hs, hx⟩ := h.2.2 hnn
    refine ⟨b, o, cap, hc, hl, hs, .inl ?_⟩
    simp only [V.noImm, hnn, Bool.not_true, Bool.false_or, List.isEmpty_iff] at hn
    exact hn
  | .iptr x, cs, F, hn, h => by simp [V.noImm] at hn
  | .own s xs, cs, F, hn, h => by
    simp only [V.noImm] at hn
    simp only [rep] at h ⊢
    obtain ⟨b, o, cap, c, e, G, ds, hc, hl, rfl, h1, h2, h3, h4, h5⟩ := h
    exact ⟨b, o, cap, c, e, G, ds, hc, hl, rfl, h1, h2, noImmL_rep hn h3, h4, h5⟩
  | .bx x, cs, F, hn, h => by
    simp only [V.noImm] at hn
    simp only [rep] at h ⊢
    obtain ⟨b, c, e, G, ds, hc, rfl, h1, h2, h3⟩ := h
    exact ⟨b, c, e, G, ds, hc, rfl, h1, noImm_rep hn h2, h3⟩
  | .sl _ _ _ _, cs, F, hn, h => by simp [rep] at h
  | .ref _ _, cs, F, hn, h => by simp [rep] at h
  | .fn f caps, cs, F, hn, h => by
    simp only [V.noImm] at hn
    simp only [rep] at h ⊢
    obtain ⟨h0, vs, hc, h1, h2⟩ := h
    exact ⟨h0, vs, hc, noImmL_rep hn h1, h2⟩
  | .dead, cs, F, hn, h => by simp only [rep] at h ⊢; exact h
theorem noImmL_rep {H : Heap} {I I' : Nat → Prop} : ∀ {xs : List V} {cs : List Value} {F : List Nat}, noImmL xs = true → repL H I xs cs F → repL H I' xs cs F
  | [], cs, F, hn, h => by simp only [repL] at h ⊢; exact h
  | x :: xs, cs, F, hn, h => by
    simp only [noImmL, Bool.and_eq_true] at hn
    simp only [repL] at h ⊢
    obtain ⟨d, ds, G, Gs, rfl, rfl, h1, h2⟩ := h
    exact ⟨d, ds, G, Gs, rfl, rfl, noImm_rep hn.1 h1, noImmL_rep hn.2 h2⟩
end

inductive Arg where
  | b (y : V)
  | g (n : Nat)
  deriving Inhabited

def wholeOf (n : Nat) : V → V
  | .own _ ys => .sl n [] 0 ys.length
  | .bx _ => .ref n []
  | _ => .dead

def Arg.slot (st : St) : Arg → V
  | .b y => y
  | .g n => wholeOf n (st.o n)

def Arg.tree (st : St) : Arg → Option V
  | .b y => snap st y
  | .g n => if (st.o n).isRoot = true then some (st.o n) else none

def given : List Arg → List Nat
  | [] => []
  | .b _ :: r => given r
  | .g n :: r => n :: given r

def trees (st : St) : List Arg → Option (List V)
  | [] => some []
  | x :: r => match x.tree st with
    | some y => match trees st r with
      | some ys => some (y :: ys)
      | none => none
    | none => none

def freeOf (gs : List Nat) : List Arg → Bool
  | [] => true
  | .b y :: r => !touches (gs.map fun n => (n, [])) y && freeOf gs r
  | .g _ :: r => freeOf gs r

def lentImm : List Arg → Bool
  | [] => true
  | .b y :: r => y.immut && lentImm r
  | .g _ :: r => lentImm r

section
variable {P : Program} {E : Env} {I : Nat → Prop} {h : Nat → Value} {F : Nat → List Nat} {st : St} {a : Act} {w : World}

theorem node_rep (hs : SatW E I h F st a w) {n : Nat} {p : List Nat} {off len s : Nat} {ys : List V} {v : Value} (hx : srep (hp w) I h st.o (.sl n p off len) [v]) (hg : rget (st.o n) p = some (.own s ys)) :
    ∃ G, rep (hp w) I (.own s ((ys.drop off).take len)) [v] G ∧ ∀ b ∈ G, b ∈ F n := by
  have hroot := hs.root hg (by simp)
  have hrep := hs.rep hroot
  simp only [srep] at hx
  obtain ⟨s', ys', b, ob, L, cap, h1, h2, h3, h4, oo, hv, h5⟩ := hx
  rw [hg] at h1
  simp only [Option.some.injEq, V.own.injEq] at h1
  obtain ⟨rfl, rfl⟩ := h1
  have hv' : v = .slice (some ⟨b, oo, none⟩) len (cap - off) := by simpa using hv
  subst hv'
  by_cases hrt : ∃ s' ys', st.o n = .own s' ys' ∧ p = []
  · obtain ⟨s', ys', hO, rfl⟩ := hrt
    rw [hO] at hg h2 hrep
    simp only [rget, V.get, Option.some.injEq, V.own.injEq] at hg
    obtain ⟨rfl, rfl⟩ := hg
    simp only [rhdr, Option.some.injEq] at h2
    rw [h2] at hrep
    obtain ⟨G', k1, k2, _⟩ := rep_window hrep h3 h5
    exact ⟨G', k1, k2⟩
  · have hpo : p = [] → (st.o n).isOwn = false := by
      intro hp; subst hp
      cases hO : st.o n <;> try rfl
      exact absurd ⟨_, _, hO, rfl⟩ hrt
    obtain ⟨b1, o1, c1, e1, ds, G, hn, hb1, hw1, hyr, hGF, hGn, _, _⟩ := hs.place hroot hg hpo
    have hds : ds = [.slice (some ⟨b, ob, none⟩) L cap] := by
      have hl := rep_len hyr
      simp only [V.size] at hl
      obtain ⟨u, rfl⟩ := List.length_eq_one_iff.1 hl
      have hcell : rhdr (hp w) (h n) (st.o n) p = cellAt (hp w) (b1, o1) := by
        cases hO : st.o n with
        | own s0 xs =>
          rw [hO] at hn
          cases p with
          | nil => simp [rnav] at hn
          | cons j p => simp only [rhdr, hn]
        | bx x => rw [hO] at hn; simp only [rhdr, hn]
        | _ => rw [hO] at hroot; simp [V.isRoot] at hroot
      rw [h2] at hcell
      have := hw1 0 (by simp)
      simp [cellAt, hp, hb1] at this hcell
      rw [this] at hcell
      simpa using hcell.symm
    subst hds
    obtain ⟨G', m1, m2, _⟩ := rep_window hyr h3 h5
    exact ⟨G', m1, fun b hb => hGF b (m2 b hb)⟩

theorem touches_given {gs : List Nat} {n : Nat} {p : List Nat} (ht : (gs.map fun n => (n, ([] : List Nat))).any (fun k => k.1 == n && k.2.isPrefixOf p) = false) : n ∉ gs := by
  intro hn
  rw [List.any_eq_false] at ht
  have := ht (n, []) (List.mem_map.2 ⟨n, hn, rfl⟩)
  simp at this

mutual
theorem snap_ok (hs : SatW E I h F st a w) {I2 : Nat → Prop} {gs : List Nat} (hI : ∀ b, I b → I2 b) (hF : ∀ n, n ∉ gs → ∀ b ∈ F n, I2 b) : ∀ {y x : V} {cs : List Value}, srep (hp w) I h st.o y cs → snap st y = some x →
    touches (gs.map fun n => (n, [])) y = false → rep (hp w) I2 x cs []
  | .sl n p off len, x, cs, hy, hx, ht => by
    simp only [snap] at hx
    split at hx
    · rename_i s ys hg
      simp only [Option.some.injEq] at hx; subst hx
      have hl := srep_len hy
      simp only [V.size] at hl
      obtain ⟨v, rfl⟩ := List.length_eq_one_iff.1 hl
      obtain ⟨G, hr, hG⟩ := node_rep hs hy hg
      have hn := touches_given (by simpa only [touches] using ht)
      have := rep_fz hI hr (fun b hb => hF n hn b (hG b hb))
      simpa only [V.fz] using this
    · cases hx
  | .ref n p, x, cs, hy, hx, ht => by
    simp only [snap] at hx
    split at hx
    · rename_i z hg
      simp only [Option.some.injEq] at hx; subst hx
      have hn := touches_given (by simpa only [touches] using ht)
      simp only [srep] at hy
      obtain ⟨ad, z', h1, h2, rfl⟩ := hy
      have hroot := root_of_nav h1
      have hpo : p = [] → (st.o n).isOwn = false := by
        intro hp; subst hp
        cases hO : st.o n <;> try rfl
        rw [hO] at h1; simp [rnav] at h1
      obtain ⟨b1, o1, c1, e1, ds, G, hn1, hb1, hw1, hyr, hGF, hGn, hbF, _⟩ := hs.place hroot hg hpo
      rw [h1] at hn1
      have had : ad = (b1, o1) := Option.some.inj hn1
      subst had
      simp only [rep]
      exact ⟨trivial, b1, o1, c1, e1, (0, 0), ds, rfl, hF n hn b1 hbF, hb1, rep_fz hI hyr (fun b hb => hF n hn b (hGF b hb)), hw1⟩
    · cases hx
  | .agg fs, x, cs, hy, hx, ht => by
    simp only [snap] at hx
    split at hx
    · rename_i gs' hl
      simp only [Option.some.injEq] at hx; subst hx
      simp only [srep] at hy
      simp only [touches] at ht
      simp only [rep]; exact snapL_ok hs hI hF hy hl ht
    · cases hx
  | .fn f cs', x, cs, hy, hx, ht => by
    simp only [snap] at hx
    split at hx
    · rename_i gs' hl
      simp only [Option.some.injEq] at hx; subst hx
      simp only [srep] at hy
      obtain ⟨vs, h1, h2, h3⟩ := hy
      simp only [touches] at ht
      simp only [rep]
      have hr := snapL_ok hs hI hF h2 hl ht
      refine ⟨trivial, vs, h1, hr, ?_⟩
      have key : ∀ {cs' gs' : List V}, snapL st cs' = some gs' → (∀ x ∈ cs', x.size = 1) → (∀ x ∈ cs', ∀ fs, x ≠ .agg fs) ∨ True → ∀ x ∈ gs', x.size = 1 := by
        intro cs'
        induction cs' with
        | nil => intro gs' h _ _ x hx; simp only [snapL, Option.some.injEq] at h; subst h; simp at hx
        | cons c cs' ih =>
          intro gs' h h1 _ x hx
          simp only [snapL] at h
          split at h
          · rename_i y hy'
            split at h
            · rename_i ys hys
              simp only [Option.some.injEq] at h; subst h
              rcases List.mem_cons.1 hx with he | he
              · subst he; rw [snap_size hy']; exact h1 c (by simp)
              · exact ih hys (fun z hz => h1 z (by simp [hz])) (.inr trivial) x he
            · cases h
          · cases h
      exact key hl h3 (.inr trivial)
    · cases hx
  | .tup _, x, cs, hy, hx, ht => by simp [snap] at hx
  | .own _ _, x, cs, hy, hx, ht => by simp [snap] at hx
  | .bx _, x, cs, hy, hx, ht => by simp [snap] at hx
  | .dead, x, cs, hy, hx, ht => by simp [snap] at hx
  | .int k n, x, cs, hy, hx, ht => by simp only [snap, Option.some.injEq] at hx; subst hx; simp only [srep] at hy; exact rep_mono hI (fun _ _ => rfl) (by simp) hy
  | .bool b, x, cs, hy, hx, ht => by simp only [snap, Option.some.injEq] at hx; subst hx; simp only [srep] at hy; exact rep_mono hI (fun _ _ => rfl) (by simp) hy
  | .str s, x, cs, hy, hx, ht => by simp only [snap, Option.some.injEq] at hx; subst hx; simp only [srep] at hy; exact rep_mono hI (fun _ _ => rfl) (by simp) hy
  | .nilp, x, cs, hy, hx, ht => by simp only [snap, Option.some.injEq] at hx; subst hx; simp only [srep] at hy; exact rep_mono hI (fun _ _ => rfl) (by simp) hy
  | .nilfn, x, cs, hy, hx, ht => by simp only [snap, Option.some.injEq] at hx; subst hx; simp only [srep] at hy; exact rep_mono hI (fun _ _ => rfl) (by simp) hy
  | .nilif, x, cs, hy, hx, ht => by simp only [snap, Option.some.injEq] at hx; subst hx; simp only [srep] at hy; exact rep_mono hI (fun _ _ => rfl) (by simp) hy
  | .err, x, cs, hy, hx, ht => by simp only [snap, Option.some.injEq] at hx; subst hx; simp only [srep] at hy; exact rep_mono hI (fun _ _ => rfl) (by simp) hy
  | .isl nn s xs, x, cs, hy, hx, ht => by simp only [snap, Option.some.injEq] at hx; subst hx; simp only [srep] at hy; exact rep_mono hI (fun _ _ => rfl) (by simp) hy
  | .iptr z, x, cs, hy, hx, ht => by simp only [snap, Option.some.injEq] at hx; subst hx; simp only [srep] at hy; exact rep_mono hI (fun _ _ => rfl) (by simp) hy
theorem snapL_ok (hs : SatW E I h F st a w) {I2 : Nat → Prop} {gs : List Nat} (hI : ∀ b, I b → I2 b) (hF : ∀ n, n ∉ gs → ∀ b ∈ F n, I2 b) : ∀ {ys xs : List V} {cs : List Value}, srepL (hp w) I h st.o ys cs → snapL st ys = some xs →
    touchesL (gs.map fun n => (n, [])) ys = false → repL (hp w) I2 xs cs []
  | [], xs, cs, hy, hx, ht => by simp only [snapL, Option.some.injEq] at hx; subst hx; simp only [srepL] at hy; simp only [repL]; exact ⟨hy, trivial⟩
  | y :: ys, xs, cs, hy, hx, ht => by
    simp only [snapL] at hx
    split at hx
    · rename_i z hz
      split at hx
      · rename_i zs hzs
        simp only [Option.some.injEq] at hx; subst hx
        simp only [touchesL, Bool.or_eq_false_iff] at ht
        simp only [srepL] at hy
        obtain ⟨d, ds, rfl, h1, h2⟩ := hy
        simp only [repL]
        exact ⟨d, ds, [], [], rfl, rfl, snap_ok hs hI hF h1 hz ht.1, snapL_ok hs hI hF h2 hzs ht.2⟩
      · cases hx
    · cases hx
theorem snap_size : ∀ {y x : V}, snap st y = some x → x.size = y.size
  | .sl n p off len, x, hx => by
    simp only [snap] at hx
    split at hx
    · simp only [Option.some.injEq] at hx; subst hx; rfl
    · cases hx
  | .ref n p, x, hx => by
    simp only [snap] at hx
    split at hx
    · simp only [Option.some.injEq] at hx; subst hx; rfl
    · cases hx
  | .agg fs, x, hx => by
    simp only [snap] at hx
    split at hx
    · rename_i gs' hl
      simp only [Option.some.injEq] at hx; subst hx
      simp only [V.size]; exact snapL_size hl
    · cases hx
  | .fn f cs', x, hx => by
    simp only [snap] at hx
    split at hx
    · simp only [Option.some.injEq] at hx; subst hx; rfl
    · cases hx
  | .tup _, x, hx => by simp [snap] at hx
  | .own _ _, x, hx => by simp [snap] at hx
  | .bx _, x, hx => by simp [snap] at hx
  | .dead, x, hx => by simp [snap] at hx
  | .int k n, x, hx => by simp only [snap, Option.some.injEq] at hx; subst hx; rfl
  | .bool b, x, hx => by simp only [snap, Option.some.injEq] at hx; subst hx; rfl
  | .str s, x, hx => by simp only [snap, Option.some.injEq] at hx; subst hx; rfl
  | .nilp, x, hx => by simp only [snap, Option.some.injEq] at hx; subst hx; rfl
  | .nilfn, x, hx => by simp only [snap, Option.some.injEq] at hx; subst hx; rfl
  | .nilif, x, hx => by simp only [snap, Option.some.injEq] at hx; subst hx; rfl
  | .err, x, hx => by simp only [snap, Option.some.injEq] at hx; subst hx; rfl
  | .isl nn s xs, x, hx => by simp only [snap, Option.some.injEq] at hx; subst hx; rfl
  | .iptr z, x, hx => by simp only [snap, Option.some.injEq] at hx; subst hx; rfl
theorem snapL_size : ∀ {ys xs : List V}, snapL st ys = some xs → sizeL xs = sizeL ys
  | [], xs, hx => by simp only [snapL, Option.some.injEq] at hx; subst hx; rfl
  | y :: ys, xs, hx => by
    simp only [snapL] at hx
    split at hx
    · rename_i z hz
      split at hx
      · rename_i zs hzs
        simp only [Option.some.injEq] at hx; subst hx
        simp [sizeL, snap_size hz, snapL_size hzs]
      · cases hx
    · cases hx
end
end
end Go.Lite

/- A call of a function with a contract. -/
namespace Go.Lite

/-- contents behind the call -/
def outO : List Arg → List V → (Nat → V) → Nat → V
  | .g n :: as, y :: ys, o => upd (outO as ys o) n y
  | .b _ :: as, _ :: ys, o => outO as ys o
  | _, _, o => o

/-- an object that does not come back takes its aliases with it -/
def goneA (o : Nat → V) (gs : List Nat) : V → V
  | .sl m q a l => if m ∈ gs ∧ (q ≠ [] ∨ (o m).isOwn = false) then .dead else .sl m q a l
  | .ref m q => if m ∈ gs ∧ (q ≠ [] ∨ (o m).isRoot = false) then .dead else .ref m q
  | x => x

/-- old and new content of what was handed over and came back -/
def sameShape : V → V → Bool
  | _, .dead => true
  | .own s xs, .own s' ys => s == s' && xs.length == ys.length
  | .bx _, .bx _ => true
  | _, _ => false

def shapes (st : St) : List Arg → List V → Bool
  | .g n :: as, y :: ys => sameShape (st.o n) y && shapes st as ys
  | .b _ :: as, _ :: ys => shapes st as ys
  | [], [] => true
  | _, _ => false

def afterCall (st : St) (args : List Arg) (outs : List V) : St :=
  { st with s := fun t => (st.s t).mapA (goneA (outO args outs st.o) (given args)), o := outO args outs st.o }

section
variable {P : Program} {E : Env} {I : Nat → Prop} {h : Nat → Value} {F : Nat → List Nat} {st : St} {a : Act} {w : World}

mutual
theorem snap_immut : ∀ {y : V}, y.immut = true → snap st y = some y
  | .agg fs, h => by simp only [V.immut] at h; simp only [snap, snapL_immut h]
  | .fn f cs, h => by simp only [V.immut] at h; simp only [snap, snapL_immut h]
  | .sl _ _ _ _, h => by simp [V.immut] at h
  | .ref _ _, h => by simp [V.immut] at h
  | .own _ _, h => by simp [V.immut] at h
  | .bx _, h => by simp [V.immut] at h
  | .tup _, h => by simp [V.immut] at h
  | .dead, h => by simp [V.immut] at h
  | .int k n, h => rfl
  | .bool b, h => rfl
  | .str s, h => rfl
  | .nilp, h => rfl
  | .nilfn, h => rfl
  | .nilif, h => rfl
  | .err, h => rfl
  | .isl nn s xs, h => rfl
  | .iptr x, h => rfl
theorem snapL_immut : ∀ {ys : List V}, immutL ys = true → snapL st ys = some ys
  | [], h => rfl
  | y :: ys, h => by
    simp only [immutL, Bool.and_eq_true] at h
    simp only [snapL, snap_immut h.1, snapL_immut h.2]
end

theorem AV_of_rep {H : Heap} {x : V} {v : Value} {G : List Nat} (hx : x ≠ .dead) (ha : x.isAgg = false) (hr : rep H I x [v] G) : AV H I x v G := by
  cases x <;> simp [V.isAgg] at ha <;> first | exact hr | exact absurd rfl hx | (simp [rep] at hr)

theorem snap_AV (hs : SatW E I h F st a w) {I2 : Nat → Prop} {gs : List Nat} (hI : ∀ b, I b → I2 b) (hF : ∀ n, n ∉ gs → ∀ b ∈ F n, I2 b) {y x : V} {v : Value} (hy : SV (hp w) I h st.o y v) (hx : snap st y = some x)
    (ht : touches (gs.map fun n => (n, [])) y = false) : AV (hp w) I2 x v [] := by
  have hpart : y.part = true := by cases y <;> simp [snap] at hx <;> simp [V.part]
  have hc := SV_cells hy hpart
  have hr := snap_ok hs hI hF hc hx ht
  cases y with
  | agg fs =>
    simp only [snap] at hx
    split at hx
    · simp only [Option.some.injEq] at hx; subst hx
      simp only [SV, SV1] at hy
      obtain ⟨cs, rfl, _⟩ := hy
      simp only [AV]
      simp only [rep, Value.cells] at hr
      exact ⟨cs, rfl, by simpa using hr⟩
    · cases hx
  | dead => simp [snap] at hx
  | tup _ => simp [snap] at hx
  | own _ _ => simp [snap] at hx
  | bx _ => simp [snap] at hx
  | _ =>
    have h1 : v.cells.toList = [v] := by
      simp only [SV, SV1] at hy
      have hl := srep_len hy
      cases v <;> first | rfl | skip
      simp [srep, rep] at hy
    rw [h1] at hr
    refine AV_of_rep ?_ ?_ hr
    · intro he; subst he; simp only [snap] at hx; first | (simp at hx; done) | (split at hx <;> simp at hx)
    · simp only [snap] at hx
      first
        | (simp only [Option.some.injEq] at hx; subst hx; rfl)
        | (split at hx
           · simp only [Option.some.injEq] at hx; subst hx; rfl
           · cases hx)

theorem immut_AV {y : V} {v : Value} (hy : SV (hp w) I h st.o y v) (hi : y.immut = true) : AV (hp w) I y v [] := by
  cases y with
  | agg fs =>
    simp only [SV, SV1] at hy
    obtain ⟨cs, rfl, h1⟩ := hy
    simp only [V.immut] at hi
    exact ⟨cs, rfl, immutL_rep hi h1⟩
  | dead => simp [V.immut] at hi
  | tup _ => simp [V.immut] at hi
  | own _ _ => simp [V.immut] at hi
  | bx _ => simp [V.immut] at hi
  | sl _ _ _ _ => simp [V.immut] at hi
  | ref _ _ => simp [V.immut] at hi
  | _ => simp only [SV, SV1] at hy; exact immut_rep hi hy

theorem whole_val (hs : SatW E I h F st a w) {n : Nat} {v : Value} (hr : (st.o n).isRoot = true) (hv : SV (hp w) I h st.o (wholeOf n (st.o n)) v) : v = h n := by
  have hrep := hs.rep hr
  cases hO : st.o n <;> rw [hO] at hr hrep hv <;> simp [V.isRoot] at hr
  · rename_i s ys
    simp only [wholeOf, SV, SV1, srep, hO] at hv
    obtain ⟨s', ys', b, ob, L, cap, h1, h2, h3, h4, oo, h5, h6⟩ := hv
    simp only [rget, V.get, Option.some.injEq, V.own.injEq] at h1
    obtain ⟨rfl, rfl⟩ := h1
    simp only [rhdr, Option.some.injEq] at h2
    simp only [rep] at hrep
    obtain ⟨b', o', cap', _, _, _, _, hhv, _⟩ := hrep
    have hhv' : h n = .slice (some ⟨b', o', none⟩) ys.length cap' := by simpa using hhv
    rw [h2] at hhv'
    simp only [Value.slice.injEq, Option.some.injEq, Addr.mk.injEq, and_true] at hhv'
    have hoo : oo = ob := by rcases h6 with h | h <;> omega
    have hv' : v = .slice (some ⟨b, oo, none⟩) ys.length (cap - 0) := by simpa using h5
    rw [hv', h2, hoo, hhv'.2.1, Nat.sub_zero]
  · rename_i x
    simp only [wholeOf, SV, SV1, srep, hO] at hv
    obtain ⟨ad, y, h1, _, h3⟩ := hv
    simp only [rep] at hrep
    obtain ⟨b, _, _, _, _, hhv, _⟩ := hrep
    have hhv' : h n = .pointer (some ⟨b, 0, none⟩) := by simpa using hhv
    rw [hhv'] at h1
    have : ad = (b, 0) := by cases x <;> simp [rnav, nav] at h1 <;> exact h1.symm
    subst this
    rw [hhv']; simpa using h3

theorem args_ok (hs : SatW E I h F st a w) {I2 : Nat → Prop} (hI : ∀ b, I b → I2 b) : ∀ {args : List Arg} {vs : List Value} {xs : List V}, args.length = vs.length →
    (∀ y x v, Arg.b y ∈ args → SV (hp w) I h st.o y v → snap st y = some x → AV (hp w) I2 x v []) →
    (∀ (i : Nat) x v, args[i]? = some x → vs[i]? = some v → SV (hp w) I h st.o (x.slot st) v) → trees st args = some xs →
    AVL (hp w) I2 xs vs ((given args).flatMap F) ∧ (∀ (i : Nat) n v, args[i]? = some (.g n) → vs[i]? = some v → v = h n) ∧ ∀ n ∈ given args, (st.o n).isRoot = true
  | [], vs, xs, hl, hb, hv, ht => by
    have : vs = [] := List.eq_nil_of_length_eq_zero (by simpa using hl.symm)
    subst this
    simp only [trees, Option.some.injEq] at ht; subst ht
    simp [AVL, given]
  | x :: args, vs, xs, hl, hb, hv, ht => by
    cases vs with
    | nil => simp at hl
    | cons v vs =>
      simp only [trees] at ht
      split at ht
      · rename_i y hy
        split at ht
        · rename_i ys hys
          simp only [Option.some.injEq] at ht; subst ht
          have hx := hv 0 x v (by simp) (by simp)
          obtain ⟨k1, k2, k3⟩ := args_ok hs hI (args := args) (vs := vs) (by simpa using hl) (fun y x v hm => hb y x v (by simp [hm])) (fun i x v h1 h2 => hv (i + 1) x v (by simpa using h1) (by simpa using h2)) hys
          cases x with
          | b z =>
            refine ⟨?_, ?_, by simpa only [given] using k3⟩
            · simp only [AVL]
              exact ⟨v, vs, [], _, rfl, by simp [given], hb z y v (by simp) hx hy, k1⟩
            · intro i n u h1 h2
              cases i with
              | zero => simp at h1
              | succ i => exact k2 i n u (by simpa using h1) (by simpa using h2)
          | g n =>
            simp only [Arg.tree] at hy
            split at hy
            · rename_i hroot
              simp only [Option.some.injEq] at hy; subst hy
              simp only [Arg.slot] at hx
              have hvn := whole_val hs hroot hx
              refine ⟨?_, ?_, ?_⟩
              · simp only [AVL]
                refine ⟨v, vs, F n, _, rfl, by simp [given], ?_, k1⟩
                have hrep := rep_mono hI (H' := hp w) (fun _ _ => rfl) (fun _ _ => rfl) (hs.rep hroot)
                rw [hvn]
                exact AV_of_rep (by intro he; rw [he] at hroot; simp [V.isRoot] at hroot) (by cases hO : st.o n <;> rw [hO] at hroot <;> simp [V.isRoot] at hroot <;> rfl) hrep
              · intro i m u h1 h2
                cases i with
                | zero => simp at h1 h2; subst h1 h2; exact hvn
                | succ i => exact k2 i m u (by simpa using h1) (by simpa using h2)
              · intro m hm
                simp only [given, List.mem_cons] at hm
                rcases hm with h | h
                · subst h; exact hroot
                · exact k3 m h
            · cases hy
        · cases ht
      · cases ht

theorem outO_not {args : List Arg} : ∀ {outs : List V} {o : Nat → V} {m : Nat}, m ∉ given args → outO args outs o m = o m := by
  induction args with
  | nil => intro outs o m _; simp [outO]
  | cons x args ih =>
    intro outs o m hm
    cases outs with
    | nil => cases x <;> simp [outO]
    | cons y ys =>
      cases x with
      | b z => simp only [outO]; exact ih (by simpa only [given] using hm)
      | g n =>
        simp only [given, List.mem_cons, not_or] at hm
        simp only [outO, upd_ne _ _ hm.1]; exact ih hm.2

/-- footprints behind the call -/
theorem outF {H : Heap} : ∀ {args : List Arg} {outs : List V} {vs : List Value} {Fo : List Nat} {o : Nat → V}, OutL H I outs vs Fo → outs.length = args.length → vs.length = args.length → (given args).Nodup → Fo.Nodup →
    (∀ (i : Nat) n v, args[i]? = some (.g n) → vs[i]? = some v → v = h n) →
    ∃ F' : Nat → List Nat, (∀ m, m ∉ given args → F' m = F m) ∧ (∀ n ∈ given args, (outO args outs o n = .dead ∧ F' n = []) ∨ ((outO args outs o n).isRoot = true ∧ rep H I (outO args outs o n) [h n] (F' n))) ∧
      (∀ n ∈ given args, (F' n).Nodup ∧ ∀ b ∈ F' n, b ∈ Fo) ∧ (∀ n ∈ given args, ∀ m ∈ given args, n ≠ m → ∀ b ∈ F' n, b ∉ F' m)
  | [], outs, vs, Fo, o, ho, h1, h2, hnd, hFn, hv => ⟨F, fun _ _ => rfl, by simp [given], by simp [given], by simp [given]⟩
  | x :: args, outs, vs, Fo, o, ho, h1, h2, hnd, hFn, hv => by
    cases outs with
    | nil => simp at h1
    | cons y ys =>
      cases vs with
      | nil => simp at h2
      | cons v vs =>
        simp only [OutL] at ho
        obtain ⟨G, Gs, rfl, hy, hr⟩ := ho
        rw [List.nodup_append] at hFn
        cases x with
        | b z =>
          obtain ⟨F', k1, k2, k3, k4⟩ := outF (o := o) hr (by simpa using h1) (by simpa using h2) (by simpa only [given] using hnd) hFn.2.1 (fun i n u h1 h2 => hv (i + 1) n u (by simpa using h1) (by simpa using h2))
          refine ⟨F', by simpa only [given] using k1, by simpa only [given, outO] using k2, ?_, by simpa only [given] using k4⟩
          intro n hn
          obtain ⟨j1, j2⟩ := k3 n (by simpa only [given] using hn)
          exact ⟨j1, fun b hb => by simp [j2 b hb]⟩
        | g n =>
          simp only [given, List.nodup_cons] at hnd
          obtain ⟨F', k1, k2, k3, k4⟩ := outF (o := o) hr (by simpa using h1) (by simpa using h2) hnd.2 hFn.2.1 (fun i n u h1 h2 => hv (i + 1) n u (by simpa using h1) (by simpa using h2))
          have hvn := hv 0 n v (by simp) (by simp)
          subst hvn
          have hne : ∀ m ∈ given args, m ≠ n := fun m hm he => hnd.1 (he ▸ hm)
          refine ⟨upd F' n G, ?_, ?_, ?_, ?_⟩
          · intro m hm
            simp only [given, List.mem_cons, not_or] at hm
            rw [upd_ne _ _ hm.1]; exact k1 m hm.2
          · intro m hm
            simp only [given, List.mem_cons] at hm
            by_cases hmn : m = n
            · subst hmn; simp only [outO, upd_same]; exact hy
            · simp only [outO, upd_ne _ _ hmn]; exact k2 m (hm.resolve_left hmn)
          · intro m hm
            simp only [given, List.mem_cons] at hm
            by_cases hmn : m = n
            · subst hmn; rw [upd_same]; exact ⟨hFn.1, fun b hb => by simp [hb]⟩
            · rw [upd_ne _ _ hmn]
              obtain ⟨j1, j2⟩ := k3 m (hm.resolve_left hmn)
              exact ⟨j1, fun b hb => by simp [j2 b hb]⟩
          · intro m hm k hk hmk b hb
            simp only [given, List.mem_cons] at hm hk
            by_cases hmn : m = n
            · subst hmn
              rw [upd_same] at hb
              rw [upd_ne _ _ (Ne.symm hmk)]
              intro hb2
              exact hFn.2.2 b hb b ((k3 k (hk.resolve_left (Ne.symm hmk))).2 b hb2) rfl
            · rw [upd_ne _ _ hmn] at hb
              by_cases hkn : k = n
              · subst hkn
                rw [upd_same]
                intro hb2
                exact hFn.2.2 b hb2 b ((k3 m (hm.resolve_left hmn)).2 b hb) rfl
              · rw [upd_ne _ _ hkn]
                exact k4 m (hm.resolve_left hmn) k (hk.resolve_left hkn) hmk b hb

theorem shapes_ok : ∀ {args : List Arg} {outs : List V}, shapes st args outs = true → (given args).Nodup → ∀ n ∈ given args, sameShape (st.o n) (outO args outs st.o n) = true
  | [], outs, _, _, n, hn => by simp [given] at hn
  | .b z :: args, [], hsh, _, n, hn => by simp [shapes] at hsh
  | .b z :: args, y :: ys, hsh, hnd, n, hn => by
    simp only [shapes] at hsh
    simp only [given] at hn hnd
    simp only [outO]; exact shapes_ok hsh hnd n hn
  | .g m :: args, [], hsh, _, n, hn => by simp [shapes] at hsh
  | .g m :: args, y :: ys, hsh, hnd, n, hn => by
    simp only [shapes, Bool.and_eq_true] at hsh
    simp only [given, List.nodup_cons] at hnd
    simp only [given, List.mem_cons] at hn
    by_cases hnm : n = m
    · subst hnm; simp only [outO, upd_same]; exact hsh.1
    · simp only [outO, upd_ne _ _ hnm]; exact shapes_ok hsh.2 hnd.2 n (hn.resolve_left hnm)
end
end Go.Lite

/- A call: the state behind it. -/
namespace Go.Lite

section
variable {P : Program} {E : Env} {I : Nat → Prop} {h : Nat → Value} {F : Nat → List Nat} {st : St} {a : Act} {w : World}

theorem AV_noImm {H : Heap} {I' : Nat → Prop} {x : V} {v : Value} {G : List Nat} (hn : x.noImm = true) (hx : AV H I x v G) : AV H I' x v G := by
  cases x with
  | agg fs =>
    simp only [V.noImm] at hn
    obtain ⟨cs, h1, h2⟩ := hx
    exact ⟨cs, h1, noImmL_rep hn h2⟩
  | tup _ => exact hx
  | dead => exact hx
  | _ => simp only [AV] at hx ⊢; exact noImm_rep hn hx

theorem AVL_noImm {H : Heap} {I' : Nat → Prop} : ∀ {xs : List V} {vs : List Value} {G : List Nat}, noImmL xs = true → AVL H I xs vs G → AVL H I' xs vs G
  | [], vs, G, _, hx => by simp only [AVL] at hx ⊢; exact hx
  | x :: xs, vs, G, hn, hx => by
    simp only [noImmL, Bool.and_eq_true] at hn
    simp only [AVL] at hx ⊢
    obtain ⟨v, vs', G1, G2, h1, h2, h3, h4⟩ := hx
    exact ⟨v, vs', G1, G2, h1, h2, AV_noImm hn.1 h3, AVL_noImm hn.2 h4⟩

theorem RV_noImm {H : Heap} {I' : Nat → Prop} {x : V} {v : Value} {G : List Nat} (hn : x.noImm = true) (hx : RV H I x v G) : RV H I' x v G := by
  cases x with
  | tup rs =>
    simp only [V.noImm] at hn
    obtain ⟨us, h1, h2⟩ := hx
    exact ⟨us, h1, AVL_noImm hn h2⟩
  | _ => simp only [RV] at hx ⊢; exact AV_noImm hn hx

theorem OutL_noImm {H : Heap} {I' : Nat → Prop} : ∀ {ys : List V} {vs : List Value} {G : List Nat}, noImmL ys = true → OutL H I ys vs G → OutL H I' ys vs G
  | [], vs, G, _, hx => by simp only [OutL] at hx ⊢; exact hx
  | y :: ys, [], G, hn, hx => by simp [OutL] at hx
  | y :: ys, v :: vs, G, hn, hx => by
    simp only [noImmL, Bool.and_eq_true] at hn
    simp only [OutL] at hx ⊢
    obtain ⟨G1, G2, h1, h2, h3⟩ := hx
    refine ⟨G1, G2, h1, ?_, OutL_noImm hn.2 h3⟩
    rcases h2 with h | h
    · exact .inl h
    · exact .inr ⟨h.1, noImm_rep hn.1 h.2⟩

theorem lent_of : ∀ {args : List Arg}, lentImm args = true → ∀ y, Arg.b y ∈ args → y.immut = true
  | [], _, y, hy => by simp at hy
  | .b z :: args, hl, y, hy => by
    simp only [lentImm, Bool.and_eq_true] at hl
    rcases List.mem_cons.1 hy with h | h
    · simp only [Arg.b.injEq] at h; subst h; exact hl.1
    · exact lent_of hl.2 y h
  | .g n :: args, hl, y, hy => by
    simp only [lentImm] at hl
    rcases List.mem_cons.1 hy with h | h
    · cases h
    · exact lent_of hl y h

theorem free_of {gs : List Nat} : ∀ {args : List Arg}, freeOf gs args = true → ∀ y, Arg.b y ∈ args → touches (gs.map fun n => (n, [])) y = false
  | [], _, y, hy => by simp at hy
  | .b z :: args, hl, y, hy => by
    simp only [freeOf, Bool.and_eq_true, Bool.not_eq_true'] at hl
    rcases List.mem_cons.1 hy with h | h
    · simp only [Arg.b.injEq] at h; subst h; exact hl.1
    · exact free_of hl.2 y h
  | .g n :: args, hl, y, hy => by
    simp only [freeOf] at hl
    rcases List.mem_cons.1 hy with h | h
    · cases h
    · exact free_of hl y h

theorem flatMap_nodup {F : Nat → List Nat} (h1 : ∀ n, (F n).Nodup) (h2 : ∀ n m, n ≠ m → ∀ b ∈ F n, b ∉ F m) : ∀ {gs : List Nat}, gs.Nodup → (gs.flatMap F).Nodup
  | [], _ => by simp
  | n :: gs, hnd => by
    rw [List.nodup_cons] at hnd
    rw [List.flatMap_cons, List.nodup_append]
    refine ⟨h1 n, flatMap_nodup h1 h2 hnd.2, ?_⟩
    intro b hb c hc he
    subst he
    obtain ⟨m, hm, hbm⟩ := List.mem_flatMap.1 hc
    exact h2 n m (fun he => hnd.1 (he ▸ hm)) b hb hbm

/-- the state behind a call, from what the contract says -/
theorem after_ok (hs : SatW E I h F st a w) {args : List Arg} {outs : List V} {w' : World} {I' : Nat → Prop} {F' : Nat → List Nat}
    (hroots : ∀ n ∈ given args, (st.o n).isRoot = true) (hsame : ∀ n ∈ given args, sameShape (st.o n) (outO args outs st.o n) = true)
    (hI : ∀ b, I b → I' b) (hI' : ∀ b, I' b → b < w'.heap.size ∧ (I b ∨ w.heap.size ≤ b ∨ b ∈ (given args).flatMap F)) (hsz : w.heap.size ≤ w'.heap.size)
    (hfr : ∀ b, b < w.heap.size → b ∉ (given args).flatMap F → w'.heap[b]? = w.heap[b]?) (h1 : w'.os = w.os) (h2 : w'.tape = w.tape ∧ w.drawn ≤ w'.drawn) (h3 : w'.output = w.output)
    (k1 : ∀ m, m ∉ given args → F' m = F m)
    (k2 : ∀ n ∈ given args, (outO args outs st.o n = .dead ∧ F' n = []) ∨ ((outO args outs st.o n).isRoot = true ∧ rep (hp w') I' (outO args outs st.o n) [h n] (F' n)))
    (k3 : ∀ n ∈ given args, (F' n).Nodup) (k4 : ∀ n ∈ given args, ∀ m ∈ given args, n ≠ m → ∀ b ∈ F' n, b ∉ F' m)
    (k5 : ∀ n ∈ given args, ∀ b ∈ F' n, b < w'.heap.size ∧ ¬ I' b ∧ (w.heap.size ≤ b ∨ b ∈ (given args).flatMap F)) :
    SatW E I' h F' (afterCall st args outs) a w' := by
  have hfl : ∀ b, b ∈ (given args).flatMap F → ∃ n ∈ given args, b ∈ F n := fun b hb => List.mem_flatMap.1 hb
  have hIf : ∀ b, I b → b ∉ (given args).flatMap F := by
    intro b hb hb2; obtain ⟨n, _, hn⟩ := hfl b hb2; exact (hs.fresh n b hn).2.1 hb
  have hII : ∀ b, I b → hp w' b = hp w b := fun b hb => hfr b (hs.imm b hb) (hIf b hb)
  have hFf : ∀ m, m ∉ given args → ∀ b ∈ F m, b ∉ (given args).flatMap F := by
    intro m hm b hb hb2; obtain ⟨n, hn1, hn2⟩ := hfl b hb2
    exact hs.dj n m (fun he => hm (he ▸ hn1)) b hn2 hb
  have hFH : ∀ m, m ∉ given args → ∀ b ∈ F m, hp w' b = hp w b := fun m hm b hb => hfr b (hs.fresh m b hb).1 (hFf m hm b hb)
  have hout : ∀ m, m ∉ given args → outO args outs st.o m = st.o m := fun m hm => outO_not hm
  have tr : Tr (hp w) I h st.o (hp w') I' h (outO args outs st.o) (goneA (outO args outs st.o) (given args)) := by
    refine ⟨hI, hII, ?_, ?_, ?_, ?_⟩
    · intro m q off len cs hh
      simp only [goneA]
      split
      · simp only [srep] at hh ⊢
        obtain ⟨_, _, _, _, _, _, _, _, _, _, _, rfl, _⟩ := hh
        exact ⟨_, rfl⟩
      · rename_i hc
        by_cases hm : m ∈ given args
        · have hq : q = [] ∧ (outO args outs st.o m).isOwn = true := by
            refine ⟨?_, ?_⟩
            · by_cases h : q = []
              · exact h
              · exact absurd ⟨hm, .inl h⟩ hc
            · cases h : (outO args outs st.o m).isOwn with
              | true => rfl
              | false => exact absurd ⟨hm, .inr h⟩ hc
          obtain ⟨rfl, hown⟩ := hq
          have hss := hsame m hm
          cases hO' : outO args outs st.o m <;> rw [hO'] at hown <;> simp [V.isOwn] at hown
          rename_i s' ys'
          rw [hO'] at hss
          cases hO : st.o m <;> rw [hO] at hss <;> simp [sameShape] at hss
          rename_i s ys
          obtain ⟨rfl, hlen⟩ := hss
          simp only [srep, hO, hO'] at hh ⊢
          obtain ⟨s2, ys2, b, ob, L, cap, g1, g2, g3, g4, g5⟩ := hh
          simp only [rget, V.get, Option.some.injEq, V.own.injEq] at g1
          obtain ⟨rfl, rfl⟩ := g1
          simp only [rhdr] at g2 ⊢
          exact ⟨s, ys', b, ob, L, cap, by simp [rget, V.get], g2, by omega, by omega, g5⟩
        · simp only [srep, hout m hm] at hh ⊢
          obtain ⟨s, ys, b, ob, L, cap, g1, g2, g3⟩ := hh
          have hrt := hs.root g1 (by simp)
          have := (rnav_mono hrt (hs.rep hrt) (hFH m hm) q).2 _ g1 rfl
          exact ⟨s, ys, b, ob, L, cap, g1, by rw [this]; exact g2, g3⟩
    · intro m q cs hh
      simp only [goneA]
      split
      · simp only [srep] at hh ⊢
        obtain ⟨_, _, _, _, rfl⟩ := hh
        exact ⟨_, rfl⟩
      · rename_i hc
        by_cases hm : m ∈ given args
        · have hq : q = [] ∧ (outO args outs st.o m).isRoot = true := by
            refine ⟨?_, ?_⟩
            · by_cases h : q = []
              · exact h
              · exact absurd ⟨hm, .inl h⟩ hc
            · cases h : (outO args outs st.o m).isRoot with
              | true => rfl
              | false => exact absurd ⟨hm, .inr h⟩ hc
          obtain ⟨rfl, hroot⟩ := hq
          have hss := hsame m hm
          simp only [srep] at hh ⊢
          obtain ⟨ad, z, g1, g2, g3⟩ := hh
          cases hO : st.o m with
          | own s ys => rw [hO] at g1; simp [rnav] at g1
          | bx x =>
            rw [hO] at hss g1
            cases hO' : outO args outs st.o m <;> rw [hO'] at hroot hss <;> simp [V.isRoot] at hroot <;> simp [sameShape] at hss
            rename_i y
            simp only [rnav] at g1 ⊢
            split at g1
            · rename_i b hb
              have : ad = (b.block, b.off) := by cases x <;> simp [nav] at g1 <;> exact g1.symm
              exact ⟨ad, y, by rw [this]; cases y <;> simp [nav], by cases y <;> simp [rget, V.get], g3⟩
            · cases g1
          | _ => rw [hO] at g1; simp [rnav] at g1
        · simp only [srep, hout m hm] at hh ⊢
          obtain ⟨ad, z, g1, g2, g3⟩ := hh
          have hrt := root_of_nav g1
          exact ⟨ad, z, by rw [(rnav_mono hrt (hs.rep hrt) (hFH m hm) q).1]; exact g1, g2, g3⟩
    · intro m q a l; simp only [goneA]; split <;> exact ⟨rfl, by simp, by simp⟩
    · intro m q; simp only [goneA]; split <;> exact ⟨rfl, by simp, by simp⟩
  have hbA : ∀ b, (w.heap.size ≤ b ∨ b ∈ (given args).flatMap F) → E.base ≤ b ∨ b ∈ E.A := by
    intro b hb
    rcases hb with h | h
    · exact .inl (Nat.le_trans hs.grow h)
    · obtain ⟨n, _, hn⟩ := hfl b h; exact (hs.fresh n b hn).2.2
  have hcross : ∀ m, m ∉ given args → ∀ n ∈ given args, ∀ b ∈ F m, b ∉ F' n := by
    intro m hm n hn b hb hb2
    rcases (k5 n hn b hb2).2.2 with h | h
    · exact Nat.lt_irrefl _ (Nat.lt_of_lt_of_le (hs.fresh m b hb).1 h)
    · exact hFf m hm b hb h
  refine { size := hs.size, defers := hs.defers, slot := fun t => SV_tr tr (hs.slot t), obj := ?_, nd := ?_, dj := ?_, fresh := ?_, grow := Nat.le_trans hs.grow hsz, imm := fun b hb => (hI' b hb).1, frame := ?_, os := by rw [h1]; exact hs.os, tape := ⟨h2.1.trans hs.tape.1, Nat.le_trans hs.tape.2 h2.2⟩, output := by rw [h3]; exact hs.output, mh := ?_, ms := hs.ms, imm0 := fun b hb => (hI' b hb).2.elim (fun h => hs.imm0 b h) (fun h => .inr (hbA b h)) }
  · intro m
    simp only [afterCall]
    by_cases hm : m ∈ given args
    · exact k2 m hm
    · rw [hout m hm, k1 m hm]
      rcases hs.obj m with hd | ⟨hr, hrep⟩
      · exact .inl hd
      · exact .inr ⟨hr, rep_mono hI hII (hFH m hm) hrep⟩
  · intro m
    by_cases hm : m ∈ given args
    · exact k3 m hm
    · rw [k1 m hm]; exact hs.nd m
  · intro m n hmn b hb
    by_cases hm : m ∈ given args
    · by_cases hn : n ∈ given args
      · exact k4 m hm n hn hmn b hb
      · rw [k1 n hn]; intro hb2; exact hcross n hn m hm b hb2 hb
    · rw [k1 m hm] at hb
      by_cases hn : n ∈ given args
      · exact hcross m hm n hn b hb
      · rw [k1 n hn]; exact hs.dj m n hmn b hb
  · intro m b hb
    by_cases hm : m ∈ given args
    · obtain ⟨q1, q2, q3⟩ := k5 m hm b hb
      exact ⟨q1, q2, hbA b q3⟩
    · rw [k1 m hm] at hb
      obtain ⟨q1, q2, q3⟩ := hs.fresh m b hb
      refine ⟨Nat.lt_of_lt_of_le q1 hsz, ?_, q3⟩
      intro hIb
      rcases (hI' b hIb).2 with h | h | h
      · exact q2 h
      · omega
      · exact hFf m hm b hb h
  · intro b hb hbAA
    have hb2 : b < w.heap.size := Nat.lt_of_lt_of_le hb hs.grow
    rw [hfr b hb2 (fun hbf => by
      rcases hbA b (.inr hbf) with h | h
      · omega
      · exact hbAA h)]
    exact hs.frame b hb hbAA
  · intro m v hm hd
    simp only [afterCall] at hd
    by_cases hmg : m ∈ given args
    · refine hs.mh m v hm ?_
      intro hd2; have := hroots m hmg; rw [hd2] at this; simp [V.isRoot] at this
    · rw [hout m hmg] at hd; exact hs.mh m v hm hd

theorem call_sat (hs : SatW E I h F st a w) {f : FuncId} {args : List Arg} {vs : List Value} {xs : List V} {Q : V → List V → Prop} (hl : args.length = vs.length)
    (hv : ∀ (i : Nat) x v, args[i]? = some x → vs[i]? = some v → SV (hp w) I h st.o (x.slot st) v) (ht : trees st args = some xs) (hf : freeOf (given args) args = true) (hnd : (given args).Nodup)
    (hsh : ∀ r outs, Q r outs → shapes st args outs = true) (hc : CallOk P f xs Q) (him : lentImm args = true ∨ ∀ r outs, Q r outs → r.noImm = true ∧ noImmL outs = true) :
    Calls P f vs.toArray w fun e w' => ∃ r outs, Q r outs ∧ ∃ v F' I' Fr, e = .returned v ∧ (∀ b, I b → I' b) ∧ SatW E I' h F' (afterCall st args outs) a w' ∧ RV (hp w') I' r v Fr ∧ Fr.Nodup ∧
      (∀ m, ∀ b ∈ Fr, b ∉ F' m) ∧ (∀ b ∈ Fr, b < w'.heap.size ∧ ¬ I' b ∧ (E.base ≤ b ∨ b ∈ E.A)) := by
  have hcall := hc
  have hGd : ((given args).flatMap F).Nodup := flatMap_nodup hs.nd hs.dj hnd
  have hfl : ∀ b, b ∈ (given args).flatMap F → ∃ n ∈ given args, b ∈ F n := fun b hb => List.mem_flatMap.1 hb
  have hbA : ∀ b, (w.heap.size ≤ b ∨ b ∈ (given args).flatMap F) → E.base ≤ b ∨ b ∈ E.A := by
    intro b hb
    rcases hb with h | h
    · exact .inl (Nat.le_trans hs.grow h)
    · obtain ⟨n, _, hn⟩ := hfl b h; exact (hs.fresh n b hn).2.2
  have hxl : xs.length = args.length := by
    clear hv hf hnd hsh him hGd hfl hbA hcall hc hl
    induction args generalizing xs with
    | nil => simp only [trees, Option.some.injEq] at ht; subst ht; rfl
    | cons x args ih =>
      simp only [trees] at ht
      split at ht
      · split at ht
        · rename_i ys hys
          simp only [Option.some.injEq] at ht; subst ht; simp [ih hys]
        · cases ht
      · cases ht
  have finish : ∀ (I2 : Nat → Prop), (∀ b, I b → I2 b) → (∀ b, I2 b → b < w.heap.size) → (∀ b, b ∈ (given args).flatMap F → ¬ I2 b) →
      AVL (hp w) I2 xs vs ((given args).flatMap F) → (∀ (i : Nat) n v, args[i]? = some (.g n) → vs[i]? = some v → v = h n) → (∀ n ∈ given args, (st.o n).isRoot = true) →
      ((∀ b, I2 b → I b) ∨ ∀ r outs, Q r outs → r.noImm = true ∧ noImmL outs = true) →
      Calls P f vs.toArray w fun e w' => ∃ r outs, Q r outs ∧ ∃ v F' I' Fr, e = .returned v ∧ (∀ b, I b → I' b) ∧ SatW E I' h F' (afterCall st args outs) a w' ∧ RV (hp w') I' r v Fr ∧ Fr.Nodup ∧
        (∀ m, ∀ b ∈ Fr, b ∉ F' m) ∧ (∀ b ∈ Fr, b < w'.heap.size ∧ ¬ I' b ∧ (E.base ≤ b ∨ b ∈ E.A)) := by
    intro I2 hI2 hI2s hI2g hav hvh hroots hch
    refine (hcall w I2 vs _ hav hGd (fun b hb => by obtain ⟨n, _, hn⟩ := hfl b hb; exact ⟨(hs.fresh n b hn).1, hI2g b hb⟩) hI2s).mono ?_
    rintro e w' ⟨r, outs, hq, hol, v, I', Fr, Fo, rfl, hrv, hout, hFF, hFf, hII', hI's, hsz, hfr, h1, h2, h3⟩
    have hsame := shapes_ok (hsh r outs hq) hnd
    obtain ⟨I3, c1, c2, c3, c4, c5⟩ : ∃ I3 : Nat → Prop, (∀ b, I b → I3 b) ∧ (∀ b, I3 b → b < w'.heap.size ∧ (I b ∨ w.heap.size ≤ b ∨ b ∈ (given args).flatMap F)) ∧
        RV (hp w') I3 r v Fr ∧ OutL (hp w') I3 outs vs Fo ∧ (∀ b ∈ Fr ++ Fo, ¬ I3 b) := by
      rcases hch with hch | hch
      · refine ⟨I', fun b hb => hII' b (hI2 b hb), fun b hb => ?_, hrv, hout, fun b hb => (hFf b hb).2.1⟩
        obtain ⟨q1, q2⟩ := hI's b hb
        exact ⟨q1, q2.imp (hch b) id⟩
      · refine ⟨I, fun _ h => h, fun b hb => ⟨Nat.lt_of_lt_of_le (hs.imm b hb) hsz, .inl hb⟩, RV_noImm (hch r outs hq).1 hrv, OutL_noImm (hch r outs hq).2 hout, fun b hb hIb => (hFf b hb).2.1 (hII' b (hI2 b hIb))⟩
    rw [List.nodup_append] at hFF
    obtain ⟨F', k1, k2, k3, k4⟩ := outF (F := F) (o := st.o) c4 (by rw [hol, hxl]) hl.symm hnd hFF.2.1 hvh
    have hsat := after_ok hs (outs := outs) (I' := I3) (F' := F') hroots hsame c1 c2 hsz hfr h1 h2 h3 k1 k2 (fun n hn => (k3 n hn).1) k4 (fun n hn b hb => by
      have hbo := (k3 n hn).2 b hb
      obtain ⟨q1, q2, q3⟩ := hFf b (by simp [hbo])
      exact ⟨q1, c5 b (by simp [hbo]), q3⟩)
    refine ⟨r, outs, hq, v, F', I3, Fr, rfl, c1, hsat, c3, hFF.1, ?_, ?_⟩
    · intro m b hb hb2
      by_cases hm : m ∈ given args
      · exact hFF.2.2 b hb b ((k3 m hm).2 b hb2) rfl
      · rw [k1 m hm] at hb2
        rcases (hFf b (by simp [hb])).2.2 with h | h
        · exact Nat.lt_irrefl _ (Nat.lt_of_lt_of_le (hs.fresh m b hb2).1 h)
        · obtain ⟨n, hn1, hn2⟩ := hfl b h
          exact hs.dj n m (fun he => hm (he ▸ hn1)) b hn2 hb2
    · intro b hb
      obtain ⟨q1, q2, q3⟩ := hFf b (by simp [hb])
      exact ⟨q1, c5 b (by simp [hb]), hbA b q3⟩
  rcases him with him | him
  · obtain ⟨g1, g2, g3⟩ := args_ok (I2 := I) hs (fun _ h => h) hl (fun y x v hy hsv hsn => by
      have hi := lent_of him y hy
      rw [snap_immut hi] at hsn
      obtain rfl : y = x := by simpa using hsn
      exact immut_AV hsv hi) hv ht
    exact finish I (fun _ h => h) hs.imm (fun b hb hIb => by obtain ⟨n, _, hn⟩ := hfl b hb; exact (hs.fresh n b hn).2.1 hIb) g1 g2 g3 (.inl fun _ h => h)
  · let I2 : Nat → Prop := fun b => I b ∨ ∃ n, n ∉ given args ∧ b ∈ F n
    have hI2 : ∀ b, I b → I2 b := fun b hb => .inl hb
    obtain ⟨g1, g2, g3⟩ := args_ok (I2 := I2) hs hI2 hl (fun y x v hy hsv hsn => snap_AV hs hI2 (gs := given args) (fun n hn b hb => .inr ⟨n, hn, hb⟩) hsv hsn (free_of hf y hy)) hv ht
    refine finish I2 hI2 ?_ ?_ g1 g2 g3 (.inr him)
    · rintro b (hb | ⟨n, _, hb⟩)
      · exact hs.imm b hb
      · exact (hs.fresh n b hb).1
    · rintro b hb (hIb | ⟨n, hn, hb2⟩)
      · obtain ⟨m, _, hm⟩ := hfl b hb; exact (hs.fresh m b hm).2.1 hIb
      · obtain ⟨m, hm1, hm2⟩ := hfl b hb; exact hs.dj m n (fun he => hn (he ▸ hm1)) b hm2 hb2
end
end Go.Lite

/- The call step: the result is spread, the slot is set. -/
namespace Go.Lite

def Ent (P : Program) (f : FuncId) : Prop := ∃ fn, P.funcs[f]? = some fn ∧ (fn.name == "runtime.NumGoroutine") = false ∧ fn.body.isNone = false

/-- a function with a body and a contract -/
def Does (P : Program) (f : FuncId) (xs : List V) (Q : V → List V → Prop) : Prop := Ent P f ∧ CallOk P f xs Q

def killR (base : Nat) : Nat → St → St
  | 0, st => st
  | n + 1, st => kill (base + n) (killR base n st)

def landed (base : Nat) (r : V) (st : St) : V × St :=
  match spread base r (killR base (nleaf r) st) 0 with | (y, st', _) => (y, st')

def callSt (base : Nat) (args : List Arg) (outs : List V) (r : V) (dst : Option Nat) (st : St) : St :=
  match landed base r (afterCall st args outs) with | (y, st') => put st' dst y

section
variable {P : Program} {E : Env} {I : Nat → Prop} {h : Nat → Value} {F : Nat → List Nat} {st : St} {a : Act} {w : World}

theorem grow_SV1 {H : Heap} {I : Nat → Prop} {h h' : Nat → Value} {o o' : Nat → V} (hd : ∀ m, o m ≠ .dead → h' m = h m ∧ o' m = o m) {x : V} {v : Value} (hx : SV1 H I h o x v) : SV1 H I h' o' x v := by
  have := SV1_tr (Tr.grow hd) hx; rwa [mapA_id] at this

theorem spread_notAgg {base : Nat} {x : V} {st : St} {c : Nat} (hx : x.isAgg = false) (ht : ∀ vs, x ≠ .tup vs) : ∀ fs, (spread base x st c).1 ≠ .agg fs := by
  intro fs
  cases x <;> simp [V.isAgg] at hx <;> simp [spread]

theorem spread1_ok {base : Nat} (hbase : ∀ k v, NameOk E (base + k) v) {x : V} {h : Nat → Value} {F : Nat → List Nat} {st : St} {c : Nat} {v : Value} {G : List Nat} (hs : SatW E I h F st a w) (hr : AV (hp w) I x v G) (hnd : G.Nodup)
    (hdj : ∀ m, ∀ b ∈ G, b ∉ F m) (hfr : ∀ b ∈ G, b < w.heap.size ∧ ¬ I b ∧ (E.base ≤ b ∨ b ∈ E.A)) (hd : ∀ k, c ≤ k → k < c + nleaf x → st.o (base + k) = .dead) :
    SpreadOk E I h F st a w base c (spread base x st c).2.1 (spread base x st c).2.2 G (fun h' o' => SV1 (hp w) I h' o' (spread base x st c).1 v) ∧ (spread base x st c).2.2 = c + nleaf x := by
  by_cases ha : x.isAgg = true
  · cases x <;> simp [V.isAgg] at ha
    rename_i fs
    simp only [AV] at hr
    obtain ⟨cs, rfl, hr⟩ := hr
    obtain ⟨k1, k2⟩ := spread_ok (x := .agg fs) hbase hs (by simp only [rep]; exact hr) hnd hdj hfr hd
    refine ⟨?_, k2⟩
    obtain ⟨⟨h', F', m1, m2, m3, m4⟩, m5, m6, m7⟩ := k1
    refine ⟨⟨h', F', m1, ?_, m3, m4⟩, m5, m6, m7⟩
    simp only [spread, srep] at m2 ⊢
    exact ⟨cs, rfl, m2⟩
  · have ha' : x.isAgg = false := by simpa using ha
    have hr2 : rep (hp w) I x [v] G ∧ ∀ vs, x ≠ .tup vs := by
      cases x <;> simp [V.isAgg] at ha' <;> simp only [AV] at hr <;> first | exact ⟨hr, by simp⟩ | exact hr.elim
    obtain ⟨k1, k2⟩ := spread_ok (x := x) hbase hs hr2.1 hnd hdj hfr hd
    refine ⟨?_, k2⟩
    obtain ⟨⟨h', F', m1, m2, m3, m4⟩, m5, m6, m7⟩ := k1
    exact ⟨⟨h', F', m1, SV1_of_srep m2 (spread_notAgg ha' hr2.2), m3, m4⟩, m5, m6, m7⟩

theorem spreadAL_ok {base : Nat} (hbase : ∀ k v, NameOk E (base + k) v) : ∀ {xs : List V} {h : Nat → Value} {F : Nat → List Nat} {st : St} {c : Nat} {vs : List Value} {G : List Nat}, SatW E I h F st a w → AVL (hp w) I xs vs G → G.Nodup →
    (∀ m, ∀ b ∈ G, b ∉ F m) → (∀ b ∈ G, b < w.heap.size ∧ ¬ I b ∧ (E.base ≤ b ∨ b ∈ E.A)) → (∀ k, c ≤ k → k < c + nleafL xs → st.o (base + k) = .dead) →
    SpreadOk E I h F st a w base c (spreadL base xs st c).2.1 (spreadL base xs st c).2.2 G (fun h' o' => vs.length = (spreadL base xs st c).1.length ∧
      ∀ (i : Nat) x u, (spreadL base xs st c).1[i]? = some x → vs[i]? = some u → SV1 (hp w) I h' o' x u) ∧ (spreadL base xs st c).2.2 = c + nleafL xs
  | [], h, F, st, c, vs, G, hs, hr, hnd, hdj, hfr, hd => by
    simp only [AVL] at hr
    exact ⟨⟨⟨h, F, hs, by simp [spreadL, hr.1], fun m _ => ⟨rfl, rfl, rfl⟩, fun m b hb => .inl hb⟩, rfl, rfl, Nat.le_refl _⟩, by simp [spreadL, nleafL]⟩
  | x :: xs, h, F, st, c, vs, G, hs, hr, hnd, hdj, hfr, hd => by
    simp only [AVL] at hr
    obtain ⟨v, vs', G1, G2, rfl, rfl, h1, h2⟩ := hr
    rw [List.nodup_append] at hnd
    obtain ⟨k1, k2⟩ := spread1_ok hbase hs h1 hnd.1 (fun m b hb => hdj m b (by simp [hb])) (fun b hb => hfr b (by simp [hb])) (fun k hk1 hk2 => hd k hk1 (by simp only [nleafL]; omega))
    obtain ⟨y, st1, c1, hsx⟩ : ∃ y st1 c1, spread base x st c = (y, st1, c1) := ⟨_, _, _, rfl⟩
    rw [hsx] at k1 k2
    simp only at k1 k2
    obtain ⟨⟨h', F', m1, m2, m3, m4⟩, m5, m6, m7⟩ := k1
    obtain ⟨j1, j2⟩ := spreadAL_ok (xs := xs) (c := c1) hbase m1 h2 hnd.2.1 (fun m b hb hb2 => by
      rcases m4 m b hb2 with h | h
      · exact hdj m b (by simp [hb]) h
      · exact hnd.2.2 b h b hb rfl) (fun b hb => hfr b (by simp [hb])) (fun k hk1 hk2 => by
        rw [(m3 (base + k) (by omega)).2.2]
        exact hd k (by omega) (by simp only [nleafL]; omega))
    obtain ⟨ys, st2, c2, hsl⟩ : ∃ ys st2 c2, spreadL base xs st1 c1 = (ys, st2, c2) := ⟨_, _, _, rfl⟩
    rw [hsl] at j1 j2
    simp only at j1 j2
    obtain ⟨⟨h2', F2', n1, n2, n3, n4⟩, n5, n6, n7⟩ := j1
    simp only [spreadL, hsx, hsl]
    refine ⟨⟨⟨h2', F2', n1, ?_, ?_, ?_⟩, by rw [n5, m5], by rw [n6, m6], by omega⟩, by rw [j2, k2]; simp only [nleafL]; omega⟩
    · refine ⟨by simp [n2.1], ?_⟩
      intro i z u hi hu
      cases i with
      | succ i => exact n2.2 i z u (by simpa using hi) (by simpa using hu)
      | zero =>
        simp only [List.getElem?_cons_zero, Option.some.injEq] at hi hu
        subst hi hu
        refine grow_SV1 ?_ m2
        intro m hm
        by_cases hin : base + c1 ≤ m ∧ m < base + c2
        · exfalso
          obtain ⟨q1, q2⟩ := hin
          apply hm
          have e1 : m = base + (m - base) := by omega
          rw [e1, (m3 (base + (m - base)) (by omega)).2.2]
          exact hd (m - base) (by omega) (by simp only [nleafL]; omega)
        · obtain ⟨q1, _, q3⟩ := n3 m (by omega)
          exact ⟨q1, q3⟩
    · intro m hm
      obtain ⟨q1, q2, q3⟩ := n3 m (by omega)
      obtain ⟨p1, p2, p3⟩ := m3 m (by omega)
      exact ⟨by rw [q1, p1], by rw [q2, p2], by rw [q3, p3]⟩
    · intro m b hb
      rcases n4 m b hb with h | h
      · rcases m4 m b h with h | h
        · exact .inl h
        · exact .inr (by simp [h])
      · exact .inr (by simp [h])

theorem killR_ok (base : Nat) : ∀ (n : Nat) {F : Nat → List Nat} {st : St}, SatW E I h F st a w → ∃ F', SatW E I h F' (killR base n st) a w ∧ (killR base n st).n = st.n ∧ (∀ m, ∀ b ∈ F' m, b ∈ F m) ∧ ∀ k, k < n → (killR base n st).o (base + k) = .dead
  | 0, F, st, hs => ⟨F, hs, rfl, fun _ _ h => h, fun k hk => absurd hk (by omega)⟩
  | n + 1, F, st, hs => by
    obtain ⟨F', h1, h2, h3, h4⟩ := killR_ok base n hs
    refine ⟨_, h1.kill (base + n), h2, ?_, ?_⟩
    · intro m b hb
      by_cases hm : m = base + n
      · subst hm; simp [upd_same] at hb
      · rw [upd_ne _ _ hm] at hb; exact h3 m b hb
    · intro k hk
      simp only [killR, kill]
      by_cases hkn : k = n
      · subst hkn; exact upd_same _ _ _
      · rw [upd_ne _ _ (by omega)]; exact h4 k (by omega)


theorem SatW.noMs (hs : SatW E I h F st a w) : SatW { E with ms := [] } I h F st a w :=
  { hs with mh := fun n v hm => absurd hm (by simp), ms := fun n v hm => absurd hm (by simp) }

theorem SatW.setMs {ms0 : List (Nat × Value)} (hs : SatW { E with ms := ms0 } I h F st a w) (h1 : ∀ n v, (n, v) ∈ E.ms → st.o n ≠ .dead → h n = v) (h2 : ∀ n v, (n, v) ∈ E.ms → argName ≤ n) : SatW E I h F st a w :=
  { size := hs.size, defers := hs.defers, slot := hs.slot, obj := hs.obj, nd := hs.nd, dj := hs.dj, fresh := hs.fresh, grow := hs.grow, imm := hs.imm, frame := hs.frame, os := hs.os, tape := hs.tape, output := hs.output, mh := h1, ms := h2, imm0 := hs.imm0 }

theorem noNames (base : Nat) : ∀ k v, NameOk { E with ms := [] } (base + k) v := fun _ _ _ hu => absurd hu (by simp)

theorem killR_old (base : Nat) : ∀ (n : Nat) (st : St) (m : Nat), (m < base ∨ base + n ≤ m) → (killR base n st).o m = st.o m
  | 0, _, _, _ => rfl
  | n + 1, st, m, hm => by
    simp only [killR, kill]
    rw [upd_ne _ _ (by omega)]; exact killR_old base n st m (by omega)

/-- a result lands: its parts are objects under new names -/
theorem landed_ok {base : Nat} {r : V} {v : Value} {G : List Nat} (hb : base + nleaf r ≤ argName) (hs : SatW E I h F st a w) (hr : RV (hp w) I r v G) (hnd : G.Nodup) (hdj : ∀ m, ∀ b ∈ G, b ∉ F m)
    (hfr : ∀ b ∈ G, b < w.heap.size ∧ ¬ I b ∧ (E.base ≤ b ∨ b ∈ E.A)) :
    ∃ h' F', SatW E I h' F' (landed base r st).2 a w ∧ SV (hp w) I h' (landed base r st).2.o (landed base r st).1 v ∧ (landed base r st).2.n = st.n := by
  obtain ⟨F1, k1, k2, k3, k4⟩ := killR_ok base (nleaf r) hs
  have hdj' : ∀ m, ∀ b ∈ G, b ∉ F1 m := fun m b hb hb2 => hdj m b hb (k3 m b hb2)
  have back : ∀ {st' : St} {h' : Nat → Value} {F' : Nat → List Nat}, SatW { E with ms := [] } I h' F' st' a w → (∀ m, (m < base + 0 ∨ base + (0 + nleaf r) ≤ m) → h' m = h m ∧ F' m = F1 m ∧ st'.o m = (killR base (nleaf r) st).o m) →
      SatW E I h' F' st' a w := by
    intro st' h' F' hs' hout
    refine hs'.setMs (fun n v hm hd => ?_) hs.ms
    have hn := hs.ms n v hm
    obtain ⟨q1, _, q3⟩ := hout n (by omega)
    rw [q1]; exact k1.mh n v hm (by rw [← q3]; exact hd)
  by_cases ht : ∃ rs, r = .tup rs
  · obtain ⟨rs, rfl⟩ := ht
    simp only [RV] at hr
    obtain ⟨us, rfl, hr⟩ := hr
    obtain ⟨⟨⟨h', F', m1, m2, m3, m4⟩, m5, m6, m7⟩, m8⟩ := spreadAL_ok (c := 0) (noNames base) k1.noMs hr hnd hdj' hfr (fun k _ hk => k4 k (by simpa [nleaf] using hk))
    simp only [landed, spread]
    refine ⟨h', F', back m1 (fun m hm => m3 m (by rw [m8]; simpa [nleaf] using hm)), ?_, by rw [m5]; exact k2⟩
    simp only [SV]
    exact ⟨us, rfl, m2.1, m2.2⟩
  · have hr2 : AV (hp w) I r v G := by cases r <;> first | exact hr | exact absurd ⟨_, rfl⟩ ht
    obtain ⟨⟨⟨h', F', m1, m2, m3, m4⟩, m5, m6, m7⟩, m8⟩ := spread1_ok (c := 0) (noNames base) k1.noMs hr2 hnd hdj' hfr (fun k _ hk => k4 k (by simpa using hk))
    simp only [landed]
    exact ⟨h', F', back m1 (fun m hm => m3 m (by rw [m8]; simpa using hm)), SV_of_SV1 m2, by rw [m5]; exact k2⟩

theorem afterCall_n (args : List Arg) (outs : List V) (st : St) : (afterCall st args outs).n = st.n := rfl

/-- the call, from the arguments' values -/
theorem call_done (hs : SatW E I h F st a w) {f : FuncId} {args : List Arg} {vs : List Value} {xs : List V} {Q : V → List V → Prop} {base : Nat} {dst : Option Nat} (hl : args.length = vs.length)
    (hv : ∀ (i : Nat) x v, args[i]? = some x → vs[i]? = some v → SV (hp w) I h st.o (x.slot st) v) (ht : trees st args = some xs) (hf : freeOf (given args) args = true) (hnd : (given args).Nodup)
    (hsh : ∀ r outs, Q r outs → shapes st args outs = true) (hc : CallOk P f xs Q) (him : lentImm args = true ∨ ∀ r outs, Q r outs → r.noImm = true ∧ noImmL outs = true) (hb : ∀ r outs, Q r outs → base + nleaf r ≤ argName) (hd : dOk st dst = true) :
    Calls P f vs.toArray w fun e w' => ∃ r outs, Q r outs ∧ ∃ v I', e = .returned v ∧ (∀ b, I b → I' b) ∧ Sat E I' (callSt base args outs r dst st) (a.put dst v) w' := by
  refine (call_sat hs hl hv ht hf hnd hsh hc him).mono ?_
  rintro e w' ⟨r, outs, hq, v, F', I', Fr, rfl, hI, hs', hr, hnd', hdj, hfr⟩
  obtain ⟨h', F2, k1, k2, k3⟩ := landed_ok (hb r outs hq) hs' hr hnd' hdj hfr
  refine ⟨r, outs, hq, v, I', rfl, hI, h', F2, ?_⟩
  simp only [callSt]
  exact k1.put (by cases dst <;> simp_all [dOk, afterCall_n]) k2
end
end Go.Lite

/- Operations in a row, conditions, regions. -/
namespace Go.Lite

def V.dead? : V → Bool
  | .dead => true
  | _ => false

/-- an operation that is no call of a function -/
def opSt (ty : Nat → TyI) (st : St) (o : Oper) : Option St :=
  match o.op with
  | .load t x => if dOk st o.dst = true then match loadV (ty t) st (ev st x) with | some y => some (put st o.dst y) | none => none else none
  | .store t x z => match o.dst with | none => storeV (ty t) st (ev st x) (ev st z) | some _ => none
  | .alloc t => match o.dst with
    | some d => if (ty t).known = true ∧ (ty t).z.dead? = false ∧ d < st.n ∧ d < argName then some (put (create d (.bx (ty t).z) st) (some d) (.ref d [])) else none
    | none => none
  | .box _ x => match o.dst, absorb st (ev st x) with
    | some d, some (y, st1, _) => if d < st.n ∧ d < argName then some (put (create d (.bx y) st1) (some d) (.ref d [])) else none
    | _, _ => none
  | .buildSlice t len ps => match o.dst, elemSz ty t, (ty t).kd, absorbL st (ps.toList.map fun p => ev st p.2) with
    | some d, some s, .slice e, some (ys, st1, _) =>
      if (ty e).z.dead? = false ∧ inOrder 0 ps.toList = true ∧ ps.toList.length = len ∧ len * s ≤ 16777216 ∧ allSize s ys = true ∧ d < st.n ∧ d < argName then
        some (put (create d (.own s ys) st1) (some d) (.sl d [] 0 len)) else none
    | _, _, _, _ => none
  | .makeSlice t x y => match o.dst, elemSz ty t, (ty t).kd, ev st x, ev st y with
    | some d, some s, .slice e, .int _ l, .int _ c =>
      if (ty e).z.dead? = false ∧ (ty e).z.size = s ∧ 0 ≤ l ∧ l ≤ c ∧ c ≤ 281474976710656 ∧ (ty e).bytes * c ≤ 281474976710656 ∧ d < st.n ∧ d < argName then
        some (put (create d (.own s (List.replicate l.toNat (ty e).z)) st) (some d) (.sl d [] 0 l.toNat)) else none
    | _, _, _, _, _ => none
  | .call { callee := .builtin .append, args, argTypes } => match o.dst, args.toList, argTypes.toList with
    | some d, [x, y], [t, t'] => match elemSz ty t, (ty t).kd with
      | some s, .slice e => match baseV st s (ev st x) with
        | some (ys, st1, K) => match srcV st st1 K s (ev st y) with
          | some (zs, st2) =>
            if t' = t ∧ (ty e).z.dead? = false ∧ (ty e).z.size = s ∧ (noneV (ev st x) = false ∨ zs.isEmpty = false) ∧ (ys.length + zs.length) * (2 * (ty e).bytes) ≤ 281474976710656 ∧
                ys.length + zs.length ≤ 9223372036854775807 ∧ d < st.n ∧ d < argName then
              some (put (create d (.own s (ys ++ zs)) st2) (some d) (.sl d [] 0 (ys.length + zs.length))) else none
          | none => none
        | none => none
      | _, _ => none
    | _, _, _ => none
  | op => if dOk st o.dst = true then match stepV ty st op with | some y => some (put st o.dst y) | none => none else none

/-- what an operation yields that leaves the world as it is -/
def stillV (ty : Nat → TyI) (st : St) : Op → Option V
  | .load t x => loadV (ty t) st (ev st x)
  | op => stepV ty st op

def Stl (P : Program) (o : Oper) (st : St) (x : V) : Prop :=
  ∀ E I h F a w, SatW E I h F st a w → ∃ v, (execOp a.eval o).run P w = .ok (.value v) w ∧ SV (hp w) I h st.o x v

/-- is the operation wanted? -/
def guardV (ops : Array Oper) (st : St) (o : Oper) : Option Bool :=
  match o.guard with
  | none => some true
  | some (g, want) => match (ops[g]?).bind (·.dst) with
    | some t => match st.s t with
      | .bool b => some (b == want)
      | .tup [] => some false
      | _ => none
    | none => none

/-- one operation, whatever it is -/
def Op1 (P : Program) (o : Oper) (K : St → Prop) (st : St) : Prop :=
  ∀ E I a w next R, Sat E I st a w → (∀ st' I' a' w', K st' → (∀ b, I b → I' b) → Sat E I' st' a' w' → next a' w') → o.wp P a w next R

/-- operations in a row -/
def OL (P : Program) (ops : Array Oper) (l : List Oper) (K : St → Prop) (st : St) : Prop :=
  ∀ E I a w R, Sat E I st a w → (∀ st' I' a' w', K st' → (∀ b, I b → I' b) → Sat E I' st' a' w' → R .normal a' w') → wpList P ops R l a w

section
variable {P : Program} {ty : Nat → TyI} {E : Env} {I : Nat → Prop} {h : Nat → Value} {F : Nat → List Nat} {st : St} {a : Act} {w : World} {ops : Array Oper} {o : Oper} {l : List Oper}

theorem dead?_ne {x : V} (h : x.dead? = false) : x ≠ .dead := by
  intro he; subst he; simp [V.dead?] at h

theorem Stl_pure (hty : TyOk P ty) {x : V} (hst : stepV ty st o.op = some x) : Stl P o st x := fun _ _ _ _ _ _ hs => let ⟨v, h1, h2⟩ := pure_ok hty hs hst; ⟨v, h1 _, h2⟩

theorem Stp_op (hty : TyOk P ty) {st' : St} (ho : opSt ty st o = some st') : Stp P o st st' := by
  unfold opSt at ho
  split at ho
  · rename_i t x hop
    split at ho
    · rename_i hd
      split at ho
      · rename_i y hl
        simp only [Option.some.injEq] at ho; subst ho
        exact Stp_load hty hop hl hd
      · cases ho
    · cases ho
  · rename_i t x z hop
    split at ho
    · rename_i hd; exact Stp_store hty hop hd ho
    · cases ho
  · rename_i t hop
    split at ho
    · rename_i d hd
      split at ho
      · rename_i hc
        simp only [Option.some.injEq] at ho; subst ho
        exact Stp_alloc hty hop hd hc.1 (dead?_ne hc.2.1) hc.2.2.1 hc.2.2.2
      · cases ho
    · cases ho
  · rename_i t x hop
    split at ho
    · rename_i d y st1 K hd ha
      split at ho
      · rename_i hc
        simp only [Option.some.injEq] at ho; subst ho
        exact Stp_box hop hd ha hc.1 hc.2
      · cases ho
    · cases ho
  · rename_i t len ps hop
    split at ho
    · rename_i d s e ys st1 K hd hs hk ha
      split at ho
      · rename_i hc
        simp only [Option.some.injEq] at ho; subst ho
        exact Stp_buildSlice hty hop hd hs hk (dead?_ne hc.1) hc.2.1 hc.2.2.1 hc.2.2.2.1 ha hc.2.2.2.2.1 hc.2.2.2.2.2.1 hc.2.2.2.2.2.2
      · cases ho
    · cases ho
  · rename_i t x y hop
    split at ho
    · rename_i d s e k1 l k2 c hd hs hk hx hy
      split at ho
      · rename_i hc
        simp only [Option.some.injEq] at ho; subst ho
        exact Stp_makeSlice hty hop hd hs hk (dead?_ne hc.1) hc.2.1 hx hy hc.2.2.1 hc.2.2.2.1 hc.2.2.2.2.1 hc.2.2.2.2.2.1 hc.2.2.2.2.2.2.1 hc.2.2.2.2.2.2.2
      · cases ho
    · cases ho
  · rename_i args argTypes hop
    split at ho
    · rename_i d x y t t' hd ha ht
      split at ho
      · rename_i s e hk hkd
        split at ho
        · rename_i ys st1 K hb
          split at ho
          · rename_i zs st2 hsr
            split at ho
            · rename_i hc
              simp only [Option.some.injEq] at ho; subst ho
              obtain ⟨rfl, c1, c2, c3, c4, c5, c6, c7⟩ := hc
              obtain rfl : args = #[x, y] := by rw [← Array.toList_inj]; simpa using ha
              obtain rfl : argTypes = #[t', t'] := by rw [← Array.toList_inj]; simpa using ht
              exact Stp_append hty hop hd hk hkd (dead?_ne c1) c2 hb hsr (c3.imp id (fun h => by intro he; subst he; simp at h)) c4 c5 c6 c7
            · cases ho
          · cases ho
        · cases ho
      · cases ho
    · cases ho
  · split at ho
    · rename_i hd
      split at ho
      · rename_i y hl
        simp only [Option.some.injEq] at ho; subst ho
        exact Stp_pure hty hl hd
      · cases ho
    · cases ho

theorem Op1_of_Stp {st' : St} {K : St → Prop} (hs : Stp P o st st') (hk : K st') : Op1 P o K st := by
  intro E I a w next R ⟨h, F, hsat⟩ hn
  obtain ⟨nx, w', v, I', h1, h2, h3, h4⟩ := hs E I h F a w hsat
  unfold Oper.wp
  rw [h1]
  rcases h2 with rfl | ⟨rfl, rfl⟩
  · exact hn st' I' _ w' hk h3 h4
  · exact hn st' I' _ w' hk h3 h4

theorem Op1_mono {K K' : St → Prop} (hh : Op1 P o K st) (hk : ∀ s, K s → K' s) : Op1 P o K' st :=
  fun E I a w next R hs hn => hh E I a w next R hs fun st' I' a' w' k hi hs' => hn st' I' a' w' (hk _ k) hi hs'

theorem wanted_ok (hs : SatW E I h F st a w) {b : Bool} (hg : guardV ops st o = some b) : Region.wanted o (yielded ops a.tmps) = b := by
  unfold guardV at hg
  unfold Region.wanted
  split at hg
  · rename_i hq; simp only [hq]; simpa using hg
  · rename_i g want hq
    simp only [hq]
    split at hg
    · rename_i t ht
      have hslot := hs.slot t
      unfold yielded
      rw [ht]
      simp only [Option.bind_some]
      split at hg
      · rename_i b' hb
        rw [hb, SV_bool] at hslot
        have hsome : a.tmps[t]? = some (.bool b') := by
          rw [Array.getD_eq_getD_getElem?] at hslot
          cases hx : a.tmps[t]? with
          | none => rw [hx] at hslot; simp [undef] at hslot
          | some v => rw [hx] at hslot; simp at hslot; rw [hslot]
        simp only [hsome]
        simp only [Option.some.injEq] at hg
        subst hg
        simp
      · rename_i hb
        simp only [Option.some.injEq] at hg
        subst hg
        rw [hb] at hslot
        simp only [SV] at hslot
        obtain ⟨us, hu, hl, _⟩ := hslot
        have : us = [] := List.eq_nil_of_length_eq_zero (by simpa using hl)
        subst this
        rw [Array.getD_eq_getD_getElem?] at hu
        cases hx : a.tmps[t]? with
        | none => simp
        | some v => rw [hx] at hu; simp at hu; subst hu; simp
      · cases hg
    · cases hg

theorem SV_undef (H : Heap) (I : Nat → Prop) (h : Nat → Value) (o : Nat → V) : SV H I h o (.tup []) undef := by
  simp only [SV]; exact ⟨[], rfl, rfl, fun i x u hx => by simp at hx⟩

theorem OL_nil {K : St → Prop} (hk : K st) : OL P ops [] K st := fun _ I a w _ hs hr => hr st I a w hk (fun _ h => h) hs

theorem OL_op1 {K : St → Prop} (hg : guardV ops st o = some true) (h1 : Op1 P o (OL P ops l K) st) : OL P ops (o :: l) K st := by
  intro E I a w R hs hr
  obtain ⟨h, F, hsat⟩ := hs
  simp only [wpList]
  rw [if_pos (wanted_ok hsat hg)]
  refine .inl (h1 E I a w _ R ⟨h, F, hsat⟩ ?_)
  intro st' I' a' w' k hi hs'
  exact k E I' a' w' R hs' fun st2 I2 a2 w2 k2 hi2 hs2 => hr st2 I2 a2 w2 k2 (fun b hb => hi2 b (hi b hb)) hs2

theorem OL_op (hty : TyOk P ty) {K : St → Prop} {st' : St} (hg : guardV ops st o = some true) (ho : opSt ty st o = some st') (hk : OL P ops l K st') : OL P ops (o :: l) K st :=
  OL_op1 hg (Op1_of_Stp (Stp_op hty ho) hk)

theorem OL_skip {K : St → Prop} (hg : guardV ops st o = some false) (hd : dOk st o.dst = true) (hk : OL P ops l K (put st o.dst (.tup []))) : OL P ops (o :: l) K st := by
  intro E I a w R hs hr
  obtain ⟨h, F, hsat⟩ := hs
  simp only [wpList]
  rw [if_neg (by rw [wanted_ok hsat hg]; simp)]
  exact hk E I _ w R ⟨h, F, hsat.put hd (SV_undef _ _ _ _)⟩ hr

/-- a whole row that calls nothing -/
def runOps (ty : Nat → TyI) (ops : Array Oper) : List Oper → St → Option St
  | [], st => some st
  | o :: l, st => match guardV ops st o with
    | some true => match opSt ty st o with | some st' => runOps ty ops l st' | none => none
    | some false => if dOk st o.dst = true then runOps ty ops l (put st o.dst (.tup [])) else none
    | none => none

theorem OL_run (hty : TyOk P ty) {K : St → Prop} : ∀ {l : List Oper} {st st' : St}, runOps ty ops l st = some st' → K st' → OL P ops l K st
  | [], st, st', hr, hk => by simp only [runOps, Option.some.injEq] at hr; subst hr; exact OL_nil hk
  | o :: l, st, st', hr, hk => by
    simp only [runOps] at hr
    split at hr
    · rename_i hg
      split at hr
      · rename_i st1 ho; exact OL_op hty hg ho (OL_run hty hr hk)
      · cases hr
    · rename_i hg
      split at hr
      · rename_i hd; exact OL_skip hg hd (OL_run hty hr hk)
      · cases hr
    · cases hr

theorem OL_mono {K K' : St → Prop} (hh : OL P ops l K st) (hk : ∀ s, K s → K' s) : OL P ops l K' st :=
  fun E I a w R hs hr => hh E I a w R hs fun st' I' a' w' k hi hs' => hr st' I' a' w' (hk _ k) hi hs'

/-! regions -/
theorem T_region {id : Nat} {l : List Oper} {Q : Exit → St → Prop} (h : OL P l.toArray l (Q .normal) st) : T P (.region id l.toArray false) Q st :=
  fun E I a w R hs hr => wp_region_lit (h E I a w R hs fun st' I' a' w' k hi hs' => hr _ st' I' a' w' k hi hs')

/-- the values of a row that leaves the world as it is -/
def runStill (ty : Nat → TyI) (ops : Array Oper) : List Oper → St → Option St
  | [], st => some st
  | o :: l, st => match guardV ops st o with
    | some true => if dOk st o.dst = true then match stillV ty st o.op with | some x => runStill ty ops l (put st o.dst x) | none => none else none
    | some false => if dOk st o.dst = true then runStill ty ops l (put st o.dst (.tup [])) else none
    | none => none

theorem Stl_still (hty : TyOk P ty) {x : V} (hst : stillV ty st o.op = some x) : Stl P o st x := by
  unfold stillV at hst
  split at hst
  · rename_i t y hop
    intro E I h F a w hs
    exact load_ok hty hop hst hs
  · exact Stl_pure hty hst

theorem wpStill_run (hty : TyOk P ty) {Q : Act → Prop} : ∀ {l : List Oper} {st st' : St} {a : Act}, SatW E I h F st a w → runStill ty ops l st = some st' → (∀ a', SatW E I h F st' a' w → Q a') → wpStill P ops w Q l a
  | [], st, st', a, hs, hr, hq => by simp only [runStill, Option.some.injEq] at hr; subst hr; exact hq a hs
  | o :: l, st, st', a, hs, hr, hq => by
    simp only [runStill] at hr
    simp only [wpStill]
    split at hr
    · rename_i hg
      rw [if_pos (wanted_ok hs hg)]
      split at hr
      · rename_i hd
        split at hr
        · rename_i x hx
          obtain ⟨v, h1, h2⟩ := Stl_still hty hx E I h F a w hs
          unfold Oper.still
          rw [h1, Oper.stillUpon_value]
          exact wpStill_run hty (hs.put hd h2) hr hq
        · cases hr
      · cases hr
    · rename_i hg
      rw [if_neg (by rw [wanted_ok hs hg]; simp)]
      split at hr
      · rename_i hd; exact wpStill_run hty (hs.put hd (SV_undef _ _ _ _)) hr hq
      · cases hr
    · cases hr

theorem T_still (hty : TyOk P ty) (hm : P.follows .mixedOrders = true) {id : Nat} {l : List Oper} {Q : Exit → St → Prop} {st' : St} (hB : Region.lexB .any l.toArray = true) (hr : runStill ty l.toArray l st = some st') (hq : Q .normal st') :
    T P (.region id l.toArray true) Q st := by
  intro E I a w R ⟨h, F, hs⟩ hR
  exact wp_region_still_lit hm hB (wpStill_run hty (hs.drew _) hr fun a' hs' => hR _ st' I a' _ hq (fun _ h => h) ⟨h, F, hs'⟩)

theorem T_tail (n : Nat) (hty : TyOk P ty) (hm : P.follows .mixedOrders = true) {id : Nat} {l : List Oper} {Q : Exit → St → Prop} {st' : St} (hB : Region.lexTailB .any l.toArray n = true) (hr : runStill ty l.toArray (l.take n) st = some st')
    (hq : OL P l.toArray (l.drop n) (Q .normal) st') : T P (.region id l.toArray true) Q st := by
  intro E I a w R ⟨h, F, hs⟩ hR
  exact wp_region_still_tail n hm hB (wpStill_run hty (hs.drew _) hr fun a' hs' => hq E I a' _ R ⟨h, F, hs'⟩ fun st2 I2 a2 w2 k2 hi2 hs2 => hR _ st2 I2 a2 w2 k2 hi2 hs2)

theorem T_cond {c : Operand} {x y : Code} {b : Bool} {Q : Exit → St → Prop} (hc : ev st c = .bool b) (h1 : b = true → T P x Q st) (h2 : b = false → T P y Q st) : T P (.cond c x y) Q st := by
  intro E I a w R hs hr
  obtain ⟨h, F, hsat⟩ := hs
  have hv := hsat.ev c
  rw [hc, SV_bool] at hv
  refine wp_cond hv ?_
  cases b with
  | true => exact h1 rfl E I a w R ⟨h, F, hsat⟩ hr
  | false => exact h2 rfl E I a w R ⟨h, F, hsat⟩ hr
end
end Go.Lite

/- The call as an operation. -/
namespace Go.Lite

def noAggL : List V → Bool
  | [] => true
  | x :: xs => !x.isAgg && noAggL xs

def fitCall (st : St) (args : List Arg) (dst : Option Nat) : Bool :=
  freeOf (given args) args && decide (given args).Nodup && dOk st dst

def fitBack (st : St) (args : List Arg) (base : Nat) (r : V) (outs : List V) : Bool :=
  shapes st args outs && (lentImm args || (r.noImm && noImmL outs)) && decide (base + nleaf r ≤ argName)

section
variable {P : Program} {ty : Nat → TyI} {E : Env} {I : Nat → Prop} {h : Nat → Value} {F : Nat → List Nat} {st : St} {a : Act} {w : World} {ops : Array Oper} {o : Oper} {l : List Oper}

theorem noAggL_mem : ∀ {xs : List V}, noAggL xs = true → ∀ x ∈ xs, x.isAgg = false
  | [], _, x, hx => by simp at hx
  | y :: ys, hn, x, hx => by
    simp only [noAggL, Bool.and_eq_true, Bool.not_eq_true'] at hn
    rcases List.mem_cons.1 hx with h | h
    · subst h; exact hn.1
    · exact noAggL_mem hn.2 x h

/-- captured values one by one -/
theorem srepL_each {H : Heap} {o : Nat → V} : ∀ {xs : List V} {vs : List Value}, srepL H I h o xs vs → (∀ x ∈ xs, x.size = 1) → (∀ x ∈ xs, x.isAgg = false) →
    vs.length = xs.length ∧ ∀ (i : Nat) x v, xs[i]? = some x → vs[i]? = some v → SV H I h o x v
  | [], vs, hh, _, _ => by simp only [srepL] at hh; subst hh; simp
  | y :: ys, vs, hh, h1, h2 => by
    simp only [srepL] at hh
    obtain ⟨d, ds, rfl, k1, k2⟩ := hh
    have hl := srep_len k1
    rw [h1 y (by simp)] at hl
    obtain ⟨u, rfl⟩ := List.length_eq_one_iff.1 hl
    obtain ⟨m1, m2⟩ := srepL_each k2 (fun x hx => h1 x (by simp [hx])) (fun x hx => h2 x (by simp [hx]))
    refine ⟨by simp [m1], ?_⟩
    intro i x v hi hv
    cases i with
    | zero =>
      simp at hi hv; subst hi hv
      exact SV_of_SV1 (SV1_of_srep k1 (fun fs he => by have := h2 y (by simp); rw [he] at this; simp [V.isAgg] at this))
    | succ i => exact m2 i x v (by simpa using hi) (by simpa using hv)

theorem run_callFunc {f : FuncId} (he : Ent P f) (args : Array Value) (w : World) : (callFunc f args).run P w = .ok (.enter f args) w := by
  obtain ⟨fn, h1, h2, h3⟩ := he
  have h2' : fn.name ≠ "runtime.NumGoroutine" := by simpa using h2
  have h3' : fn.body ≠ none := by intro hb; rw [hb] at h3; simp at h3
  unfold callFunc
  simp [Sem.run_bind, h1, h2', h3']

theorem Op1_call {g : Operand} {as : Array Operand} {tys : Array TypeId} {f : FuncId} {caps xs : List V} {Q : V → List V → Prop} {args : List Arg} {base : Nat} (hop : o.op = .call { callee := .value g, args := as, argTypes := tys })
    (hc : ev st g = .fn f caps) (hsl : args.map (Arg.slot st) = as.toList.map (ev st) ++ caps) (hca : noAggL caps = true) (ht : trees st args = some xs) (hfn : Does P f xs Q) (hfit : fitCall st args o.dst = true) (hback : ∀ r outs, Q r outs → fitBack st args base r outs = true) :
    Op1 P o (fun s => ∃ r outs, Q r outs ∧ s = callSt base args outs r o.dst st) st := by
  intro E I a w next R ⟨h, F, hs⟩ hn
  simp only [fitCall, Bool.and_eq_true, decide_eq_true_eq] at hfit
  obtain ⟨⟨f1, f2⟩, f6⟩ := hfit
  simp only [fitBack, Bool.and_eq_true, Bool.or_eq_true, decide_eq_true_eq] at hback
  have f3 : ∀ r outs, Q r outs → shapes st args outs = true := fun r outs hq => (hback r outs hq).1.1
  have f5 : ∀ r outs, Q r outs → base + nleaf r ≤ argName := fun r outs hq => (hback r outs hq).2
  have f4 : lentImm args = true ∨ ∀ r outs, Q r outs → r.noImm = true ∧ noImmL outs = true := by
    cases hli : lentImm args with
    | true => exact .inl rfl
    | false => exact .inr fun r outs hq => by have := (hback r outs hq).1.2; rw [hli] at this; simpa using this
  have hg := hs.ev g
  rw [hc] at hg
  simp only [SV, SV1, srep] at hg
  obtain ⟨cv, hgv, hcv, hc1⟩ := hg
  have hgv' : a.eval g = .func (.func f) #[] cv.toArray := by simpa using hgv
  obtain ⟨m1, m2⟩ := srepL_each hcv hc1 (noAggL_mem hca)
  have hlen : args.length = (as.toList.map a.eval ++ cv).length := by
    have := congrArg List.length hsl
    simpa [m1] using this
  have hv : ∀ (i : Nat) x v, args[i]? = some x → (as.toList.map a.eval ++ cv)[i]? = some v → SV (hp w) I h st.o (x.slot st) v := by
    intro i x v hi hvi
    have hxi : (as.toList.map (ev st) ++ caps)[i]? = some (x.slot st) := by rw [← hsl]; simp [hi]
    by_cases hlt : i < as.toList.length
    · rw [List.getElem?_append_left (by simpa using hlt)] at hxi hvi
      rw [List.getElem?_map] at hxi hvi
      cases hq : as.toList[i]? with
      | none => rw [hq] at hxi; simp at hxi
      | some q =>
        rw [hq] at hxi hvi
        simp at hxi hvi
        rw [← hxi, ← hvi]; exact hs.ev q
    · rw [List.getElem?_append_right (by simpa using hlt)] at hxi hvi
      simp only [List.length_map] at hxi hvi
      exact m2 _ _ _ hxi hvi
  have hcall := call_done hs hlen hv ht f1 f2 f3 hfn.2 f4 f5 f6
  have hrun : (execOp a.eval o).run P w = .ok (.enter f (as.toList.map a.eval ++ cv).toArray) w := by
    have harr : #[] ++ as.map a.eval ++ cv.toArray = (as.toList.map a.eval ++ cv).toArray := by
      rw [← Array.toList_inj]; simp
    simp only [execOp, hop, resolve, hgv', Deferred.ofValue]
    simp only [Sem.run_bind, Sem.run_pure, Result.andThen_ok, invoke]
    rw [run_callFunc hfn.1, harr]
  unfold Oper.wp
  rw [hrun, Oper.upon_enter]
  refine hcall.mono ?_
  rintro e w' ⟨r, outs, hq, v, I', rfl, hI, hsat⟩
  exact hn _ I' _ w' ⟨r, outs, hq, rfl⟩ hI hsat

theorem OL_call {K : St → Prop} {g : Operand} {as : Array Operand} {tys : Array TypeId} {f : FuncId} {caps xs : List V} {Q : V → List V → Prop} (args : List Arg) (base : Nat) (hg : guardV ops st o = some true) (hop : o.op = .call { callee := .value g, args := as, argTypes := tys })
    (hc : ev st g = .fn f caps) (hsl : args.map (Arg.slot st) = as.toList.map (ev st) ++ caps) (hca : noAggL caps = true) (ht : trees st args = some xs) (hfn : Does P f xs Q) (hfit : fitCall st args o.dst = true) (hback : ∀ r outs, Q r outs → fitBack st args base r outs = true)
    (hk : ∀ r outs, Q r outs → OL P ops l K (callSt base args outs r o.dst st)) : OL P ops (o :: l) K st :=
  OL_op1 hg (Op1_mono (Op1_call hop hc hsl hca ht hfn hfit hback) fun s ⟨r, outs, hq, hs⟩ => by subst hs; exact hk r outs hq)
end
end Go.Lite

/- A function: how its body begins, how it ends, and the contract that follows. -/
namespace Go.Lite

def rootN (i : Nat) : Nat := argName + 1000 * i

def enterL : Nat → List V → St → St
  | _, [], st => st
  | i, x :: xs, st => match spread (rootN i) x st 0 with
    | (y, st1, _) => enterL (i + 1) xs { st1 with s := upd st1.s i y }

/-- the state in which a body begins -/
def entry (n : Nat) (xs : List V) : St := enterL 0 xs { n := n, s := fun t => if t < xs.length then .dead else .tup [], o := fun _ => .dead }

def outsL (st : St) : Nat → List V → List V
  | _, [] => []
  | i, x :: xs => (if x.isRoot = true then st.o (rootN i) else .dead) :: outsL st (i + 1) xs

def oneOr : List V → V
  | [y] => y
  | ys => .tup ys

/-- where a result stands -/
inductive Res where
  | t (n : Nat)
  | c (a : Nat) (ty : Nat)

def Res.var : Res → ResultVar
  | .t n => .tmp n
  | .c a ty => .cell a ty

def resV (ty : Nat → TyI) (st : St) : Res → Option V
  | .t n => some (st.s n)
  | .c a t => loadV (ty t) st (st.s a)

def resVL (ty : Nat → TyI) (st : St) : List Res → Option (List V)
  | [] => some []
  | r :: rs => match resV ty st r with
    | some x => match resVL ty st rs with
      | some xs => some (x :: xs)
      | none => none
    | none => none

def exitV (ty : Nat → TyI) (rs : List Res) (xs : List V) (st : St) : Option (V × List V) :=
  match resVL ty st rs with
  | some zs => match absorbL st zs with
    | some (ys, st1, _) => some (oneOr ys, outsL st1 0 xs)
    | none => none
  | none => none

def leavesOk : List V → Bool
  | [] => true
  | x :: xs => decide (nleaf x ≤ 1000) && leavesOk xs

def msL : Nat → List V → List Value → List (Nat × Value)
  | i, x :: xs, v :: vs => (if x.isRoot = true then [(rootN i, v)] else []) ++ msL (i + 1) xs vs
  | _, _, _ => []

section
variable {P : Program} {ty : Nat → TyI} {E : Env} {I : Nat → Prop} {h : Nat → Value} {F : Nat → List Nat} {st : St} {a : Act} {w : World} {ops : Array Oper} {o : Oper} {l : List Oper}

theorem SatW.know (hs : SatW E I h F st a w) {t : Nat} {x : V} (hx : SV (hp w) I h st.o x (a.tmps.getD t undef)) : SatW E I h F { st with s := upd st.s t x } a w := by
  refine { hs with slot := ?_ }
  intro k
  by_cases hk : k = t
  · subst hk; simpa only [upd_same] using hx
  · simpa only [upd_ne _ _ hk] using hs.slot k

theorem spread_root_val {base : Nat} {x : V} {st : St} (hx : x.isRoot = true) : (spread base x st 0).1 = wholeOf base ((spread base x st 0).2.1.o base) ∧ ((spread base x st 0).2.1.o base).isRoot = true := by
  cases x <;> simp [V.isRoot] at hx <;> simp [spread, upd_same, wholeOf, V.isRoot]

theorem enter_ok : ∀ {xs : List V} {i : Nat} {st : St} {F : Nat → List Nat} {h : Nat → Value} {G : List Nat} {vs : List Value}, SatW { E with ms := [] } I h F st a w → AVL (hp w) I xs vs G → G.Nodup →
    (∀ m, ∀ b ∈ G, b ∉ F m) → (∀ b ∈ G, b < w.heap.size ∧ ¬ I b ∧ (E.base ≤ b ∨ b ∈ E.A)) → (∀ (j : Nat) v, vs[j]? = some v → a.tmps.getD (i + j) undef = v) → leavesOk xs = true →
    (∀ m, rootN i ≤ m → st.o m = .dead) →
    ∃ h' F', SatW { E with ms := [] } I h' F' (enterL i xs st) a w ∧ (∀ m, m < rootN i → h' m = h m ∧ (enterL i xs st).o m = st.o m) ∧ (∀ n v, (n, v) ∈ msL i xs vs → h' n = v)
  | [], i, st, F, h, G, vs, hs, ha, hnd, hdj, hfr, hv, hl, hd => by
    simp only [AVL] at ha
    obtain ⟨rfl, _⟩ := ha
    exact ⟨h, F, hs, fun _ _ => ⟨rfl, rfl⟩, fun n v hm => by simp [msL] at hm⟩
  | x :: xs, i, st, F, h, G, vs, hs, ha, hnd, hdj, hfr, hv, hl, hd => by
    simp only [AVL] at ha
    obtain ⟨v, vs', G1, G2, rfl, rfl, h1, h2⟩ := ha
    rw [List.nodup_append] at hnd
    simp only [leavesOk, Bool.and_eq_true, decide_eq_true_eq] at hl
    obtain ⟨k1, k2⟩ := spread1_ok (c := 0) (noNames (rootN i)) hs h1 hnd.1 (fun m b hb => hdj m b (by simp [hb])) (fun b hb => hfr b (by simp [hb])) (fun k _ _ => hd _ (by omega))
    obtain ⟨y, st1, c1, hsx⟩ : ∃ y st1 c1, spread (rootN i) x st 0 = (y, st1, c1) := ⟨_, _, _, rfl⟩
    have hrv := fun hx => spread_root_val (base := rootN i) (x := x) (st := st) hx
    rw [hsx] at k1 k2 hrv
    simp only at k1 k2 hrv
    obtain ⟨⟨h', F', m1, m2, m3, m4⟩, m5, m6, m7⟩ := k1
    have hv0 : a.tmps.getD i undef = v := by have := hv 0 v (by simp); simpa using this
    have m1' := m1.know (t := i) (x := y) (by rw [hv0]; exact SV_of_SV1 m2)
    have hroot : rootN (i + 1) = rootN i + 1000 := by simp only [rootN]; omega
    obtain ⟨h2', F2', n1, n2, n3⟩ := enter_ok (xs := xs) (i := i + 1) (vs := vs') m1' h2 hnd.2.1 (fun m b hb hb2 => by
      rcases m4 m b hb2 with hh | hh
      · exact hdj m b (by simp [hb]) hh
      · exact hnd.2.2 b hh b hb rfl) (fun b hb => hfr b (by simp [hb])) (fun j u hj => by
        have := hv (j + 1) u (by simpa using hj)
        rw [← this]; congr 1; omega) hl.2 (fun m hm => by
        show st1.o m = .dead
        rw [(m3 m (by omega)).2.2]; exact hd m (by omega))
    simp only [enterL, hsx]
    refine ⟨h2', F2', n1, ?_, ?_⟩
    · intro m hm
      obtain ⟨q1, q2⟩ := n2 m (by omega)
      obtain ⟨p1, _, p3⟩ := m3 m (by omega)
      exact ⟨by rw [q1, p1], by rw [q2]; exact p3⟩
    · intro n u hm
      simp only [msL, List.mem_append] at hm
      rcases hm with hm | hm
      · by_cases hx : x.isRoot = true
        · simp only [hx, if_true, List.mem_singleton, Prod.mk.injEq] at hm
          obtain ⟨rfl, rfl⟩ := hm
          obtain ⟨r1, r2⟩ := hrv hx
          have := whole_val m1 (n := rootN i) (v := u) r2 (by rw [← r1]; exact SV_of_SV1 m2)
          rw [(n2 (rootN i) (by omega)).1]; exact this.symm
        · simp [hx] at hm
      · exact n3 n u hm

theorem AVL_length {H : Heap} : ∀ {xs : List V} {vs : List Value} {G : List Nat}, AVL H I xs vs G → vs.length = xs.length
  | [], vs, G, ha => by simp only [AVL] at ha; simp [ha.1]
  | x :: xs, vs, G, ha => by
    simp only [AVL] at ha
    obtain ⟨v, vs', G1, G2, rfl, _, _, h2⟩ := ha
    simp [AVL_length h2]

theorem msL_names : ∀ {xs : List V} {vs : List Value} {i n : Nat} {v : Value}, (n, v) ∈ msL i xs vs → argName ≤ n
  | [], vs, i, n, v, hm => by simp [msL] at hm
  | x :: xs, [], i, n, v, hm => by simp [msL] at hm
  | x :: xs, u :: vs, i, n, v, hm => by
    simp only [msL, List.mem_append] at hm
    rcases hm with hm | hm
    · split at hm
      · simp only [List.mem_singleton, Prod.mk.injEq] at hm; simp only [rootN] at hm; omega
      · simp at hm
    · exact msL_names hm

theorem absorb1_ok (hs : SatW E I h F st a w) {x y : V} {v : Value} {st' : St} {K : List (Nat × List Nat)} (hx : SV (hp w) I h st.o x v) (ha : absorb st x = some (y, st', K)) :
    Taken E I h F st a w st' K fun G => AV (hp w) I y v G := by
  cases x with
  | agg fs =>
    simp only [SV, SV1] at hx
    obtain ⟨cs, rfl, hx⟩ := hx
    have ha0 := ha
    simp only [absorb] at ha
    split at ha
    · simp only [Option.some.injEq, Prod.mk.injEq] at ha
      obtain ⟨rfl, _, _⟩ := ha
      obtain ⟨F', G, k1, k2, k3⟩ := absorb_ok (x := .agg fs) hs (by simp only [srep]; exact hx) ha0
      exact ⟨F', G, k1, by simp only [AV]; simp only [rep] at k2; exact ⟨cs, rfl, k2⟩, k3⟩
    · cases ha
  | dead => simp [absorb] at ha
  | tup _ => simp [absorb] at ha
  | own _ _ => simp [absorb] at ha
  | bx _ => simp [absorb] at ha
  | _ =>
    simp only [SV, SV1] at hx
    obtain ⟨F', G, k1, k2, k3⟩ := absorb_ok hs hx ha
    refine ⟨F', G, k1, AV_of_rep ?_ ?_ k2, k3⟩
    · intro he; subst he; simp only [absorb] at ha
      first
        | (simp at ha; done)
        | (split at ha <;> simp at ha; done)
        | (split at ha
           · simp at ha
           · split at ha <;> simp at ha)
    · simp only [absorb] at ha
      first
        | (simp only [Option.some.injEq, Prod.mk.injEq] at ha; rw [← ha.1]; rfl)
        | (split at ha
           · simp only [Option.some.injEq, Prod.mk.injEq] at ha; rw [← ha.1]; rfl
           · cases ha)
        | (split at ha
           · simp only [Option.some.injEq, Prod.mk.injEq] at ha; rw [← ha.1]; rfl
           · split at ha
             · simp only [Option.some.injEq, Prod.mk.injEq] at ha; rw [← ha.1]; rfl
             · cases ha)

theorem absorbAL_ok : ∀ {xs : List V} {st st' : St} {F : Nat → List Nat} {vs : List Value} {ys : List V} {K : List (Nat × List Nat)}, SatW E I h F st a w → vs.length = xs.length →
    (∀ (i : Nat) x v, xs[i]? = some x → vs[i]? = some v → SV (hp w) I h st.o x v) → absorbL st xs = some (ys, st', K) → Taken E I h F st a w st' K fun G => AVL (hp w) I ys vs G
  | [], st, st', F, vs, ys, K, hs, hl, hx, ha => by
    simp only [absorbL, Option.some.injEq, Prod.mk.injEq] at ha
    obtain ⟨rfl, rfl, rfl⟩ := ha
    have : vs = [] := List.eq_nil_of_length_eq_zero (by simpa using hl)
    subst this
    exact taken_none hs (by simp [AVL])
  | x :: xs, st, st', F, vs, ys, K, hs, hl, hx, ha => by
    cases vs with
    | nil => simp at hl
    | cons v vs =>
      simp only [absorbL] at ha
      split at ha
      · rename_i y st1 K1 h1
        split at ha
        · cases ha
        · rename_i ht
          have ht' : touchesL K1 xs = false := by simpa using ht
          split at ha
          · rename_i ys' st2 K2 h2
            simp only [Option.some.injEq, Prod.mk.injEq] at ha
            obtain ⟨rfl, rfl, rfl⟩ := ha
            obtain ⟨F1, G1, a1, a2, a3, a4, a5, a6, a7, a8, a9, a10⟩ := absorb1_ok hs (hx 0 x v (by simp) (by simp)) h1
            have hunt : ∀ (i : Nat) z, xs[i]? = some z → touches K1 z = false := by
              intro i z hz
              have hmem := List.mem_of_getElem? hz
              clear h2 hx hl hz
              induction xs with
              | nil => simp at hmem
              | cons q qs ih =>
                simp only [touchesL, Bool.or_eq_false_iff] at ht'
                rcases List.mem_cons.1 hmem with h | h
                · subst h; exact ht'.1
                · exact ih (by simpa using ht'.2) ht'.2 h
            obtain ⟨F2, G2, b1, b2, b3, b4, b5, b6, b7, b8, b9, b10⟩ := absorbAL_ok (vs := vs) a1 (by simpa using hl) (fun i z u hi hu => a9 z u (hunt i z hi) (hx (i + 1) z u (by simpa using hi) (by simpa using hu))) h2
            have htl : ∀ z, touches (K1 ++ K2) z = false → touches K1 z = false ∧ touches K2 z = false := fun z hz => touches_app hz
            refine ⟨F2, G1 ++ G2, b1, ?_, ?_, ?_, ?_, fun m b hb => a6 m b (b6 m b hb), by rw [b7, a7], ?_, ?_, fun m hm => b10 m (a10 m hm)⟩
            · simp only [AVL]; exact ⟨v, vs, G1, G2, rfl, rfl, a2, b2⟩
            · rw [List.nodup_append]
              refine ⟨a3, b3, fun b hb c hc he => ?_⟩
              subst he
              obtain ⟨m, hm⟩ := b5 b hc
              exact a4 m b hb hm
            · intro m b hb hb2
              rcases List.mem_append.1 hb with h | h
              · exact a4 m b h (b6 m b hb2)
              · exact b4 m b h hb2
            · intro b hb
              rcases List.mem_append.1 hb with h | h
              · exact a5 b h
              · obtain ⟨m, hm⟩ := b5 b h; exact ⟨m, a6 m b hm⟩
            · intro z cs hz hzz
              exact b8 z cs (htl z hz).2 (a8 z cs (htl z hz).1 hzz)
            · intro z u hz hzz
              exact b9 z u (htl z hz).2 (a9 z u (htl z hz).1 hzz)
          · cases ha
      · cases ha

def oneVal : List Value → Value
  | [v] => v
  | vs => .tuple vs.toArray

theorem res_ok (hty : TyOk P ty) (hs : SatW E I h F st a w) (g : ResultVar → Sem Value) (hg : ∀ t, (g (.tmp t)).run P w = .ok (a.tmps.getD t undef) w)
    (hc : ∀ b t, (g (.cell b t)).run P w = ((asAddr (a.tmps.getD b undef)).run P w).andThen fun ad w' => (loadVar t ad).run P w') :
    ∀ {rs : List Res} {zs : List V}, resVL ty st rs = some zs → ∃ vs, ((rs.map Res.var).mapM g).run P w = .ok vs w ∧ vs.length = zs.length ∧ ∀ (i : Nat) x v, zs[i]? = some x → vs[i]? = some v → SV (hp w) I h st.o x v
  | [], zs, hr => by
    simp only [resVL, Option.some.injEq] at hr; subst hr
    exact ⟨[], by simp, rfl, fun i x v hi => by simp at hi⟩
  | r :: rs, zs, hr => by
    simp only [resVL] at hr
    split at hr
    · rename_i x hx
      split at hr
      · rename_i xs hxs
        simp only [Option.some.injEq] at hr; subst hr
        obtain ⟨vs, k1, k2, k3⟩ := res_ok hty hs g hg hc hxs
        have main : ∃ v, (g r.var).run P w = .ok v w ∧ SV (hp w) I h st.o x v := by
          cases r with
          | t n =>
            simp only [resV, Option.some.injEq] at hx; subst hx
            exact ⟨_, hg n, hs.slot n⟩
          | c b t =>
            simp only [resV] at hx
            obtain ⟨v, bb, oo, h1, h2, h3⟩ := load_core (x := .tmp b) hty hx hs
            refine ⟨v, ?_, h3⟩
            have h1' : a.tmps.getD b undef = .pointer (some ⟨bb, oo, none⟩) := h1
            simp only [Res.var]
            rw [hc, h1']
            simp only [asAddr, Sem.run_pure, Result.andThen_ok]
            exact h2
        obtain ⟨v, m1, m2⟩ := main
        refine ⟨v :: vs, ?_, by simp [k2], ?_⟩
        · simp only [List.map_cons, List.mapM_cons, Sem.run_bind, m1, Sem.run_pure, Result.andThen_ok, k1]
        · intro i z u hi hu
          cases i with
          | zero => simp at hi hu; subst hi hu; exact m2
          | succ i => exact k3 i z u (by simpa using hi) (by simpa using hu)
      · cases hr
    · cases hr

theorem run_results (hty : TyOk P ty) (hs : SatW E I h F st a w) {fn : Func} {rs : List Res} {zs : List V} (hr : fn.results = (rs.map Res.var).toArray) (hz : resVL ty st rs = some zs) :
    ∃ vs, (results fn a.tmps).run P w = .ok (oneVal vs) w ∧ vs.length = zs.length ∧ ∀ (i : Nat) x v, zs[i]? = some x → vs[i]? = some v → SV (hp w) I h st.o x v := by
  obtain ⟨vs, k1, k2, k3⟩ := res_ok hty hs (fun
    | .tmp t => pure (a.tmps.getD t undef)
    | .cell b t => do loadVar t (← asAddr (a.tmps.getD b undef))) (fun t => by simp) (fun b t => by simp) hz
  refine ⟨vs, ?_, k2, k3⟩
  unfold results
  rw [hr, Array.mapM_eq_mapM_toList]
  simp only [Sem.run_bind, Sem.run_map]
  have k1' := k1
  refine Eq.trans (congrArg (fun z : Result (List Value) => (z.andThen fun a w' => Result.ok a.toArray w').andThen _) (Eq.trans (congrArg (fun g => Sem.run P (List.mapM g (rs.map Res.var)) w) ?_) k1')) ?_
  · funext r; cases r <;> rfl
  · simp only [Result.andThen_ok, Sem.run_pure]
    congr 1
    match vs with
    | [] => simp [oneVal]
    | [v] => simp [oneVal]
    | v :: v' :: vs => simp [oneVal]

theorem msL_get : ∀ {xs : List V} {vs : List Value} {i j : Nat} {x : V} {v : Value}, xs[j]? = some x → vs[j]? = some v → x.isRoot = true → (rootN (i + j), v) ∈ msL i xs vs
  | [], vs, i, j, x, v, h1, _, _ => by simp at h1
  | y :: xs, [], i, j, x, v, _, h2, _ => by simp at h2
  | y :: xs, u :: vs, i, j, x, v, h1, h2, hx => by
    simp only [msL, List.mem_append]
    cases j with
    | zero =>
      simp at h1 h2; subst h1 h2
      left; simp [hx]
    | succ j =>
      right
      have := msL_get (i := i + 1) (j := j) (by simpa using h1) (by simpa using h2) hx
      rwa [show i + 1 + j = i + (j + 1) by omega] at this

/-- what is left of the things that were handed over -/
theorem outsL_ok (hs : SatW E I h F st a w) : ∀ {xs : List V} {vs : List Value} {i : Nat}, vs.length = xs.length → (∀ (j : Nat) x v, xs[j]? = some x → vs[j]? = some v → x.isRoot = true → st.o (rootN (i + j)) ≠ .dead → h (rootN (i + j)) = v) →
    ∃ Fo, OutL (hp w) I (outsL st i xs) vs Fo ∧ Fo.Nodup ∧ (∀ b ∈ Fo, ∃ m, rootN i ≤ m ∧ b ∈ F m)
  | [], vs, i, hl, hm => ⟨[], by simp [outsL, OutL], by simp, by simp⟩
  | x :: xs, [], i, hl, hm => by simp at hl
  | x :: xs, v :: vs, i, hl, hm => by
    obtain ⟨Fo, k1, k2, k3⟩ := outsL_ok hs (xs := xs) (vs := vs) (i := i + 1) (by simpa using hl) (fun j y u hy hu hr hd => by
      have e : i + 1 + j = i + (j + 1) := by omega
      rw [e] at hd ⊢
      exact hm (j + 1) y u (by simpa using hy) (by simpa using hu) hr hd)
    have hlt : rootN i < rootN (i + 1) := by simp only [rootN]; omega
    simp only [outsL, OutL]
    by_cases hx : x.isRoot = true
    · simp only [hx, if_true]
      rcases hs.obj (rootN i) with ⟨hd, hF⟩ | ⟨hr, hrep⟩
      · exact ⟨Fo, ⟨[], Fo, rfl, .inl ⟨hd, rfl⟩, k1⟩, k2, fun b hb => by obtain ⟨m, m1, m2⟩ := k3 b hb; exact ⟨m, by omega, m2⟩⟩
      · have hne : st.o (rootN i) ≠ .dead := by intro he; rw [he] at hr; simp [V.isRoot] at hr
        have hh : h (rootN i) = v := by have := hm 0 x v (by simp) (by simp) hx (by simpa using hne); simpa using this
        rw [hh] at hrep
        refine ⟨F (rootN i) ++ Fo, ⟨F (rootN i), Fo, rfl, .inr ⟨hr, hrep⟩, k1⟩, ?_, ?_⟩
        · rw [List.nodup_append]
          refine ⟨hs.nd _, k2, fun b hb c hc he => ?_⟩
          subst he
          obtain ⟨m, m1, m2⟩ := k3 b hc
          exact hs.dj (rootN i) m (by omega) b hb m2
        · intro b hb
          rcases List.mem_append.1 hb with hb | hb
          · exact ⟨rootN i, Nat.le_refl _, hb⟩
          · obtain ⟨m, m1, m2⟩ := k3 b hb; exact ⟨m, by omega, m2⟩
    · simp only [hx]
      exact ⟨Fo, ⟨[], Fo, rfl, .inl ⟨by simp, rfl⟩, k1⟩, k2, fun b hb => by obtain ⟨m, m1, m2⟩ := k3 b hb; exact ⟨m, by omega, m2⟩⟩

def bodyQ (ty : Nat → TyI) (rs : List Res) (xs : List V) (Q : V → List V → Prop) : Exit → St → Prop
  | .normal, st | .ret, st => ∃ z, exitV ty rs xs st = some z ∧ Q z.1 z.2
  | _, _ => False

theorem outsL_length (st : St) : ∀ (i : Nat) (xs : List V), (outsL st i xs).length = xs.length
  | _, [] => rfl
  | i, x :: xs => by simp [outsL, outsL_length st (i + 1) xs]

/-- the contract of a function from the walk of its body -/
theorem callOk_of (hty : TyOk P ty) {f : FuncId} {fn : Func} {c : Code} {rs : List Res} {xs : List V} {Q : V → List V → Prop} (hf : P.funcs[f]? = some fn) (hb : fn.body = some c) (hr : fn.results = (rs.map Res.var).toArray)
    (hn : xs.length ≤ fn.ntmps) (hl : leavesOk xs = true) (hT : T P c (bodyQ ty rs xs Q) (entry fn.ntmps xs)) : CallOk P f xs Q := by
  intro w I vs A ha hnd hfr hI
  have hvl := AVL_length ha
  refine calls_of_wp hf hb ?_
  let E : Env := { base := w.heap.size, A := A, w0 := w, ms := msL 0 xs vs, I0 := I }
  let a : Act := { tmps := vs.toArray ++ Array.replicate (fn.ntmps - vs.toArray.size) undef, defers := [] }
  have ha0 : ∀ (j : Nat) v, vs[j]? = some v → a.tmps.getD j undef = v := by
    intro j v hj
    have hlt := lt_of_some hj
    simp only [a, Array.getD_eq_getD_getElem?]
    rw [Array.getElem?_append_left (by simpa using hlt)]
    simp [hj]
  have ha1 : ∀ j, ¬ j < vs.length → a.tmps.getD j undef = undef := by
    intro j hj
    simp only [a, Array.getD_eq_getD_getElem?]
    rw [Array.getElem?_append_right (by simpa using Nat.le_of_not_lt hj)]
    rw [Array.getElem?_replicate]
    split <;> rfl
  have h0 : SatW { E with ms := [] } I (fun _ => undef) (fun _ => []) { n := fn.ntmps, s := fun t => if t < xs.length then .dead else .tup [], o := fun _ => .dead } a w := by
    refine { size := ?_, defers := rfl, slot := ?_, obj := fun n => .inl ⟨rfl, rfl⟩, nd := fun n => by simp, dj := fun n m _ b hb => by simp at hb, fresh := fun n b hb => by simp at hb, grow := Nat.le_refl _, imm := hI, frame := fun _ _ _ => rfl, os := rfl, tape := ⟨rfl, Nat.le_refl _⟩, output := rfl, mh := fun n v hm => by simp at hm, ms := fun n v hm => by simp at hm, imm0 := fun b hb => .inl hb }
    · simp [a, hvl]; omega
    · intro t
      by_cases ht : t < xs.length
      · simp [ht, SV, SV1]
      · simp only [ht, if_false]
        rw [ha1 t (by rw [hvl]; exact ht)]; exact SV_undef _ _ _ _
  obtain ⟨h', F', k1, k2, k3⟩ := enter_ok (E := E) (xs := xs) (i := 0) (vs := vs) h0 ha hnd (fun m b _ => by simp) (fun b hb => ⟨(hfr b hb).1, (hfr b hb).2, .inr hb⟩) (fun j v hj => by rw [Nat.zero_add]; exact ha0 j v hj) hl (fun _ _ => rfl)
  have hsat : SatW E I h' F' (entry fn.ntmps xs) a w := k1.setMs (fun n v hm _ => k3 n v hm) (fun n v hm => msL_names hm)
  refine hT E I a w _ ⟨h', F', hsat⟩ ?_
  intro e st' I' a' w' q hi ⟨h2, F2, hs2⟩
  have fin : ∀ r outs, exitV ty rs xs st' = some (r, outs) → Q r outs → a'.defers = [] ∧ ∃ v, (results fn a'.tmps).run P w' = .ok v w' ∧ ∃ r outs, Q r outs ∧ outs.length = xs.length ∧ ∃ u I' Fr Fo, Ending.returned v = .returned u ∧ RV (hp w') I' r u Fr ∧ OutL (hp w') I' outs vs Fo ∧ (Fr ++ Fo).Nodup ∧
      (∀ b ∈ Fr ++ Fo, b < w'.heap.size ∧ ¬ I' b ∧ (w.heap.size ≤ b ∨ b ∈ A)) ∧ (∀ b, I b → I' b) ∧ (∀ b, I' b → b < w'.heap.size ∧ (I b ∨ w.heap.size ≤ b ∨ b ∈ A)) ∧
      w.heap.size ≤ w'.heap.size ∧ (∀ b, b < w.heap.size → b ∉ A → w'.heap[b]? = w.heap[b]?) ∧ w'.os = w.os ∧ (w'.tape = w.tape ∧ w.drawn ≤ w'.drawn) ∧ w'.output = w.output := by
    intro r outs hx hQ
    unfold exitV at hx
    split at hx
    case h_2 => cases hx
    case h_1 zs hz =>
    obtain ⟨us, hrun, hul, huv⟩ := run_results hty hs2 hr hz
    refine ⟨hs2.defers, _, hrun, ?_⟩
    split at hx
    · rename_i ys st1 K hab
      simp only [Option.some.injEq, Prod.mk.injEq] at hx
      obtain ⟨rfl, rfl⟩ := hx
      obtain ⟨F3, G, t1, t2, t3, t4, t5, t6, t7, _⟩ := absorbAL_ok (vs := us) hs2 hul huv hab
      obtain ⟨Fo, o1, o2, o3⟩ := outsL_ok t1 (xs := xs) (vs := vs) (i := 0) hvl (fun j x v hx hv hr hd => t1.mh _ v (msL_get hx hv hr) hd)
      refine ⟨_, _, hQ, outsL_length _ _ _, _, I', G, Fo, rfl, ?_, o1, ?_, ?_, hi, ?_, hs2.grow, hs2.frame, hs2.os, hs2.tape, hs2.output⟩
      ·
        have hlen := AVL_length t2
        match ys, us, hlen, t2 with
        | [], us, hlen, t2 =>
          have : us = [] := List.eq_nil_of_length_eq_zero (by simpa using hlen)
          subst this
          simp only [oneOr, oneVal, RV]
          exact ⟨[], rfl, t2⟩
        | [y], [], hlen, t2 => simp at hlen
        | [y], [u], hlen, t2 =>
          simp only [AVL] at t2
          obtain ⟨v, vs', G1, G2, hvv, rfl, h1, rfl, rfl⟩ := t2
          simp only [List.cons.injEq] at hvv
          obtain ⟨rfl, _⟩ := hvv
          simp only [oneOr, oneVal, List.append_nil]
          cases y <;> first | exact h1 | exact h1.elim
        | [y], u :: u' :: us, hlen, t2 => simp at hlen
        | y :: y' :: ys, [], hlen, t2 => simp at hlen
        | y :: y' :: ys, [u], hlen, t2 => simp at hlen
        | y :: y' :: ys, u :: u' :: us, hlen, t2 =>
          simp only [oneOr, oneVal, RV]
          exact ⟨_, rfl, t2⟩
      · rw [List.nodup_append]
        refine ⟨t3, o2, fun b hb c hc he => ?_⟩
        subst he
        obtain ⟨m, _, hm⟩ := o3 b hc
        exact t4 m b hb hm
      · intro b hb
        have : ∃ m, b ∈ F2 m := by
          rcases List.mem_append.1 hb with hb | hb
          · exact t5 b hb
          · obtain ⟨m, _, hm⟩ := o3 b hb; exact ⟨m, t6 m b hm⟩
        obtain ⟨m, hm⟩ := this
        exact hs2.fresh m b hm
      · intro b hb
        exact ⟨hs2.imm b hb, hs2.imm0 b hb⟩
    · cases hx
  cases e with
  | normal => obtain ⟨⟨r, outs⟩, q1, q2⟩ := q; exact fin r outs q1 q2
  | ret => obtain ⟨⟨r, outs⟩, q1, q2⟩ := q; exact fin r outs q1 q2
  | _ => exact q.elim
end
end Go.Lite

/- States in a normal form: short lists of what is known. -/
namespace Go.Lite

def look : List (Nat × V) → Nat → V
  | [], _ => .dead
  | (k, x) :: r, n => if n = k then x else look r n

def del : List (Nat × V) → Nat → List (Nat × V)
  | [], _ => []
  | (k, x) :: r, n => if k = n then del r n else (k, x) :: del r n

def keep (ts : List Nat) : List (Nat × V) → List (Nat × V)
  | [] => []
  | (k, x) :: r => if ts.contains k = true then (k, x) :: keep ts r else keep ts r

def mapS (g : V → V) : List (Nat × V) → List (Nat × V)
  | [] => []
  | (k, x) :: r => (k, x.mapA g) :: mapS g r

def mk (n : Nat) (S O : List (Nat × V)) : St := { n := n, s := look S, o := look O }

@[simp] theorem mk_n (n : Nat) (S O : List (Nat × V)) : (mk n S O).n = n := rfl
@[simp] theorem mk_s (n : Nat) (S O : List (Nat × V)) : (mk n S O).s = look S := rfl
@[simp] theorem mk_o (n : Nat) (S O : List (Nat × V)) : (mk n S O).o = look O := rfl

theorem look_del_same (n : Nat) : ∀ S : List (Nat × V), look (del S n) n = .dead
  | [] => rfl
  | (k, x) :: r => by
    simp only [del]
    split
    · exact look_del_same n r
    · rename_i h
      simp only [look]
      rw [if_neg (fun he => h he.symm)]; exact look_del_same n r

theorem look_del (n : Nat) : ∀ (S : List (Nat × V)) (m : Nat), m ≠ n → look (del S n) m = look S m
  | [], m, _ => rfl
  | (k, x) :: r, m, hm => by
    simp only [del]
    split
    · rename_i h
      subst h
      simp only [look]
      rw [if_neg hm]; exact look_del _ r m hm
    · simp only [look]
      split
      · rfl
      · exact look_del n r m hm

theorem look_upd (S : List (Nat × V)) (d : Nat) (x : V) : look ((d, x) :: del S d) = upd (look S) d x := by
  funext m
  simp only [look, upd]
  split
  · rfl
  · rename_i h; exact look_del d S m h

theorem look_upd_dead (S : List (Nat × V)) (d : Nat) : look (del S d) = upd (look S) d .dead := by
  funext m
  simp only [upd]
  split
  · rename_i h; subst h; exact look_del_same _ S
  · rename_i h; exact look_del d S m h

theorem look_mapS (g : V → V) : ∀ (S : List (Nat × V)) (t : Nat), look (mapS g S) t = (look S t).mapA g
  | [], t => by simp [mapS, look, V.mapA]
  | (k, x) :: r, t => by
    simp only [mapS, look]
    split
    · rfl
    · exact look_mapS g r t

@[simp] theorem put_mk (n : Nat) (S O : List (Nat × V)) (d : Nat) (x : V) : put (mk n S O) (some d) x = mk n ((d, x) :: del S d) O := by
  simp only [put, mk, look_upd]
@[simp] theorem put_mk_none (n : Nat) (S O : List (Nat × V)) (x : V) : put (mk n S O) none x = mk n S O := rfl
@[simp] theorem kill_mk (n : Nat) (S O : List (Nat × V)) (m : Nat) : kill m (mk n S O) = mk n (mapS (killA m) S) (del O m) := by
  simp only [kill, mk, look_upd_dead, St.mk.injEq, true_and, and_true]
  funext t; exact (look_mapS _ S t).symm
@[simp] theorem create_mk (n : Nat) (S O : List (Nat × V)) (d : Nat) (x : V) : create d x (mk n S O) = mk n (mapS (killA d) S) ((d, x) :: del O d) := by
  simp only [create, mk, look_upd, St.mk.injEq, true_and, and_true]
  funext t; exact (look_mapS _ S t).symm
@[simp] theorem setO_mk (n : Nat) (S O : List (Nat × V)) (d : Nat) (x : V) : ({ n := n, s := look S, o := upd (look O) d x } : St) = mk n S ((d, x) :: del O d) := by
  simp only [mk, look_upd]

def outOL : List Arg → List V → List (Nat × V) → List (Nat × V)
  | .g n :: as, y :: ys, O => (n, y) :: del (outOL as ys O) n
  | .b _ :: as, _ :: ys, O => outOL as ys O
  | _, _, O => O

theorem outO_look : ∀ (as : List Arg) (ys : List V) (O : List (Nat × V)), outO as ys (look O) = look (outOL as ys O)
  | [], ys, O => by cases ys <;> rfl
  | .g n :: as, [], O => rfl
  | .b _ :: as, [], O => rfl
  | .g n :: as, y :: ys, O => by simp only [outO, outOL, look_upd, outO_look as ys O]
  | .b _ :: as, y :: ys, O => by simp only [outO, outOL, outO_look as ys O]

@[simp] theorem afterCall_mk (n : Nat) (S O : List (Nat × V)) (as : List Arg) (ys : List V) :
    afterCall (mk n S O) as ys = mk n (mapS (goneA (look (outOL as ys O)) (given as)) S) (outOL as ys O) := by
  simp only [afterCall, mk, outO_look, St.mk.injEq, true_and, and_true]
  funext t; exact (look_mapS _ S t).symm

/-- a place in an object is written -/
theorem place_mk (n : Nat) (S O : List (Nat × V)) (m : Nat) (p : List Nat) (y : V) : place m p y (mk n S O) = mk n (mapS (moveA m p) S) ((m, rset (look O m) p y) :: del O m) := by
  simp only [place, mk, look_upd, St.mk.injEq, true_and, and_true]
  funext t; exact (look_mapS _ S t).symm
theorem place0_mk (n : Nat) (S O : List (Nat × V)) (m : Nat) (p : List Nat) (y : V) : place0 m p y (mk n S O) = mk n S ((m, rset (look O m) p y) :: del O m) := by
  simp only [place0, mk, look_upd]

theorem look_keep (ts : List Nat) : ∀ (S : List (Nat × V)) (t : Nat), look (keep ts S) t = look S t ∨ look (keep ts S) t = .dead
  | [], t => .inl rfl
  | (k, x) :: r, t => by
    simp only [keep]
    split
    · simp only [look]
      split
      · exact .inl rfl
      · exact look_keep ts r t
    · rename_i h
      by_cases ht : t = k
      · subst ht
        right
        have : ∀ r : List (Nat × V), look (keep ts r) t = .dead := by
          intro r
          induction r with
          | nil => rfl
          | cons q r ih =>
            simp only [keep]
            split
            · rename_i h2
              simp only [look]
              split
              · rename_i h3; subst h3; exact absurd h2 h
              · exact ih
            · exact ih
        exact this r
      · rcases look_keep ts r t with h2 | h2
        · left; simp only [look]; rw [if_neg ht]; exact h2
        · exact .inr h2

section
variable {P : Program} {ty : Nat → TyI} {E : Env} {I : Nat → Prop} {h : Nat → Value} {F : Nat → List Nat} {a : Act} {w : World} {ops : Array Oper} {o : Oper} {l : List Oper} {n : Nat} {S O : List (Nat × V)}

theorem SatW.drop (hs : SatW E I h F (Lite.mk n S O) a w) (ts : List Nat) : SatW E I h F (Lite.mk n (keep ts S) O) a w := by
  refine { hs with slot := ?_ }
  intro t
  simp only [mk_s, mk_o]
  rcases look_keep ts S t with h | h
  · rw [h]; exact hs.slot t
  · rw [h]; simp [SV, SV1]

theorem T_keep (ts : List Nat) {c : Code} {Q : Exit → St → Prop} {S' : List (Nat × V)} (hk : keep ts S = S') (hh : T P c Q (mk n S' O)) : T P c Q (mk n S O) := by
  subst hk
  intro E I a w R ⟨h, F, hs⟩ hr
  exact hh E I a w R ⟨h, F, hs.drop ts⟩ hr

theorem OL_keep (ts : List Nat) {K : St → Prop} {S' : List (Nat × V)} (hk : keep ts S = S') (hh : OL P ops l K (mk n S' O)) : OL P ops l K (mk n S O) := by
  subst hk
  intro E I a w R ⟨h, F, hs⟩ hr
  exact hh E I a w R ⟨h, F, hs.drop ts⟩ hr

theorem T_kill (m : Nat) {c : Code} {Q : Exit → St → Prop} (hh : T P c Q (kill m (mk n S O))) : T P c Q (mk n S O) := by
  intro E I a w R ⟨h, F, hs⟩ hr
  exact hh E I a w R ⟨h, _, hs.kill m⟩ hr

/-- where a body begins -/
theorem SatW.start {st : St} (hs : SatW E I h F st a w) {S : List (Nat × V)} {O : List (Nat × V)} (h1 : ∀ t, st.s t = look S t ∨ look S t = .dead) (h2 : st.o = look O) : SatW E I h F (Lite.mk st.n S O) a w := by
  refine { hs with slot := ?_, obj := ?_, mh := ?_ }
  · intro t
    simp only [mk_s, mk_o]
    rcases h1 t with h | h
    · rw [← h, ← h2]; exact hs.slot t
    · rw [h]; simp [SV, SV1]
  · intro m; simp only [mk_o, ← h2]; exact hs.obj m
  · intro m v hm hd; simp only [mk_o, ← h2] at hd; exact hs.mh m v hm hd
end

/-! the beginning as a normal form -/
mutual
def spreadM (base : Nat) : V → Nat → V × List (Nat × V) × Nat
  | .own s xs, c => (.sl (base + c) [] 0 xs.length, [(base + c, .own s xs)], c + 1)
  | .bx x, c => (.ref (base + c) [], [(base + c, .bx x)], c + 1)
  | .agg fs, c => match spreadML base fs c with | (gs, O, c') => (.agg gs, O, c')
  | .tup vs, c => match spreadML base vs c with | (gs, O, c') => (.tup gs, O, c')
  | .int k n, c => (.int k n, [], c)
  | .bool b, c => (.bool b, [], c)
  | .str s, c => (.str s, [], c)
  | .nilp, c => (.nilp, [], c)
  | .nilfn, c => (.nilfn, [], c)
  | .nilif, c => (.nilif, [], c)
  | .err, c => (.err, [], c)
  | .isl nn s xs, c => (.isl nn s xs, [], c)
  | .iptr x, c => (.iptr x, [], c)
  | .fn f cs, c => (.fn f cs, [], c)
  | .sl _ _ _ _, c => (.dead, [], c)
  | .ref _ _, c => (.dead, [], c)
  | .dead, c => (.dead, [], c)
def spreadML (base : Nat) : List V → Nat → List V × List (Nat × V) × Nat
  | [], c => ([], [], c)
  | x :: xs, c => match spreadM base x c with
    | (y, O1, c1) => match spreadML base xs c1 with
      | (ys, O2, c2) => (y :: ys, O2 ++ O1, c2)
end

/-- objects put in front of others, under names that are new -/
def over : List (Nat × V) → (Nat → V) → Nat → V
  | [], o => o
  | (k, x) :: r, o => upd (over r o) k x

theorem over_app : ∀ (A B : List (Nat × V)) (o : Nat → V), over (A ++ B) o = over A (over B o)
  | [], B, o => rfl
  | (k, x) :: r, B, o => by simp only [List.cons_append, over, over_app r B o]

mutual
theorem spread_M (base : Nat) : ∀ (x : V) (st : St) (c : Nat), spread base x st c = ((spreadM base x c).1, { st with o := over (spreadM base x c).2.1 st.o }, (spreadM base x c).2.2)
  | .own s xs, st, c => rfl
  | .bx x, st, c => rfl
  | .agg fs, st, c => by simp only [spread, spreadM, spreadL_M base fs st c]
  | .tup vs, st, c => by simp only [spread, spreadM, spreadL_M base vs st c]
  | .int k n, st, c => rfl
  | .bool b, st, c => rfl
  | .str s, st, c => rfl
  | .nilp, st, c => rfl
  | .nilfn, st, c => rfl
  | .nilif, st, c => rfl
  | .err, st, c => rfl
  | .isl nn s xs, st, c => rfl
  | .iptr x, st, c => rfl
  | .fn f cs, st, c => rfl
  | .sl _ _ _ _, st, c => rfl
  | .ref _ _, st, c => rfl
  | .dead, st, c => rfl
theorem spreadL_M (base : Nat) : ∀ (xs : List V) (st : St) (c : Nat), spreadL base xs st c = ((spreadML base xs c).1, { st with o := over (spreadML base xs c).2.1 st.o }, (spreadML base xs c).2.2)
  | [], st, c => rfl
  | x :: xs, st, c => by simp only [spreadL, spreadML, spread_M base x st c, spreadL_M base xs _ _, over_app]
end

def overL : List (Nat × V) → List (Nat × V) → List (Nat × V)
  | [], O => O
  | (k, x) :: r, O => (k, x) :: del (overL r O) k

theorem over_look : ∀ (A O : List (Nat × V)), over A (look O) = look (overL A O)
  | [], O => rfl
  | (k, x) :: r, O => by simp only [over, overL, over_look r O, look_upd]

@[simp] theorem spread_mk (base : Nat) (x : V) (n : Nat) (S O : List (Nat × V)) (c : Nat) : spread base x (mk n S O) c = ((spreadM base x c).1, mk n S (overL (spreadM base x c).2.1 O), (spreadM base x c).2.2) := by
  rw [spread_M]; simp only [mk, over_look]

def enterM : Nat → List V → List (Nat × V) → List (Nat × V) → List (Nat × V) × List (Nat × V)
  | _, [], S, O => (S, O)
  | i, x :: xs, S, O => enterM (i + 1) xs ((i, (spreadM (rootN i) x 0).1) :: del S i) (overL (spreadM (rootN i) x 0).2.1 O)

theorem enter_M : ∀ (xs : List V) (i n : Nat) (S O : List (Nat × V)) (s : Nat → V), (∀ t, s t = look S t ∨ look S t = .dead) →
    ∃ s', enterL i xs { n := n, s := s, o := look O } = { n := n, s := s', o := look (enterM i xs S O).2 } ∧ ∀ t, s' t = look (enterM i xs S O).1 t ∨ look (enterM i xs S O).1 t = .dead
  | [], i, n, S, O, s, hS => ⟨s, rfl, hS⟩
  | x :: xs, i, n, S, O, s, hS => by
    simp only [enterL, enterM, spread_M, over_look]
    refine enter_M xs (i + 1) n _ _ _ ?_
    intro t
    rw [look_upd]
    simp only [upd]
    split
    · exact .inl rfl
    · exact hS t

def start (n : Nat) (xs : List V) : St := mk n (enterM 0 xs [] []).1 (enterM 0 xs [] []).2

theorem T_start {P : Program} {n : Nat} {xs : List V} {c : Code} {Q : Exit → St → Prop} (hh : T P c Q (start n xs)) : T P c Q (entry n xs) := by
  obtain ⟨s', h1, h2⟩ := enter_M xs 0 n [] [] (fun t => if t < xs.length then .dead else .tup []) (fun t => .inr rfl)
  intro E I a w R ⟨h, F, hs⟩ hr
  have he : entry n xs = { n := n, s := s', o := look (enterM 0 xs [] []).2 } := h1
  rw [he] at hs
  exact hh E I a w R ⟨h, F, hs.start h2 rfl⟩ hr

/-- the contract from a walk that begins in the normal form -/
theorem fn_of {P : Program} {ty : Nat → TyI} (hty : TyOk P ty) {f : FuncId} {fn : Func} {c : Code} {rs : List Res} {xs : List V} {Q : V → List V → Prop} (n : Nat) (hf : P.funcs[f]? = some fn) (hb : fn.body = some c) (hr : fn.results = (rs.map Res.var).toArray) (hname : (fn.name == "runtime.NumGoroutine") = false)
    (hnt : fn.ntmps = n) (hn : (xs.length ≤ n) = True) (hl : leavesOk xs = true) (hT : T P c (bodyQ ty rs xs Q) (start n xs)) : Does P f xs Q :=
  ⟨⟨fn, hf, hname, by rw [hb]; rfl⟩, callOk_of hty hf hb hr (by rw [hnt]; exact of_eq_true hn) hl (by rw [hnt]; exact T_start hT)⟩
end Go.Lite

/- Forms of states, cuts, and the simp set that runs operations. -/
namespace Go.Lite

def pick : List Nat → List (Nat × V) → List (Nat × V)
  | [], _ => []
  | t :: ts, S => (t, look S t) :: pick ts S

def allIn (ns : List Nat) : List (Nat × V) → Bool
  | [] => true
  | (k, _) :: r => ns.contains k && allIn ns r

theorem look_pick : ∀ (ts : List Nat) (S : List (Nat × V)) (t : Nat), look (pick ts S) t = if t ∈ ts then look S t else .dead
  | [], S, t => by simp [pick, look]
  | k :: ts, S, t => by
    simp only [pick, look, look_pick ts S t, List.mem_cons]
    by_cases h : t = k
    · subst h; simp
    · simp [h]

theorem look_none : ∀ (O : List (Nat × V)) (ns : List Nat) (m : Nat), allIn ns O = true → m ∉ ns → look O m = .dead
  | [], ns, m, _, _ => rfl
  | (k, x) :: r, ns, m, h, hm => by
    simp only [allIn, Bool.and_eq_true] at h
    simp only [look]
    rw [if_neg (fun he => by subst he; exact hm (by simpa using h.1))]
    exact look_none r ns m h.2 hm

section
variable {P : Program} {ty : Nat → TyI} {E : Env} {I : Nat → Prop} {h : Nat → Value} {F : Nat → List Nat} {a : Act} {w : World} {ops : Array Oper} {o : Oper} {l : List Oper} {n : Nat} {S O S' O' : List (Nat × V)}

theorem SatW.form (hs : SatW E I h F (Lite.mk n S O) a w) (ts ns : List Nat) (h3 : allIn ns O = true) : SatW E I h F (Lite.mk n (pick ts S) (pick ns O)) a w := by
  have hO : look (pick ns O) = look O := by
    funext m
    rw [look_pick]
    split
    · rfl
    · rename_i hm; exact (look_none O ns m h3 hm).symm
  refine { hs with slot := ?_, obj := ?_, mh := ?_ }
  · intro t
    simp only [mk_s, mk_o, hO]
    rw [look_pick]
    split
    · exact hs.slot t
    · simp [SV, SV1]
  · intro m; simp only [mk_o, hO]; exact hs.obj m
  · intro m v hm hd; simp only [mk_o, hO] at hd; exact hs.mh m v hm hd

/-- only these slots, these objects, in this order -/
theorem T_form (ts ns : List Nat) {c : Code} {Q : Exit → St → Prop} (h1 : pick ts S = S') (h2 : pick ns O = O') (h3 : allIn ns O = true) (hh : T P c Q (mk n S' O')) : T P c Q (mk n S O) := by
  subst h1; subst h2
  intro E I a w R ⟨h, F, hs⟩ hr
  exact hh E I a w R ⟨h, F, hs.form ts ns h3⟩ hr

theorem OL_form (ts ns : List Nat) {K : St → Prop} (h1 : pick ts S = S') (h2 : pick ns O = O') (h3 : allIn ns O = true) (hh : OL P ops l K (mk n S' O')) : OL P ops l K (mk n S O) := by
  subst h1; subst h2
  intro E I a w R ⟨h, F, hs⟩ hr
  exact hh E I a w R ⟨h, F, hs.form ts ns h3⟩ hr

theorem OL_kill (m : Nat) {K : St → Prop} (hh : OL P ops l K (kill m (mk n S O))) : OL P ops l K (mk n S O) := by
  intro E I a w R ⟨h, F, hs⟩ hr
  exact hh E I a w R ⟨h, _, hs.kill m⟩ hr

theorem OL_runs0 (hty : TyOk P ty) {K : St → Prop} {st st' : St} (hr : runOps ty ops l st = some st') (hk : OL P ops [] K st') : OL P ops l K st := by
  induction l generalizing st with
  | nil => simp only [runOps, Option.some.injEq] at hr; subst hr; exact hk
  | cons o l ih =>
    simp only [runOps] at hr
    split at hr
    · rename_i hg
      split at hr
      · rename_i st1 ho; exact OL_op hty hg ho (ih hr)
      · cases hr
    · rename_i hg
      split at hr
      · rename_i hd; exact OL_skip hg hd (ih hr)
      · cases hr
    · cases hr

/-- the first operations of a row -/
theorem OL_first0 (k : Nat) (hty : TyOk P ty) {K : St → Prop} {st st' : St} (hr : runOps ty ops (l.take k) st = some st') (hk : OL P ops (l.drop k) K st') : OL P ops l K st := by
  induction k generalizing l st with
  | zero => simp only [List.take_zero, runOps, Option.some.injEq] at hr; subst hr; simpa using hk
  | succ k ih =>
    cases l with
    | nil => simp only [List.take_nil, runOps, Option.some.injEq] at hr; subst hr; simpa using hk
    | cons o l =>
      simp only [List.take_succ_cons, runOps] at hr
      simp only [List.drop_succ_cons] at hk
      split at hr
      · rename_i hg
        split at hr
        · rename_i st1 ho; exact OL_op hty hg ho (ih hr hk)
        · cases hr
      · rename_i hg
        split at hr
        · rename_i hd; exact OL_skip hg hd (ih hr hk)
        · cases hr
      · cases hr

theorem T_stills0 (hty : TyOk P ty) (hm : P.follows .mixedOrders = true) {id : Nat} {l : List Oper} {Q : Exit → St → Prop} {st st' : St} (hB : Region.lexB .any l.toArray = true) (hr : runStill ty l.toArray l st = some st') (hq : OL P #[] [] (Q .normal) st') :
    T P (.region id l.toArray true) Q st := by
  intro E I a w R ⟨h, F, hs⟩ hR
  exact wp_region_still_lit hm hB (wpStill_run hty (hs.drew _) hr fun a' hs' => hq E I a' _ R ⟨h, F, hs'⟩ fun st2 I2 a2 w2 k2 hi2 hs2 => hR _ st2 I2 a2 w2 k2 hi2 hs2)

theorem OL_state {K : St → Prop} {st : St} (hs : st = mk n S O) (hk : OL P ops l K (mk n S O)) : OL P ops l K st := hs ▸ hk
theorem T_state {c : Code} {Q : Exit → St → Prop} {st : St} (hs : st = mk n S O) (hk : T P c Q (mk n S O)) : T P c Q st := hs ▸ hk

/-- the same, with the state behind in its normal form -/
theorem OL_runs (hty : TyOk P ty) {K : St → Prop} (hr : runOps ty ops l (mk n S O) = some (mk n S' O')) (hk : OL P ops [] K (mk n S' O')) : OL P ops l K (mk n S O) := OL_runs0 hty hr hk
theorem OL_first (k : Nat) (hty : TyOk P ty) {K : St → Prop} (hr : runOps ty ops (l.take k) (mk n S O) = some (mk n S' O')) (hk : OL P ops (l.drop k) K (mk n S' O')) : OL P ops l K (mk n S O) := OL_first0 k hty hr hk
theorem T_stills (hty : TyOk P ty) (hm : P.follows .mixedOrders = true) {id : Nat} {l : List Oper} {Q : Exit → St → Prop} (hB : Region.lexB .any l.toArray = true) (hr : runStill ty l.toArray l (mk n S O) = some (mk n S' O'))
    (hq : OL P #[] [] (Q .normal) (mk n S' O')) : T P (.region id l.toArray true) Q (mk n S O) := T_stills0 hty hm hB hr hq
theorem T_tails (k : Nat) (hty : TyOk P ty) (hm : P.follows .mixedOrders = true) {id : Nat} {l : List Oper} {Q : Exit → St → Prop} (hB : Region.lexTailB .any l.toArray k = true) (hr : runStill ty l.toArray (l.take k) (mk n S O) = some (mk n S' O'))
    (hq : OL P l.toArray (l.drop k) (Q .normal) (mk n S' O')) : T P (.region id l.toArray true) Q (mk n S O) := T_tail k hty hm hB hr hq

/-- a piece of code with what holds behind it -/
theorem T_cut (M : St → Prop) {x y : Code} {Q : Exit → St → Prop} {st : St} (h1 : T P x (andThen M Q) st) (h2 : ∀ st', M st' → T P y Q st') : T P (.seq x y) Q st :=
  T_seq (T_mono h1 fun e st' hq => by cases e <;> first | exact h2 _ hq | exact hq)
end

attribute [simp] resV resVL foOk fillV boundV rnav unV wholeOf noAggL kill_mk
attribute [simp] runOps runStill stillV guardV opSt dOk stepV ev ofConst look del keep mapS V.mapA mapAL killA absorb absorbL buildV nilCheckV fieldAddrV indexAddrV loadV storeV lenV
  view viewL rget V.get elemSz convV binV unV sliceV start enterM spreadM spreadML rootN argName overL Arg.slot V.size sizeL V.isAgg V.part V.solid solidL V.dead? V.leaf rset V.set pick allIn
  place_mk place0_mk moveA inBlock andThen bodyQ exitV outsL oneOr outOL goneA V.isRoot V.isOwn callSt landed killR nleaf nleafL given wholeOf trees Arg.tree snap snapL V.fz fzL fitCall fitBack freeOf
  touches touchesL shapes sameShape lentImm V.immut immutL V.noImm noImmL leavesOk inOrder allSize baseV srcV noneV maxV minV noAggL TK.isSlice upd
end Go.Lite

/- Loops over told states, and shorter forms. -/
namespace Go.Lite
section
variable {P : Program} {ty : Nat → TyI} {E : Env} {I : Nat → Prop} {h : Nat → Value} {F : Nat → List Nat} {a : Act} {w : World} {ops : Array Oper} {o : Oper} {l : List Oper} {n : Nat} {S O S' O' : List (Nat × V)}

theorem T_loopN {c : Code} {Q : Exit → St → Prop} {st : St} (Inv : Nat → St → Prop) (k0 : Nat) (h0 : Inv k0 st)
    (hround : ∀ k st, Inv k st → T P c (andThen (fun st' => ∃ j, j < k ∧ Inv j st') Q) st) : T P (.loop c) Q st := by
  intro E I a w R hs hr b k cs
  have key : ∀ n st I a w, Inv n st → Sat E I st a w →
      (∀ e st' I' a' w', Q e st' → (∀ b, I b → I' b) → Sat E I' st' a' w' → R e a' w') →
      ∃ e a' w', R e a' w' ∧ Arrives P (lone (b.at a (.code c :: .inLoop c :: k)) cs w) b k cs e a' w' := by
    intro n
    induction n using Nat.strongRecOn with
    | _ n ih =>
      intro st I a w hI hs hr
      obtain ⟨e, a1, w1, hq, harr⟩ := hround n st hI E I a w
        (fun e a' w' => match e with
          | .normal => ∃ st' I', (∃ j, j < n ∧ Inv j st') ∧ (∀ b, I b → I' b) ∧ Sat E I' st' a' w'
          | e => R e a' w') hs
        (by
          intro e st' I' a' w' q hi hs'
          cases e with
          | normal => exact ⟨st', I', q, hi, hs'⟩
          | _ => exact hr _ st' I' a' w' q hi hs') b (.inLoop c :: k) cs
      cases e with
      | normal =>
        obtain ⟨st', I', ⟨j, hlt, hI'⟩, hi, hs'⟩ := hq
        obtain ⟨e2, a2, w2, hq2, harr2⟩ := ih j hlt st' I' a1 w1 hI' hs'
          (fun e st2 I2 a2 w2 q hi2 hs2 => hr e st2 I2 a2 w2 q (fun b hb => hi2 b (hi b hb)) hs2)
        exact ⟨e2, a2, w2, hq2, .of_steps (Steps.trans harr (.one step_inLoop)) harr2⟩
      | exit id => exact ⟨_, a1, w1, hq, .pass (x := .inLoop c) rfl (fun _ _ => .inl (by simp)) harr⟩
      | goto l => exact ⟨_, a1, w1, hq, .pass (x := .inLoop c) rfl (fun _ _ => .inl (by simp)) harr⟩
      | ret => exact ⟨_, a1, w1, hq, .pass (x := .inLoop c) rfl (fun _ _ => .inl (by simp)) harr⟩
      | panic ch => exact ⟨_, a1, w1, hq, .pass (x := .inLoop c) rfl (fun _ _ => .inl (by simp)) harr⟩
      | outgrown => exact ⟨_, a1, w1, hq, .pass (x := .inLoop c) rfl (fun _ _ => .inl (by simp)) harr⟩
  obtain ⟨e, a', w', hq, harr⟩ := key k0 st I a w h0 hs hr
  exact ⟨e, a', w', hq, .of_steps (.one step_loop) harr⟩

/-- a loop whose states are told by some data, that gets less -/
theorem T_loopF {α : Type} (f : α → St) (G : α → Prop) (μ : α → Nat) (a0 : α) {c : Code} {Q : Exit → St → Prop} {st : St} (h0 : st = f a0) (hG : G a0)
    (hround : ∀ a, G a → T P c (andThen (fun st' => ∃ a', st' = f a' ∧ G a' ∧ μ a' < μ a) Q) (f a)) : T P (.loop c) Q st := by
  refine T_loopN (fun k st => ∃ a, st = f a ∧ G a ∧ μ a = k) (μ a0) ⟨a0, h0, hG, rfl⟩ ?_
  rintro k st ⟨a, rfl, hg, rfl⟩
  refine T_mono (hround a hg) fun e st' hq => ?_
  cases e with
  | normal => obtain ⟨a', h1, h2, h3⟩ := hq; exact ⟨μ a', h3, a', h1, h2, rfl⟩
  | _ => exact hq

theorem OL_pick (ts : List Nat) {K : St → Prop} (h1 : pick ts S = S') (hh : OL P ops l K (mk n S' O)) : OL P ops l K (mk n S O) := by
  subst h1
  intro E I a w R ⟨h, F, hs⟩ hr
  refine hh E I a w R ⟨h, F, { hs with slot := ?_ }⟩ hr
  intro t
  simp only [mk_s, mk_o]
  rw [look_pick]
  split
  · exact hs.slot t
  · simp [SV, SV1]

theorem T_pick (ts : List Nat) {c : Code} {Q : Exit → St → Prop} (h1 : pick ts S = S') (hh : T P c Q (mk n S' O)) : T P c Q (mk n S O) := by
  subst h1
  intro E I a w R ⟨h, F, hs⟩ hr
  refine hh E I a w R ⟨h, F, { hs with slot := ?_ }⟩ hr
  intro t
  simp only [mk_s, mk_o]
  rw [look_pick]
  split
  · exact hs.slot t
  · simp [SV, SV1]

theorem OL_done {K : St → Prop} {st : St} (hk : K st) : OL P ops [] K st := OL_nil hk
end

theorem wrap_i64 {n : Int} (h1 : -9223372036854775808 ≤ n) (h2 : n < 9223372036854775808) : IntKind.i64.wrap n = n := by
  simp [IntKind.wrap, IntKind.bits, IntKind.signed]
  omega
theorem wrap_u64 {n : Int} (h1 : 0 ≤ n) (h2 : n < 18446744073709551616) : IntKind.u64.wrap n = n := by
  simp [IntKind.wrap, IntKind.bits, IntKind.signed]
  omega
theorem wrap_u8 {n : Int} (h1 : 0 ≤ n) (h2 : n < 256) : IntKind.u8.wrap n = n := by
  simp [IntKind.wrap, IntKind.bits, IntKind.signed]
  omega
theorem low_byte (n : Nat) : 0 ≤ IntKind.i64.wrap (IntKind.u64.wrap ((n &&& 255 % 2 ^ IntKind.u64.bits : Nat) : Int)) ∧ IntKind.i64.wrap (IntKind.u64.wrap ((n &&& 255 % 2 ^ IntKind.u64.bits : Nat) : Int)) < 256 := by
  have h : (n &&& 255 % 2 ^ IntKind.u64.bits) ≤ 255 := by
    have : 255 % 2 ^ IntKind.u64.bits = 255 := by decide
    rw [this]; exact Nat.and_le_right
  rw [wrap_u64 (by omega) (by omega), wrap_i64 (by omega) (by omega)]
  omega
end Go.Lite

/- Steps that only the proof takes: an object gets another name; an object is given up to reading. -/
namespace Go.Lite

def renA (m n : Nat) : V → V
  | .sl k p a l => if k = m then .sl n p a l else .sl k p a l
  | .ref k p => if k = m then .ref n p else .ref k p
  | x => x

def rename (m n : Nat) (st : St) : St := { st with s := fun t => (st.s t).mapA (renA m n), o := upd (upd st.o m .dead) n (st.o m) }

def frzA (O : V) (n : Nat) : V → V
  | .sl k p off len => if k = n then (match rget O p with | some (.own s ys) => .isl true s (fzL ((ys.drop off).take len)) | _ => .dead) else .sl k p off len
  | .ref k p => if k = n then (match rget O p with | some y => .iptr y.fz | none => .dead) else .ref k p
  | x => x

def freeze (n : Nat) (st : St) : St := { st with s := fun t => (st.s t).mapA (frzA (st.o n) n), o := upd st.o n .dead }

section
variable {P : Program} {ty : Nat → TyI} {E : Env} {I : Nat → Prop} {h : Nat → Value} {F : Nat → List Nat} {st : St} {a : Act} {w : World} {ops : Array Oper} {l : List Oper} {k : Nat} {S O : List (Nat × V)}

theorem SatW.rename (hs : SatW E I h F st a w) {m n : Nat} (hmn : m ≠ n) (hd : st.o n = .dead) (hn : n < argName) :
    SatW E I (upd h n (h m)) (upd (upd F m []) n (F m)) (Lite.rename m n st) a w := by
  have tr : Tr (hp w) I h st.o (hp w) I (upd h n (h m)) (upd (upd st.o m .dead) n (st.o m)) (renA m n) := by
    refine ⟨fun _ h => h, fun _ _ => rfl, ?_, ?_, ?_, ?_⟩
    · intro k p a l cs hh
      simp only [renA]
      by_cases hk : k = m
      · subst hk
        simp only [if_true]
        simp only [srep, upd_same] at hh ⊢
        exact hh
      · simp only [hk, if_false]
        by_cases hkn : k = n
        · subst hkn
          simp only [srep] at hh
          obtain ⟨_, _, _, _, _, _, h1, _⟩ := hh
          rw [hd] at h1; cases p <;> simp [rget, V.get] at h1
        · simp only [srep, upd_ne _ _ hkn, upd_ne _ _ hk] at hh ⊢; exact hh
    · intro k p cs hh
      simp only [renA]
      by_cases hk : k = m
      · subst hk
        simp only [if_true]
        simp only [srep, upd_same] at hh ⊢
        exact hh
      · simp only [hk, if_false]
        by_cases hkn : k = n
        · subst hkn
          simp only [srep] at hh
          obtain ⟨_, _, h1, _⟩ := hh
          rw [hd] at h1; simp [rnav] at h1
        · simp only [srep, upd_ne _ _ hkn, upd_ne _ _ hk] at hh ⊢; exact hh
    · intro k p a l; simp only [renA]; split <;> exact ⟨rfl, by simp, by simp⟩
    · intro k p; simp only [renA]; split <;> exact ⟨rfl, by simp, by simp⟩
  have hFm : ∀ q, ∀ b ∈ upd (upd F m []) n (F m) q, (q = n ∧ b ∈ F m) ∨ (q ≠ n ∧ q ≠ m ∧ b ∈ F q) := by
    intro q b hb
    by_cases hq : q = n
    · subst hq; rw [upd_same] at hb; exact .inl ⟨rfl, hb⟩
    · rw [upd_ne _ _ hq] at hb
      by_cases hqm : q = m
      · subst hqm; rw [upd_same] at hb; simp at hb
      · rw [upd_ne _ _ hqm] at hb; exact .inr ⟨hq, hqm, hb⟩
  refine { hs with slot := ?_, obj := ?_, nd := ?_, dj := ?_, fresh := ?_, mh := ?_ }
  · intro t; exact SV_tr tr (hs.slot t)
  · intro q
    simp only [Lite.rename]
    by_cases hq : q = n
    · subst hq; simp only [upd_same]; exact hs.obj m
    · simp only [upd_ne _ _ hq]
      by_cases hqm : q = m
      · subst hqm; simp only [upd_same]; exact .inl ⟨trivial, trivial⟩
      · simp only [upd_ne _ _ hqm]; exact hs.obj q
  · intro q
    by_cases hq : q = n
    · subst hq; simp only [upd_same]; exact hs.nd m
    · simp only [upd_ne _ _ hq]
      by_cases hqm : q = m
      · subst hqm; simp [upd_same]
      · simp only [upd_ne _ _ hqm]; exact hs.nd q
  · intro q r hqr b hb hb2
    rcases hFm q b hb with ⟨rfl, h1⟩ | ⟨h1, h2, h3⟩
    · rcases hFm r b hb2 with ⟨rfl, _⟩ | ⟨_, h4, h5⟩
      · exact hqr rfl
      · exact hs.dj m r (Ne.symm h4) b h1 h5
    · rcases hFm r b hb2 with ⟨rfl, h4⟩ | ⟨_, _, h5⟩
      · exact hs.dj q m h2 b h3 h4
      · exact hs.dj q r hqr b h3 h5
  · intro q b hb
    rcases hFm q b hb with ⟨_, h1⟩ | ⟨_, _, h1⟩
    · exact hs.fresh m b h1
    · exact hs.fresh q b h1
  · intro q v hq hqd
    have hge := hs.ms q v hq
    have hqn : q ≠ n := by omega
    simp only [Lite.rename, upd_ne _ _ hqn] at hqd ⊢
    by_cases hqm : q = m
    · subst hqm; simp [upd_same] at hqd
    · rw [upd_ne _ _ hqm] at hqd; exact hs.mh q v hq hqd

theorem SatW.freeze (hs : SatW E I h F st a w) (n : Nat) : SatW E (fun b => I b ∨ b ∈ F n) h (upd F n []) (Lite.freeze n st) a w := by
  have hI : ∀ b, I b → I b ∨ b ∈ F n := fun _ h => .inl h
  have tr : Tr (hp w) I h st.o (hp w) (fun b => I b ∨ b ∈ F n) h (upd st.o n .dead) (frzA (st.o n) n) := by
    refine ⟨hI, fun _ _ => rfl, ?_, ?_, ?_, ?_⟩
    · intro k p off len cs hh
      simp only [frzA]
      by_cases hk : k = n
      · subst hk
        simp only [if_true]
        have hh0 := hh
        have hl := srep_len hh
        simp only [V.size] at hl
        obtain ⟨v, rfl⟩ := List.length_eq_one_iff.1 hl
        simp only [srep] at hh
        obtain ⟨s, ys, b, ob, L, cap, h1, _⟩ := hh
        rw [h1]
        simp only []
        obtain ⟨G, hr, hG⟩ := node_rep hs hh0 h1
        have := rep_fz (I' := fun b => I b ∨ b ∈ F k) hI hr (fun b hb => .inr (hG b hb))
        simp only [srep]
        simpa only [V.fz] using this
      · simp only [hk, if_false]
        simp only [srep, upd_ne _ _ hk] at hh ⊢; exact hh
    · intro k p cs hh
      simp only [frzA]
      by_cases hk : k = n
      · subst hk
        simp only [if_true]
        simp only [srep] at hh
        obtain ⟨ad, z', h1, h2, rfl⟩ := hh
        rw [h2]
        simp only []
        have hroot := root_of_nav h1
        have hpo : p = [] → (st.o k).isOwn = false := by
          intro hp; subst hp
          cases hO : st.o k <;> try rfl
          rw [hO] at h1; simp [rnav] at h1
        obtain ⟨b1, o1, c1, e1, ds, G, hn1, hb1, hw1, hyr, hGF, hGn, hbF, _⟩ := hs.place hroot h2 hpo
        rw [h1] at hn1
        have had : ad = (b1, o1) := Option.some.inj hn1
        subst had
        simp only [srep, rep]
        exact ⟨rfl, b1, o1, c1, e1, (0, 0), ds, rfl, .inr hbF, hb1, rep_fz hI hyr (fun b hb => .inr (hGF b hb)), hw1⟩
      · simp only [hk, if_false]
        simp only [srep, upd_ne _ _ hk] at hh ⊢; exact hh
    · intro k p off len
      simp only [frzA]
      split
      · split <;> exact ⟨rfl, by simp, by simp⟩
      · exact ⟨rfl, by simp, by simp⟩
    · intro k p
      simp only [frzA]
      split
      · split <;> exact ⟨rfl, by simp, by simp⟩
      · exact ⟨rfl, by simp, by simp⟩
  refine { hs with slot := ?_, obj := ?_, nd := ?_, dj := ?_, fresh := ?_, imm := ?_, mh := ?_, imm0 := ?_ }
  · intro t; exact SV_tr tr (hs.slot t)
  · intro m
    simp only [Lite.freeze]
    by_cases hm : m = n
    · subst hm; left; simp [upd_same]
    · simp only [upd_ne _ _ hm]
      rcases hs.obj m with hd | ⟨h1, h2⟩
      · exact .inl hd
      · exact .inr ⟨h1, rep_mono hI (fun _ _ => rfl) (fun _ _ => rfl) h2⟩
  · intro m
    by_cases hm : m = n
    · subst hm; simp [upd_same]
    · simp only [upd_ne _ _ hm]; exact hs.nd m
  · intro m q hmq b hb
    by_cases hm : m = n
    · subst hm; simp [upd_same] at hb
    · simp only [upd_ne _ _ hm] at hb
      by_cases hq : q = n
      · subst hq; simp [upd_same]
      · simp only [upd_ne _ _ hq]; exact hs.dj m q hmq b hb
  · intro m b hb
    by_cases hm : m = n
    · subst hm; simp [upd_same] at hb
    · simp only [upd_ne _ _ hm] at hb
      obtain ⟨h1, h2, h3⟩ := hs.fresh m b hb
      exact ⟨h1, fun hc => hc.elim h2 (fun hc => hs.dj m n hm b hb hc), h3⟩
  · intro b hb
    rcases hb with hb | hb
    · exact hs.imm b hb
    · exact (hs.fresh n b hb).1
  · intro m v hm hd
    simp only [Lite.freeze] at hd
    by_cases hmn : m = n
    · subst hmn; simp [upd_same] at hd
    · simp only [upd_ne _ _ hmn] at hd; exact hs.mh m v hm hd
  · intro b hb
    rcases hb with hb | hb
    · exact hs.imm0 b hb
    · exact .inr (hs.fresh n b hb).2.2

theorem freeze_mk (n : Nat) : freeze n (mk k S O) = mk k (mapS (frzA (look O n) n) S) (del O n) := by
  simp only [freeze, mk, look_upd_dead, St.mk.injEq, true_and, and_true]
  funext t; exact (look_mapS _ S t).symm
theorem rename_mk (m n : Nat) : rename m n (mk k S O) = mk k (mapS (renA m n) S) ((n, look O m) :: del (del O m) n) := by
  simp only [rename, mk, look_upd_dead, look_upd, St.mk.injEq, true_and, and_true]
  funext t; exact (look_mapS _ S t).symm

theorem OL_freeze (n : Nat) {K : St → Prop} {S' O' : List (Nat × V)} (h1 : mapS (frzA (look O n) n) S = S') (h2 : del O n = O') (hh : OL P ops l K (mk k S' O')) : OL P ops l K (mk k S O) := by
  subst h1; subst h2
  intro E I a w R ⟨h, F, hs⟩ hr
  have := hs.freeze n
  rw [freeze_mk] at this
  exact hh E _ a w R ⟨h, _, this⟩ fun st' I' a' w' k hi hs' => hr st' I' a' w' k (fun b hb => hi b (.inl hb)) hs'

theorem T_freeze (n : Nat) {c : Code} {Q : Exit → St → Prop} {S' O' : List (Nat × V)} (h1 : mapS (frzA (look O n) n) S = S') (h2 : del O n = O') (hh : T P c Q (mk k S' O')) : T P c Q (mk k S O) := by
  subst h1; subst h2
  intro E I a w R ⟨h, F, hs⟩ hr
  have := hs.freeze n
  rw [freeze_mk] at this
  exact hh E _ a w R ⟨h, _, this⟩ fun e st' I' a' w' k hi hs' => hr e st' I' a' w' k (fun b hb => hi b (.inl hb)) hs'

theorem OL_rename (m n : Nat) {K : St → Prop} {S' O' : List (Nat × V)} (hmn : m ≠ n) (hd : look O n = .dead) (hn : n < argName) (h1 : mapS (renA m n) S = S') (h2 : (n, look O m) :: del (del O m) n = O') (hh : OL P ops l K (mk k S' O')) : OL P ops l K (mk k S O) := by
  subst h1; subst h2
  intro E I a w R ⟨h, F, hs⟩ hr
  have := hs.rename hmn hd hn
  rw [rename_mk] at this
  exact hh E I a w R ⟨_, _, this⟩ hr

theorem T_rename (m n : Nat) {c : Code} {Q : Exit → St → Prop} {S' O' : List (Nat × V)} (hmn : m ≠ n) (hd : look O n = .dead) (hn : n < argName) (h1 : mapS (renA m n) S = S') (h2 : (n, look O m) :: del (del O m) n = O') (hh : T P c Q (mk k S' O')) : T P c Q (mk k S O) := by
  subst h1; subst h2
  intro E I a w R ⟨h, F, hs⟩ hr
  have := hs.rename hmn hd hn
  rw [rename_mk] at this
  exact hh E I a w R ⟨_, _, this⟩ hr

theorem OL_drop (m : Nat) {K : St → Prop} {S' O' : List (Nat × V)} (h1 : mapS (killA m) S = S') (h2 : del O m = O') (hh : OL P ops l K (mk k S' O')) : OL P ops l K (mk k S O) := by
  subst h1; subst h2
  exact OL_kill m (by rw [kill_mk]; exact hh)

theorem T_drop (m : Nat) {c : Code} {Q : Exit → St → Prop} {S' O' : List (Nat × V)} (h1 : mapS (killA m) S = S') (h2 : del O m = O') (hh : T P c Q (mk k S' O')) : T P c Q (mk k S O) := by
  subst h1; subst h2
  exact T_kill m (by rw [kill_mk]; exact hh)
end
attribute [simp] renA frzA
end Go.Lite

/- Drawn regions, order by order: what only computes is taken first, the rest in every order. -/
namespace Go.Lite

def onlyN (R : Act → World → Prop) : Exit → Act → World → Prop
  | .normal, a, w => R a w
  | _, _, _ => False

/-- whatever order is picked from here on -/
def DA (P : Program) (ops : Array Oper) (fuel : Nat) (listed : Array Bool) (K : St → Prop) (st : St) : Prop :=
  ∀ E I a w (R : Act → World → Prop), Sat E I st a w → (∀ st' I' a' w', K st' → (∀ b, I b → I' b) → Sat E I' st' a' w' → R a' w') → wpAny P .any ops (onlyN R) fuel listed a w

section
variable {P : Program} {ty : Nat → TyI} {ops : Array Oper} {fuel : Nat} {listed : Array Bool} {K : St → Prop} {st : St} {n : Nat} {S O S' O' : List (Nat × V)}

theorem DA_done (hr : Region.ready .any ops listed = []) (hk : K st) : DA P ops fuel listed K st := by
  intro E I a w R hs hr'
  exact wpAny_done hr (hr' st I a w hk (fun _ h => h) hs) fuel

theorem DA_fin (hr : Region.ready .any ops listed = []) (hk : OL P #[] [] K st) : DA P ops fuel listed K st := by
  intro E I a w R hs hr'
  exact wpAny_done hr (hk E I a w (onlyN R) hs hr') fuel

theorem DA_take (i : Nat) (hty : TyOk P ty) {o : Oper} {x : V} (hi : ops[i]? = some o) (hns : Region.noSelect ops = true) (hf : Region.free .any ops listed i = true) (hr : (Region.ready .any ops listed).contains i = true)
    (hg : guardV ops (mk n S O) o = some true) (hst : stepV ty (mk n S O) o.op = some x) (hd : dOk (mk n S O) o.dst = true) (hp : put (mk n S O) o.dst x = mk n S' O')
    (hk : DA P ops fuel (listed.setIfInBounds i true) K (mk n S' O')) : DA P ops (fuel + 1) listed K (mk n S O) := by
  intro E I a w R ⟨h, F, hs⟩ hR
  obtain ⟨v, h1, h2⟩ := pure_ok hty hs hst
  refine wpAny_take hi hns hf hr (fun c a w h => h.elim) (.inl ⟨wanted_ok hs hg, h1⟩) ?_
  exact hk E I _ w R ⟨h, F, by rw [← hp]; exact hs.put hd h2⟩ hR

theorem DA_pass (i : Nat) {o : Oper} (hi : ops[i]? = some o) (hns : Region.noSelect ops = true) (hf : Region.free .any ops listed i = true) (hr : (Region.ready .any ops listed).contains i = true)
    (hg : guardV ops (mk n S O) o = some false) (hd : dOk (mk n S O) o.dst = true) (hp : put (mk n S O) o.dst (.tup []) = mk n S' O')
    (hk : DA P ops fuel (listed.setIfInBounds i true) K (mk n S' O')) : DA P ops (fuel + 1) listed K (mk n S O) := by
  intro E I a w R ⟨h, F, hs⟩ hR
  refine wpAny_take (v := undef) hi hns hf hr (fun c a w h => h.elim) (.inr ⟨wanted_ok hs hg, rfl⟩) ?_
  exact hk E I _ w R ⟨h, F, by rw [← hp]; exact hs.put hd (SV_undef _ _ _ _)⟩ hR

/-- one operation comes up, and then the rest -/
def D1 (P : Program) (ops : Array Oper) (i : Nat) (M : St → Prop) (st : St) : Prop :=
  ∃ o, ops[i]? = some o ∧ ((guardV ops st o = some true ∧ Op1 P o M st) ∨ (guardV ops st o = some false ∧ dOk st o.dst = true ∧ M (put st o.dst (.tup []))))

theorem DA_all (rs : List Nat) (hr : Region.ready .any ops listed = rs) (hne : rs ≠ []) (h : ∀ i ∈ rs, D1 P ops i (DA P ops fuel (listed.setIfInBounds i true) K) st) : DA P ops (fuel + 1) listed K st := by
  intro E I a w R hs hR
  refine wpAny_all hr hne fun i hi => ?_
  obtain ⟨o, ho, hc⟩ := h i hi
  unfold wpOp
  simp only [ho]
  obtain ⟨h, F, hsat⟩ := hs
  rcases hc with ⟨hg, h1⟩ | ⟨hg, hd, h1⟩
  · rw [if_pos (wanted_ok hsat hg)]
    refine .inl (h1 E I a w _ _ ⟨h, F, hsat⟩ ?_)
    intro st' I' a' w' k hi' hs'
    exact k E I' a' w' R hs' fun st2 I2 a2 w2 k2 hi2 hs2 => hR st2 I2 a2 w2 k2 (fun b hb => hi2 b (hi' b hb)) hs2
  · rw [if_neg (by rw [wanted_ok hsat hg]; simp)]
    exact h1 E I _ w R ⟨h, F, hsat.put hd (SV_undef _ _ _ _)⟩ hR

theorem DA_one (i : Nat) (hr : Region.ready .any ops listed = [i]) (h : D1 P ops i (DA P ops fuel (listed.setIfInBounds i true) K) st) : DA P ops (fuel + 1) listed K st :=
  DA_all [i] hr (by simp) fun j hj => by
    have hji : j = i := by simpa using hj
    subst hji; exact h

theorem DA_two (i j : Nat) (hr : Region.ready .any ops listed = [i, j]) (h1 : D1 P ops i (DA P ops fuel (listed.setIfInBounds i true) K) st) (h2 : D1 P ops j (DA P ops fuel (listed.setIfInBounds j true) K) st) : DA P ops (fuel + 1) listed K st :=
  DA_all [i, j] hr (by simp) fun k hk => by
    have : k = i ∨ k = j := by simpa using hk
    rcases this with rfl | rfl
    · exact h1
    · exact h2

theorem D1_op (hty : TyOk P ty) {i : Nat} {M : St → Prop} {o : Oper} (ho : ops[i]? = some o) (hg : guardV ops (mk n S O) o = some true) (hst : opSt ty (mk n S O) o = some (mk n S' O')) (hk : M (mk n S' O')) : D1 P ops i M (mk n S O) :=
  ⟨o, ho, .inl ⟨hg, Op1_of_Stp (Stp_op hty hst) hk⟩⟩

theorem D1_call {i : Nat} {M : St → Prop} {o : Oper} {g : Operand} {as : Array Operand} {tys : Array TypeId} {f : FuncId} {caps xs : List V} {Q : V → List V → Prop} (args : List Arg) (base : Nat) (ho : ops[i]? = some o) (hg : guardV ops st o = some true)
    (hop : o.op = .call { callee := .value g, args := as, argTypes := tys })
    (hc : ev st g = .fn f caps) (hsl : args.map (Arg.slot st) = as.toList.map (ev st) ++ caps) (hca : noAggL caps = true) (ht : trees st args = some xs) (hfn : Does P f xs Q) (hfit : fitCall st args o.dst = true) (hback : ∀ r outs, Q r outs → fitBack st args base r outs = true)
    (hk : ∀ r outs, Q r outs → M (callSt base args outs r o.dst st)) : D1 P ops i M st :=
  ⟨o, ho, .inl ⟨hg, Op1_mono (Op1_call hop hc hsl hca ht hfn hfit hback) fun s ⟨r, outs, hq, hs⟩ => by subst hs; exact hk r outs hq⟩⟩

theorem DA_state {st : St} (hs : st = mk n S O) (hk : DA P ops fuel listed K (mk n S O)) : DA P ops fuel listed K st := hs ▸ hk

theorem T_orders (hm : P.follows .mixedOrders = true) {id : Nat} {l : List Oper} {Q : Exit → St → Prop} {n : Nat} {L : Array Bool} (hn : l.toArray.size = n) (hL : Array.replicate n false = L) (h : DA P l.toArray n L (Q .normal) st) : T P (.region id l.toArray true) Q st := by
  subst hL
  intro E I a w R ⟨hh, F, hs⟩ hr
  have h0 : (Code.region id l.toArray true).wp P (onlyN fun a w => R .normal a w) a w :=
    wp_region_any hm (by rw [hn]; exact h E I a _ (fun a w => R .normal a w) ⟨hh, F, hs.drew _⟩ fun st' I' a' w' k hi hs' => hr _ st' I' a' w' k hi hs')
  intro b k cs
  obtain ⟨e, a', w', hq, harr⟩ := h0 b k cs
  refine ⟨e, a', w', ?_, harr⟩
  cases e <;> simp only [onlyN] at hq <;> exact hq
/-- what holds behind a piece of code that ends in the normal way -/
theorem T_then (M : St → Prop) {c : Code} {Q : Exit → St → Prop} {st : St} (h1 : T P c (andThen M fun _ _ => False) st) (h2 : ∀ st', M st' → Q .normal st') : T P c Q st :=
  T_mono h1 fun e st' hq => by cases e <;> first | exact h2 _ hq | exact hq.elim
end
end Go.Lite

/- Joins and loops that tell only what changes. -/
namespace Go.Lite

/-- names struck -/
def dels : List Nat → List (Nat × V) → List (Nat × V)
  | [], O => O
  | k :: ks, O => del (dels ks O) k

theorem look_dels : ∀ (ks : List Nat) (O : List (Nat × V)) (m : Nat), look (dels ks O) m = if m ∈ ks then .dead else look O m
  | [], O, m => by simp [dels]
  | k :: ks, O, m => by
    simp only [dels, List.mem_cons]
    by_cases h : m = k
    · subst h; simp [look_del_same]
    · rw [look_del k _ m h, look_dels ks O m]; simp [h]

/-- how arguments are handed over: by default they are lent -/
def argsOf : List (Option Nat) → List V → List Arg
  | _, [] => []
  | [], v :: vs => .b v :: argsOf [] vs
  | some n :: gs, _ :: vs => .g n :: argsOf gs vs
  | none :: gs, v :: vs => .b v :: argsOf gs vs

theorem look_append (S T : List (Nat × V)) (m : Nat) (h : ∀ p ∈ S, p.1 ≠ m) : look (S ++ T) m = look T m := by
  induction S with
  | nil => rfl
  | cons p S ih =>
    obtain ⟨k, x⟩ := p
    simp only [List.cons_append, look]
    rw [if_neg (fun he => h (k, x) (by simp) he.symm)]
    exact ih fun q hq => h q (by simp [hq])

theorem look_pick_app (ts : List Nat) (S T : List (Nat × V)) (m : Nat) : look (pick ts S ++ T) m = if m ∈ ts then look S m else look T m := by
  induction ts with
  | nil => simp [pick]
  | cons k ts ih =>
    simp only [pick, List.cons_append, look, ih, List.mem_cons]
    by_cases h : m = k
    · subst h; simp
    · simp [h]

theorem look_formO (co : List Nat) (O : List (Nat × V)) : look (pick co O ++ dels co O) = look O := by
  funext m
  rw [look_pick_app, look_dels]
  split <;> rfl

section
variable {P : Program} {ty : Nat → TyI} {E : Env} {I : Nat → Prop} {h : Nat → Value} {F : Nat → List Nat} {a : Act} {w : World} {ops : Array Oper} {o : Oper} {l : List Oper} {n : Nat} {S O S0 O0 S1 O1 : List (Nat × V)}

theorem SatW.formU (hs : SatW E I h F (Lite.mk n S O) a w) (ts co : List Nat) : SatW E I h F (Lite.mk n (pick ts S) (pick co O ++ dels co O)) a w := by
  have hO : look (pick co O ++ dels co O) = look O := look_formO co O
  refine { hs with slot := ?_, obj := ?_, mh := ?_ }
  · intro t
    simp only [mk_s, mk_o, hO]
    rw [look_pick]
    split
    · exact hs.slot t
    · simp [SV, SV1]
  · intro m; simp only [mk_o, hO]; exact hs.obj m
  · intro m v hm hd; simp only [mk_o, hO] at hd; exact hs.mh m v hm hd

theorem OL_formU (ts co : List Nat) {K : St → Prop} (h1 : pick ts S = S1) (h2 : pick co O ++ dels co O = O1) (hh : OL P ops l K (mk n S1 O1)) : OL P ops l K (mk n S O) := by
  subst h1; subst h2
  intro E I a w R ⟨h, F, hs⟩ hr
  exact hh E I a w R ⟨h, F, hs.formU ts co⟩ hr

theorem T_formU (ts co : List Nat) {c : Code} {Q : Exit → St → Prop} (h1 : pick ts S = S1) (h2 : pick co O ++ dels co O = O1) (hh : T P c Q (mk n S1 O1)) : T P c Q (mk n S O) := by
  subst h1; subst h2
  intro E I a w R ⟨h, F, hs⟩ hr
  exact hh E I a w R ⟨h, F, hs.formU ts co⟩ hr

/-- a join: what changes is told, the rest stands -/
theorem T_cutU (us co : List Nat) (M : List (Nat × V) → List (Nat × V) → Prop) {x y : Code} {Q : Exit → St → Prop} (hS : pick us S = S0) (hO : dels co O = O0)
    (h1 : T P x (andThen (fun st => ∃ c d, M c d ∧ st = mk n (c ++ S0) (d ++ O0)) Q) (mk n S O)) (h2 : ∀ c d, M c d → T P y Q (mk n (c ++ S0) (d ++ O0))) : T P (.seq x y) Q (mk n S O) :=
  T_cut (fun st => ∃ c d, M c d ∧ st = mk n (c ++ S0) (d ++ O0)) h1 (by rintro st ⟨c, d, hm, rfl⟩; exact h2 c d hm)

theorem T_thenU (us co : List Nat) (M : List (Nat × V) → List (Nat × V) → Prop) {x : Code} {Q : Exit → St → Prop} (hS : pick us S = S0) (hO : dels co O = O0)
    (h1 : T P x (andThen (fun st => ∃ c d, M c d ∧ st = mk n (c ++ S0) (d ++ O0)) fun _ _ => False) (mk n S O)) (h2 : ∀ c d, M c d → Q .normal (mk n (c ++ S0) (d ++ O0))) : T P x Q (mk n S O) :=
  T_then (fun st => ∃ c d, M c d ∧ st = mk n (c ++ S0) (d ++ O0)) h1 (by rintro st ⟨c, d, hm, rfl⟩; exact h2 c d hm)

/-- a loop: what changes is told by data, the rest stands -/
theorem T_loopU (us cs co : List Nat) {α : Type} (f g : α → List (Nat × V)) (G : α → Prop) (μ : α → Nat) (a0 : α) {c : Code} {Q : Exit → St → Prop} (hS : pick us S = S0) (hO : dels co O = O0) (hC : pick cs S = f a0) (hD : pick co O = g a0) (hG : G a0)
    (hround : ∀ a, G a → T P c (andThen (fun st' => ∃ a', st' = mk n (f a' ++ S0) (g a' ++ O0) ∧ G a' ∧ μ a' < μ a) Q) (mk n (f a ++ S0) (g a ++ O0))) : T P (.loop c) Q (mk n S O) := by
  have hp : ∀ (xs ys : List Nat), pick (xs ++ ys) S = pick xs S ++ pick ys S := by
    intro xs ys
    induction xs with
    | nil => rfl
    | cons x xs ih => simp only [List.cons_append, pick, ih]
  refine T_formU (cs ++ us) co (by rw [hp, hC, hS]) (by rw [hD, hO]) ?_
  exact T_loopF (fun a => mk n (f a ++ S0) (g a ++ O0)) G μ a0 rfl hG hround

theorem OL_callA {K : St → Prop} {g : Operand} {as : Array Operand} {tys : Array TypeId} {f : FuncId} {caps xs0 xs : List V} {args : List Arg} {Q : V → List V → Prop} (gs : List (Option Nat)) (base : Nat) (hg : guardV ops (mk n S O) o = some true) (hop : o.op = .call { callee := .value g, args := as, argTypes := tys })
    (hc : ev (mk n S O) g = .fn f caps) (ha : argsOf gs (as.toList.map (ev (mk n S O)) ++ caps) = args) (hsl : args.map (Arg.slot (mk n S O)) = as.toList.map (ev (mk n S O)) ++ caps) (hca : noAggL caps = true) (ht : trees (mk n S O) args = some xs0) (hxs : xs0 = xs) (hfn : Does P f xs Q) (hfit : fitCall (mk n S O) args o.dst = true) (hback : ∀ r outs, Q r outs → fitBack (mk n S O) args base r outs = true)
    (hk : ∀ r outs, Q r outs → OL P ops l K (callSt base args outs r o.dst (mk n S O))) : OL P ops (o :: l) K (mk n S O) :=
  have _ := ha
  OL_call args base hg hop hc hsl hca (hxs ▸ ht) hfn hfit hback hk

theorem D1_callA {i : Nat} {M : St → Prop} {g : Operand} {as : Array Operand} {tys : Array TypeId} {f : FuncId} {caps xs0 xs : List V} {args : List Arg} {Q : V → List V → Prop} (gs : List (Option Nat)) (base : Nat) (hi : ops[i]? = some o) (hg : guardV ops (mk n S O) o = some true) (hop : o.op = .call { callee := .value g, args := as, argTypes := tys })
    (hc : ev (mk n S O) g = .fn f caps) (ha : argsOf gs (as.toList.map (ev (mk n S O)) ++ caps) = args) (hsl : args.map (Arg.slot (mk n S O)) = as.toList.map (ev (mk n S O)) ++ caps) (hca : noAggL caps = true) (ht : trees (mk n S O) args = some xs0) (hxs : xs0 = xs) (hfn : Does P f xs Q) (hfit : fitCall (mk n S O) args o.dst = true) (hback : ∀ r outs, Q r outs → fitBack (mk n S O) args base r outs = true)
    (hk : ∀ r outs, Q r outs → M (callSt base args outs r o.dst (mk n S O))) : D1 P ops i M (mk n S O) :=
  have _ := ha
  D1_call args base hi hg hop hc hsl hca (hxs ▸ ht) hfn hfit hback hk

theorem T_from {st : St} {c : Code} {Q : Exit → St → Prop} (hs : st = mk n S O) (hh : T P c Q (mk n S O)) : T P c Q st := hs ▸ hh
end
/-- a weaker contract: less is said of the result -/
theorem Does_weak {P : Program} {f : FuncId} {xs : List V} {Q Q' : V → List V → Prop} (hd : Does P f xs Q) (h : ∀ r outs, Q r outs → ∃ r', Q' r' outs ∧ ∀ H I v F, RV H I r v F → RV H I r' v F) : Does P f xs Q' := by
  refine ⟨hd.1, fun w I vs F h1 h2 h3 h4 => (hd.2 w I vs F h1 h2 h3 h4).mono ?_⟩
  rintro e w' ⟨r, outs, hq, hl, v, I', Fr, Fo, he, hr, hk⟩
  obtain ⟨r', hq', hr'⟩ := h r outs hq
  exact ⟨r', outs, hq', hl, v, I', Fr, Fo, he, hr' _ _ _ _ hr, hk⟩

theorem Does_mono {P : Program} {f : FuncId} {xs : List V} {Q Q' : V → List V → Prop} (hd : Does P f xs Q) (h : ∀ r outs, Q r outs → Q' r outs) : Does P f xs Q' :=
  Does_weak hd fun r outs hq => ⟨r, h r outs hq, fun _ _ _ _ hr => hr⟩

theorem repL_deads {H : Heap} {I : Nat → Prop} : ∀ {xs : List V} {ds : List Value} {G : List Nat}, repL H I xs ds G → (∀ x ∈ xs, x.immut = true ∧ x.size = 1) → repL H I (xs.map fun _ => .dead) ds G
  | [], ds, G, h, _ => h
  | y :: xs, ds, G, h, hk => by
    simp only [repL] at h
    obtain ⟨d, ds', G1, G2, rfl, rfl, h1, h2⟩ := h
    have hy := hk y (by simp)
    have hl := rep_len h1
    rw [hy.2] at hl
    have hG := immut_foot hy.1 h1
    obtain ⟨u, rfl⟩ := List.length_eq_one_iff.1 hl
    subst hG
    simp only [List.map_cons, repL]
    exact ⟨[u], ds', [], G2, rfl, rfl, by simp [rep], repL_deads h2 fun x hx => hk x (by simp [hx])⟩

/-- rows of which nothing but their number is told -/
theorem RV_deads {H : Heap} {I : Nat → Prop} {xs : List V} {v : Value} {F : List Nat} (h : RV H I (.own 1 xs) v F) (hk : ∀ x ∈ xs, x.immut = true ∧ x.size = 1) : RV H I (.own 1 (xs.map fun _ => .dead)) v F := by
  simp only [RV, AV, rep] at h ⊢
  obtain ⟨b, o, cap, c, e, G, ds, h1, h2, h3, h4, h5, h6, h7, h8⟩ := h
  refine ⟨b, o, cap, c, e, G, ds, by simpa using h1, by simpa using h2, h3, h4, h5, repL_deads h6 hk, ?_, h8⟩
  intro x hx
  simp at hx
  obtain ⟨_, rfl⟩ := hx
  rfl

/-- small enough for a word of 64 bits -/
structure InR (n : Int) : Prop where
  lo : -9223372036854775808 ≤ n
  hi : n < 9223372036854775808
theorem wrapR {n : Int} (h : InR n) : IntKind.i64.wrap n = n := wrap_i64 h.lo h.hi
attribute [simp] dels argsOf
end Go.Lite

/- Elements of one cell written anew in place; the builtin clear. -/
namespace Go.Lite

/-- elements that stand in one cell and own nothing -/
def oneOk (x : V) : Bool := x.immut && (x.size == 1) && !x.isAgg

section
variable {P : Program} {ty : Nat → TyI} {E : Env} {I : Nat → Prop} {h : Nat → Value} {F : Nat → List Nat} {st : St} {a : Act} {w : World} {ops : Array Oper} {o : Oper} {l : List Oper}

theorem own_cells (hs : SatW E I h F st a w) {n : Nat} {xs : List V} (ho : st.o n = .own 1 xs) :
    ∃ b ob cap c e, h n = .slice (some ⟨b, ob, none⟩) xs.length cap ∧ xs.length ≤ cap ∧ w.heap[b]? = some (.cells c e (0, 0)) ∧ ob + cap ≤ c.size ∧ ∀ (i : Nat) (x : V), xs[i]? = some x → x.size = 1 := by
  have hrep := hs.rep (n := n) (by rw [ho]; rfl)
  rw [ho] at hrep
  simp only [Lite.rep] at hrep
  obtain ⟨b, ob, cap, c, e, G, ds, hhv, hcap, hF, hb, hsz, hr, h1, hw⟩ := hrep
  exact ⟨b, ob, cap, c, e, by simpa using hhv, hcap, hb, by simpa using hsz, fun i x hx => h1 x (List.mem_of_getElem? hx)⟩

theorem SatW.put1 (hs : SatW E I h F st a w) {n j : Nat} {xs : List V} {x z : V} {zv : Value} (ho : st.o n = .own 1 xs) (hx : xs[j]? = some x) (h1 : oneOk x = true) (hz1 : z.size = 1) (hz : ∀ H : Heap, Lite.rep H I z [zv] [])
    {b ob cap : Nat} (hh : h n = .slice (some ⟨b, ob, none⟩) xs.length cap) :
    ∃ F', SatW E I h F' { st with o := upd st.o n (.own 1 (xs.set j z)) } a (w.setCell ⟨b, ob + j, none⟩ zv) := by
  simp only [oneOk, Bool.and_eq_true, beq_iff_eq, Bool.not_eq_true'] at h1
  have hg : rget (st.o n) [j] = some x := by rw [ho]; simp [rget, V.get, hx]
  obtain ⟨b1, o1, c1, e1, ds, G, hnv, hb1, hw1, hr, hGF, hGn, hbF, hput⟩ := hs.place (by rw [ho]; rfl) hg (by simp)
  have hb : b1 = b ∧ o1 = ob + j := by
    rw [ho, hh] at hnv
    simp [rnav, hx, nav] at hnv
    omega
  obtain ⟨rfl, rfl⟩ := hb
  have hdl : ds.length = 1 := by rw [rep_len hr]; exact h1.1.2
  have hlt : b1 < w.heap.size := (Array.getElem?_eq_some_iff.1 hb1).1
  obtain ⟨F', -, -, -, -, k5⟩ := hput z [zv] [] (w.setCell ⟨b1, ob + j, none⟩ zv) (by rw [hz1]; exact h1.1.2.symm) (by simp [hdl]) (hz _) (by simp) (by simp) (by simp) (by simp) (by simp)
    (by simp [World.setCell]) (by simp [World.setCell, Array.getElem?_modify, hb1, wr]) (fun m hm => by simp [World.setCell, Array.getElem?_modify, Ne.symm hm]) rfl ⟨rfl, Nat.le_refl _⟩ rfl
  have := k5 (by
    rintro q ⟨r, hr0, rfl⟩
    rw [ho]
    cases r with
    | nil => exact absurd rfl hr0
    | cons k r =>
      simp only [List.cons_append, List.nil_append, rget, V.get, hx]
      cases x <;> simp [V.get, V.isAgg, V.immut] at *) (by cases x <;> simp [V.isOwn, V.immut] at *)
  refine ⟨F', ?_⟩
  have e : place0 n [j] z st = { st with o := upd st.o n (.own 1 (xs.set j z)) } := by
    unfold place0
    rw [ho]
    simp [rset, V.set]
  rw [← e]; exact this

theorem upd_upd (f : Nat → V) (n : Nat) (x y : V) : upd (upd f n x) n y = upd f n y := by
  funext m; simp only [upd]; split <;> rfl

theorem take_set_succ {xs : List V} {off : Nat} {z : V} (h : off < xs.length) : (xs.set off z).take (off + 1) = xs.take off ++ [z] := by
  apply List.ext_getElem?
  intro i
  by_cases h1 : i < off
  · rw [List.getElem?_take_of_lt (by omega), List.getElem?_append_left (by simp; omega), List.getElem?_take_of_lt h1, List.getElem?_set_ne (by omega)]
  · by_cases h2 : i = off
    · subst h2
      rw [List.getElem?_take_of_lt (by omega), List.getElem?_set_self (by omega), List.getElem?_append_right (by simp; omega)]
      simp [show min i xs.length = i by omega]
    · rw [List.getElem?_eq_none (by simp; omega), List.getElem?_eq_none (by simp; omega)]

theorem clear_many {n : Nat} {z : V} {zv : Value} (hz1 : z.size = 1) (hzk : oneOk z = true) (hz : ∀ H : Heap, Lite.rep H I z [zv] []) {b ob cap : Nat} : ∀ (len off : Nat) (xs : List V) (st : St) (F : Nat → List Nat) (w : World), SatW E I h F st a w →
    st.o n = .own 1 xs → (∀ x ∈ xs, oneOk x = true) → off + len ≤ xs.length → h n = .slice (some ⟨b, ob, none⟩) xs.length cap →
    ∃ F', SatW E I h F' { st with o := upd st.o n (.own 1 (xs.take off ++ List.replicate len z ++ xs.drop (off + len))) } a (w.setCells b (ob + off) (List.replicate len zv))
  | 0, off, xs, st, F, w, hs, ho, _, _, _ => by
    refine ⟨F, ?_⟩
    have : upd st.o n (.own 1 (xs.take off ++ List.replicate 0 z ++ xs.drop (off + 0))) = st.o := by
      funext m; simp only [upd]; split
      · rename_i h; subst h; simp [ho]
      · rfl
    rw [this]; exact hs
  | len + 1, off, xs, st, F, w, hs, ho, hk, hl, hh => by
    have hx : xs[off]? = some xs[off] := List.getElem?_eq_getElem (by omega)
    obtain ⟨F1, h1⟩ := hs.put1 ho hx (hk _ (List.getElem_mem _)) hz1 hz hh
    obtain ⟨F2, h2⟩ := clear_many hz1 hzk hz len (off + 1) (xs.set off z) _ F1 _ h1 (upd_same _ _ _) (by
      intro x hx
      rcases List.mem_or_eq_of_mem_set hx with h | h
      · exact hk x h
      · subst h; exact hzk) (by simp; omega) (by simpa using hh)
    refine ⟨F2, ?_⟩
    simp only [upd_upd] at h2
    have e : (xs.set off z).take (off + 1) ++ List.replicate len z ++ (xs.set off z).drop (off + 1 + len) = xs.take off ++ List.replicate (len + 1) z ++ xs.drop (off + (len + 1)) := by
      rw [take_set_succ (by omega), List.drop_set_of_lt (by omega), List.replicate_succ]
      simp [show off + 1 + len = off + (len + 1) by omega]
    rw [e] at h2
    simp only [List.replicate_succ, World.setCells]
    exact h2

theorem OL_clear (hty : TyOk P ty) {n off len t e k : Nat} {S O : List (Nat × V)} {xs : List V} {x : Operand} {K : St → Prop} (hg : guardV ops (mk k S O) o = some true) (hop : o.op = .call { callee := .builtin .clear, args := #[x], argTypes := #[t] }) (hd : o.dst = none)
    (hx : ev (mk k S O) x = .sl n [] off len) (hob : look O n = .own 1 xs) (hk : ∀ y ∈ xs, oneOk y = true) (hlen : 0 < len) (hT : (ty t).known = true) (hkd : (ty t).kd = .slice e) (hek : (ty e).known = true) (hz1 : oneOk (ty e).z = true) (hz0 : ∃ i zv, P.info? e = some i ∧ i.zero = some zv ∧ zv.cells = #[zv] ∧ zv.oneCell' = true)
    (hh : OL P ops l K (mk k S ((n, .own 1 (xs.take off ++ List.replicate len (ty e).z ++ xs.drop (off + len))) :: del O n))) : OL P ops (o :: l) K (mk k S O) := by
  have hz1' := hz1
  simp only [oneOk, Bool.and_eq_true, beq_iff_eq, Bool.not_eq_true'] at hz1
  refine OL_op1 hg (Op1_of_Stp (st' := mk k S ((n, .own 1 (xs.take off ++ List.replicate len (ty e).z ++ xs.drop (off + len))) :: del O n)) ?_ hh)
  intro E I h F a w hs
  have hxv := hs.ev x
  rw [hx] at hxv
  simp only [SV, SV1, srep, mk_o] at hxv
  obtain ⟨s, ys, b, ob, L, cap, h1, h2, h3, h4, oo, h5, h6⟩ := hxv
  rw [hob] at h1 h2
  simp only [rget, V.get, Option.some.injEq, V.own.injEq] at h1
  obtain ⟨rfl, rfl⟩ := h1
  simp only [rhdr, Option.some.injEq] at h2
  obtain ⟨b', ob', cap', c, e', k1, k2, k3, k4, k5⟩ := own_cells hs (n := n) (by simpa using hob)
  rw [h2] at k1
  simp only [Value.slice.injEq, Option.some.injEq, Addr.mk.injEq, and_true] at k1
  obtain ⟨⟨rfl, rfl⟩, rfl, rfl⟩ := k1
  have hoo : oo = ob + off := by rcases h6 with h | h <;> omega
  subst hoo
  have hav : a.eval x = .slice (some ⟨b, ob + off, none⟩) len (cap - off) := by simpa using h5
  obtain ⟨i, zv, hi, hzv, hm, hsz2, hby⟩ := hty.zero hek (by intro he; rw [he] at hz1; simp [V.immut] at hz1)
  have hzrep : ∀ H : Heap, rep H I (ty e).z zv.cells.toList [] := by
    intro H
    obtain ⟨ds, hds, _, hr⟩ := zm_ok (H := H) (I := I) (h := h) (o := look O) hm
    simp only [List.append_nil] at hds
    rw [hds]; exact hr
  obtain ⟨i', zv', hi', hzv', hzc, hzo⟩ := hz0
  rw [hi] at hi'
  obtain rfl : i = i' := by simpa using hi'
  rw [hzv] at hzv'
  obtain rfl : zv = zv' := by simpa using hzv'
  have hzr : ∀ H : Heap, rep H I (ty e).z [zv] [] := by
    intro H; have := hzrep H; rw [hzc] at this; exact this
  obtain ⟨F', hs'⟩ := clear_many (zv := zv) hz1.1.2 hz1' hzr len off xs (mk k S O) F w hs (by simpa using hob) hk h3 h2
  have hcells : ∀ j, off + j < xs.length → ∃ v, w.cell? ⟨b, ob + off + j, none⟩ = some v := by
    intro j hj
    have hlt : ob + off + j < c.size := by omega
    refine ⟨c[ob + off + j], ?_⟩
    simp only [World.cell?]
    rw [k3]
    simp [Array.getElem?_eq_getElem hlt]
  have hrun := Go.Lib.run_clear_slice (P := P) w t e o.type zv (hty.kd_slice hT hkd) (fun w => by simp [zeroValue, typeInfo, hi, hzv]) hzc hzo b (ob + off) len (cap - off) hlen
    (fun j hj => by obtain ⟨v, hv⟩ := hcells j (by omega); rw [hv]; rfl) (fun j hj => by simp only [World.frozen?]; rw [k3]; simp)
  refine ⟨.value (.tuple #[]), w.setCells b (ob + off) (List.replicate len zv), .tuple #[], I, ?_, .inl rfl, fun _ h => h, h, F', ?_⟩
  · simp only [execOp, hop]
    simp [resolve, hav, Sem.run_bind, invoke, builtin]
    rw [hrun]; rfl
  · rw [hd]
    have : ({ mk k S O with o := upd (mk k S O).o n (.own 1 (xs.take off ++ List.replicate len (ty e).z ++ xs.drop (off + len))) } : St) = mk k S ((n, .own 1 (xs.take off ++ List.replicate len (ty e).z ++ xs.drop (off + len))) :: del O n) := by
      simp [mk, look_upd]
    rw [this] at hs'
    exact hs'
end
end Go.Lite

/- From contracts on trees to the statements of laws: rows of bytes that come in. -/
namespace Go.Lite
open Go.RowKit

/-- a row of numbers, as it lies -/
def IsRow (k : IntKind) (w : World) (a : Option Addr) (len cap : Nat) (zs : List Int) : Prop :=
  (a = none ∧ len = 0 ∧ cap = 0 ∧ zs = []) ∨
  ∃ x, a = some x ∧ x.spot = none ∧ len ≤ cap ∧ zs.length = cap ∧ (∀ i, i < zs.length → w.cell? (x.add i) = some (.int k (zs.getD i 0))) ∧ ∀ n ∈ zs, (Lit.int k n).wf = true

theorem repL_nums {H : Heap} {I : Nat → Prop} {k : IntKind} : ∀ xs : List Int, repL H I (xs.map (V.int k)) (xs.map (Value.int k)) []
  | [] => by simp [repL]
  | x :: xs => by
    simp only [List.map_cons, repL]
    exact ⟨[.int k x], xs.map (Value.int k), [], [], rfl, rfl, by simp [rep], repL_nums xs⟩

/-- a row that came in, as a tree that only is read -/
theorem row_AV {k : IntKind} {w : World} {a : Option Addr} {len cap : Nat} {zs : List Int} (h : IsRow k w a len cap zs) :
    ∃ nn, AV (hp w) (fun b => b < w.heap.size) (.isl nn 1 ((zs.take len).map (V.int k))) (.slice a len cap) [] ∧ ∀ x ∈ zs.take len, (Lit.int k x).wf = true := by
  rcases h with ⟨rfl, rfl, rfl, rfl⟩ | ⟨x, rfl, hs, hl, hz, hc, hw⟩
  · exact ⟨false, by simp [AV, rep], by simp⟩
  · refine ⟨true, ?_, fun y hy => hw y (List.mem_of_mem_take hy)⟩
    obtain ⟨b, o, sp⟩ := x
    simp only at hs
    subst hs
    have hlen : (zs.take len).length = len := by simp; omega
    simp only [AV, rep, true_and, List.length_map, hlen]
    refine ⟨fun h => by simp at h, fun _ => ⟨b, o, cap, rfl, hl, ?_, ?_⟩⟩
    · intro y hy; obtain ⟨_, _, rfl⟩ := List.mem_map.1 hy; rfl
    · by_cases h0 : len = 0
      · left; subst h0; simp
      · right
        have hcell : ∀ i, i < len → w.cell? ⟨b, o + i, none⟩ = some (.int k (zs.getD i 0)) := by
          intro i hi
          have := hc i (by omega)
          unfold Addr.add at this
          split at this
          · rename_i h; subst h; exact this
          · exact this
        have h1 := hcell 0 (by omega)
        simp only [World.cell?] at h1
        cases hb : w.heap[b]? with
        | none => rw [hb] at h1; simp at h1
        | some ob =>
          cases ob with
          | cells c e fr =>
            refine ⟨(Array.getElem?_eq_some_iff.1 hb).1, c, e, fr, (zs.take len).map (Value.int k), hb, repL_nums _, ?_⟩
            intro i hi
            simp only [List.length_map, hlen] at hi
            have := hcell i hi
            simp only [World.cell?, hb] at this
            simp only [Option.isSome_none] at this
            rw [show c[o + i]? = _ from this]
            rw [List.getElem?_map, List.getElem?_take_of_lt hi]
            rw [List.getElem?_eq_getElem (by omega)]
            simp [List.getD_eq_getElem?_getD, List.getElem?_eq_getElem (show i < zs.length by omega)]
          | _ => rw [hb] at h1; simp at h1

/-- a law that only reads what came in -/
theorem law_calls {P : Program} {f : FuncId} {xs : List V} {Q : V → List V → Prop} (h : Does P f xs Q) (hQ : ∀ r outs, Q r outs → r = .bool true) {w : World} {vs : List Value} (hA : AVL (hp w) (fun b => b < w.heap.size) xs vs []) :
    Calls P f vs.toArray w fun e w' => e = .returned (.bool true) ∧ Below w.heap.size w w' := by
  refine (h.2 w _ vs [] hA (by simp) (by simp) (fun _ h => h)).mono ?_
  rintro e w' ⟨r, outs, hq, _, v, I', Fr, Fo, rfl, hr, -, -, -, -, -, h1, h2, h3, h4, h5⟩
  obtain rfl := hQ r outs hq
  simp only [RV, AV, rep] at hr
  refine ⟨by simpa using hr.1, h3, h4.1, h5, h1, fun k hk => h2 k hk (by simp)⟩

theorem spot_of_okWide {P : Program} {w : World} {base : Nat} {t e : TypeId} {a : Addr} {len cap : Nat} (ht : P.underlying t = some (.slice e)) (h : Value.okWide P w .any base t (.slice (some a) len cap)) : a.spot = none := by
  simp only [Value.okWide, ht, Cell.okWide, Cell.ok] at h
  exact h.2.2.2.1
end Go.Lite
