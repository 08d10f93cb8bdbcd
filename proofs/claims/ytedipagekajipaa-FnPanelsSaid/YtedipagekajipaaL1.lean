/- Part 1 of 5 of the proof: contracts on trees of values, without conditions of their own beyond those that each theorem states. -/
import Derived.Orders
import Derived.Tactics
import Derived.Laws.CopyRow
import Derived.Laws.Rows
import Derived.Laws.Strings
import Derived.Laws.Concat
import Derived.WalkSpells
import Derived.Laws.Tables
import Derived.Laws.AppendOwn

/- The plain part of Lite: trees of values, how they lie in memory, and what a store at a place does to them. No program in sight. -/
namespace Go.Lite

inductive V where
  | int (k : IntKind) (n : Int)
  | bool (b : Bool)
  | str (s : List UInt8)
  | nilp
  | nilfn
  | nilif
  | err
  | agg (fs : List V)
  | tup (vs : List V)
  | isl (nn : Bool) (s : Nat) (xs : List V)
  | iptr (x : V)
  | own (s : Nat) (xs : List V)
  | bx (x : V)
  | sl (n : Nat) (p : List Nat) (off len : Nat)
  | ref (n : Nat) (p : List Nat)
  | fn (f : FuncId) (caps : List V)
  | dead
  deriving Inhabited

mutual
def V.size : V → Nat
  | .agg fs => sizeL fs
  | _ => 1
def sizeL : List V → Nat
  | [] => 0
  | x :: xs => x.size + sizeL xs
end

abbrev Heap := Nat → Option Obj

def win (c : Array Value) (o : Nat) (ds : List Value) : Prop := ∀ i, i < ds.length → c[o + i]? = ds[i]?

mutual
def rep (H : Heap) (I : Nat → Prop) : V → List Value → List Nat → Prop
  | .int k n, cs, F => cs = [.int k n] ∧ F = []
  | .bool b, cs, F => cs = [.bool b] ∧ F = []
  | .str s, cs, F => cs = [.string ⟨s.toArray⟩] ∧ F = []
  | .nilp, cs, F => cs = [.pointer none] ∧ F = []
  | .nilfn, cs, F => cs = [.nilFunc] ∧ F = []
  | .nilif, cs, F => cs = [.nilIface] ∧ F = []
  | .err, cs, F => (∃ t v, cs = [.iface t v]) ∧ F = []
  | .agg fs, cs, F => repL H I fs cs F
  | .tup _, _, _ => False
  | .isl nn s xs, cs, F => F = [] ∧ (nn = false → xs = [] ∧ cs = [.slice none 0 0]) ∧
      (nn = true → ∃ b o cap, cs = [.slice (some ⟨b, o, none⟩) xs.length cap] ∧ xs.length ≤ cap ∧ (∀ x ∈ xs, x.size = s) ∧
        (xs = [] ∨ (I b ∧ ∃ c e fr ds, H b = some (.cells c e fr) ∧ repL H I xs ds [] ∧ win c o ds)))
  | .iptr x, cs, F => F = [] ∧ ∃ b o c e fr ds, cs = [.pointer (some ⟨b, o, none⟩)] ∧ I b ∧ H b = some (.cells c e fr) ∧ rep H I x ds [] ∧ win c o ds
  | .own s xs, cs, F => ∃ b o cap c e G ds, cs = [.slice (some ⟨b, o, none⟩) xs.length cap] ∧ xs.length ≤ cap ∧ F = b :: G ∧
      H b = some (.cells c e (0, 0)) ∧ o + cap * s ≤ c.size ∧ repL H I xs ds G ∧ (∀ x ∈ xs, x.size = s) ∧ win c o ds
  | .bx x, cs, F => ∃ b c e G ds, cs = [.pointer (some ⟨b, 0, none⟩)] ∧ F = b :: G ∧ H b = some (.cells c e (0, 0)) ∧ rep H I x ds G ∧ win c 0 ds
  | .sl _ _ _ _, _, _ => False
  | .ref _ _, _, _ => False
  | .fn f caps, cs, F => F = [] ∧ ∃ vs, cs = [.func (.func f) #[] (vs : List Value).toArray] ∧ repL H I caps vs [] ∧ ∀ x ∈ caps, x.size = 1
  | .dead, cs, F => (∃ c, cs = [c]) ∧ F = []
def repL (H : Heap) (I : Nat → Prop) : List V → List Value → List Nat → Prop
  | [], cs, F => cs = [] ∧ F = []
  | x :: xs, cs, F => ∃ d ds G Gs, cs = d ++ ds ∧ F = G ++ Gs ∧ rep H I x d G ∧ repL H I xs ds Gs
end

mutual
theorem rep_len {H : Heap} {I : Nat → Prop} : ∀ {x : V} {cs : List Value} {F : List Nat}, rep H I x cs F → cs.length = x.size
  | .int k n, cs, F, h => by simp only [rep] at h; simp [h.1, V.size]
  | .bool _, cs, F, h => by simp only [rep] at h; simp [h.1, V.size]
  | .str _, cs, F, h => by simp only [rep] at h; simp [h.1, V.size]
  | .nilp, cs, F, h => by simp only [rep] at h; simp [h.1, V.size]
  | .nilfn, cs, F, h => by simp only [rep] at h; simp [h.1, V.size]
  | .nilif, cs, F, h => by simp only [rep] at h; simp [h.1, V.size]
  | .err, cs, F, h => by simp only [rep] at h; obtain ⟨⟨t, v, rfl⟩, _⟩ := h; simp [V.size]
  | .agg fs, cs, F, h => by simp only [rep] at h; simp only [V.size]; exact repL_len h
  | .tup _, cs, F, h => by simp [rep] at h
  | .isl nn s xs, cs, F, h => by
    simp only [rep] at h
    cases nn with
    | false => simp [(h.2.1 rfl).2, V.size]
    | true => obtain ⟨b, o, cap, rfl, _⟩ := h.2.2 rfl; simp [V.size]
  | .iptr x, cs, F, h => by simp only [rep] at h; obtain ⟨_, b, o, c, e, fr, ds, rfl, _⟩ := h; simp [V.size]
  | .own s xs, cs, F, h => by simp only [rep] at h; obtain ⟨b, o, cap, c, e, G, ds, rfl, _⟩ := h; simp [V.size]
  | .bx x, cs, F, h => by simp only [rep] at h; obtain ⟨b, c, e, G, ds, rfl, _⟩ := h; simp [V.size]
  | .sl _ _ _ _, cs, F, h => by simp [rep] at h
  | .ref _ _, cs, F, h => by simp [rep] at h
  | .fn f caps, cs, F, h => by simp only [rep] at h; obtain ⟨_, vs, rfl, _⟩ := h; simp [V.size]
  | .dead, cs, F, h => by simp only [rep] at h; obtain ⟨⟨c, rfl⟩, _⟩ := h; simp [V.size]
theorem repL_len {H : Heap} {I : Nat → Prop} : ∀ {xs : List V} {cs : List Value} {F : List Nat}, repL H I xs cs F → cs.length = sizeL xs
  | [], cs, F, h => by simp only [repL] at h; simp [h.1, sizeL]
  | x :: xs, cs, F, h => by
    simp only [repL] at h
    obtain ⟨d, ds, G, Gs, rfl, rfl, h1, h2⟩ := h
    simp [sizeL, rep_len h1, repL_len h2]
end

mutual
theorem rep_mono {H H' : Heap} {I I' : Nat → Prop} (hI : ∀ b, I b → I' b) (hH : ∀ b, I b → H' b = H b) :
    ∀ {x : V} {cs : List Value} {F : List Nat}, (∀ b ∈ F, H' b = H b) → rep H I x cs F → rep H' I' x cs F
  | .int k n, cs, F, hF, h => by simp only [rep] at h ⊢; exact h
  | .bool _, cs, F, hF, h => by simp only [rep] at h ⊢; exact h
  | .str _, cs, F, hF, h => by simp only [rep] at h ⊢; exact h
  | .nilp, cs, F, hF, h => by simp only [rep] at h ⊢; exact h
  | .nilfn, cs, F, hF, h => by simp only [rep] at h ⊢; exact h
  | .nilif, cs, F, hF, h => by simp only [rep] at h ⊢; exact h
  | .err, cs, F, hF, h => by simp only [rep] at h ⊢; exact h
  | .agg fs, cs, F, hF, h => by simp only [rep] at h ⊢; exact repL_mono hI hH hF h
  | .tup _, cs, F, hF, h => by simp [rep] at h
  | .isl nn s xs, cs, F, hF, h => by
    simp only [rep] at h ⊢
    refine ⟨h.1, h.2.1, fun hn => ?_⟩
    obtain ⟨b, o, cap, hc, hl, hs, hx⟩ := h.2.2 hn
    refine ⟨b, o, cap, hc, hl, hs, hx.imp id ?_⟩
    rintro ⟨hb, c, e, fr, ds, h1, h2, h3⟩
    exact ⟨hI b hb, c, e, fr, ds, by rw [hH b hb]; exact h1, repL_mono hI hH (by simp) h2, h3⟩
  | .iptr x, cs, F, hF, h => by
    simp only [rep] at h ⊢
    obtain ⟨h0, b, o, c, e, fr, ds, hc, hb, h1, h2, h3⟩ := h
    exact ⟨h0, b, o, c, e, fr, ds, hc, hI b hb, by rw [hH b hb]; exact h1, rep_mono hI hH (by simp) h2, h3⟩
  | .own s xs, cs, F, hF, h => by
    simp only [rep] at h ⊢
    obtain ⟨b, o, cap, c, e, G, ds, hc, hl, rfl, h1, h2, h3, h4, h5⟩ := h
    exact ⟨b, o, cap, c, e, G, ds, hc, hl, rfl, by rw [hF b (by simp)]; exact h1, h2, repL_mono hI hH (fun b hb => hF b (by simp [hb])) h3, h4, h5⟩
  | .bx x, cs, F, hF, h => by
    simp only [rep] at h ⊢
    obtain ⟨b, c, e, G, ds, hc, rfl, h1, h2, h3⟩ := h
    exact ⟨b, c, e, G, ds, hc, rfl, by rw [hF b (by simp)]; exact h1, rep_mono hI hH (fun b hb => hF b (by simp [hb])) h2, h3⟩
  | .sl _ _ _ _, cs, F, hF, h => by simp [rep] at h
  | .ref _ _, cs, F, hF, h => by simp [rep] at h
  | .fn f caps, cs, F, hF, h => by
    simp only [rep] at h ⊢
    obtain ⟨h0, vs, hc, h1, h2⟩ := h
    exact ⟨h0, vs, hc, repL_mono hI hH (by simp) h1, h2⟩
  | .dead, cs, F, hF, h => by simp only [rep] at h ⊢; exact h
theorem repL_mono {H H' : Heap} {I I' : Nat → Prop} (hI : ∀ b, I b → I' b) (hH : ∀ b, I b → H' b = H b) :
    ∀ {xs : List V} {cs : List Value} {F : List Nat}, (∀ b ∈ F, H' b = H b) → repL H I xs cs F → repL H' I' xs cs F
  | [], cs, F, hF, h => by simp only [repL] at h ⊢; exact h
  | x :: xs, cs, F, hF, h => by
    simp only [repL] at h ⊢
    obtain ⟨d, ds, G, Gs, rfl, rfl, h1, h2⟩ := h
    exact ⟨d, ds, G, Gs, rfl, rfl, rep_mono hI hH (fun b hb => hF b (by simp [hb])) h1, repL_mono hI hH (fun b hb => hF b (by simp [hb])) h2⟩
end

/-! lists -/
theorem repL_app {H : Heap} {I : Nat → Prop} : ∀ {xs ys : List V} {cs : List Value} {F : List Nat},
    repL H I (xs ++ ys) cs F ↔ ∃ d ds G Gs, cs = d ++ ds ∧ F = G ++ Gs ∧ repL H I xs d G ∧ repL H I ys ds Gs
  | [], ys, cs, F => by
    simp only [List.nil_append, repL]
    constructor
    · intro h; exact ⟨[], cs, [], F, rfl, rfl, ⟨rfl, rfl⟩, h⟩
    · rintro ⟨d, ds, G, Gs, rfl, rfl, ⟨rfl, rfl⟩, h⟩; exact h
  | x :: xs, ys, cs, F => by
    simp only [List.cons_append, repL]
    constructor
    · rintro ⟨d, ds, G, Gs, rfl, rfl, h1, h2⟩
      obtain ⟨d2, ds2, G2, Gs2, rfl, rfl, h3, h4⟩ := repL_app.1 h2
      exact ⟨d ++ d2, ds2, G ++ G2, Gs2, by simp, by simp, ⟨d, d2, G, G2, rfl, rfl, h1, h3⟩, h4⟩
    · rintro ⟨d, ds, G, Gs, rfl, rfl, ⟨d1, d2, G1, G2, rfl, rfl, h1, h2⟩, h3⟩
      exact ⟨d1, d2 ++ ds, G1, G2 ++ Gs, by simp, by simp, h1, repL_app.2 ⟨d2, ds, G2, Gs, rfl, rfl, h2, h3⟩⟩

theorem sizeL_app (xs ys : List V) : sizeL (xs ++ ys) = sizeL xs + sizeL ys := by
  induction xs with
  | nil => simp [sizeL]
  | cons x xs ih => simp [sizeL, ih]; omega

theorem sizeL_uni {s : Nat} : ∀ {xs : List V}, (∀ x ∈ xs, x.size = s) → sizeL xs = xs.length * s
  | [], _ => by simp [sizeL]
  | x :: xs, h => by
    have h1 := h x (by simp)
    have h2 := sizeL_uni (xs := xs) fun y hy => h y (by simp [hy])
    simp [sizeL, h1, h2, Nat.add_mul]; omega

/-- one element out of a list -/
theorem repL_get {H : Heap} {I : Nat → Prop} {xs : List V} {cs : List Value} {F : List Nat} (h : repL H I xs cs F) {i : Nat} {x : V} (hx : xs[i]? = some x) :
    ∃ pre d post L G R, cs = pre ++ d ++ post ∧ F = L ++ G ++ R ∧ pre.length = sizeL (xs.take i) ∧ repL H I (xs.take i) pre L ∧ rep H I x d G ∧
      repL H I (xs.drop (i + 1)) post R := by
  have hi : i < xs.length := by
    rcases Nat.lt_or_ge i xs.length with h | h
    · exact h
    · simp [List.getElem?_eq_none h] at hx
  have he : xs = xs.take i ++ (x :: xs.drop (i + 1)) := by
    have h2 : xs[i] = x := by simpa [List.getElem?_eq_getElem hi] using hx
    rw [← h2, ← List.drop_eq_getElem_cons hi]; simp
  rw [he] at h
  obtain ⟨pre, r, L, R', rfl, rfl, h1, h2⟩ := repL_app.1 h
  simp only [repL] at h2
  obtain ⟨d, post, G, R, rfl, rfl, h3, h4⟩ := h2
  exact ⟨pre, d, post, L, G, R, by simp, by simp, repL_len h1, h1, h3, h4⟩

theorem set_eq_app {α : Type} (xs : List α) (i : Nat) (y : α) (hi : i < xs.length) : xs.set i y = xs.take i ++ (y :: xs.drop (i + 1)) := by
  rw [List.set_eq_take_append_cons_drop, if_pos hi]

theorem repL_put {H : Heap} {I : Nat → Prop} {xs : List V} {pre d post : List Value} {L G R : List Nat} {i : Nat} {y : V} (hi : i < xs.length)
    (h1 : repL H I (xs.take i) pre L) (h2 : rep H I y d G) (h3 : repL H I (xs.drop (i + 1)) post R) : repL H I (xs.set i y) (pre ++ d ++ post) (L ++ G ++ R) := by
  rw [set_eq_app xs i y hi]
  refine repL_app.2 ⟨pre, d ++ post, L, G ++ R, by simp, by simp, h1, ?_⟩
  simp only [repL]
  exact ⟨d, post, G, R, rfl, rfl, h2, h3⟩

/-! windows -/
def wr (c : Array Value) (o : Nat) : List Value → Array Value
  | [] => c
  | v :: vs => wr (c.setIfInBounds o v) (o + 1) vs

theorem wr_size (c : Array Value) : ∀ (o : Nat) (ds : List Value), (wr c o ds).size = c.size := by
  intro o ds
  induction ds generalizing c o with
  | nil => rfl
  | cons d ds ih => simp [wr, ih]

theorem wr_out (ds : List Value) : ∀ (c : Array Value) (o k : Nat), (k < o ∨ o + ds.length ≤ k) → (wr c o ds)[k]? = c[k]? := by
  induction ds with
  | nil => intro c o k _; rfl
  | cons d ds ih =>
    intro c o k h
    simp only [wr]
    rw [ih _ _ _ (by simp at h; omega)]
    have : o ≠ k := by simp at h; omega
    simp [Array.getElem?_setIfInBounds_ne this]

theorem wr_in (ds : List Value) : ∀ (c : Array Value) (o : Nat), o + ds.length ≤ c.size → win (wr c o ds) o ds := by
  induction ds with
  | nil => intro c o _ i hi; simp at hi
  | cons d ds ih =>
    intro c o h i hi
    simp only [wr]
    cases i with
    | zero =>
      rw [wr_out _ _ _ _ (by omega)]
      simp at h
      simp [show o < c.size by omega]
    | succ i =>
      have h2 := ih (c.setIfInBounds o d) (o + 1) (by simp at h ⊢; omega) i (by simp at hi; omega)
      rw [show o + (i + 1) = o + 1 + i by omega, h2]; simp

theorem win_lt {c : Array Value} {o : Nat} {ds : List Value} (h : win c o ds) (hd : ds ≠ []) : o + ds.length ≤ c.size := by
  have hl : 0 < ds.length := by cases ds; simp at hd; simp
  have := h (ds.length - 1) (by omega)
  rw [List.getElem?_eq_getElem (by omega)] at this
  have h2 : o + (ds.length - 1) < c.size := by
    rcases Nat.lt_or_ge (o + (ds.length - 1)) c.size with h | h
    · exact h
    · simp [Array.getElem?_eq_none h] at this
  omega

theorem wr_same {c : Array Value} {o : Nat} {ds : List Value} (h : win c o ds) : wr c o ds = c := by
  induction ds generalizing o with
  | nil => rfl
  | cons d ds ih =>
    simp only [wr]
    have h0 := h 0 (by simp)
    simp at h0
    have : c.setIfInBounds o d = c := by
      apply Array.ext_getElem?
      intro k
      by_cases hk : o = k
      · subst hk
        have hlt : o < c.size := by
          rcases Nat.lt_or_ge o c.size with h | h
          · exact h
          · simp [Array.getElem?_eq_none h] at h0
        rw [Array.getElem?_eq_getElem hlt] at h0
        simp [hlt, Option.some.inj h0]
      · simp [Array.getElem?_setIfInBounds_ne hk]
    rw [this]
    exact ih fun i hi => by have := h (i + 1) (by simp; omega); rw [show o + (i + 1) = o + 1 + i by omega] at this; simpa using this

theorem win_app {c : Array Value} {o : Nat} {xs ys : List Value} : win c o (xs ++ ys) ↔ win c o xs ∧ win c (o + xs.length) ys := by
  constructor
  · intro h
    refine ⟨fun i hi => ?_, fun i hi => ?_⟩
    · rw [h i (by simp; omega)]; rw [List.getElem?_append_left hi]
    · have := h (xs.length + i) (by simp; omega)
      rw [show o + xs.length + i = o + (xs.length + i) by omega, this, List.getElem?_append_right (by omega)]
      simp
  · rintro ⟨h1, h2⟩ i hi
    by_cases hl : i < xs.length
    · rw [h1 i hl, List.getElem?_append_left hl]
    · have := h2 (i - xs.length) (by simp at hi; omega)
      rw [List.getElem?_append_right (by omega), ← this]
      congr 1; omega

theorem win_congr {c c' : Array Value} {o : Nat} {ds : List Value} (h : win c o ds) (hc : ∀ k, o ≤ k → k < o + ds.length → c'[k]? = c[k]?) : win c' o ds :=
  fun i hi => by rw [hc (o + i) (by omega) (by omega)]; exact h i hi

end Go.Lite

/- Places in a tree: what lies there, at which address; a store at a place. -/
namespace Go.Lite

def V.get : V → List Nat → Option V
  | x, [] => some x
  | .agg fs, j :: p => match fs[j]? with | some y => y.get p | none => none
  | .own _ xs, i :: p => match xs[i]? with | some y => y.get p | none => none
  | _, _ :: _ => none

def V.set : V → List Nat → V → V
  | _, [], y => y
  | .agg fs, j :: p, y => .agg (fs.set j ((fs.getD j .dead).set p y))
  | .own s xs, i :: p, y => .own s (xs.set i ((xs.getD i .dead).set p y))
  | x, _ :: _, _ => x

def cellAt (H : Heap) (a : Nat × Nat) : Option Value :=
  match H a.1 with
  | some (.cells c _ _) => c[a.2]?
  | _ => none

def nav (H : Heap) : V → Nat × Nat → List Nat → Option (Nat × Nat)
  | _, a, [] => some a
  | .agg fs, a, j :: p => match fs[j]? with | some y => nav H y (a.1, a.2 + sizeL (fs.take j)) p | none => none
  | .own s xs, a, i :: p =>
    match cellAt H a with
    | some (.slice (some b) _ _) => match xs[i]? with | some y => nav H y (b.block, b.off + i * s) p | none => none
    | _ => none
  | _, _, _ :: _ => none

/-- p leads into what lies at q, or to it -/
def V.isOwn : V → Bool
  | .own _ _ => true
  | _ => false

theorem nav_mono {H H' : Heap} {I : Nat → Prop} : ∀ (p : List Nat) {x : V} {cs : List Value} {F : List Nat} {b o : Nat} {c c' : Array Value} {e e' : TypeId} {fr fr' : Nat × Nat},
    rep H I x cs F → H b = some (.cells c e fr) → win c o cs → H' b = some (.cells c' e' fr') → win c' o cs → (∀ k ∈ F, H' k = H k) →
    nav H' x (b, o) p = nav H x (b, o) p ∧ ∀ a y, nav H x (b, o) p = some a → x.get p = some y → y.isOwn = true → cellAt H' a = cellAt H a
  | [], x, cs, F, b, o, c, c', e, e', fr, fr', hr, hb, hw, hb', hw', hF => by
    refine ⟨by cases x <;> rfl, fun a y ha hy hown => ?_⟩
    have ha' : a = (b, o) := by cases x <;> simp [nav] at ha <;> exact ha.symm
    have hy' : y = x := by cases x <;> simp [V.get] at hy <;> exact hy.symm
    subst ha' hy'
    cases y <;> simp [V.isOwn] at hown
    simp only [rep] at hr
    obtain ⟨b2, o2, cap, c2, e2, G, ds, rfl, _⟩ := hr
    have h1 := hw 0 (by simp)
    have h2 := hw' 0 (by simp)
    simp [cellAt, hb, hb'] at h1 h2 ⊢
    rw [h1, h2]
  | j :: p, x, cs, F, b, o, c, c', e, e', fr, fr', hr, hb, hw, hb', hw', hF => by
    cases x with
    | agg fs =>
      simp only [rep] at hr
      simp only [nav, V.get]
      cases hj : fs[j]? with
      | none => simp
      | some y =>
        obtain ⟨pre, d, post, L, G, R, rfl, rfl, hlen, h1, h2, h3⟩ := repL_get hr hj
        simp only []
        rw [← hlen]
        have hw2 := (win_app.1 (win_app.1 hw).1).2
        have hw2' := (win_app.1 (win_app.1 hw').1).2
        exact nav_mono p h2 hb hw2 hb' hw2' fun k hk => hF k (by simp [hk])
    | own s xs =>
      simp only [rep] at hr
      obtain ⟨b2, o2, cap, c2, e2, G, ds, rfl, hcap, rfl, hb2, hsz, hL, huni, hw2⟩ := hr
      simp only [nav, V.get]
      have h1 : cellAt H (b, o) = some (.slice (some ⟨b2, o2, none⟩) xs.length cap) := by
        have := hw 0 (by simp); simpa [cellAt, hb] using this
      have h1' : cellAt H' (b, o) = some (.slice (some ⟨b2, o2, none⟩) xs.length cap) := by
        have := hw' 0 (by simp); simpa [cellAt, hb'] using this
      simp only [h1, h1']
      cases hj : xs[j]? with
      | none => simp
      | some y =>
        obtain ⟨pre, d, post, L, G', R, rfl, rfl, hlen, h3, h4, h5⟩ := repL_get hL hj
        simp only []
        have hpl : pre.length = j * s := by
          rw [hlen, sizeL_uni (s := s) fun x hx => huni x (List.mem_of_mem_take hx)]
          have : j < xs.length := by
            rcases Nat.lt_or_ge j xs.length with h | h
            · exact h
            · simp [List.getElem?_eq_none h] at hj
          simp [Nat.min_eq_left (Nat.le_of_lt this)]
        have hw3 := (win_app.1 (win_app.1 hw2).1).2
        rw [hpl] at hw3
        exact nav_mono p h4 hb2 hw3 (by rw [hF b2 (by simp)]; exact hb2) hw3 fun k hk => hF k (by simp [hk])
    | _ => simp [nav]

/-- p is a proper beginning of q -/
def below (p q : List Nat) : Prop := ∃ r, r ≠ [] ∧ q = p ++ r

theorem getD_of_some {α : Type} {xs : List α} {i : Nat} {x d : α} (h : xs[i]? = some x) : xs.getD i d = x := by
  rw [List.getD_eq_getElem?_getD, h]; rfl

theorem lt_of_some {α : Type} {xs : List α} {i : Nat} {x : α} (h : xs[i]? = some x) : i < xs.length := by
  rcases Nat.lt_or_ge i xs.length with h' | h'
  · exact h'
  · simp [List.getElem?_eq_none h'] at h

theorem set_size (p : List Nat) : ∀ {x y y' : V}, x.get p = some y → y'.size = y.size → (x.set p y').size = x.size := by
  induction p with
  | nil => intro x y y' h hs; cases x <;> simp [V.get] at h <;> subst h <;> simpa [V.set] using hs
  | cons j p ih =>
    intro x y y' h hs
    cases x with
    | agg fs =>
      simp only [V.get] at h
      cases hj : fs[j]? with
      | none => simp [hj] at h
      | some z =>
        simp only [hj] at h
        have hlt := lt_of_some hj
        simp only [V.set, V.size, getD_of_some hj]
        rw [set_eq_app _ _ _ hlt, sizeL_app]
        have he : fs = fs.take j ++ (z :: fs.drop (j + 1)) := by
          have h2 : fs[j] = z := by simpa [List.getElem?_eq_getElem hlt] using hj
          rw [← h2, ← List.drop_eq_getElem_cons hlt]; simp
        conv => rhs; rw [he]
        rw [sizeL_app]
        simp [sizeL, ih h hs]
    | own s xs => simp [V.set, V.size]
    | _ => simp [V.get] at h

theorem sib {H : Heap} {I : Nat → Prop} {xs : List V} {pre d post : List Value} {L G R : List Nat} {j j' : Nat} {x x' : V}
    (h1 : repL H I (xs.take j) pre L) (h2 : rep H I x d G) (h3 : repL H I (xs.drop (j + 1)) post R) (hj : xs[j]? = some x) (hne : j ≠ j') (hj' : xs[j']? = some x')
    {c c' : Array Value} {o : Nat} (w1 : win c o pre) (w1' : win c' o pre) (w3 : win c (o + (pre ++ d).length) post) (w3' : win c' (o + (pre ++ d).length) post) :
    ∃ cs2 F2, rep H I x' cs2 F2 ∧ win c (o + sizeL (xs.take j')) cs2 ∧ win c' (o + sizeL (xs.take j')) cs2 ∧ ∀ k ∈ F2, k ∈ L ++ R := by
  rcases Nat.lt_or_gt_of_ne hne with hlt | hlt
  · have h5 : (xs.drop (j + 1))[j' - (j + 1)]? = some x' := by
      rw [List.getElem?_drop, ← hj']; congr 1; omega
    obtain ⟨pre2, d2, post2, L2, G2, R2, rfl, rfl, hlen, k1, k2, k3⟩ := repL_get h3 h5
    have hof : o + sizeL (xs.take j') = o + (pre ++ d).length + pre2.length := by
      have he : xs.take j' = xs.take j ++ (x :: (xs.drop (j + 1)).take (j' - (j + 1))) := by
        have hl := lt_of_some hj
        have h7 : xs[j] = x := by simpa [List.getElem?_eq_getElem hl] using hj
        have e1 : xs.take j' = (xs.take j ++ xs.drop j).take j' := by simp
        rw [e1, List.take_append, List.take_take, Nat.min_eq_right (Nat.le_of_lt hlt), List.length_take, Nat.min_eq_left (Nat.le_of_lt hl)]
        congr 1
        rw [List.drop_eq_getElem_cons hl, h7, show j' - j = (j' - (j + 1)) + 1 by omega, List.take_succ_cons]
      rw [he, sizeL_app, hlen]
      simp [sizeL, repL_len h1, rep_len h2]; omega
    refine ⟨d2, G2, k2, ?_, ?_, fun k hk => by simp [hk]⟩
    · rw [hof]; exact (win_app.1 (win_app.1 w3).1).2
    · rw [hof]; exact (win_app.1 (win_app.1 w3').1).2
  · have h5 : (xs.take j)[j']? = some x' := by rw [List.getElem?_take_of_lt hlt]; exact hj'
    obtain ⟨pre2, d2, post2, L2, G2, R2, rfl, rfl, hlen, k1, k2, k3⟩ := repL_get h1 h5
    rw [List.take_take, Nat.min_eq_left (Nat.le_of_lt hlt)] at hlen
    refine ⟨d2, G2, k2, ?_, ?_, fun k hk => by simp [hk]⟩
    · rw [← hlen]; exact (win_app.1 (win_app.1 w1).1).2
    · rw [← hlen]; exact (win_app.1 (win_app.1 w1').1).2

theorem store_at {I : Nat → Prop} {H : Heap} : ∀ (p : List Nat) {x : V} {cs : List Value} {F : List Nat} {b0 o0 : Nat} {c0 : Array Value} {e0 : TypeId} {y : V},
    rep H I x cs F → H b0 = some (.cells c0 e0 (0, 0)) → win c0 o0 cs → b0 ∉ F → F.Nodup → x.get p = some y →
    ∃ b1 o1 c1 e1 ds L G R, nav H x (b0, o0) p = some (b1, o1) ∧ H b1 = some (.cells c1 e1 (0, 0)) ∧ win c1 o1 ds ∧ rep H I y ds G ∧ F = L ++ G ++ R ∧
      (b1 = b0 ∨ b1 ∈ L ++ R) ∧ b1 ∉ G ∧
      ∀ y' ds' G' H', y'.size = y.size → (ds'.length = ds.length) →
        H' b1 = some (.cells (wr c1 o1 ds') e1 (0, 0)) → (∀ b ∈ b0 :: (L ++ R), b ≠ b1 → H' b = H b) → (∀ b, I b → H' b = H b) → rep H' I y' ds' G' →
        ∃ cs' c0', cs'.length = cs.length ∧ rep H' I (x.set p y') cs' (L ++ G' ++ R) ∧ H' b0 = some (.cells c0' e0 (0, 0)) ∧ c0'.size = c0.size ∧ win c0' o0 cs' ∧
          (∀ k, (k < o0 ∨ o0 + cs.length ≤ k) → c0'[k]? = c0[k]?) ∧
          (∀ q a z, nav H x (b0, o0) q = some a → x.get q = some z → ¬ below p q → nav H' (x.set p y') (b0, o0) q = some a ∧
            (q ≠ p → (∃ z', (x.set p y').get q = some z') ∧ (z.isOwn = true → cellAt H' a = cellAt H a ∧
              ∃ s ys ys', z = .own s ys ∧ (x.set p y').get q = some (.own s ys') ∧ ys'.length = ys.length)))
  | [], x, cs, F, b0, o0, c0, e0, y, hr, hb, hw, hnF, hnd, hy => by
    have hy' : y = x := by cases x <;> simp [V.get] at hy <;> exact hy.symm
    subst hy'
    refine ⟨b0, o0, c0, e0, cs, [], F, [], by cases y <;> rfl, hb, hw, hr, by simp, .inl rfl, hnF, ?_⟩
    intro y' ds' G' H' hsz hl hb' hoth hI hr'
    have hset : y.set [] y' = y' := by cases y <;> rfl
    have hbound : ds' = [] ∨ o0 + ds'.length ≤ c0.size := by
      by_cases hd : cs = []
      · left; subst hd; simpa using hl
      · right; rw [hl]; exact win_lt hw hd
    refine ⟨ds', _, hl, by rw [hset]; simpa using hr', hb', wr_size _ _ _, ?_, ?_, ?_⟩
    · rcases hbound with h | h
      · subst h; intro i hi; simp at hi
      · exact wr_in _ _ _ h
    · intro k hk; exact wr_out _ _ _ _ (by omega)
    · intro q a z hn hg hbel
      have hq : q = [] := by
        cases q with
        | nil => rfl
        | cons i q => exact absurd ⟨i :: q, by simp, by simp⟩ hbel
      subst hq
      refine ⟨?_, fun h => absurd rfl h⟩
      rw [hset]
      have : a = (b0, o0) := by cases y <;> simp [nav] at hn <;> exact hn.symm
      subst this; cases y' <;> rfl
  | j :: p, x, cs, F, b0, o0, c0, e0, y, hr, hb, hw, hnF, hnd, hy => by
    cases x with
    | agg fs =>
      have hr0 := hr
      simp only [rep] at hr
      simp only [V.get] at hy
      cases hj : fs[j]? with
      | none => simp [hj] at hy
      | some f =>
        simp only [hj] at hy
        obtain ⟨pre, d, post, L, G, R, rfl, rfl, hlen, h1, h2, h3⟩ := repL_get hr hj
        have hlt := lt_of_some hj
        have hw1 := (win_app.1 (win_app.1 hw).1).1
        have hw2 := (win_app.1 (win_app.1 hw).1).2
        have hw3 := (win_app.1 hw).2
        have hnd' : G.Nodup := by
          rw [List.append_assoc, List.nodup_append] at hnd; exact (List.nodup_append.1 hnd.2.1).1
        have hdLG : ∀ b ∈ L, b ∉ G := by
          intro b hbL hbG
          rw [List.append_assoc, List.nodup_append] at hnd
          exact hnd.2.2 b hbL b (by simp [hbG]) rfl
        have hdRG : ∀ b ∈ R, b ∉ G := by
          intro b hbR hbG
          rw [List.nodup_append] at hnd
          exact hnd.2.2 b (by simp [hbG]) b hbR rfl
        obtain ⟨b1, o1, c1, e1, ds, L', G', R', hn, hb1, hw1', hy', rfl, hb1m, hb1n, hput⟩ := store_at p h2 hb hw2 (by simp at hnF; simp [hnF]) hnd' hy
        refine ⟨b1, o1, c1, e1, ds, L ++ L', G', R' ++ R, ?_, hb1, hw1', hy', by simp, ?_, hb1n, ?_⟩
        · simp only [nav, hj]; rw [← hlen]; exact hn
        · rcases hb1m with h | h
          · exact .inl h
          · right; simp at h ⊢; rcases h with h | h <;> simp [h]
        intro y' ds' Gn H' hsz hl hbn hoth hIn hrn
        have hLne : ∀ b ∈ L, b ≠ b1 := by
          intro b hbL he; subst he
          rcases hb1m with h | h
          · subst h; simp [hbL] at hnF
          · exact hdLG b hbL (by simp at h ⊢; rcases h with h | h <;> simp [h])
        have hRne : ∀ b ∈ R, b ≠ b1 := by
          intro b hbR he; subst he
          rcases hb1m with h | h
          · subst h; simp [hbR] at hnF
          · exact hdRG b hbR (by simp at h ⊢; rcases h with h | h <;> simp [h])
        obtain ⟨cs', c0', hcl, hrep, hb0', hcs, hwin, hout, hnav⟩ := hput y' ds' Gn H' hsz hl hbn
          (fun b hbm hne => hoth b (by simp at hbm ⊢; rcases hbm with h | h | h <;> simp [h]) hne) hIn hrn
        have hL' : repL H' I (fs.take j) pre L := repL_mono (fun _ h => h) hIn (fun b hbL => hoth b (by simp [hbL]) (hLne b hbL)) h1
        have hR' : repL H' I (fs.drop (j + 1)) post R := repL_mono (fun _ h => h) hIn (fun b hbR => hoth b (by simp [hbR]) (hRne b hbR)) h3
        have hnew := repL_put (y := f.set p y') hlt hL' hrep hR'
        have hwall : win c0' o0 (pre ++ cs' ++ post) := by
          refine win_app.2 ⟨win_app.2 ⟨?_, hwin⟩, ?_⟩
          · exact win_congr hw1 fun k hk1 hk2 => hout k (by left; exact hk2)
          · rw [List.length_append, hcl, ← List.length_append]
            exact win_congr hw3 fun k hk1 hk2 => hout k (by right; simp at hk1; omega)
        refine ⟨pre ++ cs' ++ post, c0', by simp [hcl], ?_, hb0', hcs, hwall, ?_, ?_⟩
        · simp only [V.set, rep, getD_of_some hj]
          have : L ++ L' ++ Gn ++ (R' ++ R) = L ++ (L' ++ Gn ++ R') ++ R := by simp
          rw [this]; exact hnew
        · intro k hk; exact hout k (by simp at hk; omega)
        · intro q a z hna hga hbel
          cases q with
          | nil =>
            have : a = (b0, o0) := by simpa [nav] using hna.symm
            subst this
            simp only [V.get, Option.some.injEq] at hga
            subst hga
            exact ⟨by simp [nav], fun _ => ⟨⟨_, rfl⟩, fun h => by simp [V.isOwn] at h⟩⟩
          | cons j' q =>
            simp only [nav, V.get, V.set] at hna hga ⊢
            by_cases hjj : j = j'
            · subst hjj
              simp only [hj] at hna hga
              rw [List.getElem?_set_self hlt]
              simp only [getD_of_some hj]
              rw [List.take_set_of_le (Nat.le_refl _), ← hlen]
              rw [← hlen] at hna
              obtain ⟨hn1, hn2⟩ := hnav q a z hna hga (fun ⟨r, hr1, hr2⟩ => hbel ⟨r, hr1, by simp [hr2]⟩)
              exact ⟨hn1, fun hne => hn2 (fun h => hne (by rw [h]))⟩
            · rw [List.getElem?_set_ne hjj]
              cases hf' : fs[j']? with
              | none => simp [hf'] at hna
              | some f' =>
                simp only [hf'] at hna hga ⊢
                have hsz2 : sizeL ((fs.set j ((fs.getD j .dead).set p y')).take j') = sizeL (fs.take j') := by
                  rw [List.take_set]
                  by_cases hlt2 : j < j'
                  · have hj2 : (fs.take j')[j]? = some f := by rw [List.getElem?_take_of_lt hlt2]; exact hj
                    have := set_size (j :: p) (x := .agg (fs.take j')) (y := y) (y' := y') (by simp only [V.get, hj2]; exact hy) hsz
                    simp only [V.set, V.size, getD_of_some hj2] at this
                    rw [getD_of_some hj]; exact this
                  · rw [List.set_eq_of_length_le (by simp; omega)]
                rw [hsz2]
                have hsib := sib h1 h2 h3 hj hjj hf' hw1 (win_app.1 (win_app.1 hwall).1).1 hw3
                  (by rw [List.length_append, ← hcl, ← List.length_append]; exact (win_app.1 hwall).2)
                obtain ⟨cs2, F2, k1, k2, k3, k4⟩ := hsib
                obtain ⟨m1, m2⟩ := nav_mono q k1 hb k2 hb0' k3 (fun k hk => by
                  have hk2 := k4 k hk
                  simp at hk2
                  rcases hk2 with h | h
                  · exact hoth k (by simp [h]) (hLne k h)
                  · exact hoth k (by simp [h]) (hRne k h))
                refine ⟨by rw [m1]; exact hna, fun _ => ⟨⟨z, hga⟩, fun hown => ⟨m2 a z hna hga hown, ?_⟩⟩⟩
                cases z <;> simp [V.isOwn] at hown
                exact ⟨_, _, _, rfl, hga, rfl⟩
    | own s xs =>
      have hr0 := hr
      simp only [rep] at hr
      simp only [V.get] at hy
      obtain ⟨b2, o2, cap, c2, e2, Gx, dx, rfl, hcap, rfl, hb2, hsz2, hL, huni, hw2⟩ := hr
      cases hj : xs[j]? with
      | none => simp [hj] at hy
      | some f =>
        simp only [hj] at hy
        obtain ⟨pre, d, post, L, G, R, rfl, rfl, hlen, h1, h2, h3⟩ := repL_get hL hj
        have hlt := lt_of_some hj
        have hpl : ∀ k, k ≤ xs.length → sizeL (xs.take k) = k * s := by
          intro k hk
          rw [sizeL_uni (s := s) fun x hx => huni x (List.mem_of_mem_take hx)]
          simp [Nat.min_eq_left hk]
        have hw1 := (win_app.1 (win_app.1 hw2).1).1
        have hwd := (win_app.1 (win_app.1 hw2).1).2
        have hw3 := (win_app.1 hw2).2
        have hnd0 := hnd
        rw [List.nodup_cons] at hnd
        have hb2n : b2 ∉ L ++ G ++ R := hnd.1
        have hnd := hnd.2
        have hnd' : G.Nodup := by
          rw [List.append_assoc, List.nodup_append] at hnd; exact (List.nodup_append.1 hnd.2.1).1
        have hdLG : ∀ b ∈ L, b ∉ G := by
          intro b hbL hbG
          rw [List.append_assoc, List.nodup_append] at hnd
          exact hnd.2.2 b hbL b (by simp [hbG]) rfl
        have hdRG : ∀ b ∈ R, b ∉ G := by
          intro b hbR hbG
          rw [List.nodup_append] at hnd
          exact hnd.2.2 b (by simp [hbG]) b hbR rfl
        have hcell : cellAt H (b0, o0) = some (.slice (some ⟨b2, o2, none⟩) xs.length cap) := by
          have := hw 0 (by simp); simpa [cellAt, hb] using this
        have hb2b0 : b0 ≠ b2 := fun h => hnF (by simp [h])
        obtain ⟨b1, o1, c1, e1, ds, L', G', R', hn, hb1, hw1', hy', rfl, hb1m, hb1n, hput⟩ := store_at p h2 hb2 hwd (by simp at hb2n; simp [hb2n]) hnd' hy
        have hb1b0 : b1 ≠ b0 := by
          intro h; subst h
          rcases hb1m with h | h
          · exact hb2b0 h
          · exact hnF (by simp at h ⊢; rcases h with h | h <;> simp [h])
        refine ⟨b1, o1, c1, e1, ds, b2 :: (L ++ L'), G', R' ++ R, ?_, hb1, hw1', hy', by simp, ?_, hb1n, ?_⟩
        · simp only [nav, hcell, hj]; rw [← hpl j (Nat.le_of_lt hlt), ← hlen]; exact hn
        · right
          rcases hb1m with h | h
          · simp [h]
          · simp at h ⊢; rcases h with h | h <;> simp [h]
        intro y' ds' Gn H' hsz hl hbn hoth hIn hrn
        have hLne : ∀ b ∈ L, b ≠ b1 := by
          intro b hbL he; subst he
          rcases hb1m with h | h
          · subst h; simp [hbL] at hb2n
          · exact hdLG b hbL (by simp at h ⊢; rcases h with h | h <;> simp [h])
        have hRne : ∀ b ∈ R, b ≠ b1 := by
          intro b hbR he; subst he
          rcases hb1m with h | h
          · subst h; simp [hbR] at hb2n
          · exact hdRG b hbR (by simp at h ⊢; rcases h with h | h <;> simp [h])
        obtain ⟨cs', c0', hcl, hrep, hb2', hcs, hwin, hout, hnav⟩ := hput y' ds' Gn H' hsz hl hbn
          (fun b hbm hne => hoth b (by simp at hbm ⊢; rcases hbm with h | h | h <;> simp [h]) hne) hIn hrn
        have hL' : repL H' I (xs.take j) pre L := repL_mono (fun _ h => h) hIn (fun b hbL => hoth b (by simp [hbL]) (hLne b hbL)) h1
        have hR' : repL H' I (xs.drop (j + 1)) post R := repL_mono (fun _ h => h) hIn (fun b hbR => hoth b (by simp [hbR]) (hRne b hbR)) h3
        have hnew := repL_put (y := f.set p y') hlt hL' hrep hR'
        have hwall : win c0' o2 (pre ++ cs' ++ post) := by
          refine win_app.2 ⟨win_app.2 ⟨?_, hwin⟩, ?_⟩
          · exact win_congr hw1 fun k hk1 hk2 => hout k (by left; exact hk2)
          · rw [List.length_append, hcl, ← List.length_append]
            exact win_congr hw3 fun k hk1 hk2 => hout k (by right; simp at hk1; omega)
        have hb0' : H' b0 = some (.cells c0 e0 (0, 0)) := by rw [hoth b0 (by simp) (Ne.symm hb1b0)]; exact hb
        have hcell' : cellAt H' (b0, o0) = some (.slice (some ⟨b2, o2, none⟩) xs.length cap) := by
          have := hw 0 (by simp); simpa [cellAt, hb0'] using this
        refine ⟨[.slice (some ⟨b2, o2, none⟩) xs.length cap], c0, rfl, ?_, hb0', rfl, hw, fun _ _ => rfl, ?_⟩
        · simp only [V.set, rep, getD_of_some hj]
          refine ⟨b2, o2, cap, c0', e2, L ++ (L' ++ Gn ++ R') ++ R, pre ++ cs' ++ post, by simp, by simpa using hcap, by simp, hb2', by rw [hcs]; exact hsz2, hnew, ?_, hwall⟩
          intro z hz
          rcases List.mem_or_eq_of_mem_set hz with h | h
          · exact huni z h
          · subst h; rw [set_size p hy hsz]; exact huni f (List.mem_of_getElem? hj)
        · intro q a z hna hga hbel
          cases q with
          | nil =>
            have : a = (b0, o0) := by simpa [nav] using hna.symm
            subst this
            simp only [V.get, Option.some.injEq] at hga
            subst hga
            refine ⟨by simp [nav], fun _ => ⟨⟨_, rfl⟩, fun _ => ⟨by rw [hcell, hcell'], ⟨s, xs, _, rfl, rfl, by simp⟩⟩⟩⟩
          | cons j' q =>
            simp only [nav, V.get, V.set, hcell] at hna hga ⊢
            simp only [hcell']
            by_cases hjj : j = j'
            · subst hjj
              simp only [hj] at hna hga
              rw [List.getElem?_set_self hlt]
              simp only [getD_of_some hj]
              rw [← hpl j (Nat.le_of_lt hlt), ← hlen] at hna ⊢
              obtain ⟨hn1, hn2⟩ := hnav q a z hna hga (fun ⟨r, hr1, hr2⟩ => hbel ⟨r, hr1, by simp [hr2]⟩)
              exact ⟨hn1, fun hne => hn2 (fun h => hne (by rw [h]))⟩
            · rw [List.getElem?_set_ne hjj]
              cases hf' : xs[j']? with
              | none => simp [hf'] at hna
              | some f' =>
                simp only [hf'] at hna hga ⊢
                have hsib := sib h1 h2 h3 hj hjj hf' hw1 (win_app.1 (win_app.1 hwall).1).1 hw3
                  (by rw [List.length_append, ← hcl, ← List.length_append]; exact (win_app.1 hwall).2)
                rw [hpl j' (Nat.le_of_lt (lt_of_some hf'))] at hsib
                obtain ⟨cs2, F2, k1, k2, k3, k4⟩ := hsib
                obtain ⟨m1, m2⟩ := nav_mono q k1 hb2 k2 hb2' k3 (fun k hk => by
                  have hk2 := k4 k hk
                  simp at hk2
                  rcases hk2 with h | h
                  · exact hoth k (by simp [h]) (hLne k h)
                  · exact hoth k (by simp [h]) (hRne k h))
                refine ⟨by rw [m1]; exact hna, fun _ => ⟨⟨z, hga⟩, fun hown => ⟨m2 a z hna hga hown, ?_⟩⟩⟩
                cases z <;> simp [V.isOwn] at hown
                exact ⟨_, _, _, rfl, hga, rfl⟩
    | _ => simp [V.get] at hy

end Go.Lite

/- Whole objects: a box or an owned slice; what a store at a place of one does; freezing. -/
namespace Go.Lite

mutual
def V.fz : V → V
  | .own s xs => .isl true s (fzL xs)
  | .bx x => .iptr x.fz
  | .agg fs => .agg (fzL fs)
  | .dead => .dead
  | .int k n => .int k n
  | .bool b => .bool b
  | .str s => .str s
  | .nilp => .nilp
  | .nilfn => .nilfn
  | .nilif => .nilif
  | .err => .err
  | .tup vs => .tup vs
  | .isl nn s xs => .isl nn s xs
  | .iptr x => .iptr x
  | .sl n p o l => .sl n p o l
  | .ref n p => .ref n p
  | .fn f cs => .fn f cs
def fzL : List V → List V
  | [] => []
  | x :: xs => x.fz :: fzL xs
end

theorem fzL_map : ∀ xs : List V, fzL xs = xs.map V.fz
  | [] => rfl
  | x :: xs => by simp [fzL, fzL_map xs]

theorem fzL_len (xs : List V) : (fzL xs).length = xs.length := by simp [fzL_map]

mutual
theorem fz_size : ∀ x : V, x.fz.size = x.size
  | .own s xs => by simp [V.fz, V.size]
  | .bx x => by simp [V.fz, V.size]
  | .agg fs => by simp only [V.fz, V.size]; exact fzL_size fs
  | .dead => rfl
  | .int k n => rfl
  | .bool b => rfl
  | .str s => rfl
  | .nilp => rfl
  | .nilfn => rfl
  | .nilif => rfl
  | .err => rfl
  | .tup vs => rfl
  | .isl nn s xs => rfl
  | .iptr x => rfl
  | .sl n p o l => rfl
  | .ref n p => rfl
  | .fn f cs => rfl
theorem fzL_size : ∀ xs : List V, sizeL (fzL xs) = sizeL xs
  | [] => rfl
  | x :: xs => by simp [fzL, sizeL, fz_size x, fzL_size xs]
end

mutual
theorem rep_fz {H : Heap} {I I' : Nat → Prop} (hI : ∀ b, I b → I' b) : ∀ {x : V} {cs : List Value} {F : List Nat}, rep H I x cs F → (∀ b ∈ F, I' b) → rep H I' x.fz cs []
  | .int k n, cs, F, h, hF => by simp only [rep, V.fz] at h ⊢; exact ⟨h.1, trivial⟩
  | .bool _, cs, F, h, hF => by simp only [rep, V.fz] at h ⊢; exact ⟨h.1, trivial⟩
  | .str _, cs, F, h, hF => by simp only [rep, V.fz] at h ⊢; exact ⟨h.1, trivial⟩
  | .nilp, cs, F, h, hF => by simp only [rep, V.fz] at h ⊢; exact ⟨h.1, trivial⟩
  | .nilfn, cs, F, h, hF => by simp only [rep, V.fz] at h ⊢; exact ⟨h.1, trivial⟩
  | .nilif, cs, F, h, hF => by simp only [rep, V.fz] at h ⊢; exact ⟨h.1, trivial⟩
  | .err, cs, F, h, hF => by simp only [rep, V.fz] at h ⊢; exact ⟨h.1, trivial⟩
  | .agg fs, cs, F, h, hF => by simp only [rep, V.fz] at h ⊢; exact repL_fz hI h hF
  | .tup _, cs, F, h, hF => by simp [rep] at h
  | .isl nn s xs, cs, F, h, hF => by
    have hm := rep_mono hI (H' := H) (fun _ _ => rfl) (fun _ _ => rfl) h
    simp only [rep, V.fz] at h hm ⊢
    obtain ⟨rfl, _⟩ := h
    exact ⟨trivial, hm.2⟩
  | .iptr x, cs, F, h, hF => by
    have hm := rep_mono hI (H' := H) (fun _ _ => rfl) (fun _ _ => rfl) h
    simp only [rep, V.fz] at h hm ⊢
    obtain ⟨rfl, _⟩ := h
    exact ⟨trivial, hm.2⟩
  | .own s xs, cs, F, h, hF => by
    simp only [rep, V.fz] at h ⊢
    obtain ⟨b, o, cap, c, e, G, ds, rfl, hl, rfl, h1, h2, h3, h4, h5⟩ := h
    refine ⟨trivial, (by simp), fun _ => ⟨b, o, cap, by simp [fzL_len], by simpa [fzL_len] using hl, ?_, .inr ⟨hF b (by simp), c, e, (0, 0), ds, h1, repL_fz hI h3 (fun b hb => hF b (by simp [hb])), h5⟩⟩⟩
    intro x hx
    rw [fzL_map] at hx
    obtain ⟨y, hy, rfl⟩ := List.mem_map.1 hx
    rw [fz_size]; exact h4 y hy
  | .bx x, cs, F, h, hF => by
    simp only [rep, V.fz] at h ⊢
    obtain ⟨b, c, e, G, ds, rfl, rfl, h1, h2, h3⟩ := h
    exact ⟨trivial, b, 0, c, e, (0, 0), ds, rfl, hF b (by simp), h1, rep_fz hI h2 (fun b hb => hF b (by simp [hb])), h3⟩
  | .sl _ _ _ _, cs, F, h, hF => by simp [rep] at h
  | .ref _ _, cs, F, h, hF => by simp [rep] at h
  | .fn f caps, cs, F, h, hF => by
    have hm := rep_mono hI (H' := H) (fun _ _ => rfl) (fun _ _ => rfl) h
    simp only [rep, V.fz] at h hm ⊢
    obtain ⟨rfl, _⟩ := h
    exact ⟨trivial, hm.2⟩
  | .dead, cs, F, h, hF => by simp only [rep, V.fz] at h ⊢; exact ⟨h.1, trivial⟩
theorem repL_fz {H : Heap} {I I' : Nat → Prop} (hI : ∀ b, I b → I' b) : ∀ {xs : List V} {cs : List Value} {F : List Nat}, repL H I xs cs F → (∀ b ∈ F, I' b) → repL H I' (fzL xs) cs []
  | [], cs, F, h, hF => by simp only [repL, fzL] at h ⊢; exact ⟨h.1, trivial⟩
  | x :: xs, cs, F, h, hF => by
    simp only [repL, fzL] at h ⊢
    obtain ⟨d, ds, G, Gs, rfl, rfl, h1, h2⟩ := h
    exact ⟨d, ds, [], [], rfl, rfl, rep_fz hI h1 (fun b hb => hF b (by simp [hb])), repL_fz hI h2 (fun b hb => hF b (by simp [hb]))⟩
end

/-! objects -/
def rget : V → List Nat → Option V
  | .bx x, p => x.get p
  | x, p => x.get p

def rset : V → List Nat → V → V
  | .bx x, p, y => .bx (x.set p y)
  | x, p, y => x.set p y

def rnav (H : Heap) (hv : Value) : V → List Nat → Option (Nat × Nat)
  | .bx x, p => match hv with | .pointer (some b) => nav H x (b.block, b.off) p | _ => none
  | .own s xs, i :: p => match hv with
    | .slice (some b) _ _ => match xs[i]? with | some y => nav H y (b.block, b.off + i * s) p | none => none
    | _ => none
  | _, _ => none

def rhdr (H : Heap) (hv : Value) (O : V) (p : List Nat) : Option Value :=
  match O, p with
  | .own _ _, [] => some hv
  | O, p => match rnav H hv O p with | some a => cellAt H a | none => none

def V.isRoot : V → Bool
  | .own _ _ => true
  | .bx _ => true
  | _ => false

theorem rnav_get {H : Heap} {hv : Value} : ∀ (p : List Nat) {x : V} {a a' : Nat × Nat}, nav H x a p = some a' → ∃ y, x.get p = some y
  | [], x, a, a', h => ⟨x, by cases x <;> rfl⟩
  | j :: p, x, a, a', h => by
    cases x with
    | agg fs =>
      simp only [nav, V.get] at h ⊢
      cases hj : fs[j]? with
      | none => simp [hj] at h
      | some y => simp only [hj] at h ⊢; exact rnav_get (hv := hv) p h
    | own s xs =>
      simp only [nav, V.get] at h ⊢
      cases hj : xs[j]? with
      | none => simp only [hj] at h; split at h <;> cases h
      | some y => simp only [hj] at h ⊢; split at h; exact rnav_get (hv := hv) p h; cases h
    | _ => simp [nav] at h

/-- the effect of a store at a place, told of the whole object -/
def Stored (H : Heap) (I : Nat → Prop) (hv : Value) (O : V) (F : List Nat) (p : List Nat) (y : V) : Prop :=
    ∃ b1 o1 c1 e1 ds L G R, rnav H hv O p = some (b1, o1) ∧ H b1 = some (.cells c1 e1 (0, 0)) ∧ win c1 o1 ds ∧ rep H I y ds G ∧ F = L ++ G ++ R ∧
      b1 ∈ L ++ R ∧ b1 ∉ G ∧
      ∀ y' ds' G' H', y'.size = y.size → (ds'.length = ds.length) →
        H' b1 = some (.cells (wr c1 o1 ds') e1 (0, 0)) → (∀ b ∈ L ++ R, b ≠ b1 → H' b = H b) → (∀ b, I b → H' b = H b) → rep H' I y' ds' G' →
        rep H' I (rset O p y') [hv] (L ++ G' ++ R) ∧
          (∀ q a z, rnav H hv O q = some a → rget O q = some z → ¬ below p q → rnav H' hv (rset O p y') q = some a ∧
            (q ≠ p → (∃ z', rget (rset O p y') q = some z') ∧ (z.isOwn = true → cellAt H' a = cellAt H a ∧
              ∃ s ys ys', z = .own s ys ∧ rget (rset O p y') q = some (.own s ys') ∧ ys'.length = ys.length)))

theorem stored_bx {H : Heap} {I : Nat → Prop} {hv : Value} {x : V} {F : List Nat} {p : List Nat} {y : V} (hr : rep H I (.bx x) [hv] F) (hnd : F.Nodup)
    (hy : x.get p = some y) : Stored H I hv (.bx x) F p y := by
  have hr0 := hr
  simp only [rep] at hr
  obtain ⟨b, c, e, G, ds, hhv, rfl, hb, hx, hw⟩ := hr
  obtain rfl : hv = .pointer (some ⟨b, 0, none⟩) := by simpa using hhv
  rw [List.nodup_cons] at hnd
  obtain ⟨b1, o1, c1, e1, ds1, L, G1, R, hn, hb1, hw1, hy1, rfl, hm, hnG, hput⟩ := store_at p hx hb hw hnd.1 hnd.2 hy
  refine ⟨b1, o1, c1, e1, ds1, b :: L, G1, R, hn, hb1, hw1, hy1, by simp, ?_, hnG, ?_⟩
  · rcases hm with h | h
    · simp [h]
    · simp at h ⊢; rcases h with h | h <;> simp [h]
  intro y' ds' G' H' hsz hl hbn hoth hI hrep
  obtain ⟨cs', c0', h1, h2, h3, h4, h5, h6, h7⟩ := hput y' ds' G' H' hsz hl hbn (fun b' hb' hne => hoth b' (by simpa using hb') hne) hI hrep
  refine ⟨?_, ?_⟩
  · simp only [rset, rep]
    exact ⟨b, c0', e, L ++ G' ++ R, cs', rfl, by simp, h3, h2, h5⟩
  · intro q a z hna hga hbel
    simp only [rnav, rget, rset] at hna hga ⊢
    exact h7 q a z hna hga hbel

theorem stored_own {H : Heap} {I : Nat → Prop} {hv : Value} {s : Nat} {xs : List V} {F : List Nat} {j : Nat} {p : List Nat} {y : V} (hr : rep H I (.own s xs) [hv] F) (hnd : F.Nodup)
    (hy : (V.own s xs).get (j :: p) = some y) : Stored H I hv (.own s xs) F (j :: p) y := by
  have hr0 := hr
  simp only [rep] at hr
  simp only [V.get] at hy
  obtain ⟨b2, o2, cap, c2, e2, Gx, dx, hhv, hcap, rfl, hb2, hsz2, hL, huni, hw2⟩ := hr
  obtain rfl : hv = .slice (some ⟨b2, o2, none⟩) xs.length cap := by simpa using hhv
  cases hj : xs[j]? with
  | none => simp [hj] at hy
  | some f =>
    simp only [hj] at hy
    obtain ⟨pre, d, post, L, G, R, rfl, rfl, hlen, h1, h2, h3⟩ := repL_get hL hj
    have hlt := lt_of_some hj
    have hpl : ∀ k, k ≤ xs.length → sizeL (xs.take k) = k * s := by
      intro k hk
      rw [sizeL_uni (s := s) fun x hx => huni x (List.mem_of_mem_take hx)]
      simp [Nat.min_eq_left hk]
    have hw1 := (win_app.1 (win_app.1 hw2).1).1
    have hwd := (win_app.1 (win_app.1 hw2).1).2
    have hw3 := (win_app.1 hw2).2
    rw [List.nodup_cons] at hnd
    have hb2n : b2 ∉ L ++ G ++ R := hnd.1
    have hnd := hnd.2
    have hnd' : G.Nodup := by
      rw [List.append_assoc, List.nodup_append] at hnd; exact (List.nodup_append.1 hnd.2.1).1
    have hdLG : ∀ b ∈ L, b ∉ G := by
      intro b hbL hbG
      rw [List.append_assoc, List.nodup_append] at hnd
      exact hnd.2.2 b hbL b (by simp [hbG]) rfl
    have hdRG : ∀ b ∈ R, b ∉ G := by
      intro b hbR hbG
      rw [List.nodup_append] at hnd
      exact hnd.2.2 b (by simp [hbG]) b hbR rfl
    obtain ⟨b1, o1, c1, e1, ds, L', G', R', hn, hb1, hw1', hy', rfl, hb1m, hb1n, hput⟩ := store_at p h2 hb2 hwd (by simp at hb2n; simp [hb2n]) hnd' hy
    refine ⟨b1, o1, c1, e1, ds, b2 :: (L ++ L'), G', R' ++ R, ?_, hb1, hw1', hy', by simp, ?_, hb1n, ?_⟩
    · simp only [rnav, hj]; rw [← hpl j (Nat.le_of_lt hlt), ← hlen]; exact hn
    · rcases hb1m with h | h
      · simp [h]
      · simp at h ⊢; rcases h with h | h <;> simp [h]
    intro y' ds' Gn H' hsz hl hbn hoth hIn hrn
    have hLne : ∀ b ∈ L, b ≠ b1 := by
      intro b hbL he; subst he
      rcases hb1m with h | h
      · subst h; simp [hbL] at hb2n
      · exact hdLG b hbL (by simp at h ⊢; rcases h with h | h <;> simp [h])
    have hRne : ∀ b ∈ R, b ≠ b1 := by
      intro b hbR he; subst he
      rcases hb1m with h | h
      · subst h; simp [hbR] at hb2n
      · exact hdRG b hbR (by simp at h ⊢; rcases h with h | h <;> simp [h])
    obtain ⟨cs', c0', hcl, hrep, hb2', hcs, hwin, hout, hnav⟩ := hput y' ds' Gn H' hsz hl hbn
      (fun b hbm hne => hoth b (by simp at hbm ⊢; rcases hbm with h | h | h <;> simp [h]) hne) hIn hrn
    have hL' : repL H' I (xs.take j) pre L := repL_mono (fun _ h => h) hIn (fun b hbL => hoth b (by simp [hbL]) (hLne b hbL)) h1
    have hR' : repL H' I (xs.drop (j + 1)) post R := repL_mono (fun _ h => h) hIn (fun b hbR => hoth b (by simp [hbR]) (hRne b hbR)) h3
    have hnew := repL_put (y := f.set p y') hlt hL' hrep hR'
    have hwall : win c0' o2 (pre ++ cs' ++ post) := by
      refine win_app.2 ⟨win_app.2 ⟨?_, hwin⟩, ?_⟩
      · exact win_congr hw1 fun k hk1 hk2 => hout k (by left; exact hk2)
      · rw [List.length_append, hcl, ← List.length_append]
        exact win_congr hw3 fun k hk1 hk2 => hout k (by right; simp at hk1; omega)
    refine ⟨?_, ?_⟩
    · simp only [rset, V.set, rep, getD_of_some hj]
      refine ⟨b2, o2, cap, c0', e2, L ++ (L' ++ Gn ++ R') ++ R, pre ++ cs' ++ post, by simp, by simpa using hcap, by simp, hb2', by rw [hcs]; exact hsz2, hnew, ?_, hwall⟩
      intro z hz
      rcases List.mem_or_eq_of_mem_set hz with h | h
      · exact huni z h
      · subst h; rw [set_size p hy hsz]; exact huni f (List.mem_of_getElem? hj)
    · intro q a z hna hga hbel
      cases q with
      | nil => simp [rnav] at hna
      | cons j' q =>
        simp only [rnav, rget, V.get, rset, V.set] at hna hga ⊢
        by_cases hjj : j = j'
        · subst hjj
          simp only [hj] at hna hga
          rw [List.getElem?_set_self hlt]
          simp only [getD_of_some hj]
          rw [← hpl j (Nat.le_of_lt hlt), ← hlen] at hna ⊢
          obtain ⟨hn1, hn2⟩ := hnav q a z hna hga (fun ⟨r, hr1, hr2⟩ => hbel ⟨r, hr1, by simp [hr2]⟩)
          exact ⟨hn1, fun hne => hn2 (fun h => hne (by rw [h]))⟩
        · rw [List.getElem?_set_ne hjj]
          cases hf' : xs[j']? with
          | none => simp [hf'] at hna
          | some f' =>
            simp only [hf'] at hna hga ⊢
            have hsib := sib h1 h2 h3 hj hjj hf' hw1 (win_app.1 (win_app.1 hwall).1).1 hw3
              (by rw [List.length_append, ← hcl, ← List.length_append]; exact (win_app.1 hwall).2)
            rw [hpl j' (Nat.le_of_lt (lt_of_some hf'))] at hsib
            obtain ⟨cs2, F2, k1, k2, k3, k4⟩ := hsib
            obtain ⟨m1, m2⟩ := nav_mono q k1 hb2 k2 hb2' k3 (fun k hk => by
              have hk2 := k4 k hk
              simp at hk2
              rcases hk2 with h | h
              · exact hoth k (by simp [h]) (hLne k h)
              · exact hoth k (by simp [h]) (hRne k h))
            refine ⟨by rw [m1]; exact hna, fun _ => ⟨⟨z, hga⟩, fun hown => ⟨m2 a z hna hga hown, ?_⟩⟩⟩
            cases z <;> simp [V.isOwn] at hown
            exact ⟨_, _, _, rfl, hga, rfl⟩

theorem stored {H : Heap} {I : Nat → Prop} {hv : Value} {O : V} {F : List Nat} {p : List Nat} {y : V} (hO : O.isRoot = true) (hr : rep H I O [hv] F) (hnd : F.Nodup)
    (hy : rget O p = some y) (hp : p = [] → O.isOwn = false) : Stored H I hv O F p y := by
  cases O <;> simp [V.isRoot] at hO
  · rename_i s xs
    cases p with
    | nil => simp [V.isOwn] at hp
    | cons j p => exact stored_own hr hnd hy
  · exact stored_bx hr hnd hy

end Go.Lite

/- Slots, states, and what it means that a state of Lite fits a frame and a world. -/
namespace Go.Lite

mutual
def srep (H : Heap) (I : Nat → Prop) (h : Nat → Value) (o : Nat → V) : V → List Value → Prop
  | .agg fs, cs => srepL H I h o fs cs
  | .sl n p off len, cs => ∃ s ys b ob L cap, rget (o n) p = some (.own s ys) ∧ rhdr H (h n) (o n) p = some (.slice (some ⟨b, ob, none⟩) L cap) ∧
      off + len ≤ ys.length ∧ ys.length ≤ cap ∧ ∃ oo, cs = [.slice (some ⟨b, oo, none⟩) len (cap - off)] ∧ (oo = ob + off * s ∨ (cap = off ∧ oo ≤ ob + off * s ∧ 0 < off))
  | .ref n p, cs => ∃ a y, rnav H (h n) (o n) p = some a ∧ rget (o n) p = some y ∧ cs = [.pointer (some ⟨a.1, a.2, none⟩)]
  | .fn f caps, cs => ∃ vs, cs = [.func (.func f) #[] (vs : List Value).toArray] ∧ srepL H I h o caps vs ∧ ∀ x ∈ caps, x.size = 1
  | .own _ _, _ => False
  | .bx _, _ => False
  | .tup _, _ => False
  | .dead, cs => ∃ c, cs = [c]
  | .int k n, cs => rep H I (.int k n) cs []
  | .bool b, cs => rep H I (.bool b) cs []
  | .str s, cs => rep H I (.str s) cs []
  | .nilp, cs => rep H I .nilp cs []
  | .nilfn, cs => rep H I .nilfn cs []
  | .nilif, cs => rep H I .nilif cs []
  | .err, cs => rep H I .err cs []
  | .isl nn s xs, cs => rep H I (.isl nn s xs) cs []
  | .iptr x, cs => rep H I (.iptr x) cs []
def srepL (H : Heap) (I : Nat → Prop) (h : Nat → Value) (o : Nat → V) : List V → List Value → Prop
  | [], cs => cs = []
  | x :: xs, cs => ∃ d ds, cs = d ++ ds ∧ srep H I h o x d ∧ srepL H I h o xs ds
end

/-- a value of one slot that is no tuple -/
def SV1 (H : Heap) (I : Nat → Prop) (h : Nat → Value) (o : Nat → V) : V → Value → Prop
  | .dead, _ => True
  | .agg fs, v => ∃ cs : List Value, v = .agg cs.toArray ∧ srepL H I h o fs cs
  | x, v => srep H I h o x [v]

def SV (H : Heap) (I : Nat → Prop) (h : Nat → Value) (o : Nat → V) : V → Value → Prop
  | .tup vs, v => ∃ us : List Value, v = .tuple us.toArray ∧ us.length = vs.length ∧ ∀ (i : Nat) x u, vs[i]? = some x → us[i]? = some u → SV1 H I h o x u
  | x, v => SV1 H I h o x v

mutual
/-- turn each alias -/
def V.mapA (k : V → V) : V → V
  | .agg fs => .agg (mapAL k fs)
  | .fn f cs => .fn f (mapAL k cs)
  | .tup vs => .tup (mapAL k vs)
  | .sl n p o l => k (.sl n p o l)
  | .ref n p => k (.ref n p)
  | .dead => .dead
  | .int k n => .int k n
  | .bool b => .bool b
  | .str s => .str s
  | .nilp => .nilp
  | .nilfn => .nilfn
  | .nilif => .nilif
  | .err => .err
  | .isl nn s xs => .isl nn s xs
  | .iptr x => .iptr x
  | .own s xs => .own s xs
  | .bx x => .bx x
def mapAL (k : V → V) : List V → List V
  | [] => []
  | x :: xs => x.mapA k :: mapAL k xs
end

theorem mapAL_map (k : V → V) : ∀ xs : List V, mapAL k xs = xs.map (V.mapA k)
  | [] => rfl
  | x :: xs => by simp [mapAL, mapAL_map k xs]

/-- what one must know of the aliases alone -/
structure Tr (H : Heap) (I : Nat → Prop) (h : Nat → Value) (o : Nat → V) (H' : Heap) (I' : Nat → Prop) (h' : Nat → Value) (o' : Nat → V) (k : V → V) : Prop where
  imm : ∀ b, I b → I' b
  heap : ∀ b, I b → H' b = H b
  sl : ∀ n p a l cs, srep H I h o (.sl n p a l) cs → srep H' I' h' o' (k (.sl n p a l)) cs
  ref : ∀ n p cs, srep H I h o (.ref n p) cs → srep H' I' h' o' (k (.ref n p)) cs
  slz : ∀ n p a l, (k (.sl n p a l)).size = 1 ∧ (∀ fs, k (.sl n p a l) ≠ .agg fs) ∧ (∀ fs, k (.sl n p a l) ≠ .tup fs)
  refz : ∀ n p, (k (.ref n p)).size = 1 ∧ (∀ fs, k (.ref n p) ≠ .agg fs) ∧ (∀ fs, k (.ref n p) ≠ .tup fs)

section
variable {H : Heap} {I : Nat → Prop} {h : Nat → Value} {o : Nat → V} {H' : Heap} {I' : Nat → Prop} {h' : Nat → Value} {o' : Nat → V} {k : V → V}

mutual
theorem mapA_size (t : Tr H I h o H' I' h' o' k) : ∀ x : V, (x.mapA k).size = x.size
  | .agg fs => by simp only [V.mapA, V.size]; exact mapAL_size t fs
  | .fn f cs => by simp [V.mapA, V.size]
  | .tup vs => by simp [V.mapA, V.size]
  | .sl n p a l => by simp only [V.mapA]; rw [(t.slz n p a l).1]; rfl
  | .ref n p => by simp only [V.mapA]; rw [(t.refz n p).1]; rfl
  | .dead => rfl
  | .int k n => rfl
  | .bool b => rfl
  | .str s => rfl
  | .nilp => rfl
  | .nilfn => rfl
  | .nilif => rfl
  | .err => rfl
  | .isl nn s xs => rfl
  | .iptr x => rfl
  | .own s xs => rfl
  | .bx x => rfl
theorem mapAL_size (t : Tr H I h o H' I' h' o' k) : ∀ xs : List V, sizeL (mapAL k xs) = sizeL xs
  | [] => rfl
  | x :: xs => by simp [mapAL, sizeL, mapA_size t x, mapAL_size t xs]
end

mutual
theorem srep_tr (t : Tr H I h o H' I' h' o' k) : ∀ {x : V} {cs : List Value}, srep H I h o x cs → srep H' I' h' o' (x.mapA k) cs
  | .agg fs, cs, hh => by simp only [srep, V.mapA] at hh ⊢; exact srepL_tr t hh
  | .fn f caps, cs, hh => by
    simp only [srep, V.mapA] at hh ⊢
    obtain ⟨vs, h1, h2, h3⟩ := hh
    refine ⟨vs, h1, srepL_tr t h2, ?_⟩
    intro x hx
    rw [mapAL_map] at hx
    obtain ⟨y, hy, rfl⟩ := List.mem_map.1 hx
    rw [mapA_size t]; exact h3 y hy
  | .tup vs, cs, hh => by simp [srep] at hh
  | .sl n p a l, cs, hh => by simp only [V.mapA]; exact t.sl n p a l cs hh
  | .ref n p, cs, hh => by simp only [V.mapA]; exact t.ref n p cs hh
  | .dead, cs, hh => by simp only [srep, V.mapA] at hh ⊢; exact hh
  | .int k n, cs, hh => by simp only [srep, V.mapA] at hh ⊢; exact rep_mono t.imm t.heap (by simp) hh
  | .bool b, cs, hh => by simp only [srep, V.mapA] at hh ⊢; exact rep_mono t.imm t.heap (by simp) hh
  | .str s, cs, hh => by simp only [srep, V.mapA] at hh ⊢; exact rep_mono t.imm t.heap (by simp) hh
  | .nilp, cs, hh => by simp only [srep, V.mapA] at hh ⊢; exact rep_mono t.imm t.heap (by simp) hh
  | .nilfn, cs, hh => by simp only [srep, V.mapA] at hh ⊢; exact rep_mono t.imm t.heap (by simp) hh
  | .nilif, cs, hh => by simp only [srep, V.mapA] at hh ⊢; exact rep_mono t.imm t.heap (by simp) hh
  | .err, cs, hh => by simp only [srep, V.mapA] at hh ⊢; exact rep_mono t.imm t.heap (by simp) hh
  | .isl nn s xs, cs, hh => by simp only [srep, V.mapA] at hh ⊢; exact rep_mono t.imm t.heap (by simp) hh
  | .iptr x, cs, hh => by simp only [srep, V.mapA] at hh ⊢; exact rep_mono t.imm t.heap (by simp) hh
  | .own s xs, cs, hh => by simp [srep] at hh
  | .bx x, cs, hh => by simp [srep] at hh
theorem srepL_tr (t : Tr H I h o H' I' h' o' k) : ∀ {xs : List V} {cs : List Value}, srepL H I h o xs cs → srepL H' I' h' o' (mapAL k xs) cs
  | [], cs, hh => by simp only [srepL, mapAL] at hh ⊢; exact hh
  | x :: xs, cs, hh => by
    simp only [srepL, mapAL] at hh ⊢
    obtain ⟨d, ds, rfl, h1, h2⟩ := hh
    exact ⟨d, ds, rfl, srep_tr t h1, srepL_tr t h2⟩
end

theorem SV1_of_srep {x : V} {v : Value} (hx : srep H I h o x [v]) (hn : ∀ fs, x ≠ .agg fs) : SV1 H I h o x v := by
  cases x <;> simp_all [SV1]

theorem SV1_tr (t : Tr H I h o H' I' h' o' k) {x : V} {v : Value} (hx : SV1 H I h o x v) : SV1 H' I' h' o' (x.mapA k) v := by
  cases x with
  | dead => simp [SV1, V.mapA]
  | agg fs =>
    simp only [SV1, V.mapA] at hx ⊢
    obtain ⟨cs, rfl, h1⟩ := hx
    exact ⟨cs, rfl, srepL_tr t h1⟩
  | sl n p a l =>
    simp only [SV1] at hx
    have := t.sl n p a l [v] hx
    simp only [V.mapA]; exact SV1_of_srep this (t.slz n p a l).2.1
  | ref n p =>
    simp only [SV1] at hx
    have := t.ref n p [v] hx
    simp only [V.mapA]; exact SV1_of_srep this (t.refz n p).2.1
  | tup vs => simp [SV1, srep] at hx
  | _ =>
    simp only [SV1] at hx
    have := srep_tr t hx
    simpa [V.mapA, SV1] using this

theorem SV_of_SV1 {x : V} {v : Value} (hx : SV1 H I h o x v) : SV H I h o x v := by
  cases x <;> first | exact hx | (simp [SV1, srep] at hx)

theorem SV_tr (t : Tr H I h o H' I' h' o' k) {x : V} {v : Value} (hx : SV H I h o x v) : SV H' I' h' o' (x.mapA k) v := by
  cases x with
  | tup vs =>
    simp only [SV, V.mapA] at hx ⊢
    obtain ⟨us, rfl, h1, h2⟩ := hx
    refine ⟨us, rfl, by simp [mapAL_map, h1], ?_⟩
    intro i x u hi hu
    rw [mapAL_map, List.getElem?_map] at hi
    cases hv : vs[i]? with
    | none => simp [hv] at hi
    | some y =>
      simp [hv] at hi
      subst hi
      exact SV1_tr t (h2 i y u hv hu)
  | _ => exact SV_of_SV1 (SV1_tr t hx)
end

/-! states -/
structure St where
  n : Nat
  s : Nat → V
  o : Nat → V

structure Env where
  base : Nat
  A : List Nat
  w0 : World
  ms : List (Nat × Value)
  I0 : Nat → Prop

def hp (w : World) : Heap := fun b => w.heap[b]?

def argName : Nat := 1000000

structure SatW (E : Env) (I : Nat → Prop) (h : Nat → Value) (F : Nat → List Nat) (st : St) (a : Act) (w : World) : Prop where
  size : a.tmps.size = st.n
  defers : a.defers = []
  slot : ∀ t, SV (hp w) I h st.o (st.s t) (a.tmps.getD t undef)
  obj : ∀ n, (st.o n = .dead ∧ F n = []) ∨ ((st.o n).isRoot = true ∧ rep (hp w) I (st.o n) [h n] (F n))
  nd : ∀ n, (F n).Nodup
  dj : ∀ n m, n ≠ m → ∀ b ∈ F n, b ∉ F m
  fresh : ∀ n, ∀ b ∈ F n, b < w.heap.size ∧ ¬ I b ∧ (E.base ≤ b ∨ b ∈ E.A)
  grow : E.base ≤ w.heap.size
  imm : ∀ b, I b → b < w.heap.size
  frame : ∀ b, b < E.base → b ∉ E.A → w.heap[b]? = E.w0.heap[b]?
  os : w.os = E.w0.os
  tape : w.tape = E.w0.tape ∧ E.w0.drawn ≤ w.drawn
  output : w.output = E.w0.output
  mh : ∀ n v, (n, v) ∈ E.ms → st.o n ≠ .dead → h n = v
  ms : ∀ n v, (n, v) ∈ E.ms → argName ≤ n
  imm0 : ∀ b, I b → E.I0 b ∨ E.base ≤ b ∨ b ∈ E.A

def Sat (E : Env) (I : Nat → Prop) (st : St) (a : Act) (w : World) : Prop := ∃ h F, SatW E I h F st a w

/-- a piece of code from a state: whatever way it ends, Q says so -/
def T (P : Program) (c : Code) (Q : Exit → St → Prop) (st : St) : Prop :=
  ∀ E I a w R, Sat E I st a w → (∀ e st' I' a' w', Q e st' → (∀ b, I b → I' b) → Sat E I' st' a' w' → R e a' w') → c.wp P R a w

/-- operations in a row -/
def O (P : Program) (ops : Array Oper) (l : List Nat) (K : St → Prop) (st : St) : Prop :=
  ∀ E I a w R, Sat E I st a w → (∀ st' I' a' w', K st' → (∀ b, I b → I' b) → Sat E I' st' a' w' → R .normal a' w') → wpOps P ops R l a w

section
variable {P : Program} {Q : Exit → St → Prop} {st : St}

theorem T_mono {c : Code} {Q' : Exit → St → Prop} (h : T P c Q st) (hq : ∀ e st', Q e st' → Q' e st') : T P c Q' st :=
  fun E I a w R hs hr => h E I a w R hs fun e st' I' a' w' q hi hs' => hr e st' I' a' w' (hq e st' q) hi hs'

theorem T_skip (h : Q .normal st) : T P .skip Q st := fun _ I a w _ hs hr => wp_skip (hr .normal st I a w h (fun _ h => h) hs)
theorem T_exit {id : Nat} (h : Q (.exit id) st) : T P (.exit id) Q st := fun _ I a w _ hs hr => wp_exit (hr _ st I a w h (fun _ h => h) hs)
theorem T_ret (h : Q .ret st) : T P .ret Q st := fun _ I a w _ hs hr => wp_ret (hr _ st I a w h (fun _ h => h) hs)

/-- what stands behind -/
def andThen (K : St → Prop) (Q : Exit → St → Prop) : Exit → St → Prop
  | .normal, st => K st
  | e, st => Q e st

theorem T_seq {x y : Code} (h : T P x (andThen (T P y Q) Q) st) : T P (.seq x y) Q st := by
  intro E I a w R hs hr
  refine wp_seq (h E I a w _ hs ?_)
  intro e st' I' a' w' q hi hs'
  cases e with
  | normal =>
    simp only [andThen] at q
    exact q E I' a' w' R hs' fun e2 st2 I2 a2 w2 q2 hi2 hs2 => hr e2 st2 I2 a2 w2 q2 (fun b hb => hi2 b (hi b hb)) hs2
  | _ => exact hr _ st' I' a' w' q hi hs'

def inBlock (id : Nat) (Q : Exit → St → Prop) : Exit → St → Prop
  | .exit id', st => if id' = id then Q .normal st else Q (.exit id') st
  | e, st => Q e st

theorem T_block {id : Nat} {c : Code} (h : T P c (inBlock id Q) st) : T P (.block id c) Q st := by
  intro E I a w R hs hr
  refine wp_block (h E I a w _ hs ?_)
  intro e st' I' a' w' q hi hs'
  cases e with
  | exit id' =>
    simp only [inBlock, Exit.inBlock] at q ⊢
    split
    · rename_i h2; simp only [h2, if_true] at q; exact hr _ st' I' a' w' q hi hs'
    · rename_i h2; simp only [h2, if_false] at q; exact hr _ st' I' a' w' q hi hs'
  | _ => exact hr _ st' I' a' w' q hi hs'

theorem T_loop {c : Code} (Inv : St → Prop) (μ : St → Nat) (h0 : Inv st)
    (hround : ∀ st, Inv st → T P c (andThen (fun st' => Inv st' ∧ μ st' < μ st) Q) st) : T P (.loop c) Q st := by
  intro E I a w R hs hr b k cs
  have key : ∀ n st I a w, μ st = n → Inv st → Sat E I st a w →
      (∀ e st' I' a' w', Q e st' → (∀ b, I b → I' b) → Sat E I' st' a' w' → R e a' w') →
      ∃ e a' w', R e a' w' ∧ Arrives P (lone (b.at a (.code c :: .inLoop c :: k)) cs w) b k cs e a' w' := by
    intro n
    induction n using Nat.strongRecOn with
    | _ n ih =>
      intro st I a w hn hI hs hr
      obtain ⟨e, a1, w1, hq, harr⟩ := hround st hI E I a w
        (fun e a' w' => match e with
          | .normal => ∃ st' I', (Inv st' ∧ μ st' < μ st) ∧ (∀ b, I b → I' b) ∧ Sat E I' st' a' w'
          | e => R e a' w') hs
        (by
          intro e st' I' a' w' q hi hs'
          cases e with
          | normal => exact ⟨st', I', q, hi, hs'⟩
          | _ => exact hr _ st' I' a' w' q hi hs') b (.inLoop c :: k) cs
      cases e with
      | normal =>
        obtain ⟨st', I', ⟨hI', hlt⟩, hi, hs'⟩ := hq
        obtain ⟨e2, a2, w2, hq2, harr2⟩ := ih (μ st') (hn ▸ hlt) st' I' a1 w1 rfl hI' hs'
          (fun e st2 I2 a2 w2 q hi2 hs2 => hr e st2 I2 a2 w2 q (fun b hb => hi2 b (hi b hb)) hs2)
        exact ⟨e2, a2, w2, hq2, .of_steps (Steps.trans harr (.one step_inLoop)) harr2⟩
      | exit id => exact ⟨_, a1, w1, hq, .pass (x := .inLoop c) rfl (fun _ _ => .inl (by simp)) harr⟩
      | goto l => exact ⟨_, a1, w1, hq, .pass (x := .inLoop c) rfl (fun _ _ => .inl (by simp)) harr⟩
      | ret => exact ⟨_, a1, w1, hq, .pass (x := .inLoop c) rfl (fun _ _ => .inl (by simp)) harr⟩
      | panic ch => exact ⟨_, a1, w1, hq, .pass (x := .inLoop c) rfl (fun _ _ => .inl (by simp)) harr⟩
      | outgrown => exact ⟨_, a1, w1, hq, .pass (x := .inLoop c) rfl (fun _ _ => .inl (by simp)) harr⟩
  obtain ⟨e, a', w', hq, harr⟩ := key _ st I a w rfl h0 hs hr
  exact ⟨e, a', w', hq, .of_steps (.one step_loop) harr⟩
end
end Go.Lite

/- The operations that only compute: their step on values, and that the model does the same. -/
namespace Go.Lite

/-! types, as far as they matter -/
inductive TK where
  | other | int (k : IntKind) | bool | str | slice (e : Nat) | struct | iface
  deriving DecidableEq, Inhabited

def TK.isSlice : TK → Bool
  | .slice _ => true
  | _ => false

structure TyI where
  sz : Nat := 0
  bytes : Nat := 0
  kd : TK := .other
  z : V := .dead
  fo : List (Nat × Nat) := []
  known : Bool := false
  plainEq : Bool := false
  deriving Inhabited

mutual
def zm : V → List Value → Option (List Value)
  | .int k n, .int k' n' :: r => if k = k' ∧ n = n' then some r else none
  | .bool b, .bool b' :: r => if b = b' then some r else none
  | .str [], .string s :: r => if s.size = 0 then some r else none
  | .isl false _ [], .slice none 0 0 :: r => some r
  | .nilp, .pointer none :: r => some r
  | .nilfn, .nilFunc :: r => some r
  | .nilif, .nilIface :: r => some r
  | .agg fs, r => zmL fs r
  | _, _ => none
def zmL : List V → List Value → Option (List Value)
  | [], r => some r
  | x :: xs, r => match zm x r with | some r' => zmL xs r' | none => none
end

def tkOk (P : Program) (t : Nat) (ti : TyI) : Bool :=
  match ti.kd, P.underlying t with
  | .int k, some (.int k') => k == k'
  | .bool, some .bool => true
  | .str, some .string => true
  | .slice e, some (.slice e') => e == e'
  | .struct, some (.struct fs) => (fs.toList.map fun f => (f.offset, P.cellsOf f.type)) == ti.fo && (fs.toList.all fun f => (P.info? f.type).isSome && P.cellsOf f.type != 0)
  | .iface, some (.interface _) => true
  | .other, some (.struct _) => false
  | .other, some (.array _ _) => false
  | .other, some (.int _) => false
  | .other, some _ => true
  | _, _ => false

def ended : Option (List Value) → Bool
  | some [] => true
  | _ => false

theorem ended_eq {o : Option (List Value)} (h : ended o = true) : o = some [] := by
  unfold ended at h; split at h
  · rfl
  · cases h

def tyOk (P : Program) (t : Nat) (ti : TyI) : Bool :=
  !ti.known ||
  match P.info? t with
  | some i => i.size == ti.sz && i.bytes == ti.bytes && tkOk P t ti &&
      (match ti.z with
       | .dead => true
       | z => match i.zero with | some zv => ended (zm z zv.cells.toList) | none => false)
  | none => false

def TyOk (P : Program) (ty : Nat → TyI) : Prop := ∀ t, tyOk P t (ty t) = true

theorem TyOk.info {P : Program} {ty : Nat → TyI} (h : TyOk P ty) {t : Nat} (hk : (ty t).known = true) :
    ∃ i, P.info? t = some i ∧ i.size = (ty t).sz ∧ i.bytes = (ty t).bytes ∧ tkOk P t (ty t) = true := by
  have := h t
  unfold tyOk at this
  rw [hk] at this
  cases hi : P.info? t with
  | none => simp [hi] at this
  | some i =>
    simp [hi] at this
    exact ⟨i, rfl, this.1.1.1, this.1.1.2, this.1.2⟩

theorem TyOk.kd_int {P : Program} {ty : Nat → TyI} (h : TyOk P ty) {t : Nat} (hk : (ty t).known = true) {k : IntKind} (hd : (ty t).kd = .int k) : P.underlying t = some (.int k) := by
  obtain ⟨i, _, _, _, hu⟩ := h.info hk
  unfold tkOk at hu
  rw [hd] at hu
  cases hp : P.underlying t with
  | none => simp [hp] at hu
  | some d => cases d <;> simp [hp] at hu; rw [hu]

theorem TyOk.kd_bool {P : Program} {ty : Nat → TyI} (h : TyOk P ty) {t : Nat} (hk : (ty t).known = true) (hd : (ty t).kd = .bool) : P.underlying t = some .bool := by
  obtain ⟨i, _, _, _, hu⟩ := h.info hk
  unfold tkOk at hu
  rw [hd] at hu
  cases hp : P.underlying t with
  | none => simp [hp] at hu
  | some d => cases d <;> simp [hp] at hu; rfl

theorem TyOk.kd_str {P : Program} {ty : Nat → TyI} (h : TyOk P ty) {t : Nat} (hk : (ty t).known = true) (hd : (ty t).kd = .str) : P.underlying t = some .string := by
  obtain ⟨i, _, _, _, hu⟩ := h.info hk
  unfold tkOk at hu
  rw [hd] at hu
  cases hp : P.underlying t with
  | none => simp [hp] at hu
  | some d => cases d <;> simp [hp] at hu; rfl

theorem TyOk.kd_slice {P : Program} {ty : Nat → TyI} (h : TyOk P ty) {t : Nat} (hk : (ty t).known = true) {e : Nat} (hd : (ty t).kd = .slice e) : P.underlying t = some (.slice e) := by
  obtain ⟨i, _, _, _, hu⟩ := h.info hk
  unfold tkOk at hu
  rw [hd] at hu
  cases hp : P.underlying t with
  | none => simp [hp] at hu
  | some d => cases d <;> simp [hp] at hu; rw [hu]

theorem TyOk.kd_iface {P : Program} {ty : Nat → TyI} (h : TyOk P ty) {t : Nat} (hk : (ty t).known = true) (hd : (ty t).kd = .iface) : ∃ ms, P.underlying t = some (.interface ms) := by
  obtain ⟨i, _, _, _, hu⟩ := h.info hk
  unfold tkOk at hu
  rw [hd] at hu
  cases hp : P.underlying t with
  | none => simp [hp] at hu
  | some d => cases d <;> simp [hp] at hu; exact ⟨_, rfl⟩

theorem TyOk.kd_struct {P : Program} {ty : Nat → TyI} (h : TyOk P ty) {t : Nat} (hk : (ty t).known = true) (hd : (ty t).kd = .struct) :
    ∃ fs : Array Field, P.underlying t = some (.struct fs) ∧ (fs.toList.map fun f => (f.offset, P.cellsOf f.type)) = (ty t).fo ∧ ∀ f ∈ fs.toList, ∃ i, P.info? f.type = some i ∧ i.size = P.cellsOf f.type ∧ i.size ≠ 0 := by
  obtain ⟨i, _, _, _, hu⟩ := h.info hk
  unfold tkOk at hu
  rw [hd] at hu
  cases hp : P.underlying t with
  | none => simp [hp] at hu
  | some d =>
    rw [hp] at hu
    cases d <;> simp only [Bool.and_eq_true, beq_iff_eq, List.all_eq_true, reduceCtorEq] at hu
    rename_i fs
    refine ⟨fs, rfl, hu.1, ?_⟩
    intro f hf
    have h2 := hu.2 f hf
    cases hi : P.info? f.type with
    | none => simp [hi] at h2
    | some i => exact ⟨i, rfl, by simp [Program.cellsOf, hi], by have := h2.2; simp [Program.cellsOf, hi] at this; exact this⟩

theorem TyOk.agg {P : Program} {ty : Nat → TyI} (h : TyOk P ty) {t : Nat} (hk : (ty t).known = true) (w : World) :
    (isAgg t).run P w = .ok (decide ((ty t).kd = .struct)) w := by
  obtain ⟨i, hi, _, _, hu⟩ := h.info hk
  unfold tkOk at hu
  cases hp : P.underlying t with
  | none => rw [hp] at hu; cases (ty t).kd <;> simp at hu
  | some d =>
    rw [hp] at hu
    unfold isAgg
    rw [Sem.run_bind, run_underlying hp w]
    cases hd : (ty t).kd <;> rw [hd] at hu <;> cases d <;> simp at hu <;> simp

/-! constants, operands -/
def ofConst : Value → V
  | .int k n => .int k n
  | .bool b => .bool b
  | .string s => .str s.data.toList
  | .pointer none => .nilp
  | .slice none 0 0 => .isl false 0 []
  | .nilFunc => .nilfn
  | .nilIface => .nilif
  | _ => .dead

def ev (st : St) : Operand → V
  | .tmp t => st.s t
  | .const v => ofConst v
  | .global _ => .dead
  | .func f => .fn f []

section
variable {E : Env} {I : Nat → Prop} {h : Nat → Value} {F : Nat → List Nat} {st : St} {a : Act} {w : World}

theorem SV_const (H : Heap) (I : Nat → Prop) (h : Nat → Value) (o : Nat → V) (v : Value) : SV H I h o (ofConst v) v := by
  cases v with
  | int k n => simp [ofConst, SV, SV1, srep, rep]
  | bool b => simp [ofConst, SV, SV1, srep, rep]
  | string s => simp [ofConst, SV, SV1, srep, rep]
  | pointer p => cases p <;> simp [ofConst, SV, SV1, srep, rep]
  | slice p l c =>
    cases p with
    | some _ => simp [ofConst, SV, SV1]
    | none =>
      cases l with
      | zero => cases c <;> simp [ofConst, SV, SV1, srep, rep]
      | succ l => simp [ofConst, SV, SV1]
  | nilFunc => simp [ofConst, SV, SV1, srep, rep]
  | nilIface => simp [ofConst, SV, SV1, srep, rep]
  | _ => simp [ofConst, SV, SV1]

theorem SatW.ev (hs : SatW E I h F st a w) (x : Operand) : SV (hp w) I h st.o (ev st x) (a.eval x) := by
  cases x with
  | tmp t => exact hs.slot t
  | const v => exact SV_const _ _ _ _ v
  | global g => simp [Lite.ev, SV, SV1]
  | func f => simp [Lite.ev, SV, SV1, srep, srepL, Act.eval]
end

/-! scalars -/
def strMax : Nat := 9223372036854775807

def binV (op : BinOp) (ti : TyI) (x y : V) : Option V :=
  match x, y with
  | .int k a, .int k' b =>
    match op with
    | .shl => if b < 0 then none else some (.int k (k.wrap (a * 2 ^ (min b.toNat k.bits))))
    | .shr => if b < 0 then none else some (.int k (a.fdiv (2 ^ (min b.toNat k.bits))))
    | _ =>
      if k = k' then
        match op with
        | .add => some (.int k (k.wrap (a + b)))
        | .sub => some (.int k (k.wrap (a - b)))
        | .mul => some (.int k (k.wrap (a * b)))
        | .quo => if b = 0 then none else some (.int k (k.wrap (a.tdiv b)))
        | .rem => if b = 0 then none else some (.int k (a.tmod b))
        | .and => some (.int k (k.wrap (BitVec.ofInt k.bits a &&& BitVec.ofInt k.bits b).toNat))
        | .or => some (.int k (k.wrap (BitVec.ofInt k.bits a ||| BitVec.ofInt k.bits b).toNat))
        | .xor => some (.int k (k.wrap (BitVec.ofInt k.bits a ^^^ BitVec.ofInt k.bits b).toNat))
        | .eql => some (.bool (a == b))
        | .neq => some (.bool (a != b))
        | .lss => some (.bool (decide (a < b)))
        | .leq => some (.bool (decide (a ≤ b)))
        | .gtr => some (.bool (decide (a > b)))
        | .geq => some (.bool (decide (a ≥ b)))
        | _ => none
      else none
  | .str a, .str b =>
    match op with
    | .add => if a.length + b.length ≤ strMax then some (.str (a ++ b)) else none
    | .eql => some (.bool (a == b))
    | .neq => some (.bool (a != b))
    | _ => none
  | .bool a, .bool b =>
    if ti.known = true ∧ ti.kd = .bool then
      match op with
      | .eql => some (.bool (a == b))
      | .neq => some (.bool (a != b))
      | _ => none
    else none
  | .nilif, .nilif => none
  | .err, .nilif =>
    if ti.known = true ∧ ti.kd = .iface then
      match op with
      | .eql => some (.bool false)
      | .neq => some (.bool true)
      | _ => none
    else none
  | .isl nn _ _, .isl false _ [] =>
    if ti.known = true ∧ ti.kd.isSlice = true then
      match op with
      | .eql => some (.bool (!nn))
      | .neq => some (.bool nn)
      | _ => none
    else none
  | .sl _ _ _ _, .isl false _ [] =>
    if ti.known = true ∧ ti.kd.isSlice = true then
      match op with
      | .eql => some (.bool false)
      | .neq => some (.bool true)
      | _ => none
    else none
  | _, _ => none

/-- what a slot's value says of the model's value, for scalars -/
theorem SV_int {H : Heap} {I : Nat → Prop} {h : Nat → Value} {o : Nat → V} {k : IntKind} {n : Int} {v : Value} : SV H I h o (.int k n) v ↔ v = .int k n := by simp [SV, SV1, srep, rep]
theorem SV_bool {H : Heap} {I : Nat → Prop} {h : Nat → Value} {o : Nat → V} {b : Bool} {v : Value} : SV H I h o (.bool b) v ↔ v = .bool b := by simp [SV, SV1, srep, rep]
theorem SV_str {H : Heap} {I : Nat → Prop} {h : Nat → Value} {o : Nat → V} {s : List UInt8} {v : Value} : SV H I h o (.str s) v ↔ v = .string ⟨s.toArray⟩ := by simp [SV, SV1, srep, rep]
theorem SV_nilif {H : Heap} {I : Nat → Prop} {h : Nat → Value} {o : Nat → V} {v : Value} : SV H I h o .nilif v ↔ v = .nilIface := by simp [SV, SV1, srep, rep]
theorem SV_nilp {H : Heap} {I : Nat → Prop} {h : Nat → Value} {o : Nat → V} {v : Value} : SV H I h o .nilp v ↔ v = .pointer none := by simp [SV, SV1, srep, rep]
theorem SV_err {H : Heap} {I : Nat → Prop} {h : Nat → Value} {o : Nat → V} {v : Value} : SV H I h o .err v ↔ ∃ t u, v = .iface t u := by simp [SV, SV1, srep, rep]

theorem SV_isl {H : Heap} {I : Nat → Prop} {h : Nat → Value} {o : Nat → V} {nn : Bool} {s : Nat} {xs : List V} {v : Value} (hv : SV H I h o (.isl nn s xs) v) :
    ∃ a cap, v = .slice a xs.length cap ∧ a.isSome = nn ∧ xs.length ≤ cap ∧ (nn = false → xs = [] ∧ cap = 0) := by
  simp only [SV, SV1, srep, rep] at hv
  cases nn with
  | false =>
    obtain ⟨rfl, h2⟩ := hv.2.1 rfl
    exact ⟨none, 0, by simpa using h2, rfl, by simp, by simp⟩
  | true =>
    obtain ⟨b, ob, cap, h1, h2, _⟩ := hv.2.2 rfl
    exact ⟨_, cap, by simpa using h1, rfl, h2, by simp⟩

theorem SV_sl {H : Heap} {I : Nat → Prop} {h : Nat → Value} {o : Nat → V} {n : Nat} {p : List Nat} {off len : Nat} {v : Value} (hv : SV H I h o (.sl n p off len) v) :
    ∃ a cap, v = .slice (some a) len cap ∧ len ≤ cap := by
  simp only [SV, SV1, srep] at hv
  obtain ⟨s, ys, b, ob, L, cap, _, _, h1, h2, oo, h3, _⟩ := hv
  exact ⟨_, _, by simpa using h3, by omega⟩


section
variable {P : Program} {t : Nat} (w : World)
theorem eq_bool (hu : P.underlying t = some .bool) (d : Nat) (a b : Bool) : (Op.equalIn (d + 1) t (.bool a) (.bool b)).run P w = .ok (a == b) w := by
  unfold Op.equalIn; simp [run_underlying hu]
theorem eq_err {ms} (hu : P.underlying t = some (.interface ms)) (d : Nat) (t' : TypeId) (u : Value) : (Op.equalIn (d + 1) t (.iface t' u) .nilIface).run P w = .ok false w := by
  unfold Op.equalIn; simp [run_underlying hu]
theorem eq_sl {e} (hu : P.underlying t = some (.slice e)) (d : Nat) (A : Option Addr) (l c l' c' : Nat) : (Op.equalIn (d + 1) t (.slice A l c) (.slice none l' c')).run P w = .ok A.isNone w := by
  unfold Op.equalIn; cases A <;> simp [run_underlying hu]
theorem equal_of {x y : Value} {r : Bool} (h : ∀ d, (Op.equalIn (d + 1) t x y).run P w = .ok r w) : (Op.equal t x y).run P w = .ok r w := h 9999
theorem eql_bool (hu : P.underlying t = some .bool) (a b : Bool) : (binOp .eql t (.bool a) (.bool b)).run P w = .ok (.bool (a == b)) w := by
  simp only [binOp, Sem.run_bind, equal_of w (fun d => eq_bool w hu d a b), Result.andThen_ok, Sem.run_pure]
theorem neq_bool (hu : P.underlying t = some .bool) (a b : Bool) : (binOp .neq t (.bool a) (.bool b)).run P w = .ok (.bool (a != b)) w := by
  simp only [binOp, Sem.run_bind, equal_of w (fun d => eq_bool w hu d a b), Result.andThen_ok, Sem.run_pure, bne]
theorem eql_err {ms} (hu : P.underlying t = some (.interface ms)) (t' : TypeId) (u : Value) : (binOp .eql t (.iface t' u) .nilIface).run P w = .ok (.bool false) w := by
  simp only [binOp, Sem.run_bind, equal_of w (fun d => eq_err w hu d t' u), Result.andThen_ok, Sem.run_pure]
theorem neq_err {ms} (hu : P.underlying t = some (.interface ms)) (t' : TypeId) (u : Value) : (binOp .neq t (.iface t' u) .nilIface).run P w = .ok (.bool true) w := by
  simp only [binOp, Sem.run_bind, equal_of w (fun d => eq_err w hu d t' u), Result.andThen_ok, Sem.run_pure]; rfl
theorem eql_sl {e} (hu : P.underlying t = some (.slice e)) (A : Option Addr) (l c l' c' : Nat) : (binOp .eql t (.slice A l c) (.slice none l' c')).run P w = .ok (.bool A.isNone) w := by
  simp only [binOp, Sem.run_bind, equal_of w (fun d => eq_sl w hu d A l c l' c'), Result.andThen_ok, Sem.run_pure]
theorem neq_sl {e} (hu : P.underlying t = some (.slice e)) (A : Option Addr) (l c l' c' : Nat) : (binOp .neq t (.slice A l c) (.slice none l' c')).run P w = .ok (.bool !A.isNone) w := by
  simp only [binOp, Sem.run_bind, equal_of w (fun d => eq_sl w hu d A l c l' c'), Result.andThen_ok, Sem.run_pure]
end

theorem binop_ok {P : Program} {ty : Nat → TyI} (hty : TyOk P ty) {H : Heap} {I : Nat → Prop} {h : Nat → Value} {o : Nat → V} {op : BinOp} {t : Nat} {x y z : V} {xo yo : Operand} {v u : Value}
    (hb : binV op (ty t) x y = some z) (hx : SV H I h o x v) (hy : SV H I h o y u) :
    ∃ r, (∀ w, (do eqGuard op t xo yo v u; binOp op t v u : Sem Value).run P w = .ok r w) ∧ SV H I h o z r := by
  unfold binV at hb
  split at hb
  ·
    rename_i k a k' b
    rw [SV_int] at hx hy
    subst hx hy
    have hg : ∀ w : World, (eqGuard op t xo yo (.int k a) (.int k' b)).run P w = .ok () w := by
      intro w
      unfold eqGuard; cases op <;> simp
    simp only [Sem.run_bind, hg, Result.andThen_ok]
    split at hb
    · split at hb
      · cases hb
      · rename_i hneg; simp at hb; subst hb
        exact ⟨_, fun w => by simp [binOp, Op.shift, hneg]; rfl, by rw [SV_int]⟩
    · split at hb
      · cases hb
      · rename_i hneg; simp at hb; subst hb
        exact ⟨_, fun w => by simp [binOp, Op.shift, hneg]; rfl, by rw [SV_int]⟩
    · rename_i ns1 ns2
      split at hb
      · rename_i hk
        subst hk
        cases op <;> simp only [Option.some.injEq, reduceCtorEq] at hb <;> first
          | (subst hb; exact ⟨_, fun w => by simp [binOp, Op.intArith]; rfl, by rw [SV_int]⟩)
          | (split at hb; · cases hb
             · rename_i hz; simp only [Option.some.injEq] at hb; subst hb; exact ⟨_, fun w => by simp [binOp, Op.intDiv, hz]; rfl, by rw [SV_int]⟩)
          | (subst hb; exact ⟨_, fun w => by simp only [binOp]; simp; rfl, by rw [SV_int]⟩)
          | (subst hb; exact ⟨_, fun w => by simp [binOp, Op.intCmp]; rfl, by rw [SV_bool]⟩)
          | (exact absurd rfl ns1)
          | (exact absurd rfl ns2)
      · cases hb
  ·
    rename_i a b
    rw [SV_str] at hx hy
    subst hx hy
    have hg : ∀ w : World, (eqGuard op t xo yo (.string ⟨a.toArray⟩) (.string ⟨b.toArray⟩)).run P w = .ok () w := by
      intro w
      unfold eqGuard; cases op <;> simp
    simp only [Sem.run_bind, hg, Result.andThen_ok]
    split at hb
    · split at hb
      · rename_i hl
        simp only [Option.some.injEq] at hb; subst hb
        refine ⟨.string ⟨(a ++ b).toArray⟩, ?_, by rw [SV_str]⟩
        intro w; rw [binOp_string_add, run_string_add_sum]
        · congr 2
        · simpa [ByteArray.size, strMax] using hl
      · cases hb
    · simp only [Option.some.injEq] at hb; subst hb
      exact ⟨.bool (a == b), by simp [binOp_string_eql], by rw [SV_bool]⟩
    · simp only [Option.some.injEq] at hb; subst hb
      exact ⟨.bool (a != b), by simp [binOp_string_neq, bne], by rw [SV_bool]⟩
    · cases hb
  ·
    rename_i a b
    rw [SV_bool] at hx hy
    subst hx hy
    split at hb
    · rename_i hk
      have hu := hty.kd_bool hk.1 hk.2
      have hg : ∀ w : World, (eqGuard op t xo yo (.bool a) (.bool b)).run P w = .ok () w := by
        intro w
        unfold eqGuard; cases op <;> simp
      simp only [Sem.run_bind, hg, Result.andThen_ok]
      split at hb
      · simp only [Option.some.injEq] at hb; subst hb
        exact ⟨_, fun w => eql_bool w hu a b, by rw [SV_bool]⟩
      · simp only [Option.some.injEq] at hb; subst hb
        exact ⟨_, fun w => neq_bool w hu a b, by rw [SV_bool]⟩
      · cases hb
    · cases hb
  · cases hb
  ·
    rw [SV_err] at hx
    rw [SV_nilif] at hy
    obtain ⟨t', u', rfl⟩ := hx
    subst hy
    split at hb
    · rename_i hk
      obtain ⟨ms, hu⟩ := hty.kd_iface hk.1 hk.2
      have hg : ∀ w : World, (eqGuard op t xo yo (.iface t' u') .nilIface).run P w = .ok () w := by
        intro w
        unfold eqGuard; cases op <;> simp
      simp only [Sem.run_bind, hg, Result.andThen_ok]
      split at hb
      · simp only [Option.some.injEq] at hb; subst hb
        exact ⟨_, fun w => eql_err w hu _ _, by rw [SV_bool]⟩
      · simp only [Option.some.injEq] at hb; subst hb
        exact ⟨_, fun w => neq_err w hu _ _, by rw [SV_bool]⟩
      · cases hb
    · cases hb
  ·
    rename_i nn s xs s'
    obtain ⟨A, cap, rfl, hA, _, _⟩ := SV_isl hx
    obtain ⟨B, cap', rfl, hB, _, _⟩ := SV_isl hy
    have hB' : B = none := by cases B <;> simp at hB ⊢
    subst hB'
    split at hb
    · rename_i hk
      have : ∃ e, (ty t).kd = .slice e := by
        have h2 := hk.2; unfold TK.isSlice at h2; split at h2
        · exact ⟨_, by assumption⟩
        · cases h2
      obtain ⟨e, he⟩ := this
      have hu := hty.kd_slice hk.1 he
      have hg : ∀ w : World, (eqGuard op t xo yo (.slice A xs.length cap) (.slice none ([] : List V).length cap')).run P w = .ok () w := by
        intro w
        unfold eqGuard; cases op <;> simp
      simp only [Sem.run_bind, hg, Result.andThen_ok]
      split at hb
      · simp only [Option.some.injEq] at hb; subst hb
        exact ⟨_, fun w => eql_sl w hu _ _ _ _ _, by rw [SV_bool]; subst hA; cases A <;> rfl⟩
      · simp only [Option.some.injEq] at hb; subst hb
        exact ⟨_, fun w => neq_sl w hu _ _ _ _ _, by rw [SV_bool]; subst hA; cases A <;> rfl⟩
      · cases hb
    · cases hb
  · rename_i n p off len s'
    obtain ⟨A, cap, rfl, _⟩ := SV_sl hx
    obtain ⟨B, cap', rfl, hB, _, _⟩ := SV_isl hy
    have hB' : B = none := by cases B <;> simp at hB ⊢
    subst hB'
    split at hb
    · rename_i hk
      have : ∃ e, (ty t).kd = .slice e := by
        have h2 := hk.2; unfold TK.isSlice at h2; split at h2
        · exact ⟨_, by assumption⟩
        · cases h2
      obtain ⟨e, he⟩ := this
      have hu := hty.kd_slice hk.1 he
      have hg : ∀ w : World, (eqGuard op t xo yo (.slice (some A) len cap) (.slice none ([] : List V).length cap')).run P w = .ok () w := by
        intro w
        unfold eqGuard; cases op <;> simp
      simp only [Sem.run_bind, hg, Result.andThen_ok]
      split at hb
      · simp only [Option.some.injEq] at hb; subst hb
        exact ⟨_, fun w => eql_sl w hu _ _ _ _ _, by rw [SV_bool]; rfl⟩
      · simp only [Option.some.injEq] at hb; subst hb
        exact ⟨_, fun w => neq_sl w hu _ _ _ _ _, by rw [SV_bool]; rfl⟩
      · cases hb
    · cases hb
  · cases hb

end Go.Lite

/- Places as values: fields, elements, cuts; the step of all operations that only compute. -/
namespace Go.Lite

theorem addr_add (b o n : Nat) : (⟨b, o, none⟩ : Addr).add n = ⟨b, o + n, none⟩ := by
  unfold Addr.add; split <;> simp_all

theorem get_snoc {j : Nat} : ∀ (p : List Nat) (x : V), x.get (p ++ [j]) = (x.get p).bind fun y => y.get [j]
  | [], x => by cases x <;> simp [V.get]
  | i :: p, x => by
    cases x with
    | agg fs =>
      simp only [List.cons_append, V.get]
      cases fs[i]? with
      | none => rfl
      | some y => exact get_snoc p y
    | own s xs =>
      simp only [List.cons_append, V.get]
      cases xs[i]? with
      | none => rfl
      | some y => exact get_snoc p y
    | _ => simp [V.get]

theorem nav_snoc {H : Heap} {j : Nat} : ∀ (p : List Nat) (x : V) (a : Nat × Nat), nav H x a (p ++ [j]) =
    match nav H x a p, x.get p with
    | some a', some y => nav H y a' [j]
    | _, _ => none
  | [], x, a => by cases x <;> simp [nav, V.get]
  | i :: p, x, a => by
    cases x with
    | agg fs =>
      simp only [List.cons_append, nav, V.get]
      cases fs[i]? with
      | none => simp
      | some y => exact nav_snoc p y _
    | own s xs =>
      simp only [List.cons_append, nav, V.get]
      cases hc : cellAt H a with
      | none => simp
      | some v =>
        cases v <;> try (simp; done)
        rename_i A l c
        cases A with
        | none => simp
        | some A =>
          simp only []
          cases xs[i]? with
          | none => simp
          | some y => exact nav_snoc p y _
    | _ => simp [nav]

theorem rget_snoc {j : Nat} {O : V} {p : List Nat} : rget O (p ++ [j]) = (rget O p).bind fun y => y.get [j] := by
  cases O <;> simp only [rget] <;> exact get_snoc p _

theorem rnav_snoc {H : Heap} {hv : Value} {j : Nat} {O : V} {p : List Nat} {a : Nat × Nat} {y : V} (hn : rnav H hv O p = some a) (hg : rget O p = some y) :
    rnav H hv O (p ++ [j]) = nav H y a [j] := by
  cases O with
  | bx x =>
    simp only [rnav, rget] at hn hg ⊢
    split at hn
    · rw [nav_snoc, hn, hg]
    · cases hn
  | own s xs =>
    cases p with
    | nil => simp [rnav] at hn
    | cons i p =>
      simp only [List.cons_append, rnav, rget, V.get] at hn hg ⊢
      split at hn
      · split at hn
        · rename_i y' hy'
          simp only [hy'] at hg ⊢
          rw [nav_snoc, hn, hg]
        · cases hn
      · cases hn
  | _ => simp [rnav] at hn

/-- the element of an owned slice that lies at a place -/
theorem rnav_elem {H : Heap} {hv : Value} {O : V} {p : List Nat} {s : Nat} {ys : List V} {b ob L cap : Nat} {i : Nat} (hO : O.isRoot = true)
    (hg : rget O p = some (.own s ys)) (hh : rhdr H hv O p = some (.slice (some ⟨b, ob, none⟩) L cap)) (hi : i < ys.length) :
    rnav H hv O (p ++ [i]) = some (b, ob + i * s) ∧ rget O (p ++ [i]) = ys[i]? := by
  have hg2 : rget O (p ++ [i]) = ys[i]? := by
    rw [rget_snoc, hg]
    simp [V.get, List.getElem?_eq_getElem hi]
  refine ⟨?_, hg2⟩
  cases O <;> simp [V.isRoot] at hO
  · rename_i s' xs
    cases p with
    | nil =>
      simp only [rhdr, Option.some.injEq] at hh
      simp only [rget, V.get, Option.some.injEq, V.own.injEq] at hg
      obtain ⟨rfl, rfl⟩ := hg
      subst hh
      simp [rnav, List.getElem?_eq_getElem hi, nav]
    | cons j p =>
      simp only [rhdr] at hh
      split at hh
      · rename_i a ha
        rw [rnav_snoc ha hg]
        simp [nav, hh, List.getElem?_eq_getElem hi]
      · cases hh
  · rename_i x
    simp only [rhdr] at hh
    split at hh
    · rename_i a ha
      rw [rnav_snoc ha hg]
      simp [nav, hh, List.getElem?_eq_getElem hi]
    · cases hh

theorem rnav_field {H : Heap} {hv : Value} {O : V} {p : List Nat} {fs : List V} {a : Nat × Nat} {j : Nat} (hn : rnav H hv O p = some a) (hg : rget O p = some (.agg fs)) (hj : j < fs.length) :
    rnav H hv O (p ++ [j]) = some (a.1, a.2 + sizeL (fs.take j)) ∧ rget O (p ++ [j]) = fs[j]? := by
  refine ⟨?_, ?_⟩
  · rw [rnav_snoc hn hg]; simp [nav, List.getElem?_eq_getElem hj]
  · rw [rget_snoc, hg]; simp [V.get, List.getElem?_eq_getElem hj]

/-! the steps -/
def unV : UnOp → V → Option V
  | .not, .bool b => some (.bool (!b))
  | .neg, .int k n => some (.int k (k.wrap (0 - n)))
  | _, _ => none

def convV (ts td : TyI) : V → Option V
  | .int _ n => if ts.known = true ∧ td.known = true then (match td.kd with | .int k => some (.int k (k.wrap n)) | _ => none) else none
  | .str s => if ts.known = true ∧ ts.kd = .str ∧ td.known = true ∧ td.kd = .str then some (.str s) else none
  | _ => none

def fieldAddrV (ti : TyI) (st : St) (x : V) (f : Nat) : Option V :=
  if ti.known = true ∧ ti.kd = .struct then
    match x with
    | .ref n p => match rget (st.o n) p with
      | some (.agg fs) => if f < fs.length ∧ (ti.fo.map (·.1))[f]? = some (sizeL (fs.take f)) then some (.ref n (p ++ [f])) else none
      | _ => none
    | .iptr (.agg fs) => if f < fs.length ∧ (ti.fo.map (·.1))[f]? = some (sizeL (fs.take f)) then some (.iptr (fs.getD f .dead)) else none
    | _ => none
  else none

def elemSz (ty : Nat → TyI) (t : Nat) : Option Nat :=
  if (ty t).known = true then
    match (ty t).kd with
    | .slice e => if (ty e).known = true then some (ty e).sz else none
    | _ => none
  else none

def indexAddrV (ty : Nat → TyI) (t : Nat) (st : St) (x i : V) : Option V :=
  match x, i with
  | .isl _ s xs, .int _ n => if elemSz ty t = some s ∧ 0 ≤ n ∧ n < xs.length then some (.iptr (xs.getD n.toNat .dead)) else none
  | .sl m p off len, .int _ n => match rget (st.o m) p with
    | some (.own s _) => if elemSz ty t = some s ∧ 0 ≤ n ∧ n < len then some (.ref m (p ++ [off + n.toNat])) else none
    | _ => none
  | _, _ => none

def boundV (d : Nat) : Option V → Option Int
  | none => some d
  | some (.int _ n) => some n
  | some _ => none

def sliceV (ty : Nat → TyI) (t : Nat) (st : St) (x : V) (lo hi : Option V) : Option V :=
  match x with
  | .str s => match boundV 0 lo, boundV s.length hi with
    | some l, some h => if (ty t).known = true ∧ (ty t).kd = .str ∧ 0 ≤ l ∧ l ≤ h ∧ h ≤ s.length then some (.str ((s.take h.toNat).drop l.toNat)) else none
    | _, _ => none
  | .isl true s xs => match boundV 0 lo, boundV xs.length hi with
    | some l, some h => if elemSz ty t = some s ∧ 0 ≤ l ∧ l ≤ h ∧ h ≤ xs.length then some (.isl true s ((xs.take h.toNat).drop l.toNat)) else none
    | _, _ => none
  | .isl false _ _ => match boundV 0 lo, boundV 0 hi with
    | some l, some h => if (elemSz ty t).isSome = true ∧ l = 0 ∧ h = 0 then some (.isl false 0 []) else none
    | _, _ => none
  | .sl m p off len => match boundV 0 lo, boundV len hi with
    | some l, some h => match rget (st.o m) p with
      | some (.own s _) => if elemSz ty t = some s ∧ 0 ≤ l ∧ l ≤ h ∧ h ≤ len then some (.sl m p (off + l.toNat) (h.toNat - l.toNat)) else none
      | _ => none
    | _, _ => none
  | _ => none

def lenV (ti : TyI) : V → Option V
  | .isl _ _ xs => if ti.known = true ∧ ti.kd.isSlice = true then some (.int .i64 xs.length) else none
  | .sl _ _ _ len => if ti.known = true ∧ ti.kd.isSlice = true then some (.int .i64 len) else none
  | .str s => if ti.known = true ∧ ti.kd = .str then some (.int .i64 s.length) else none
  | _ => none

def maxV : V → List V → Option V
  | x, [] => some x
  | .int k x, .int k' y :: r => if k = k' then maxV (.int k (if y > x then y else x)) r else none
  | _, _ => none

def minV : V → List V → Option V
  | x, [] => some x
  | .int k x, .int k' y :: r => if k = k' then minV (.int k (if y < x then y else x)) r else none
  | _, _ => none

/-- fit to be a part of a value -/
def V.part : V → Bool
  | .dead => false
  | .tup _ => false
  | .own _ _ => false
  | .bx _ => false
  | _ => true

def fillV : List V → List (Nat × V) → Option (List V)
  | fs, [] => some fs
  | fs, (i, x) :: r => if i < fs.length ∧ x.part = true ∧ x.size = (fs.getD i .dead).size then fillV (fs.set i x) r else none

def foOk : Nat → List V → List (Nat × Nat) → Bool
  | _, [], [] => true
  | o, x :: xs, (a, b) :: r => a == o && b == x.size && x.part && foOk (o + x.size) xs r
  | _, _, _ => false

def buildV (ti : TyI) (ps : List (Nat × V)) : Option V :=
  if ti.known = true ∧ ti.kd = .struct then
    match ti.z with
    | .agg zs => if foOk 0 zs ti.fo = true then (fillV zs ps).map .agg else none
    | _ => none
  else none

def nilCheckV : V → Option V
  | .ref n p => some (.ref n p)
  | .iptr x => some (.iptr x)
  | .fn f cs => some (.fn f cs)
  | _ => none

def stepV (ty : Nat → TyI) (st : St) : Op → Option V
  | .move x => some (ev st x)
  | .assign x => some (ev st x)
  | .pick c x y => match ev st c with | .bool t => some (if t = true then ev st x else ev st y) | _ => none
  | .binOp op t x y _ => binV op (ty t) (ev st x) (ev st y)
  | .unOp op _ x => unV op (ev st x)
  | .convert s d x => convV (ty s) (ty d) (ev st x)
  | .extract t i => match ev st t with | .tup vs => if i < vs.length then some (vs.getD i .dead) else none | _ => none
  | .fieldAddr t x f => fieldAddrV (ty t) st (ev st x) f
  | .indexAddr t x i => indexAddrV ty t st (ev st x) (ev st i)
  | .index t x i => match ev st x, ev st i with
    | .str s, .int _ n => if (ty t).known = true ∧ (ty t).kd = .str ∧ 0 ≤ n ∧ n < s.length then some (.int .u8 (s.getD n.toNat 0).toNat) else none
    | _, _ => none
  | .slice t x lo hi none => sliceV ty t st (ev st x) (lo.map (ev st)) (hi.map (ev st))
  | .nilCheck x => nilCheckV (ev st x)
  | .makeFunc (.func f) first caps => if first.size = 0 ∧ (caps.toList.all fun c => (ev st c).part && (ev st c).size == 1 && !(match ev st c with | .agg _ => true | _ => false)) = true then some (.fn f (caps.toList.map (ev st))) else none
  | .build t ps => buildV (ty t) (ps.toList.map fun p => (p.1, ev st p.2))
  | .call { callee := .builtin .len, args, argTypes } => match args.toList, argTypes.toList with
    | [x], [t] => lenV (ty t) (ev st x)
    | _, _ => none
  | .call { callee := .builtin .max, args, argTypes := _ } => match args.toList.map (ev st) with
    | x :: r => maxV x r
    | [] => none
  | .call { callee := .builtin .min, args, argTypes := _ } => match args.toList.map (ev st) with
    | x :: r => minV x r
    | [] => none
  | _ => none

/-! the model does the same -/
section
variable {P : Program} {ty : Nat → TyI} {E : Env} {I : Nat → Prop} {h : Nat → Value} {F : Nat → List Nat} {st : St} {a : Act} {w : World}

theorem root_of (hs : SatW E I h F st a w) {n : Nat} {p : List Nat} {y : V} (hg : rget (st.o n) p = some y) (hy : y ≠ .dead) :
    (st.o n).isRoot = true ∧ rep (hp w) I (st.o n) [h n] (F n) := by
  rcases hs.obj n with ⟨hd, _⟩ | h
  · rw [hd] at hg
    cases p <;> simp [rget, V.get] at hg
    exact absurd hg.symm hy
  · exact h

theorem elemSz_ok (hty : TyOk P ty) {t s : Nat} (he : elemSz ty t = some s) : ∃ e i, P.underlying t = some (.slice e) ∧ P.info? e = some i ∧ i.size = s ∧ (ty t).kd = .slice e ∧ (ty e).known = true := by
  unfold elemSz at he
  split at he
  · rename_i hk
    split at he
    · rename_i e hkd
      split at he
      · rename_i hke
        simp only [Option.some.injEq] at he
        obtain ⟨i, hi, hsz, _⟩ := hty.info hke
        exact ⟨e, i, hty.kd_slice hk hkd, hi, by rw [hsz, he], hkd, hke⟩
      · cases he
    · cases he
  · cases he

theorem fieldAddr_ok (hty : TyOk P ty) {t f : Nat} {x z : V} {v : Value} (hf : fieldAddrV (ty t) st x f = some z) (hx : SV (hp w) I h st.o x v) :
    ∃ r, (∀ W, (Instr.fieldAt t v f).run P W = .ok r W) ∧ SV (hp w) I h st.o z r := by
  unfold fieldAddrV at hf
  split at hf
  · rename_i hk
    obtain ⟨fs0, hu, hfo, hsz⟩ := hty.kd_struct hk.1 hk.2
    have field : ∀ (fs : List V) (b o : Nat), f < fs.length → ((ty t).fo.map (·.1))[f]? = some (sizeL (fs.take f)) → v = .pointer (some ⟨b, o, none⟩) →
        ∀ W, (Instr.fieldAt t v f).run P W = .ok (.pointer (some ⟨b, o + sizeL (fs.take f), none⟩)) W := by
      intro fs b o _ ho hv W
      subst hv
      rw [← hfo] at ho
      rw [List.map_map] at ho
      have : ∃ fd, fs0[f]? = some fd ∧ fd.offset = sizeL (fs.take f) := by
        rw [List.getElem?_map] at ho
        cases hq : fs0.toList[f]? with
        | none => rw [hq] at ho; cases ho
        | some fd => rw [hq] at ho; exact ⟨fd, by simpa using hq, by simpa using ho⟩
      obtain ⟨fd, hfd, hoff⟩ := this
      obtain ⟨i, hi, _, hnz⟩ := hsz fd (by have := Array.mem_of_getElem? hfd; simpa using this)
      unfold Instr.fieldAt
      simp [run_underlying hu, hfd, Instr.sureAddr, fieldPlace, sizeOf, typeInfo, hi, hnz, addr_add, hoff]
    split at hf
    · rename_i n p
      split at hf
      · rename_i fs hg
        split at hf
        · rename_i hc
          simp only [Option.some.injEq] at hf; subst hf
          simp only [SV, SV1, srep] at hx
          obtain ⟨ad, y, hn, hg', hv⟩ := hx
          obtain ⟨ha, hb⟩ := rnav_field hn hg hc.1
          refine ⟨_, field fs ad.1 ad.2 hc.1 hc.2 (by simpa using hv), ?_⟩
          simp only [SV, SV1, srep]
          exact ⟨_, fs[f]'hc.1, ha, by rw [hb, List.getElem?_eq_getElem hc.1], rfl⟩
        · cases hf
      · cases hf
    · rename_i fs
      split at hf
      · rename_i hc
        simp only [Option.some.injEq] at hf; subst hf
        simp only [SV, SV1, srep, rep] at hx
        obtain ⟨_, b, o, c, e, fr, ds, hv, hI, hH, hr, hw⟩ := hx
        refine ⟨_, field fs b o hc.1 hc.2 (by simpa using hv), ?_⟩
        have hj : fs[f]? = some (fs[f]'hc.1) := List.getElem?_eq_getElem hc.1
        obtain ⟨pre, d, post, L, G, R, rfl, hF, hlen, h1, h2, h3⟩ := repL_get hr hj
        simp only [SV, SV1, srep, rep]
        have hG : G = [] := by
          have := congrArg List.length hF; simp at this; exact List.eq_nil_of_length_eq_zero (by omega)
        subst hG
        refine ⟨trivial, b, _, c, e, fr, d, rfl, hI, hH, by rw [getD_of_some hj]; exact h2, ?_⟩
        rw [← hlen]; exact (win_app.1 (win_app.1 hw).1).2
      · cases hf
    · cases hf
  · cases hf

theorem indexAddr_ok (hty : TyOk P ty) (hs : SatW E I h F st a w) {t : Nat} {x i z : V} {v u : Value} (hf : indexAddrV ty t st x i = some z)
    (hx : SV (hp w) I h st.o x v) (hi : SV (hp w) I h st.o i u) :
    ∃ r, (∀ W, (Instr.indexAt t v u).run P W = .ok r W) ∧ SV (hp w) I h st.o z r := by
  unfold indexAddrV at hf
  split at hf
  · rename_i nn s xs k n
    split at hf
    · rename_i hc
      simp only [Option.some.injEq] at hf; subst hf
      obtain ⟨e, ie, hu, hie, hsz, _, _⟩ := elemSz_ok hty hc.1
      rw [SV_int] at hi; subst hi
      simp only [SV, SV1, srep, rep] at hx
      obtain ⟨_, h00, hx⟩ := hx
      have hnn : nn = true := by
        cases nn with
        | true => rfl
        | false => have h01 := (h00 rfl).1; subst h01; simp at hc; omega
      obtain ⟨b, o, cap, hv, hcap, huni, hx⟩ := hx hnn
      have hne : xs ≠ [] := by intro h0; subst h0; simp at hc; omega
      obtain ⟨hI, c, e', fr, ds, hH, hr, hw⟩ := hx.resolve_left hne
      have hv' : v = .slice (some ⟨b, o, none⟩) xs.length cap := by simpa using hv
      subst hv'
      have hlt : n.toNat < xs.length := by omega
      refine ⟨.pointer (some ⟨b, o + n.toNat * s, none⟩), ?_, ?_⟩
      · intro W; unfold Instr.indexAt 
        simp [asIntOf, run_underlying hu, hc.2.1, hc.2.2, sizeOf, typeInfo, hie, hsz, addr_add]
      · simp only [SV, SV1, srep, rep]
        have hj : xs[n.toNat]? = some (xs[n.toNat]'hlt) := List.getElem?_eq_getElem hlt
        obtain ⟨pre, d, post, L, G, R, rfl, hF, hlen, h1, h2, h3⟩ := repL_get hr hj
        have hG : G = [] := by
          have := congrArg List.length hF; simp at this; exact List.eq_nil_of_length_eq_zero (by omega)
        subst hG
        refine ⟨trivial, b, _, c, e', fr, d, rfl, hI, hH, by rw [getD_of_some hj]; exact h2, ?_⟩
        have hpl : pre.length = n.toNat * s := by
          rw [hlen, sizeL_uni (s := s) fun x hx => huni x (List.mem_of_mem_take hx)]
          simp [Nat.min_eq_left (Nat.le_of_lt hlt)]
        rw [← hpl]; exact (win_app.1 (win_app.1 hw).1).2
    · cases hf
  · rename_i m p off len k n
    split at hf
    · rename_i s ys hg
      split at hf
      · rename_i hc
        simp only [Option.some.injEq] at hf; subst hf
        obtain ⟨e, ie, hu, hie, hsz, _, _⟩ := elemSz_ok hty hc.1
        rw [SV_int] at hi; subst hi
        simp only [SV, SV1, srep] at hx
        obtain ⟨s', ys', b, ob, L, cap, hg', hh, hol, hcap, oo, hv, hoo⟩ := hx
        rw [hg] at hg'
        simp only [Option.some.injEq, V.own.injEq] at hg'
        obtain ⟨rfl, rfl⟩ := hg'
        have hv' : v = .slice (some ⟨b, oo, none⟩) len (cap - off) := by simpa using hv
        subst hv'
        have hoo' : oo = ob + off * s := hoo.resolve_right (fun hq => by omega)
        subst hoo'
        have hlt : off + n.toNat < ys.length := by omega
        obtain ⟨hroot, _⟩ := root_of hs hg (by simp)
        obtain ⟨ha, hb⟩ := rnav_elem hroot hg hh hlt
        refine ⟨.pointer (some ⟨b, ob + off * s + n.toNat * s, none⟩), ?_, ?_⟩
        · intro W; unfold Instr.indexAt 
          simp [asIntOf, run_underlying hu, hc.2.1, hc.2.2, sizeOf, typeInfo, hie, hsz, addr_add]
        · simp only [SV, SV1, srep]
          refine ⟨_, ys[off + n.toNat]'hlt, ha, by rw [hb, List.getElem?_eq_getElem hlt], ?_⟩
          simp [Nat.add_mul, Nat.add_assoc]
      · cases hf
    · cases hf
  · cases hf

def OSV (H : Heap) (I : Nat → Prop) (h : Nat → Value) (o : Nat → V) : Option V → Option Value → Prop
  | none, none => True
  | some x, some v => SV H I h o x v
  | _, _ => False

theorem bound_ok {d : Nat} {x : Option V} {v : Option Value} {n : Int} (hb : boundV d x = some n) (hx : OSV (hp w) I h st.o x v) :
    (x = none ∧ v = none ∧ n = d) ∨ ∃ k, v = some (.int k n) := by
  unfold boundV at hb
  split at hb
  · cases v with
    | none => exact .inl ⟨rfl, rfl, by simpa using hb.symm⟩
    | some v => simp [OSV] at hx
  · cases v with
    | none => simp [OSV] at hx
    | some v =>
      simp only [OSV, SV_int] at hx
      simp only [Option.some.injEq] at hb
      exact .inr ⟨_, by rw [hx, hb]⟩
  · cases hb

theorem bounds_run {isS : Bool} {len cap : Nat} {lo hi : Option V} {lv hv : Option Value} {l hh : Int} (hl : boundV 0 lo = some l) (hh' : boundV len hi = some hh)
    (hlo : OSV (hp w) I h st.o lo lv)
    (hhi : OSV (hp w) I h st.o hi hv)
    (h0 : 0 ≤ l) (h1 : l ≤ hh) (h2 : hh ≤ len) (h3 : len ≤ cap) :
    ∀ W, (Instr.sliceBounds isS len cap lv hv none).run P W = .ok (l.toNat, hh.toNat, cap) W := by
  intro W
  unfold Instr.sliceBounds
  rcases bound_ok hl hlo with ⟨rfl, rfl, rfl⟩ | ⟨k, rfl⟩
  · rcases bound_ok hh' hhi with ⟨rfl, rfl, rfl⟩ | ⟨k', rfl⟩
    · simp
    · have hc : hh ≤ (cap : Int) := by omega
      have hz : 0 ≤ hh := by omega
      simp [Instr.sliceBound, asIntOf, hc, hz]
  · rcases bound_ok hh' hhi with ⟨rfl, rfl, rfl⟩ | ⟨k', rfl⟩
    · simp [Instr.sliceBound, asIntOf, h0, h1]
    · have hc : hh ≤ (cap : Int) := by omega
      have hz : 0 ≤ hh := by omega
      have h4 : l ≤ max hh 0 := by omega
      simp [Instr.sliceBound, asIntOf, hc, hz, h0, h4]

theorem slice_ok (hty : TyOk P ty) {t : Nat} {x z : V} {lo hi : Option V} {v : Value} {lv hv : Option Value} (hf : sliceV ty t st x lo hi = some z)
    (hx : SV (hp w) I h st.o x v)
    (hlo : OSV (hp w) I h st.o lo lv)
    (hhi : OSV (hp w) I h st.o hi hv) :
    ∃ r, (∀ W, (Instr.sliceAt t v lv hv none).run P W = .ok r W) ∧ SV (hp w) I h st.o z r := by
  unfold sliceV at hf
  split at hf
  ·
    rename_i s
    split at hf
    · rename_i l hh e1 e2
      split at hf
      · rename_i hc
        simp only [Option.some.injEq] at hf; subst hf
        have hu := hty.kd_str hc.1 hc.2.1
        rw [SV_str] at hx; subst hx
        have hb := bounds_run (P := P) (isS := false) (cap := s.length) e1 e2 hlo hhi hc.2.2.1 hc.2.2.2.1 hc.2.2.2.2 (Nat.le_refl _)
        refine ⟨.string ((⟨s.toArray⟩ : ByteArray).extract l.toNat hh.toNat), ?_, ?_⟩
        · intro W; unfold Instr.sliceAt Instr.slice
          simp only [Sem.run_bind, run_underlying hu, Result.andThen_ok]
          have : (⟨s.toArray⟩ : ByteArray).size = s.length := by simp [ByteArray.size]
          simp [this, hb]
        · rw [SV_str]
          congr 1
          apply ByteArray.ext
          simp [ByteArray.data_extract, List.take_drop]
          have : l.toNat + (hh.toNat - l.toNat) = hh.toNat := by omega
          rw [this]
      · cases hf
    · cases hf
  ·
    rename_i s xs
    split at hf
    · rename_i l hh e1 e2
      split at hf
      · rename_i hc
        simp only [Option.some.injEq] at hf; subst hf
        obtain ⟨e, ie, hu, hie, hsz, _, _⟩ := elemSz_ok hty hc.1
        simp only [SV, SV1, srep, rep] at hx
        obtain ⟨_, _, hx⟩ := hx
        obtain ⟨b, o, cap, hv, hcap, huni, hx2⟩ := hx trivial
        clear hx
        have hv' : v = .slice (some ⟨b, o, none⟩) xs.length cap := by simpa using hv
        subst hv'
        have hb := bounds_run (P := P) (isS := true) (cap := cap) e1 e2 hlo hhi hc.2.1 hc.2.2.1 hc.2.2.2 hcap
        refine ⟨.slice (some (if cap = l.toNat then ⟨b, o, none⟩ else ⟨b, o + l.toNat * s, none⟩)) (hh.toNat - l.toNat) (cap - l.toNat), ?_, ?_⟩
        · intro W; unfold Instr.sliceAt Instr.slice
          simp only [Sem.run_bind, run_underlying hu, Result.andThen_ok]
          simp [hb, sizeOf, typeInfo, hie, hsz, addr_add]
          split <;> rfl
        · simp only [SV, SV1, srep, rep]
          have hlen : ((xs.take hh.toNat).drop l.toNat).length = hh.toNat - l.toNat := by simp; omega
          refine ⟨trivial, by simp, fun _ => ⟨b, if cap = l.toNat then o else o + l.toNat * s, cap - l.toNat, ?_, by rw [hlen]; omega, ?_, ?_⟩⟩
          · rw [hlen]; split <;> rfl
          · intro y hy; exact huni y (List.mem_of_mem_take (List.mem_of_mem_drop hy))
          · by_cases he : (xs.take hh.toNat).drop l.toNat = []
            · exact .inl he
            · right
              have hlt : l.toNat < hh.toNat := by
                rcases Nat.lt_or_ge l.toNat hh.toNat with h | h
                · exact h
                · exact absurd (List.eq_nil_of_length_eq_zero (by rw [hlen]; omega)) he
              have hne : xs ≠ [] := by intro h0; subst h0; simp at he
              obtain ⟨hI, c, e', fr, ds, hH, hr, hw⟩ := hx2.resolve_left hne
              have hcn : ¬ cap = l.toNat := by omega
              simp only [hcn, if_false]
              have hsplit : xs = xs.take l.toNat ++ ((xs.take hh.toNat).drop l.toNat ++ xs.drop hh.toNat) := by
                have e3 : xs.take hh.toNat = xs.take l.toNat ++ (xs.take hh.toNat).drop l.toNat := by
                  have : (xs.take hh.toNat).take l.toNat = xs.take l.toNat := by rw [List.take_take, Nat.min_eq_left (by omega)]
                  rw [← this, List.take_append_drop]
                rw [← List.append_assoc, ← e3, List.take_append_drop]
              rw [hsplit] at hr
              obtain ⟨d1, d2, G1, G2, rfl, hG, r1, r2⟩ := repL_app.1 hr
              obtain ⟨d3, d4, G3, G4, rfl, hG', r3, r4⟩ := repL_app.1 r2
              have hG3 : G3 = [] := by
                have hh1 := congrArg List.length hG
                have hh2 := congrArg List.length hG'
                simp at hh1 hh2; exact List.eq_nil_of_length_eq_zero (by omega)
              subst hG3
              refine ⟨hI, c, e', fr, d3, hH, r3, ?_⟩
              have hl1 : d1.length = l.toNat * s := by
                rw [repL_len r1, sizeL_uni (s := s) fun x hx => huni x (List.mem_of_mem_take hx)]
                rw [List.length_take, Nat.min_eq_left (by omega)]
              rw [← hl1]
              exact (win_app.1 (win_app.1 hw).2).1
      · cases hf
    · cases hf
  ·
    rename_i s' xs'
    split at hf
    · rename_i l hh e1 e2
      split at hf
      · rename_i hc
        simp only [Option.some.injEq] at hf; subst hf
        obtain ⟨s, hsome⟩ := Option.isSome_iff_exists.1 hc.1
        obtain ⟨e, ie, hu, hie, hsz, _, _⟩ := elemSz_ok hty hsome
        obtain ⟨A, cap, rfl, hA, hcap, hz⟩ := SV_isl hx
        obtain ⟨rfl, rfl⟩ := hz rfl
        have hA' : A = none := by cases A <;> simp at hA ⊢
        subst hA'
        have hl0 : l = 0 := hc.2.1
        have hh0 : hh = 0 := hc.2.2
        subst hl0 hh0
        have hb := bounds_run (P := P) (isS := true) (len := 0) (cap := 0) e1 e2 hlo hhi (by omega) (by omega) (by omega) (by omega)
        refine ⟨.slice none 0 0, ?_, by simp [SV, SV1, srep, rep]⟩
        unfold Instr.sliceAt Instr.slice
        simp only [Sem.run_bind, run_underlying hu, Result.andThen_ok, List.length_nil]
        simp [hb, sizeOf, typeInfo, hie]
      · cases hf
    · cases hf
  ·
    rename_i m p off len
    split at hf
    · rename_i l hh e1 e2
      split at hf
      · rename_i s ys hg
        split at hf
        · rename_i hc
          simp only [Option.some.injEq] at hf; subst hf
          obtain ⟨e, ie, hu, hie, hsz, _, _⟩ := elemSz_ok hty hc.1
          simp only [SV, SV1, srep] at hx
          obtain ⟨s', ys', b, ob, L, cap, hg', hhd, hol, hcap, oo, hv, hoo⟩ := hx
          rw [hg] at hg'
          simp only [Option.some.injEq, V.own.injEq] at hg'
          obtain ⟨rfl, rfl⟩ := hg'
          have hv' : v = .slice (some ⟨b, oo, none⟩) len (cap - off) := by simpa using hv
          subst hv'
          have hb := bounds_run (P := P) (isS := true) (cap := cap - off) e1 e2 hlo hhi hc.2.1 hc.2.2.1 hc.2.2.2 (by omega)
          refine ⟨.slice (some (if cap - off = l.toNat then ⟨b, oo, none⟩ else ⟨b, oo + l.toNat * s, none⟩)) (hh.toNat - l.toNat) (cap - off - l.toNat), ?_, ?_⟩
          · intro W; unfold Instr.sliceAt Instr.slice
            simp only [Sem.run_bind, run_underlying hu, Result.andThen_ok]
            simp [hb, sizeOf, typeInfo, hie, hsz, addr_add]
            split <;> rfl
          · simp only [SV, SV1, srep]
            refine ⟨s, ys, b, ob, L, cap, hg, hhd, by omega, hcap, if cap - off = l.toNat then oo else oo + l.toNat * s, ?_, ?_⟩
            · rw [Nat.sub_sub]; split <;> rfl
            · by_cases hq : cap - off = l.toNat
              · simp only [hq, if_true]
                by_cases hl0 : l.toNat = 0
                · rw [hl0, Nat.add_zero]; exact hoo
                · right
                  refine ⟨by omega, ?_, by omega⟩
                  have : off * s ≤ (off + l.toNat) * s := Nat.mul_le_mul_right _ (by omega)
                  rcases hoo with h | h <;> omega
              · simp only [hq, if_false]
                rcases hoo with h | h
                · left; rw [h, Nat.add_mul]; omega
                · exfalso; omega
        · cases hf
      · cases hf
    · cases hf
  · cases hf

theorem len_ok (hty : TyOk P ty) {t T : Nat} {x z : V} {v : Value} (hf : lenV (ty t) x = some z) (hx : SV (hp w) I h st.o x v) :
    ∃ r, (∀ W, (Builtin.len_ #[t] T #[v]).run P W = .ok r W) ∧ SV (hp w) I h st.o z r := by
  unfold lenV at hf
  split at hf
  · split at hf
    · rename_i hc
      simp only [Option.some.injEq] at hf; subst hf
      have : ∃ e, (ty t).kd = .slice e := by
        have h2 := hc.2; unfold TK.isSlice at h2; split at h2
        · exact ⟨_, by assumption⟩
        · cases h2
      obtain ⟨e, he⟩ := this
      have hu := hty.kd_slice hc.1 he
      obtain ⟨A, cap, rfl, _⟩ := SV_isl hx
      exact ⟨_, fun W => by simp [Builtin.len_, run_underlying hu]; rfl, by rw [SV_int]; rfl⟩
    · cases hf
  · split at hf
    · rename_i hc
      simp only [Option.some.injEq] at hf; subst hf
      have : ∃ e, (ty t).kd = .slice e := by
        have h2 := hc.2; unfold TK.isSlice at h2; split at h2
        · exact ⟨_, by assumption⟩
        · cases h2
      obtain ⟨e, he⟩ := this
      have hu := hty.kd_slice hc.1 he
      obtain ⟨A, cap, rfl, _⟩ := SV_sl hx
      exact ⟨_, fun W => by simp [Builtin.len_, run_underlying hu]; rfl, by rw [SV_int]; rfl⟩
    · cases hf
  · split at hf
    · rename_i s hc
      simp only [Option.some.injEq] at hf; subst hf
      have hu := hty.kd_str hc.1 hc.2
      rw [SV_str] at hx; subst hx
      have : (⟨s.toArray⟩ : ByteArray).size = s.length := by simp [ByteArray.size]
      exact ⟨_, fun W => by simp [Builtin.len_, run_underlying hu, this]; rfl, by rw [SV_int]; rfl⟩
    · cases hf
  · cases hf

theorem un_ok {op : UnOp} {x z : V} {v : Value} (hf : unV op x = some z) (hx : SV (hp w) I h st.o x v) :
    ∃ r, (∀ W, (Op.unary op v).run P W = .ok r W) ∧ SV (hp w) I h st.o z r := by
  unfold unV at hf
  split at hf
  · simp only [Option.some.injEq] at hf; subst hf
    rw [SV_bool] at hx; subst hx
    exact ⟨_, fun W => by simp [Op.unary]; rfl, by rw [SV_bool]⟩
  · simp only [Option.some.injEq] at hf; subst hf
    rw [SV_int] at hx; subst hx
    exact ⟨_, fun W => by simp [Op.unary, Op.intArith]; rfl, by rw [SV_int]; simp⟩
  · cases hf

theorem conv_ok (hty : TyOk P ty) {s d : Nat} {x z : V} {v : Value} (hf : convV (ty s) (ty d) x = some z) (hx : SV (hp w) I h st.o x v) :
    ∃ r, (∀ W, (convert s d v).run P W = .ok r W) ∧ SV (hp w) I h st.o z r := by
  unfold convV at hf
  split at hf
  · split at hf
    · rename_i hc
      split at hf
      · rename_i k hk
        simp only [Option.some.injEq] at hf; subst hf
        have hu := hty.kd_int hc.2 hk
        obtain ⟨i, _, _, _, hs⟩ := hty.info hc.1
        rw [SV_int] at hx; subst hx
        have : ∃ D, P.underlying s = some D := by
          unfold tkOk at hs
          cases hp : P.underlying s with
          | some D => exact ⟨D, rfl⟩
          | none => rw [hp] at hs; cases (ty s).kd <;> simp at hs
        obtain ⟨D, hD⟩ := this
        refine ⟨_, ?_, by rw [SV_int]⟩
        simp only [convert, Sem.run_bind, run_underlying hu, run_underlying hD, Result.andThen_ok]
        simp [Conv.intToInt]
      · cases hf
    · cases hf
  · split at hf
    · rename_i hc
      simp only [Option.some.injEq] at hf; subst hf
      have hu := hty.kd_str hc.1 hc.2.1
      have hu' := hty.kd_str hc.2.2.1 hc.2.2.2
      rw [SV_str] at hx; subst hx
      refine ⟨_, ?_, by rw [SV_str]⟩
      simp only [convert, Sem.run_bind, run_underlying hu, run_underlying hu', Result.andThen_ok]
      simp
    · cases hf
  · cases hf

theorem max_ok : ∀ {x z : V} {r : List V} {v : Value} {rv : List Value}, maxV x r = some z → SV (hp w) I h st.o x v → r.length = rv.length →
    (∀ (i : Nat) y u, r[i]? = some y → rv[i]? = some u → SV (hp w) I h st.o y u) → ∃ u, (∀ W, (rv.foldlM Builtin.max2 v).run P W = .ok u W) ∧ SV (hp w) I h st.o z u
  | x, z, [], v, rv, hf, hx, hl, hr => by
    have : rv = [] := List.eq_nil_of_length_eq_zero (by simpa using hl.symm)
    subst this
    have : x = z := by cases x <;> simpa [maxV] using hf
    subst this
    exact ⟨v, fun W => by simp, hx⟩
  | x, z, y :: r, v, rv, hf, hx, hl, hr => by
    cases rv with
    | nil => simp at hl
    | cons u rv =>
      have hy := hr 0 y u (by simp) (by simp)
      cases x <;> try (simp only [maxV, reduceCtorEq] at hf; done)
      cases y <;> try (simp only [maxV, reduceCtorEq] at hf; done)
      rename_i k n k' n'
      simp only [maxV] at hf
      split at hf
      · rename_i hk; subst hk
        rw [SV_int] at hx hy; subst hx hy
        obtain ⟨u', h1, h2⟩ := max_ok (rv := rv) (v := .int k (if n' > n then n' else n)) hf (by rw [SV_int]) (by simpa using hl) (fun i y u h1 h2 => hr (i + 1) y u (by simpa using h1) (by simpa using h2))
        exact ⟨u', fun W => by simp only [List.foldlM_cons, Sem.run_bind, Builtin.max2, Sem.run_pure, Result.andThen_ok]; exact h1 W, h2⟩
      · cases hf

theorem min_ok : ∀ {x z : V} {r : List V} {v : Value} {rv : List Value}, minV x r = some z → SV (hp w) I h st.o x v → r.length = rv.length →
    (∀ (i : Nat) y u, r[i]? = some y → rv[i]? = some u → SV (hp w) I h st.o y u) → ∃ u, (∀ W, (rv.foldlM Builtin.min2 v).run P W = .ok u W) ∧ SV (hp w) I h st.o z u
  | x, z, [], v, rv, hf, hx, hl, hr => by
    have : rv = [] := List.eq_nil_of_length_eq_zero (by simpa using hl.symm)
    subst this
    have : x = z := by cases x <;> simpa [minV] using hf
    subst this
    exact ⟨v, fun W => by simp, hx⟩
  | x, z, y :: r, v, rv, hf, hx, hl, hr => by
    cases rv with
    | nil => simp at hl
    | cons u rv =>
      have hy := hr 0 y u (by simp) (by simp)
      cases x <;> try (simp only [minV, reduceCtorEq] at hf; done)
      cases y <;> try (simp only [minV, reduceCtorEq] at hf; done)
      rename_i k n k' n'
      simp only [minV] at hf
      split at hf
      · rename_i hk; subst hk
        rw [SV_int] at hx hy; subst hx hy
        obtain ⟨u', h1, h2⟩ := min_ok (rv := rv) (v := .int k (if n' < n then n' else n)) hf (by rw [SV_int]) (by simpa using hl) (fun i y u h1 h2 => hr (i + 1) y u (by simpa using h1) (by simpa using h2))
        exact ⟨u', fun W => by simp only [List.foldlM_cons, Sem.run_bind, Builtin.min2, Sem.run_pure, Result.andThen_ok]; exact h1 W, h2⟩
      · cases hf

/-! parts of values -/
theorem srepL_len {H : Heap} {I : Nat → Prop} {h : Nat → Value} {o : Nat → V} : ∀ {xs : List V} {cs : List Value}, srepL H I h o xs cs → (∀ x ds, srep H I h o x ds → ds.length = x.size) → cs.length = sizeL xs
  | [], cs, hh, _ => by simp only [srepL] at hh; simp [hh, sizeL]
  | x :: xs, cs, hh, hx => by
    simp only [srepL] at hh
    obtain ⟨d, ds, rfl, h1, h2⟩ := hh
    simp [sizeL, hx x d h1, srepL_len h2 hx]

mutual
theorem srep_len {H : Heap} {I : Nat → Prop} {h : Nat → Value} {o : Nat → V} : ∀ {x : V} {cs : List Value}, srep H I h o x cs → cs.length = x.size
  | .agg fs, cs, hh => by simp only [srep] at hh; simp only [V.size]; exact srepL_len' hh
  | .sl n p a l, cs, hh => by simp only [srep] at hh; obtain ⟨_, _, _, _, _, _, _, _, _, _, _, rfl, _⟩ := hh; simp [V.size]
  | .ref n p, cs, hh => by simp only [srep] at hh; obtain ⟨_, _, _, _, rfl⟩ := hh; simp [V.size]
  | .fn f caps, cs, hh => by simp only [srep] at hh; obtain ⟨_, rfl, _⟩ := hh; simp [V.size]
  | .own _ _, cs, hh => by simp [srep] at hh
  | .bx _, cs, hh => by simp [srep] at hh
  | .tup _, cs, hh => by simp [srep] at hh
  | .dead, cs, hh => by simp only [srep] at hh; obtain ⟨c, rfl⟩ := hh; simp [V.size]
  | .int k n, cs, hh => by simp only [srep] at hh; exact rep_len hh
  | .bool b, cs, hh => by simp only [srep] at hh; exact rep_len hh
  | .str s, cs, hh => by simp only [srep] at hh; exact rep_len hh
  | .nilp, cs, hh => by simp only [srep] at hh; exact rep_len hh
  | .nilfn, cs, hh => by simp only [srep] at hh; exact rep_len hh
  | .nilif, cs, hh => by simp only [srep] at hh; exact rep_len hh
  | .err, cs, hh => by simp only [srep] at hh; exact rep_len hh
  | .isl nn s xs, cs, hh => by simp only [srep] at hh; exact rep_len hh
  | .iptr x, cs, hh => by simp only [srep] at hh; exact rep_len hh
theorem srepL_len' {H : Heap} {I : Nat → Prop} {h : Nat → Value} {o : Nat → V} : ∀ {xs : List V} {cs : List Value}, srepL H I h o xs cs → cs.length = sizeL xs
  | [], cs, hh => by simp only [srepL] at hh; simp [hh, sizeL]
  | x :: xs, cs, hh => by
    simp only [srepL] at hh
    obtain ⟨d, ds, rfl, h1, h2⟩ := hh
    simp [sizeL, srep_len h1, srepL_len' h2]
end

/-- a value of a slot as cells -/
theorem SV_cells {H : Heap} {I : Nat → Prop} {h : Nat → Value} {o : Nat → V} {x : V} {v : Value} (hx : SV H I h o x v) (hp : x.part = true) : srep H I h o x v.cells.toList := by
  cases x <;> simp [V.part] at hp <;> simp only [SV, SV1] at hx
  case agg fs =>
    obtain ⟨cs, rfl, h1⟩ := hx
    simp only [srep, Value.cells]; simpa using h1
  all_goals
    have hl := srep_len hx
    have : v.cells.toList = [v] := by
      cases v <;> first | rfl | skip
      simp only [srep, rep] at hx
      simp at hx
    rw [this]; exact hx

theorem SV_of_cells {H : Heap} {I : Nat → Prop} {h : Nat → Value} {o : Nat → V} {x : V} {ds : List Value} (hx : srep H I h o x ds) (hp : x.part = true) :
    ∃ v, SV H I h o x v ∧ (v = if (match x with | .agg _ => true | _ => false) = true then .agg ds.toArray else ds.getD 0 undef) := by
  have hl := srep_len hx
  cases x <;> simp [V.part] at hp
  case agg fs =>
    simp only [srep] at hx
    exact ⟨.agg ds.toArray, by simp only [SV, SV1]; exact ⟨ds, rfl, hx⟩, by simp⟩
  all_goals
    simp only [V.size] at hl
    obtain ⟨v, rfl⟩ := List.length_eq_one_iff.1 hl
    exact ⟨v, by simp only [SV, SV1]; exact hx, by simp⟩
end

end Go.Lite

/- All operations that only compute, in one theorem. -/
namespace Go.Lite
section
variable {P : Program} {ty : Nat → TyI} {E : Env} {I : Nat → Prop} {h : Nat → Value} {F : Nat → List Nat} {st : St} {a : Act} {w : World}

theorem srepL_get {H : Heap} {o : Nat → V} : ∀ {xs : List V} {cs : List Value}, srepL H I h o xs cs → ∀ {i : Nat} {x : V}, xs[i]? = some x →
    ∃ pre d post, cs = pre ++ d ++ post ∧ pre.length = sizeL (xs.take i) ∧ srepL H I h o (xs.take i) pre ∧ srep H I h o x d ∧ srepL H I h o (xs.drop (i + 1)) post
  | [], cs, hh, i, x, hx => by simp at hx
  | y :: ys, cs, hh, i, x, hx => by
    simp only [srepL] at hh
    obtain ⟨d, ds, rfl, h1, h2⟩ := hh
    cases i with
    | zero => simp at hx; subst hx; exact ⟨[], d, ds, by simp, by simp [sizeL], by simp [srepL], h1, by simpa using h2⟩
    | succ i =>
      obtain ⟨pre, d2, post, rfl, hl, k1, k2, k3⟩ := srepL_get h2 (i := i) (by simpa using hx)
      refine ⟨d ++ pre, d2, post, by simp, by simp [sizeL, hl, srep_len h1], ?_, k2, by simpa using k3⟩
      simp only [List.take_succ_cons, srepL]
      exact ⟨d, pre, rfl, h1, k1⟩

theorem srepL_app {H : Heap} {o : Nat → V} : ∀ {xs ys : List V} {cs ds : List Value}, srepL H I h o xs cs → srepL H I h o ys ds → srepL H I h o (xs ++ ys) (cs ++ ds)
  | [], ys, cs, ds, h1, h2 => by simp only [srepL] at h1; subst h1; simpa using h2
  | x :: xs, ys, cs, ds, h1, h2 => by
    simp only [srepL] at h1
    obtain ⟨d, es, rfl, k1, k2⟩ := h1
    simp only [List.cons_append, srepL]
    exact ⟨d, es ++ ds, by simp, k1, srepL_app k2 h2⟩

theorem foOk_get : ∀ {o : Nat} {xs : List V} {fo : List (Nat × Nat)}, foOk o xs fo = true → ∀ {i : Nat} {x : V}, xs[i]? = some x → fo[i]? = some (o + sizeL (xs.take i), x.size)
  | o, [], fo, hf, i, x, hx => by simp at hx
  | o, y :: ys, [], hf, i, x, hx => by simp [foOk] at hf
  | o, y :: ys, (a, b) :: r, hf, i, x, hx => by
    simp only [foOk, Bool.and_eq_true, beq_iff_eq] at hf
    obtain ⟨⟨⟨h1, h2⟩, _⟩, h3⟩ := hf
    cases i with
    | zero => simp at hx; subst hx; simp [h1, h2, sizeL]
    | succ i =>
      have := foOk_get h3 (i := i) (by simpa using hx)
      simp only [List.getElem?_cons_succ, List.take_succ_cons, sizeL]
      rw [this]; simp [Nat.add_assoc]

theorem foOk_size {x y : V} (hs : x.size = y.size) (hp : x.part = true) : ∀ {o : Nat} {xs : List V} {fo : List (Nat × Nat)} {i : Nat}, foOk o xs fo = true → xs[i]? = some y → foOk o (xs.set i x) fo = true
  | o, [], fo, i, hf, hx => by simp at hx
  | o, z :: zs, [], i, hf, hx => by simp [foOk] at hf
  | o, z :: zs, (a, b) :: r, i, hf, hx => by
    simp only [foOk, Bool.and_eq_true, beq_iff_eq] at hf
    obtain ⟨⟨⟨h1, h2⟩, h4⟩, h3⟩ := hf
    cases i with
    | zero => simp at hx; subst hx; simp [foOk, h1, h2, hs, hp, h3]
    | succ i =>
      have := foOk_size hs hp h3 (i := i) (by simpa using hx)
      simp [foOk, h1, h2, h4, this]

/-- one field's cells laid over the old ones -/
theorem foldl_set (ds : List Value) : ∀ (cells : Array Value) (off : Nat), off + ds.length ≤ cells.size →
    (ds.toArray.zipIdx.foldl (fun cs x => cs.setIfInBounds (off + x.2) x.1) cells) = wr cells off ds := by
  have key : ∀ (ds : List Value) (k : Nat) (cells : Array Value) (off : Nat), ((ds.zipIdx k).foldl (fun cs x => cs.setIfInBounds (off + x.2) x.1) cells) = wr cells (off + k) ds := by
    intro ds
    induction ds with
    | nil => intro k cells off; rfl
    | cons d ds ih => intro k cells off; simp only [List.zipIdx_cons, List.foldl_cons, wr]; rw [ih]; rfl
  intro cells off _
  have := key ds 0 cells off
  rw [← Array.foldl_toList]
  simpa using this

theorem wr_mid (pre d post d' : List Value) (hl : d'.length = d.length) : wr (pre ++ d ++ post).toArray pre.length d' = (pre ++ d' ++ post).toArray := by
  apply Array.ext_getElem?
  intro k
  by_cases hk : k < pre.length ∨ pre.length + d'.length ≤ k
  · rw [wr_out _ _ _ _ hk]
    rcases hk with hk | hk
    · simp [List.getElem?_append_left hk]
    · simp only [List.append_assoc, List.getElem?_toArray]
      rw [List.getElem?_append_right (by omega), List.getElem?_append_right (by omega), List.getElem?_append_right (by omega), List.getElem?_append_right (by omega), hl]
  · have h2 := wr_in d' (pre ++ d ++ post).toArray pre.length (by simp; omega) (k - pre.length) (by omega)
    rw [show pre.length + (k - pre.length) = k by omega] at h2
    rw [h2]
    simp only [List.append_assoc, List.getElem?_toArray]
    rw [List.getElem?_append_right (by omega), List.getElem?_append_left (by omega)]

theorem fill_ok {H : Heap} {o : Nat → V} {place : Nat → Option (Nat × Nat)} {fo : List (Nat × Nat)} (hpl : ∀ i, place i = fo[i]?) : ∀ {ps : List (Nat × V)} {pv : List (Nat × Value)} {fs gs : List V} {cs : List Value},
    fillV fs ps = some gs → foOk 0 fs fo = true → srepL H I h o fs cs → ps.length = pv.length →
    (∀ (i : Nat) x u, ps[i]? = some x → pv[i]? = some u → x.1 = u.1 ∧ SV H I h o x.2 u.2) →
    ∃ ds, Instr.fill place cs.toArray pv = some ds.toArray ∧ srepL H I h o gs ds
  | [], pv, fs, gs, cs, hf, hfo, hr, hl, hv => by
    have : pv = [] := List.eq_nil_of_length_eq_zero (by simpa using hl.symm)
    subst this
    simp only [fillV, Option.some.injEq] at hf; subst hf
    exact ⟨cs, rfl, hr⟩
  | (i, x) :: ps, pv, fs, gs, cs, hf, hfo, hr, hl, hv => by
    cases pv with
    | nil => simp at hl
    | cons u pv =>
      obtain ⟨hi, hx⟩ := hv 0 (i, x) u (by simp) (by simp)
      simp only at hi hx
      simp only [fillV] at hf
      split at hf
      · rename_i hc
        obtain ⟨f, hj⟩ : ∃ f, fs[i]? = some f := ⟨_, List.getElem?_eq_getElem hc.1⟩
        obtain ⟨pre, d, post, rfl, hlen, k1, k2, k3⟩ := srepL_get hr hj
        have hfi := foOk_get hfo hj
        have hcx := SV_cells hx hc.2.1
        have hsx := srep_len hcx
        have hsd := srep_len k2
        rw [getD_of_some hj] at hc
        have hnew : srepL H I h o (fs.set i x) (pre ++ u.2.cells.toList ++ post) := by
          rw [set_eq_app _ _ _ hc.1]
          rw [List.append_assoc]
          refine srepL_app k1 ?_
          simp only [srepL]
          exact ⟨_, _, rfl, hcx, k3⟩
        obtain ⟨ds, h1, h2⟩ := fill_ok hpl (pv := pv) hf (foOk_size (y := f) hc.2.2 hc.2.1 hfo hj) hnew (by simpa using hl)
          (fun k y v hk1 hk2 => hv (k + 1) y v (by simpa using hk1) (by simpa using hk2))
        refine ⟨ds, ?_, h2⟩
        simp only [Instr.fill, ← hi, hpl, hfi]
        have hcs : u.2.cells.size = f.size := by rw [← Array.length_toList, hsx, hc.2.2]
        have hb : ¬ (u.2.cells.size ≠ f.size ∨ 0 + sizeL (fs.take i) + u.2.cells.size > (pre ++ d ++ post).toArray.size) := by
          rw [hcs]; simp [hlen, hsd]
        have hb' : (u.2.cells.size ≠ f.size || decide (0 + sizeL (fs.take i) + u.2.cells.size > (pre ++ d ++ post).toArray.size)) = false := by
          simpa using hb
        simp only [hb']
        rw [if_neg (by simp)]
        have := foldl_set u.2.cells.toList (pre ++ d ++ post).toArray (0 + sizeL (fs.take i)) (by rw [Array.length_toList, hcs]; simp [hlen, hsd])
        simp only [Array.toArray_toList] at this
        rw [this, Nat.zero_add, ← hlen, wr_mid _ _ _ _ (by rw [hsx, hsd, hc.2.2])]
        exact h1
      · cases hf

mutual
theorem zm_ok {H : Heap} {o : Nat → V} : ∀ {x : V} {cs r : List Value}, zm x cs = some r → ∃ d, cs = d ++ r ∧ srep H I h o x d ∧ rep H I x d []
  | .agg fs, cs, r, hz => by
    simp only [zm] at hz
    obtain ⟨d, h1, h2, h3⟩ := zmL_ok hz
    exact ⟨d, h1, by simp only [srep]; exact h2, by simp only [rep]; exact h3⟩
  | .int k n, cs, r, hz => by
    cases cs with
    | nil => simp [zm] at hz
    | cons c cs =>
      cases c <;> simp only [zm, reduceCtorEq] at hz
      split at hz
      · rename_i hc; obtain ⟨rfl, rfl⟩ := hc; simp only [Option.some.injEq] at hz; subst hz; exact ⟨[_], rfl, by simp [srep, rep], by simp [rep]⟩
      · cases hz
  | .bool b, cs, r, hz => by
    cases cs with
    | nil => simp [zm] at hz
    | cons c cs =>
      cases c <;> simp only [zm, reduceCtorEq] at hz
      split at hz
      · rename_i hc; subst hc; simp only [Option.some.injEq] at hz; subst hz; exact ⟨[_], rfl, by simp [srep, rep], by simp [rep]⟩
      · cases hz
  | .str s, cs, r, hz => by
    cases s with
    | cons _ _ => simp [zm] at hz
    | nil =>
      cases cs with
      | nil => simp [zm] at hz
      | cons c cs =>
        cases c <;> simp only [zm, reduceCtorEq] at hz
        rename_i s
        split at hz
        · rename_i hc
          simp only [Option.some.injEq] at hz; subst hz
          have : s = ⟨#[]⟩ := by
            apply ByteArray.ext
            exact Array.eq_empty_of_size_eq_zero hc
          subst this
          exact ⟨[_], rfl, by simp [srep, rep], by simp [rep]⟩
        · cases hz
  | .nilp, cs, r, hz => by
    cases cs with
    | nil => simp [zm] at hz
    | cons c cs =>
      cases c <;> try (simp [zm] at hz; done)
      rename_i p
      cases p with
      | some _ => simp [zm] at hz
      | none => simp only [zm, Option.some.injEq] at hz; subst hz; exact ⟨[_], rfl, by simp [srep, rep], by simp [rep]⟩
  | .nilfn, cs, r, hz => by
    cases cs with
    | nil => simp [zm] at hz
    | cons c cs =>
      cases c <;> try (simp [zm] at hz; done)
      simp only [zm, Option.some.injEq] at hz; subst hz; exact ⟨[_], rfl, by simp [srep, rep], by simp [rep]⟩
  | .nilif, cs, r, hz => by
    cases cs with
    | nil => simp [zm] at hz
    | cons c cs =>
      cases c <;> try (simp [zm] at hz; done)
      simp only [zm, Option.some.injEq] at hz; subst hz; exact ⟨[_], rfl, by simp [srep, rep], by simp [rep]⟩
  | .isl nn s xs, cs, r, hz => by
    cases nn with
    | true => simp [zm] at hz
    | false =>
      cases xs with
      | cons _ _ => simp [zm] at hz
      | nil =>
        cases cs with
        | nil => simp [zm] at hz
        | cons c cs =>
          cases c <;> try (simp [zm] at hz; done)
          rename_i p l c
          cases p with
          | some _ => simp [zm] at hz
          | none =>
            cases l with
            | succ _ => simp [zm] at hz
            | zero =>
              cases c with
              | succ _ => simp [zm] at hz
              | zero => simp only [zm, Option.some.injEq] at hz; subst hz; exact ⟨[_], rfl, by simp [srep, rep], by simp [rep]⟩
  | .err, cs, r, hz => by simp [zm] at hz
  | .tup _, cs, r, hz => by simp [zm] at hz
  | .iptr _, cs, r, hz => by simp [zm] at hz
  | .own _ _, cs, r, hz => by simp [zm] at hz
  | .bx _, cs, r, hz => by simp [zm] at hz
  | .sl _ _ _ _, cs, r, hz => by simp [zm] at hz
  | .ref _ _, cs, r, hz => by simp [zm] at hz
  | .fn _ _, cs, r, hz => by simp [zm] at hz
  | .dead, cs, r, hz => by simp [zm] at hz
theorem zmL_ok {H : Heap} {o : Nat → V} : ∀ {xs : List V} {cs r : List Value}, zmL xs cs = some r → ∃ d, cs = d ++ r ∧ srepL H I h o xs d ∧ repL H I xs d []
  | [], cs, r, hz => by simp only [zmL, Option.some.injEq] at hz; subst hz; exact ⟨[], rfl, by simp [srepL], by simp [repL]⟩
  | x :: xs, cs, r, hz => by
    simp only [zmL] at hz
    split at hz
    · rename_i r' hr
      obtain ⟨d, rfl, h1, h2⟩ := zm_ok (H := H) (o := o) hr
      obtain ⟨e, rfl, h3, h4⟩ := zmL_ok (H := H) (o := o) hz
      exact ⟨d ++ e, by simp, by simp only [srepL]; exact ⟨d, e, rfl, h1, h3⟩, by simp only [repL]; exact ⟨d, e, [], [], rfl, rfl, h2, h4⟩⟩
    · cases hz
end

theorem TyOk.zero (hty : TyOk P ty) {t : Nat} (hk : (ty t).known = true) (hz : (ty t).z ≠ .dead) :
    ∃ i zv, P.info? t = some i ∧ i.zero = some zv ∧ zm (ty t).z zv.cells.toList = some [] ∧ i.size = (ty t).sz ∧ i.bytes = (ty t).bytes := by
  have := hty t
  unfold tyOk at this
  rw [hk] at this
  cases hi : P.info? t with
  | none => simp [hi] at this
  | some i =>
    simp only [hi, Bool.not_true, Bool.false_or, Bool.and_eq_true, beq_iff_eq] at this
    obtain ⟨⟨⟨h1, h2⟩, _⟩, h3⟩ := this
    generalize (ty t).z = z at hz h3 ⊢
    cases hq : i.zero with
    | none => cases z <;> first | exact absurd rfl hz | simp [hq] at h3
    | some zv =>
      refine ⟨i, zv, rfl, hq, ?_, h1, h2⟩
      cases z <;> first | exact absurd rfl hz | (simp only [hq] at h3; exact ended_eq h3)

theorem pure_ok (hty : TyOk P ty) (hs : SatW E I h F st a w) {o : Oper} {x : V} (hst : stepV ty st o.op = some x) :
    ∃ v, (∀ W, (execOp a.eval o).run P W = .ok (.value v) W) ∧ SV (hp w) I h st.o x v := by
  have hev := fun y => hs.ev (st := st) y
  obtain ⟨dst, op, type, pos, after, guard⟩ := o
  simp only at hst ⊢
  unfold stepV at hst
  split at hst
  · rename_i y; simp only [Option.some.injEq] at hst; subst hst
    exact ⟨a.eval y, fun W => by simp [execOp], hev y⟩
  · rename_i y; simp only [Option.some.injEq] at hst; subst hst
    exact ⟨a.eval y, fun W => by simp [execOp], hev y⟩
  · rename_i c y z
    split at hst
    · rename_i t ht
      simp only [Option.some.injEq] at hst; subst hst
      have hc := hev c; rw [ht, SV_bool] at hc
      refine ⟨if t then a.eval y else a.eval z, fun W => by simp [execOp, hc, asBool], ?_⟩
      cases t
      · exact hev z
      · exact hev y
    · cases hst
  · rename_i op t y z t2
    obtain ⟨r, h1, h2⟩ := binop_ok (xo := y) (yo := z) hty hst (hev y) (hev z)
    refine ⟨r, fun W => ?_, h2⟩
    simp only [execOp]
    rw [Sem.run_bind, h1 W]; rfl
  · rename_i op t y
    obtain ⟨r, h1, h2⟩ := un_ok (P := P) (w := w) (st := st) hst (hev y)
    exact ⟨r, fun W => by simp only [execOp]; rw [Sem.run_bind, h1 W]; rfl, h2⟩
  · rename_i s d y
    obtain ⟨r, h1, h2⟩ := conv_ok (P := P) (w := w) (st := st) hty hst (hev y)
    exact ⟨r, fun W => by simp only [execOp]; rw [Sem.run_bind, h1 W]; rfl, h2⟩
  · rename_i y i
    split at hst
    · rename_i vs hv
      split at hst
      · rename_i hi
        simp only [Option.some.injEq] at hst; subst hst
        have hy := hev y; rw [hv] at hy
        simp only [SV] at hy
        obtain ⟨us, h1, h2, h3⟩ := hy
        obtain ⟨u, hu⟩ : ∃ u, us[i]? = some u := ⟨_, List.getElem?_eq_getElem (by omega)⟩
        refine ⟨u, fun W => ?_, SV_of_SV1 (h3 i _ u (by rw [List.getD_eq_getElem?_getD, List.getElem?_eq_getElem hi]; rfl) hu)⟩
        simp only [execOp, Instr.extract, h1]
        simp [hu]
      · cases hst
    · cases hst
  · rename_i t y f
    obtain ⟨r, h1, h2⟩ := fieldAddr_ok (P := P) (w := w) (st := st) hty hst (hev y)
    exact ⟨r, fun W => by simp only [execOp]; rw [Sem.run_bind, h1 W]; rfl, h2⟩
  · rename_i t y i
    obtain ⟨r, h1, h2⟩ := indexAddr_ok (P := P) (w := w) (st := st) hty hs hst (hev y) (hev i)
    exact ⟨r, fun W => by simp only [execOp]; rw [Sem.run_bind, h1 W]; rfl, h2⟩
  ·
    rename_i t y i
    split at hst
    · rename_i s k n hy hi
      split at hst
      · rename_i hc
        simp only [Option.some.injEq] at hst; subst hst
        have h1 := hev y; rw [hy, SV_str] at h1
        have h2 := hev i; rw [hi, SV_int] at h2
        have hu := hty.kd_str hc.1 hc.2.1
        refine ⟨.int .u8 (s.getD n.toNat 0).toNat, fun W => ?_, by rw [SV_int]⟩
        simp only [execOp, Instr.index, h1, h2]
        have hlt : n.toNat < s.length := by omega
        have hsz : n.toNat < (⟨s.toArray⟩ : ByteArray).size := by simpa [ByteArray.size] using hlt
        have hg : (⟨s.toArray⟩ : ByteArray)[n.toNat]? = some (s.getD n.toNat 0) := by
          rw [ByteArray.getElem?_lt' _ _ hsz]
          simp [ByteArray.getElem_eq_getElem_data, List.getD_eq_getElem?_getD, List.getElem?_eq_getElem hlt]
        simp [asIntOf, run_underlying hu, hc.2.2.1, hg]
      · cases hst
    · cases hst
  · rename_i t y lo hi
    obtain ⟨r, h1, h2⟩ := slice_ok (P := P) (w := w) (st := st) (I := I) (h := h) (lv := lo.map a.eval) (hv := hi.map a.eval) hty hst (hev y)
      (by cases lo <;> simp [OSV, hev]) (by cases hi <;> simp [OSV, hev])
    exact ⟨r, fun W => by simp only [execOp, Option.map_none]; rw [Sem.run_bind, h1 W]; rfl, h2⟩
  ·
    rename_i y
    have hy := hev y
    unfold nilCheckV at hst
    split at hst
    · rename_i n p hv
      simp only [Option.some.injEq] at hst; subst hst
      rw [hv] at hy
      have hy2 := hy
      simp only [SV, SV1, srep] at hy
      obtain ⟨ad, z, _, _, h3⟩ := hy
      have h4 : a.eval y = .pointer (some ⟨ad.1, ad.2, none⟩) := by simpa using h3
      exact ⟨a.eval y, fun W => by simp only [execOp]; rw [h4]; simp, hy2⟩
    · rename_i z hv
      simp only [Option.some.injEq] at hst; subst hst
      rw [hv] at hy
      have hy2 := hy
      simp only [SV, SV1, srep, rep] at hy
      obtain ⟨_, b, o, c, e, fr, ds, h3, _⟩ := hy
      have h4 : a.eval y = .pointer (some ⟨b, o, none⟩) := by simpa using h3
      exact ⟨a.eval y, fun W => by simp only [execOp]; rw [h4]; simp, hy2⟩
    · rename_i f cs hv
      simp only [Option.some.injEq] at hst; subst hst
      rw [hv] at hy
      have hy2 := hy
      simp only [SV, SV1, srep] at hy
      obtain ⟨vs, h3, _⟩ := hy
      have h4 : a.eval y = .func (.func f) #[] vs.toArray := by simpa using h3
      exact ⟨a.eval y, fun W => by simp only [execOp]; rw [h4]; simp, hy2⟩
    · cases hst
  ·
    rename_i f first caps
    split at hst
    · rename_i hc
      simp only [Option.some.injEq] at hst; subst hst
      have hfirst : first = #[] := by simpa using hc.1
      subst hfirst
      refine ⟨.func (.func f) #[] (caps.map a.eval), fun W => by simp [execOp, Instr.makeFunc], ?_⟩
      simp only [SV, SV1, srep]
      refine ⟨caps.toList.map a.eval, by rw [← Array.toList_map, Array.toArray_toList], ?_, ?_⟩
      · have h2 := hc.2
        generalize caps.toList = l at h2
        clear hc hs
        induction l with
        | nil => simp [srepL]
        | cons c l ih =>
          simp only [List.all_cons, Bool.and_eq_true] at h2
          simp only [List.map_cons, srepL]
          refine ⟨[a.eval c], _, by simp, ?_, ih h2.2⟩
          have h3 := SV_cells (hev c) h2.1.1.1
          have h4 : (a.eval c).cells.toList = [a.eval c] := by
            have h5 := hev c
            have h6 := h2.1.2
            have h7 := h2.1.1.1
            cases hq : Lite.ev st c <;> rw [hq] at h3 h5 h6 h7 <;> simp only [SV, SV1] at h5 <;> try (first | (simp at h6; done) | (simp [V.part] at h7; done))
            all_goals
              cases hq2 : a.eval c <;> first | rfl | skip
              rw [hq2] at h5
              simp [srep, rep] at h5
          rw [h4] at h3; exact h3
      · intro x hx
        obtain ⟨c, hc1, rfl⟩ := List.mem_map.1 hx
        have := List.all_eq_true.1 hc.2 c hc1
        simp at this; exact this.1.2
    · cases hst
  ·
    rename_i t ps
    unfold buildV at hst
    split at hst
    · rename_i hk
      split at hst
      · rename_i zs hz
        split at hst
        · rename_i hfo
          obtain ⟨fs0, hu, hfe, hsz⟩ := hty.kd_struct hk.1 hk.2
          cases hfill : fillV zs (ps.toList.map fun p => (p.1, Lite.ev st p.2)) with
          | none => simp [hfill] at hst
          | some gs =>
            simp only [hfill, Option.map_some, Option.some.injEq] at hst; subst hst
            obtain ⟨i, zv, hi, hzv, hm, _, _⟩ := hty.zero hk.1 (by rw [hz]; simp)
            rw [hz] at hm
            obtain ⟨d, hd, hsd, _⟩ := zm_ok (H := hp w) (I := I) (h := h) (o := st.o) hm
            simp only [List.append_nil] at hd
            subst hd
            simp only [srep] at hsd
            have hpl : fs0.toList.mapM (fun f => (P.info? f.type).map fun i => (f.offset, i.size)) = some (ty t).fo := by
              rw [← hfe]
              clear hs hu hfe
              generalize fs0.toList = l at hsz
              induction l with
              | nil => rfl
              | cons f l ih =>
                obtain ⟨j, hj1, hj2, _⟩ := hsz f (by simp)
                simp [hj1, hj2, ih (fun g hg => hsz g (by simp [hg]))]
            obtain ⟨ds, h1, h2⟩ := fill_ok (place := fun x => (ty t).fo.toArray[x]?) (fo := (ty t).fo) (fun i => by simp) (pv := ps.toList.map fun p => (p.1, a.eval p.2)) hfill hfo hsd (by simp)
              (fun k x u hx hu' => by
                rw [List.getElem?_map] at hx hu'
                cases hq : ps.toList[k]? with
                | none => simp [hq] at hx
                | some q => simp [hq] at hx hu'; subst hx hu'; exact ⟨rfl, hev q.2⟩)
            refine ⟨.agg ds.toArray, fun W => ?_, by simp only [SV, SV1]; exact ⟨ds, rfl, h2⟩⟩
            have hb : P.built t (ps.toList.map fun p => (p.1, a.eval p.2)) = some ds.toArray := by
              unfold Program.built
              simp only [hi, hu, hzv, hpl]
              simpa using h1
            have hrun := run_build (P := P) W t (ps.map fun p => (p.1, a.eval p.2)) ds.toArray (by simpa using hb)
            simp only [execOp]
            rw [Sem.run_bind]
            have : (ps.map fun (x : Nat × Operand) => match x with | (i, x) => (i, a.eval x)) = ps.map fun p => (p.1, a.eval p.2) := rfl
            rw [this, hrun]; rfl
        · cases hst
      · cases hst
    · cases hst
  ·
    rename_i args argTypes
    split at hst
    · rename_i x t h1 h2
      have e1 : args = #[x] := by rw [← Array.toArray_toList (xs := args), h1]
      have e2 : argTypes = #[t] := by rw [← Array.toArray_toList (xs := argTypes), h2]
      subst e1 e2
      obtain ⟨r, h1, h2⟩ := len_ok (P := P) (w := w) (st := st) (T := type) hty hst (hev x)
      refine ⟨r, fun W => ?_, h2⟩
      simp [execOp, resolve, invoke, builtin, h1]
    · cases hst
  ·
    rename_i args argTypes
    split at hst
    · rename_i x r hl
      cases ha : args.toList with
      | nil => simp [ha] at hl
      | cons y l =>
        simp only [ha, List.map_cons, List.cons.injEq] at hl
        obtain ⟨rfl, rfl⟩ := hl
        obtain ⟨u, h1, h2⟩ := max_ok (P := P) (w := w) (st := st) (rv := l.map a.eval) hst (hev y) (by simp)
          (fun i z u hz hu => by
            rw [List.getElem?_map] at hz hu
            cases hq : l[i]? with
            | none => simp [hq] at hz
            | some q => simp [hq] at hz hu; subst hz hu; exact hev q)
        refine ⟨u, fun W => ?_, h2⟩
        simp [execOp, resolve, invoke, builtin, Builtin.max_, ha, h1]
    · cases hst
  ·
    rename_i args argTypes
    split at hst
    · rename_i x r hl
      cases ha : args.toList with
      | nil => simp [ha] at hl
      | cons y l =>
        simp only [ha, List.map_cons, List.cons.injEq] at hl
        obtain ⟨rfl, rfl⟩ := hl
        obtain ⟨u, h1, h2⟩ := min_ok (P := P) (w := w) (st := st) (rv := l.map a.eval) hst (hev y) (by simp)
          (fun i z u hz hu => by
            rw [List.getElem?_map] at hz hu
            cases hq : l[i]? with
            | none => simp [hq] at hz
            | some q => simp [hq] at hz hu; subst hz hu; exact hev q)
        refine ⟨u, fun W => ?_, h2⟩
        simp [execOp, resolve, invoke, builtin, Builtin.min_, ha, h1]
    · cases hst
  · cases hst
end
end Go.Lite

/- Changes of a state: a slot is set, an object dies, comes, is moved, is stored into. -/
namespace Go.Lite

def upd {α : Type} (f : Nat → α) (n : Nat) (x : α) : Nat → α := fun m => if m = n then x else f m

theorem upd_same {α : Type} (f : Nat → α) (n : Nat) (x : α) : upd f n x n = x := by simp [upd]
theorem upd_ne {α : Type} (f : Nat → α) {n m : Nat} (x : α) (h : m ≠ n) : upd f n x m = f m := by simp [upd, h]

def put (st : St) (d : Option Nat) (x : V) : St :=
  match d with
  | none => st
  | some d => { st with s := upd st.s d x }

def dOk (st : St) : Option Nat → Bool
  | none => true
  | some d => decide (d < st.n)

section
variable {E : Env} {I : Nat → Prop} {h : Nat → Value} {F : Nat → List Nat} {st : St} {a : Act} {w : World}

theorem SatW.put (hs : SatW E I h F st a w) {d : Option Nat} {x : V} {v : Value} (hd : dOk st d = true) (hx : SV (hp w) I h st.o x v) : SatW E I h F (Lite.put st d x) (a.put d v) w := by
  cases d with
  | none => exact hs
  | some d =>
    simp only [dOk, decide_eq_true_eq] at hd
    have hd' : d < a.tmps.size := by rw [hs.size]; exact hd
    refine { hs with size := ?_, defers := hs.defers, slot := ?_ }
    · simp [Act.put, Lite.put, hs.size]
    · intro t
      simp only [Lite.put, Act.put]
      by_cases ht : t = d
      · subst ht
        simp only [upd_same]
        simpa [hd'] using hx
      · simp only [upd_ne _ _ ht]
        have := hs.slot t
        simpa [Array.getElem?_setIfInBounds_ne (Ne.symm ht)] using this

end

theorem rnav_mono {H H' : Heap} {I : Nat → Prop} {O : V} {hv : Value} {F : List Nat} (hO : O.isRoot = true) (hr : rep H I O [hv] F) (hF : ∀ k ∈ F, H' k = H k) (p : List Nat) :
    rnav H' hv O p = rnav H hv O p ∧ ∀ y, rget O p = some y → y.isOwn = true → rhdr H' hv O p = rhdr H hv O p := by
  cases O <;> simp [V.isRoot] at hO
  · rename_i s xs
    simp only [rep] at hr
    obtain ⟨b2, o2, cap, c2, e2, G, ds, hhv, hcap, rfl, hb2, hsz, hL, huni, hw2⟩ := hr
    obtain rfl : hv = .slice (some ⟨b2, o2, none⟩) xs.length cap := by simpa using hhv
    cases p with
    | nil => exact ⟨by simp [rnav], fun y hy _ => by simp [rhdr]⟩
    | cons j p =>
      simp only [rnav, rhdr, rget, V.get]
      cases hj : xs[j]? with
      | none => simp
      | some y =>
        obtain ⟨pre, d, post, L, G', R, rfl, rfl, hlen, h3, h4, h5⟩ := repL_get hL hj
        have hpl : pre.length = j * s := by
          rw [hlen, sizeL_uni (s := s) fun x hx => huni x (List.mem_of_mem_take hx)]
          simp [Nat.min_eq_left (Nat.le_of_lt (lt_of_some hj))]
        have hw3 := (win_app.1 (win_app.1 hw2).1).2
        rw [hpl] at hw3
        obtain ⟨m1, m2⟩ := nav_mono p h4 hb2 hw3 (by rw [hF b2 (by simp)]; exact hb2) hw3 fun k hk => hF k (by simp [hk])
        simp only []
        refine ⟨m1, fun z hz hown => ?_⟩
        rw [m1]
        cases hn : nav H y (b2, o2 + j * s) p with
        | none => rfl
        | some ad => exact m2 ad z hn hz hown
  · rename_i x
    simp only [rep] at hr
    obtain ⟨b, c, e, G, ds, hhv, rfl, hb, hx, hw⟩ := hr
    obtain rfl : hv = .pointer (some ⟨b, 0, none⟩) := by simpa using hhv
    obtain ⟨m1, m2⟩ := nav_mono p hx hb hw (by rw [hF b (by simp)]; exact hb) hw fun k hk => hF k (by simp [hk])
    simp only [rnav, rhdr, rget]
    refine ⟨m1, fun z hz hown => ?_⟩
    rw [m1]
    cases hn : nav H x (b, 0) p with
    | none => rfl
    | some ad => exact m2 ad z hn hz hown

mutual
theorem mapA_id : ∀ x : V, x.mapA (fun y => y) = x
  | .agg fs => by simp only [V.mapA, mapAL_id fs]
  | .fn f cs => by simp only [V.mapA, mapAL_id cs]
  | .tup vs => by simp only [V.mapA, mapAL_id vs]
  | .sl n p a l => rfl
  | .ref n p => rfl
  | .dead => rfl
  | .int k n => rfl
  | .bool b => rfl
  | .str s => rfl
  | .nilp => rfl
  | .nilfn => rfl
  | .nilif => rfl
  | .err => rfl
  | .isl nn s xs => rfl
  | .iptr x => rfl
  | .own s xs => rfl
  | .bx x => rfl
theorem mapAL_id : ∀ xs : List V, mapAL (fun y => y) xs = xs
  | [] => rfl
  | x :: xs => by simp only [mapAL, mapA_id x, mapAL_id xs]
end

/-- aliases as they were -/
theorem Tr.same {H : Heap} {I : Nat → Prop} {h : Nat → Value} {o : Nat → V} {H' : Heap} {I' : Nat → Prop} {h' : Nat → Value} {o' : Nat → V}
    (hI : ∀ b, I b → I' b) (hH : ∀ b, I b → H' b = H b)
    (hn : ∀ n p y, rget (o n) p = some y → ((o n).isRoot = true → rget (o' n) p = some y ∧ rnav H' (h' n) (o' n) p = rnav H (h n) (o n) p ∧ (y.isOwn = true → rhdr H' (h' n) (o' n) p = rhdr H (h n) (o n) p)))
    (hroot : ∀ n p a, rnav H (h n) (o n) p = some a → (o n).isRoot = true) (hroot2 : ∀ n p s ys, rget (o n) p = some (.own s ys) → (o n).isRoot = true) :
    Tr H I h o H' I' h' o' (fun y => y) := by
  refine ⟨hI, hH, ?_, ?_, fun _ _ _ _ => ⟨rfl, by simp, by simp⟩, fun _ _ => ⟨rfl, by simp, by simp⟩⟩
  · intro n p a l cs hh
    simp only [srep] at hh ⊢
    obtain ⟨s, ys, b, ob, L, cap, h1, h2, h3⟩ := hh
    obtain ⟨k1, k2, k3⟩ := hn n p _ h1 (hroot2 n p s ys h1)
    exact ⟨s, ys, b, ob, L, cap, k1, by rw [k3 rfl]; exact h2, h3⟩
  · intro n p cs hh
    simp only [srep] at hh ⊢
    obtain ⟨ad, y, h1, h2, h3⟩ := hh
    obtain ⟨k1, k2, k3⟩ := hn n p y h2 (hroot n p ad h1)
    exact ⟨ad, y, by rw [k2]; exact h1, k1, h3⟩

section
variable {E : Env} {I : Nat → Prop} {h : Nat → Value} {F : Nat → List Nat} {st : St} {a : Act} {w : World}

theorem root_of_nav {H : Heap} {hv : Value} {O : V} {p : List Nat} {ad : Nat × Nat} (hn : rnav H hv O p = some ad) : O.isRoot = true := by
  cases O <;> simp [rnav] at hn <;> rfl

theorem SatW.root (hs : SatW E I h F st a w) {n : Nat} {p : List Nat} {y : V} (hg : rget (st.o n) p = some y) (hy : y ≠ .dead) : (st.o n).isRoot = true := by
  rcases hs.obj n with ⟨hd, _⟩ | h
  · rw [hd] at hg; cases p <;> simp [rget, V.get] at hg; exact absurd hg.symm hy
  · exact h.1

theorem SatW.rep (hs : SatW E I h F st a w) {n : Nat} (hr : (st.o n).isRoot = true) : rep (hp w) I (st.o n) [h n] (F n) := by
  rcases hs.obj n with ⟨hd, _⟩ | h
  · rw [hd] at hr; simp [V.isRoot] at hr
  · exact h.2

/-- the same frame in a world in which nothing that matters has turned -/
theorem SatW.ext (hs : SatW E I h F st a w) {w' : World} (hsz : w.heap.size ≤ w'.heap.size) (hb : ∀ b, b < w.heap.size → w'.heap[b]? = w.heap[b]?)
    (h1 : w'.os = w.os) (h2 : w'.tape = w.tape ∧ w.drawn ≤ w'.drawn) (h3 : w'.output = w.output) : SatW E I h F st a w' := by
  have hI : ∀ b, I b → hp w' b = hp w b := fun b hb' => hb b (hs.imm b hb')
  have hF : ∀ n, ∀ b ∈ F n, hp w' b = hp w b := fun n b hb' => hb b (hs.fresh n b hb').1
  have tr : Tr (hp w) I h st.o (hp w') I h st.o (fun y => y) := by
    refine Tr.same (fun _ h => h) hI ?_ (fun n p a ha => root_of_nav ha) (fun n p s ys hg => hs.root hg (by simp))
    intro n p y hg hroot
    obtain ⟨m1, m2⟩ := rnav_mono hroot (hs.rep hroot) (hF n) p
    exact ⟨hg, m1, fun hown => m2 y hg hown⟩
  refine { hs with slot := ?_, obj := ?_, fresh := ?_, grow := Nat.le_trans hs.grow hsz, imm := fun b hb' => Nat.lt_of_lt_of_le (hs.imm b hb') hsz, frame := ?_, os := by rw [h1]; exact hs.os, tape := ⟨h2.1.trans hs.tape.1, Nat.le_trans hs.tape.2 h2.2⟩, output := by rw [h3]; exact hs.output }
  · intro t; have := SV_tr tr (hs.slot t); rwa [mapA_id] at this
  · intro n
    rcases hs.obj n with hd | ⟨hroot, hr⟩
    · exact .inl hd
    · exact .inr ⟨hroot, rep_mono (fun _ h => h) hI (hF n) hr⟩
  · intro n b hb'
    obtain ⟨k1, k2, k3⟩ := hs.fresh n b hb'
    exact ⟨Nat.lt_of_lt_of_le k1 hsz, k2, k3⟩
  · intro b hb1 hb2
    rw [hb b (Nat.lt_of_lt_of_le hb1 hs.grow)]; exact hs.frame b hb1 hb2

/-! an object dies -/
def killA (n : Nat) : V → V
  | .sl m p a l => if m = n then .dead else .sl m p a l
  | .ref m p => if m = n then .dead else .ref m p
  | x => x

def kill (n : Nat) (st : St) : St := { st with s := fun t => (st.s t).mapA (killA n), o := upd st.o n .dead }

theorem Tr.kill (_ : SatW E I h F st a w) (n : Nat) : Tr (hp w) I h st.o (hp w) I h (upd st.o n .dead) (killA n) := by
  refine ⟨fun _ h => h, fun _ _ => rfl, ?_, ?_, ?_, ?_⟩
  · intro m p a l cs hh
    simp only [killA]
    split
    · simp only [srep] at hh ⊢
      obtain ⟨_, _, _, _, _, _, _, _, _, _, _, rfl, _⟩ := hh
      exact ⟨_, rfl⟩
    · rename_i hne
      simp only [srep, upd_ne _ _ hne] at hh ⊢; exact hh
  · intro m p cs hh
    simp only [killA]
    split
    · simp only [srep] at hh ⊢
      obtain ⟨_, _, _, _, rfl⟩ := hh
      exact ⟨_, rfl⟩
    · rename_i hne
      simp only [srep, upd_ne _ _ hne] at hh ⊢; exact hh
  · intro m p a l; simp only [killA]; split <;> exact ⟨rfl, by simp, by simp⟩
  · intro m p; simp only [killA]; split <;> exact ⟨rfl, by simp, by simp⟩

theorem SatW.kill (hs : SatW E I h F st a w) (n : Nat) : SatW E I h (upd F n []) (Lite.kill n st) a w := by
  refine { hs with slot := ?_, obj := ?_, nd := ?_, dj := ?_, fresh := ?_, mh := ?_ }
  · intro t; exact SV_tr (Tr.kill hs n) (hs.slot t)
  · intro m
    simp only [Lite.kill]
    by_cases hm : m = n
    · subst hm; left; simp [upd_same]
    · simp only [upd_ne _ _ hm]; exact hs.obj m
  · intro m
    by_cases hm : m = n
    · subst hm; simp [upd_same]
    · simp only [upd_ne _ _ hm]; exact hs.nd m
  · intro m k hmk b hb
    by_cases hm : m = n
    · subst hm; simp [upd_same] at hb
    · simp only [upd_ne _ _ hm] at hb
      by_cases hk : k = n
      · subst hk; simp [upd_same]
      · simp only [upd_ne _ _ hk]; exact hs.dj m k hmk b hb
  · intro m b hb
    by_cases hm : m = n
    · subst hm; simp [upd_same] at hb
    · simp only [upd_ne _ _ hm] at hb; exact hs.fresh m b hb
  · intro m v hm hd
    simp only [Lite.kill] at hd
    by_cases hmn : m = n
    · subst hmn; simp [upd_same] at hd
    · simp only [upd_ne _ _ hmn] at hd; exact hs.mh m v hm hd

/-! an object comes -/
theorem SatW.add (hs : SatW E I h F st a w) {n : Nat} {O : V} {hv : Value} {G : List Nat} (hd : st.o n = .dead) (hroot : O.isRoot = true) (hr : Lite.rep (hp w) I O [hv] G)
    (hnd : G.Nodup) (hdj : ∀ m, ∀ b ∈ G, b ∉ F m) (hfr : ∀ b ∈ G, b < w.heap.size ∧ ¬ I b ∧ (E.base ≤ b ∨ b ∈ E.A)) (hn : ∀ v, (n, v) ∈ E.ms → hv = v) :
    SatW E I (upd h n hv) (upd F n G) { st with o := upd st.o n O } a w := by
  have tr : Tr (hp w) I h st.o (hp w) I (upd h n hv) (upd st.o n O) (fun y => y) := by
    refine Tr.same (fun _ h => h) (fun _ _ => rfl) ?_ (fun n p a ha => root_of_nav ha) (fun n p s ys hg => hs.root hg (by simp))
    intro m p y hg hroot
    have hm : m ≠ n := by intro h; subst h; rw [hd] at hroot; simp [V.isRoot] at hroot
    simp only [upd_ne _ _ hm]
    exact ⟨hg, trivial, fun _ => trivial⟩
  refine { hs with slot := ?_, obj := ?_, nd := ?_, dj := ?_, fresh := ?_, mh := ?_ }
  · intro t; have := SV_tr tr (hs.slot t); rwa [mapA_id] at this
  · intro m
    by_cases hm : m = n
    · subst hm; right; simp only [upd_same]; exact ⟨hroot, hr⟩
    · simp only [upd_ne _ _ hm]; exact hs.obj m
  · intro m
    by_cases hm : m = n
    · subst hm; simpa [upd_same] using hnd
    · simp only [upd_ne _ _ hm]; exact hs.nd m
  · intro m k hmk b hb
    by_cases hm : m = n
    · subst hm
      simp only [upd_same] at hb
      simp only [upd_ne _ _ (Ne.symm hmk)]; exact hdj k b hb
    · simp only [upd_ne _ _ hm] at hb
      by_cases hk : k = n
      · subst hk; simp only [upd_same]; intro hb2; exact hdj m b hb2 hb
      · simp only [upd_ne _ _ hk]; exact hs.dj m k hmk b hb
  · intro m b hb
    by_cases hm : m = n
    · subst hm; simp only [upd_same] at hb; exact hfr b hb
    · simp only [upd_ne _ _ hm] at hb; exact hs.fresh m b hb
  · intro m v hm hd'
    by_cases hmn : m = n
    · subst hmn; simp only [upd_same]; exact hn v hm
    · simp only [upd_ne _ _ hmn] at hd' ⊢; exact hs.mh m v hm hd'
end
end Go.Lite

/- A value leaves its places: what is stored, boxed, handed on. -/
namespace Go.Lite

theorem rep_window {H : Heap} {I : Nat → Prop} {s : Nat} {ys : List V} {b ob L cap : Nat} {G : List Nat} {off len oo : Nat}
    (hr : rep H I (.own s ys) [.slice (some ⟨b, ob, none⟩) L cap] G) (hol : off + len ≤ ys.length) (hoo : oo = ob + off * s ∨ (cap = off ∧ oo ≤ ob + off * s ∧ 0 < off)) :
    ∃ G', rep H I (.own s ((ys.drop off).take len)) [.slice (some ⟨b, oo, none⟩) len (cap - off)] G' ∧ (∀ k ∈ G', k ∈ G) ∧ (G.Nodup → G'.Nodup) := by
  simp only [rep] at hr
  obtain ⟨b', o', cap', c, e, G0, ds, hhv, hcap, rfl, hb, hsz, hL, huni, hw⟩ := hr
  have hhv' : b = b' ∧ ob = o' ∧ cap = cap' := by
    simp only [List.cons.injEq, Value.slice.injEq, Option.some.injEq, Addr.mk.injEq, and_true] at hhv
    exact ⟨hhv.1.1, hhv.1.2, hhv.2.2⟩
  obtain ⟨rfl, rfl, rfl⟩ := hhv'
  have hsplit : ys = ys.take off ++ ((ys.drop off).take len ++ (ys.drop off).drop len) := by rw [List.take_append_drop, List.take_append_drop]
  rw [hsplit] at hL
  obtain ⟨d1, r1, G1, R1, rfl, rfl, h1, h2⟩ := repL_app.1 hL
  obtain ⟨d2, d3, G2, G3, rfl, rfl, h3, h4⟩ := repL_app.1 h2
  have hl1 : d1.length = off * s := by
    rw [repL_len h1, sizeL_uni (s := s) fun x hx => huni x (List.mem_of_mem_take hx), List.length_take, Nat.min_eq_left (by omega)]
  have hlen : ((ys.drop off).take len).length = len := by simp; omega
  have hcs : ob + cap * s ≤ c.size := hsz
  have hoc : off * s ≤ cap * s := Nat.mul_le_mul_right _ (by omega)
  refine ⟨b :: G2, ?_, ?_, ?_⟩
  · simp only [rep]
    refine ⟨b, oo, cap - off, c, e, G2, d2, by rw [hlen], by rw [hlen]; omega, rfl, hb, ?_, h3, ?_, ?_⟩
    · rcases hoo with h | ⟨h, h', _⟩
      · rw [h, Nat.sub_mul]; omega
      · subst h; rw [Nat.sub_self]; omega
    · intro x hx; exact huni x (List.mem_of_mem_drop (List.mem_of_mem_take hx))
    · have hw2 := (win_app.1 (win_app.1 hw).2).1
      rcases hoo with h | ⟨h, h', _⟩
      · rw [h, ← hl1]; exact hw2
      · have : d2 = [] := by
          apply List.eq_nil_of_length_eq_zero
          have := repL_len h3
          rw [sizeL_uni (s := s) fun x hx => huni x (List.mem_of_mem_drop (List.mem_of_mem_take hx)), hlen] at this
          have h0 : len = 0 := by omega
          rw [h0] at this; simpa using this
        subst this; intro i hi; simp at hi
  · intro k hk; simp at hk ⊢; rcases hk with h | h <;> simp [h]
  · intro hnd
    simp only [List.nodup_cons, List.nodup_append, List.mem_append] at hnd ⊢
    exact ⟨fun h => hnd.1 (.inr (.inl h)), hnd.2.2.1.1⟩

/-! aliases behind a store -/
theorem below_iff {p q : List Nat} : below p q ↔ p.isPrefixOf q = true ∧ p ≠ q := by
  rw [List.isPrefixOf_iff_prefix]
  constructor
  · rintro ⟨r, hr, rfl⟩
    refine ⟨List.prefix_append _ _, fun h => hr ?_⟩
    have := congrArg List.length h
    simp at this; exact this
  · rintro ⟨⟨r, rfl⟩, h⟩
    exact ⟨r, fun hr => h (by simp [hr]), rfl⟩

def moveA (n : Nat) (p : List Nat) : V → V
  | .sl m q a l => if m = n ∧ p.isPrefixOf q = true then .dead else .sl m q a l
  | .ref m q => if m = n ∧ p.isPrefixOf q = true ∧ p ≠ q then .dead else .ref m q
  | x => x

/-- an object with another content at a place -/
def place (n : Nat) (p : List Nat) (y : V) (st : St) : St := { st with s := fun t => (st.s t).mapA (moveA n p), o := upd st.o n (rset (st.o n) p y) }
/-- the same where no alias leads deeper -/
def place0 (n : Nat) (p : List Nat) (y : V) (st : St) : St := { st with o := upd st.o n (rset (st.o n) p y) }

section
variable {E : Env} {I : Nat → Prop} {h : Nat → Value} {F : Nat → List Nat} {st : St} {a : Act} {w : World}

theorem rset_root {O : V} {p : List Nat} {y : V} (hO : O.isRoot = true) (hp : p = [] → O.isOwn = false) : (rset O p y).isRoot = true ∧ (rset O p y).isOwn = O.isOwn := by
  cases O <;> simp [V.isRoot] at hO
  · cases p with
    | nil => simp [V.isOwn] at hp
    | cons j p => simp [rset, V.set, V.isRoot, V.isOwn]
  · simp [rset, V.isRoot, V.isOwn]

theorem get_set : ∀ (p : List Nat) {x y y' : V}, x.get p = some y → (x.set p y').get p = some y'
  | [], x, y, y', h => by cases x <;> cases y' <;> rfl
  | j :: p, x, y, y', h => by
    cases x with
    | agg fs =>
      simp only [V.get, V.set] at h ⊢
      cases hj : fs[j]? with
      | none => simp [hj] at h
      | some z =>
        simp only [hj] at h
        rw [List.getElem?_set_self (lt_of_some hj)]
        simp only [getD_of_some hj]
        exact get_set p h
    | own s xs =>
      simp only [V.get, V.set] at h ⊢
      cases hj : xs[j]? with
      | none => simp [hj] at h
      | some z =>
        simp only [hj] at h
        rw [List.getElem?_set_self (lt_of_some hj)]
        simp only [getD_of_some hj]
        exact get_set p h
    | _ => simp [V.get] at h

theorem rget_rset {O : V} {p : List Nat} {y y' : V} (hO : O.isRoot = true) (hg : rget O p = some y) (hpo : p = [] → O.isOwn = false) : rget (rset O p y') p = some y' := by
  cases O with
  | own s xs =>
    cases p with
    | nil => simp [V.isOwn] at hpo
    | cons j p =>
      simp only [rget, rset] at hg ⊢
      have := get_set (y' := y') (j :: p) hg
      have h2 : ∃ xs', (V.own s xs).set (j :: p) y' = .own s xs' := ⟨_, rfl⟩
      obtain ⟨xs', h2⟩ := h2
      rw [h2] at this ⊢; exact this
  | bx x => simp only [rget, rset] at hg ⊢; exact get_set p hg
  | _ => simp [V.isRoot] at hO

/-- what lies at p of object n is replaced: the world with it -/
theorem SatW.place (hs : SatW E I h F st a w) {n : Nat} {p : List Nat} {y : V} (hroot : (st.o n).isRoot = true) (hg : rget (st.o n) p = some y) (hpo : p = [] → (st.o n).isOwn = false) :
    ∃ b1 o1 c1 e1 ds G, rnav (hp w) (h n) (st.o n) p = some (b1, o1) ∧ w.heap[b1]? = some (.cells c1 e1 (0, 0)) ∧ win c1 o1 ds ∧ Lite.rep (hp w) I y ds G ∧ (∀ b ∈ G, b ∈ F n) ∧ G.Nodup ∧ b1 ∈ F n ∧
      ∀ y' ds' G' (w' : World), y'.size = y.size → ds'.length = ds.length → Lite.rep (hp w) I y' ds' G' → G'.Nodup → b1 ∉ G' → (∀ b ∈ G', b ∈ F n → b ∈ G) → (∀ m, m ≠ n → ∀ b ∈ G', b ∉ F m) →
        (∀ b ∈ G', b < w.heap.size ∧ ¬ I b ∧ (E.base ≤ b ∨ b ∈ E.A)) →
        w'.heap.size = w.heap.size → w'.heap[b1]? = some (.cells (wr c1 o1 ds') e1 (0, 0)) → (∀ b, b ≠ b1 → w'.heap[b]? = w.heap[b]?) → w'.os = w.os → (w'.tape = w.tape ∧ w.drawn ≤ w'.drawn) → w'.output = w.output →
        ∃ F', SatW E I h F' (Lite.place n p y' st) a w' ∧ Tr (hp w) I h st.o (hp w') I h (upd st.o n (rset (st.o n) p y')) (moveA n p) ∧ (∀ m, m ≠ n → F' m = F m) ∧ (∀ b, b ∈ F' n → (b ∈ F n ∧ b ∉ G) ∨ b ∈ G') ∧
          ((∀ q, below p q → rget (st.o n) q = none) → y.isOwn = false → SatW E I h F' (Lite.place0 n p y' st) a w') := by
  have hrep := hs.rep hroot
  have hnd := hs.nd n
  obtain ⟨b1, o1, c1, e1, ds, L, G, R, hn, hb1, hw1, hy, hF, hbm, hbn, hput⟩ := stored hroot hrep hnd hg hpo
  rw [hF] at hnd
  have hGnd : G.Nodup := by rw [List.append_assoc, List.nodup_append] at hnd; exact (List.nodup_append.1 hnd.2.1).1
  have hbF : b1 ∈ F n := by rw [hF]; simp at hbm ⊢; rcases hbm with h | h <;> simp [h]
  refine ⟨b1, o1, c1, e1, ds, G, hn, hb1, hw1, hy, fun b hb => by rw [hF]; simp [hb], hGnd, hbF, ?_⟩
  intro y' ds' G' w' hsz hl hy' hnd' hb1' hGF hdj' hfr' hws hwb hwo hos htape hout
  have hIb1 : ¬ I b1 := (hs.fresh n b1 hbF).2.1
  have hI : ∀ b, I b → Lite.hp w' b = Lite.hp w b := fun b hb => hwo b (fun he => hIb1 (he ▸ hb))
  have hLR : ∀ b ∈ L ++ R, b ≠ b1 → Lite.hp w' b = Lite.hp w b := fun b _ hne => hwo b hne
  have hy2 : Lite.rep (Lite.hp w') I y' ds' G' := rep_mono (fun _ h => h) hI (fun b hb => hwo b (fun he => hb1' (he ▸ hb))) hy'
  obtain ⟨hrep', hnav'⟩ := hput y' ds' G' (Lite.hp w') hsz hl hwb hLR hI hy2
  obtain ⟨hr1, hr2⟩ := rset_root (y := y') hroot hpo
  have hLRG : ∀ b ∈ L ++ R, b ∉ G := by
    intro b hb hbG
    rw [List.append_assoc, List.nodup_append, List.nodup_append] at hnd
    rcases List.mem_append.1 hb with h | h
    · exact hnd.2.2 b h b (by simp [hbG]) rfl
    · exact hnd.2.1.2.2 b hbG b h rfl
  have hmono : ∀ m, m ≠ n → ∀ b ∈ F m, Lite.hp w' b = Lite.hp w b := fun m hm b hb => hwo b (fun he => hs.dj m n hm b hb (he ▸ hbF))
  have hother : ∀ m, m ≠ n → (st.o m).isRoot = true → ∀ q, rnav (Lite.hp w') (h m) (st.o m) q = rnav (Lite.hp w) (h m) (st.o m) q ∧ ∀ z, rget (st.o m) q = some z → z.isOwn = true → rhdr (Lite.hp w') (h m) (st.o m) q = rhdr (Lite.hp w) (h m) (st.o m) q :=
    fun m hm hrm q => rnav_mono hrm (hs.rep hrm) (hmono m hm) q
  have hsl : ∀ q off len cs, p.isPrefixOf q = false → srep (Lite.hp w) I h st.o (.sl n q off len) cs → srep (Lite.hp w') I h (upd st.o n (rset (st.o n) p y')) (.sl n q off len) cs := by
    intro q off len cs hpq hh
    simp only [srep, upd_same] at hh ⊢
    obtain ⟨s, ys, b, ob, Lh, cap, k1, k2, k3⟩ := hh
    have hbel : ¬ below p q := fun hb => by rw [below_iff] at hb; rw [hb.1] at hpq; cases hpq
    have hqp : q ≠ p := by
      intro he; subst he
      have : q.isPrefixOf q = true := by rw [List.isPrefixOf_iff_prefix]; exact List.prefix_rfl
      rw [this] at hpq; cases hpq
    cases hO : st.o n <;> rw [hO] at hroot <;> simp [V.isRoot] at hroot
    · rename_i s0 xs
      rw [hO] at k1 k2 hnav' hpo
      cases q with
      | nil =>
        simp only [rget, V.get, Option.some.injEq, V.own.injEq] at k1
        obtain ⟨rfl, rfl⟩ := k1
        cases p with
        | nil => exact absurd rfl hqp
        | cons j p =>
          simp only [rset, V.set, rget, V.get, rhdr] at k2 ⊢
          exact ⟨s0, _, b, ob, Lh, cap, rfl, k2, by simpa using k3⟩
      | cons j q =>
        simp only [rhdr] at k2
        cases hq : rnav (Lite.hp w) (h n) (.own s0 xs) (j :: q) with
        | none => rw [hq] at k2; cases k2
        | some ad =>
          rw [hq] at k2
          simp only at k2
          obtain ⟨m1, m2⟩ := hnav' (j :: q) ad _ hq k1 hbel
          obtain ⟨_, m3⟩ := m2 hqp
          obtain ⟨m4, s', ys0, ys', m5, m6, m7⟩ := m3 rfl
          simp only [V.own.injEq] at m5
          obtain ⟨rfl, rfl⟩ := m5
          refine ⟨s, ys', b, ob, Lh, cap, m6, ?_, by rw [m7]; exact k3⟩
          have hne : (rset (.own s0 xs) p y').isOwn = true := by
            cases p with
            | nil => simp [V.isOwn] at hpo
            | cons _ _ => simp [rset, V.set, V.isOwn]
          cases hO' : rset (.own s0 xs) p y' <;> rw [hO'] at hne <;> simp [V.isOwn] at hne
          rw [hO'] at m1
          simp only [rhdr, m1, m4]; exact k2
    · rename_i x
      rw [hO] at k1 k2 hnav' hpo
      simp only [rhdr] at k2
      cases hq : rnav (Lite.hp w) (h n) (.bx x) q with
      | none => rw [hq] at k2; cases k2
      | some ad =>
        rw [hq] at k2
        simp only at k2
        obtain ⟨m1, m2⟩ := hnav' q ad _ hq k1 hbel
        obtain ⟨_, m3⟩ := m2 hqp
        obtain ⟨m4, s', ys0, ys', m5, m6, m7⟩ := m3 rfl
        simp only [V.own.injEq] at m5
        obtain ⟨rfl, rfl⟩ := m5
        refine ⟨s, ys', b, ob, Lh, cap, m6, ?_, by rw [m7]; exact k3⟩
        simp only [rset] at m1 ⊢
        simp only [rhdr, m1, m4]; exact k2
  have hpp : rget (rset (st.o n) p y') p = some y' ∨ ∃ z, rget (rset (st.o n) p y') p = some z := by
    left; exact rget_rset hroot hg hpo
  have href : ∀ q cs, ¬ below p q → srep (Lite.hp w) I h st.o (.ref n q) cs → srep (Lite.hp w') I h (upd st.o n (rset (st.o n) p y')) (.ref n q) cs := by
    intro q cs hbel hh
    simp only [srep, upd_same] at hh ⊢
    obtain ⟨ad, z, k1, k2, k3⟩ := hh
    obtain ⟨m1, m2⟩ := hnav' q ad z k1 k2 hbel
    by_cases hqp : q = p
    · subst hqp
      rcases hpp with h | ⟨z, h⟩
      · exact ⟨ad, _, m1, h, k3⟩
      · exact ⟨ad, z, m1, h, k3⟩
    · obtain ⟨⟨z', hz'⟩, _⟩ := m2 hqp
      exact ⟨ad, z', m1, hz', k3⟩
  have hslo : ∀ m q off len cs, m ≠ n → srep (Lite.hp w) I h st.o (.sl m q off len) cs → srep (Lite.hp w') I h (upd st.o n (rset (st.o n) p y')) (.sl m q off len) cs := by
    intro m q off len cs hm hh
    simp only [srep, upd_ne _ _ hm] at hh ⊢
    obtain ⟨s, ys, b, ob, Lh, cap, k1, k2, k3⟩ := hh
    have := (hother m hm (hs.root k1 (by simp)) q).2 _ k1 rfl
    exact ⟨s, ys, b, ob, Lh, cap, k1, by rw [this]; exact k2, k3⟩
  have hrefo : ∀ m q cs, m ≠ n → srep (Lite.hp w) I h st.o (.ref m q) cs → srep (Lite.hp w') I h (upd st.o n (rset (st.o n) p y')) (.ref m q) cs := by
    intro m q cs hm hh
    simp only [srep, upd_ne _ _ hm] at hh ⊢
    obtain ⟨ad, z, k1, k2, k3⟩ := hh
    exact ⟨ad, z, by rw [(hother m hm (root_of_nav k1) q).1]; exact k1, k2, k3⟩
  have tr : Tr (Lite.hp w) I h st.o (Lite.hp w') I h (upd st.o n (rset (st.o n) p y')) (moveA n p) := by
    refine ⟨fun _ h => h, hI, ?_, ?_, ?_, ?_⟩
    · intro m q off len cs hh
      simp only [moveA]
      split
      · simp only [srep] at hh ⊢
        obtain ⟨_, _, _, _, _, _, _, _, _, _, _, rfl, _⟩ := hh
        exact ⟨_, rfl⟩
      · rename_i hc
        by_cases hm : m = n
        · subst hm; exact hsl q off len cs (by cases hq : p.isPrefixOf q with | false => rfl | true => exact absurd ⟨rfl, hq⟩ hc) hh
        · exact hslo m q off len cs hm hh
    · intro m q cs hh
      simp only [moveA]
      split
      · simp only [srep] at hh ⊢
        obtain ⟨_, _, _, _, rfl⟩ := hh
        exact ⟨_, rfl⟩
      · rename_i hc
        by_cases hm : m = n
        · subst hm; exact href q cs (fun hb => hc ⟨rfl, below_iff.1 hb⟩) hh
        · exact hrefo m q cs hm hh
    · intro m q a l; simp only [moveA]; split <;> exact ⟨rfl, by simp, by simp⟩
    · intro m q; simp only [moveA]; split <;> exact ⟨rfl, by simp, by simp⟩
  have main : ∀ (s' : Nat → V), (∀ t, SV (Lite.hp w') I h (upd st.o n (rset (st.o n) p y')) (s' t) (a.tmps.getD t undef)) →
      SatW E I h (upd F n (L ++ G' ++ R)) { st with s := s', o := upd st.o n (rset (st.o n) p y') } a w' := by
    intro s' hslot
    refine { size := hs.size, defers := hs.defers, slot := hslot, obj := ?_, nd := ?_, dj := ?_, fresh := ?_, grow := by rw [hws]; exact hs.grow, imm := ?_, frame := ?_, os := by rw [hos]; exact hs.os, tape := ⟨htape.1.trans hs.tape.1, Nat.le_trans hs.tape.2 htape.2⟩, output := by rw [hout]; exact hs.output, mh := ?_, ms := hs.ms, imm0 := hs.imm0 }
    · intro m
      by_cases hm : m = n
      · subst hm; right; simp only [upd_same]; exact ⟨hr1, hrep'⟩
      · simp only [upd_ne _ _ hm]
        rcases hs.obj m with hd | ⟨hrm, hrepm⟩
        · exact .inl hd
        · exact .inr ⟨hrm, rep_mono (fun _ h => h) hI (hmono m hm) hrepm⟩
    · intro m
      by_cases hm : m = n
      · subst hm
        simp only [upd_same]
        have hLn : L.Nodup := by rw [List.append_assoc, List.nodup_append] at hnd; exact hnd.1
        have hRn : R.Nodup := by rw [List.nodup_append] at hnd; exact hnd.2.1
        have hLR2 : ∀ b ∈ L, b ∉ R := by
          intro b hb hb2
          rw [List.append_assoc, List.nodup_append] at hnd
          exact hnd.2.2 b hb b (by simp [hb2]) rfl
        have hG'L : ∀ b ∈ G', b ∉ L ++ R := by
          intro b hb hb2
          have h1 := hGF b hb (by rw [hF]; simp at hb2 ⊢; rcases hb2 with h | h <;> simp [h])
          exact hLRG b hb2 h1
        rw [List.append_assoc, List.nodup_append]
        refine ⟨hLn, ?_, ?_⟩
        · rw [List.nodup_append]
          exact ⟨hnd', hRn, fun b hb c hc he => hG'L b hb (by simp [he, hc])⟩
        · intro b hb c hc he
          subst he
          rcases List.mem_append.1 hc with h | h
          · exact hG'L b h (by simp [hb])
          · exact hLR2 b hb h
      · simp only [upd_ne _ _ hm]; exact hs.nd m
    · intro m k hmk b hb
      have hin : ∀ b, b ∈ L ++ G' ++ R → b ∈ F n ∨ b ∈ G' := by
        intro b hb
        rw [hF]; simp at hb ⊢; rcases hb with h | h | h <;> simp [h]
      by_cases hm : m = n
      · subst hm
        simp only [upd_same] at hb
        simp only [upd_ne _ _ (Ne.symm hmk)]
        rcases hin b hb with h | h
        · exact hs.dj m k hmk b h
        · exact hdj' k (Ne.symm hmk) b h
      · simp only [upd_ne _ _ hm] at hb
        by_cases hk : k = n
        · subst hk
          simp only [upd_same]
          intro hb2
          rcases hin b hb2 with h | h
          · exact hs.dj m k hmk b hb h
          · exact hdj' m hm b h hb
        · simp only [upd_ne _ _ hk]; exact hs.dj m k hmk b hb
    · intro m b hb
      by_cases hm : m = n
      · subst hm
        simp only [upd_same, List.mem_append] at hb
        have : (b < w.heap.size ∧ ¬ I b ∧ (E.base ≤ b ∨ b ∈ E.A)) := by
          rcases hb with (h | h) | h
          · exact hs.fresh m b (by rw [hF]; simp [h])
          · exact hfr' b h
          · exact hs.fresh m b (by rw [hF]; simp [h])
        rw [hws]; exact this
      · simp only [upd_ne _ _ hm] at hb
        rw [hws]; exact hs.fresh m b hb
    · intro b hb; rw [hws]; exact hs.imm b hb
    · intro b hb hbA
      have : b ≠ b1 := by
        intro he; subst he
        rcases (hs.fresh n b hbF).2.2 with h | h
        · omega
        · exact hbA h
      rw [hwo b this]; exact hs.frame b hb hbA
    · intro m v hm hd
      by_cases hmn : m = n
      · subst hmn
        refine hs.mh m v hm ?_
        intro hd2; rw [hd2] at hroot; simp [V.isRoot] at hroot
      · simp only [upd_ne _ _ hmn] at hd; exact hs.mh m v hm hd
  refine ⟨upd F n (L ++ G' ++ R), main _ (fun t => SV_tr tr (hs.slot t)), tr, fun m hm => upd_ne _ _ hm, ?_, ?_⟩
  · intro b hb
    simp only [upd_same, List.mem_append] at hb
    rcases hb with (h | h) | h
    · exact .inl ⟨by rw [hF]; simp [h], hLRG b (by simp [h])⟩
    · exact .inr h
    · exact .inl ⟨by rw [hF]; simp [h], hLRG b (by simp [h])⟩
  · intro hno hyo
    have hnob : ∀ q z, rget (st.o n) q = some z → ¬ below p q := fun q z hz hb => by rw [hno q hb] at hz; cases hz
    have tr0 : Tr (Lite.hp w) I h st.o (Lite.hp w') I h (upd st.o n (rset (st.o n) p y')) (fun x => x) := by
      refine ⟨fun _ h => h, hI, ?_, ?_, fun _ _ _ _ => ⟨rfl, by simp, by simp⟩, fun _ _ => ⟨rfl, by simp, by simp⟩⟩
      · intro m q off len cs hh
        by_cases hm : m = n
        · subst hm
          refine hsl q off len cs ?_ hh
          have hh2 := hh
          simp only [srep] at hh2
          obtain ⟨s, ys, b, ob, Lh, cap, k1, _⟩ := hh2
          cases hpq : p.isPrefixOf q with
          | false => rfl
          | true =>
            by_cases hqp : p = q
            · subst hqp; rw [hg] at k1; simp only [Option.some.injEq] at k1; subst k1; simp [V.isOwn] at hyo
            · exact absurd (below_iff.2 ⟨hpq, hqp⟩) (hnob q _ k1)
        · exact hslo m q off len cs hm hh
      · intro m q cs hh
        by_cases hm : m = n
        · subst hm
          have hh2 := hh
          simp only [srep] at hh2
          obtain ⟨ad, z, _, k2, _⟩ := hh2
          exact href q cs (hnob q z k2) hh
        · exact hrefo m q cs hm hh
    exact main st.s (fun t => by have := SV_tr tr0 (hs.slot t); rwa [mapA_id] at this)
end
end Go.Lite

/- What a value becomes that is stored, boxed or handed on: its own things move with it. -/
namespace Go.Lite

mutual
def touches (K : List (Nat × List Nat)) : V → Bool
  | .sl m q _ _ => K.any fun k => k.1 == m && k.2.isPrefixOf q
  | .ref m q => K.any fun k => k.1 == m && k.2.isPrefixOf q
  | .agg fs => touchesL K fs
  | .fn _ cs => touchesL K cs
  | .tup vs => touchesL K vs
  | _ => false
def touchesL (K : List (Nat × List Nat)) : List V → Bool
  | [] => false
  | x :: xs => touches K x || touchesL K xs
end

mutual
def V.solid : V → Bool
  | .agg fs => solidL fs
  | .dead => false
  | _ => true
def solidL : List V → Bool
  | [] => true
  | x :: xs => x.solid && solidL xs
end

mutual
/-- no alias, nothing owned, nothing unknown -/
def V.immut : V → Bool
  | .agg fs => immutL fs
  | .fn _ cs => immutL cs
  | .sl _ _ _ _ => false
  | .ref _ _ => false
  | .own _ _ => false
  | .bx _ => false
  | .tup _ => false
  | .dead => false
  | _ => true
def immutL : List V → Bool
  | [] => true
  | x :: xs => x.immut && immutL xs
end

mutual
def absorb (st : St) : V → Option (V × St × List (Nat × List Nat))
  | .sl n p off len =>
    match st.o n, p with
    | .own s ys, [] => some (.own s ((ys.drop off).take len), kill n st, [(n, [])])
    | O, p => match rget O p with
      | some (.own s ys) => some (.own s ((ys.drop off).take len), place n p .dead st, [(n, p)])
      | _ => none
  | .agg fs => match absorbL st fs with | some (gs, st', K) => some (.agg gs, st', K) | none => none
  | .fn f cs => if immutL cs = true then some (.fn f cs, st, []) else none
  | .ref n p => match st.o n, p with
    | .bx x, [] => some (.bx x, kill n st, [(n, [])])
    | _, _ => none
  | .tup _ => none
  | .own _ _ => none
  | .bx _ => none
  | .dead => none
  | .int k n => some (.int k n, st, [])
  | .bool b => some (.bool b, st, [])
  | .str s => some (.str s, st, [])
  | .nilp => some (.nilp, st, [])
  | .nilfn => some (.nilfn, st, [])
  | .nilif => some (.nilif, st, [])
  | .err => some (.err, st, [])
  | .isl nn s xs => some (.isl nn s xs, st, [])
  | .iptr x => some (.iptr x, st, [])
def absorbL (st : St) : List V → Option (List V × St × List (Nat × List Nat))
  | [] => some ([], st, [])
  | x :: xs => match absorb st x with
    | some (y, st1, K1) => if touchesL K1 xs = true then none else match absorbL st1 xs with
      | some (ys, st2, K2) => some (y :: ys, st2, K1 ++ K2)
      | none => none
    | none => none
end

theorem isPrefixOf_nil (q : List Nat) : ([] : List Nat).isPrefixOf q = true := by cases q <;> rfl

mutual
theorem kill_untouched {n : Nat} : ∀ {x : V}, touches [(n, [])] x = false → x.mapA (killA n) = x
  | .sl m q a l, h => by
    simp only [touches, List.any_cons, List.any_nil, Bool.or_false, isPrefixOf_nil, Bool.and_true, beq_eq_false_iff_ne] at h
    simp only [V.mapA, killA]; rw [if_neg (fun he => h he.symm)]
  | .ref m q, h => by
    simp only [touches, List.any_cons, List.any_nil, Bool.or_false, isPrefixOf_nil, Bool.and_true, beq_eq_false_iff_ne] at h
    simp only [V.mapA, killA]; rw [if_neg (fun he => h he.symm)]
  | .agg fs, h => by simp only [touches] at h; simp only [V.mapA, killL_untouched h]
  | .fn f cs, h => by simp only [touches] at h; simp only [V.mapA, killL_untouched h]
  | .tup vs, h => by simp only [touches] at h; simp only [V.mapA, killL_untouched h]
  | .dead, h => rfl
  | .int k n, h => rfl
  | .bool b, h => rfl
  | .str s, h => rfl
  | .nilp, h => rfl
  | .nilfn, h => rfl
  | .nilif, h => rfl
  | .err, h => rfl
  | .isl nn s xs, h => rfl
  | .iptr x, h => rfl
  | .own s xs, h => rfl
  | .bx x, h => rfl
theorem killL_untouched {n : Nat} : ∀ {xs : List V}, touchesL [(n, [])] xs = false → mapAL (killA n) xs = xs
  | [], h => rfl
  | x :: xs, h => by
    simp only [touchesL, Bool.or_eq_false_iff] at h
    simp only [mapAL, kill_untouched h.1, killL_untouched h.2]
end

mutual
theorem move_untouched {n : Nat} {p : List Nat} : ∀ {x : V}, touches [(n, p)] x = false → x.mapA (moveA n p) = x
  | .sl m q a l, h => by
    simp only [touches, List.any_cons, List.any_nil, Bool.or_false, Bool.and_eq_false_iff, beq_eq_false_iff_ne] at h
    simp only [V.mapA, moveA]
    rw [if_neg]
    rintro ⟨rfl, h2⟩
    rcases h with h | h
    · exact h rfl
    · rw [h2] at h; cases h
  | .ref m q, h => by
    simp only [touches, List.any_cons, List.any_nil, Bool.or_false, Bool.and_eq_false_iff, beq_eq_false_iff_ne] at h
    simp only [V.mapA, moveA]
    rw [if_neg]
    rintro ⟨rfl, h2, _⟩
    rcases h with h | h
    · exact h rfl
    · rw [h2] at h; cases h
  | .agg fs, h => by simp only [touches] at h; simp only [V.mapA, moveL_untouched h]
  | .fn f cs, h => by simp only [touches] at h; simp only [V.mapA, moveL_untouched h]
  | .tup vs, h => by simp only [touches] at h; simp only [V.mapA, moveL_untouched h]
  | .dead, h => rfl
  | .int k n, h => rfl
  | .bool b, h => rfl
  | .str s, h => rfl
  | .nilp, h => rfl
  | .nilfn, h => rfl
  | .nilif, h => rfl
  | .err, h => rfl
  | .isl nn s xs, h => rfl
  | .iptr x, h => rfl
  | .own s xs, h => rfl
  | .bx x, h => rfl
theorem moveL_untouched {n : Nat} {p : List Nat} : ∀ {xs : List V}, touchesL [(n, p)] xs = false → mapAL (moveA n p) xs = xs
  | [], h => rfl
  | x :: xs, h => by
    simp only [touchesL, Bool.or_eq_false_iff] at h
    simp only [mapAL, move_untouched h.1, moveL_untouched h.2]
end

mutual
theorem touches_app {K1 K2 : List (Nat × List Nat)} : ∀ {x : V}, touches (K1 ++ K2) x = false → touches K1 x = false ∧ touches K2 x = false
  | .sl m q a l, h => by simp only [touches, List.any_append, Bool.or_eq_false_iff] at h ⊢; exact h
  | .ref m q, h => by simp only [touches, List.any_append, Bool.or_eq_false_iff] at h ⊢; exact h
  | .agg fs, h => by simp only [touches] at h ⊢; exact touchesL_app h
  | .fn f cs, h => by simp only [touches] at h ⊢; exact touchesL_app h
  | .tup vs, h => by simp only [touches] at h ⊢; exact touchesL_app h
  | .dead, h => ⟨rfl, rfl⟩
  | .int k n, h => ⟨rfl, rfl⟩
  | .bool b, h => ⟨rfl, rfl⟩
  | .str s, h => ⟨rfl, rfl⟩
  | .nilp, h => ⟨rfl, rfl⟩
  | .nilfn, h => ⟨rfl, rfl⟩
  | .nilif, h => ⟨rfl, rfl⟩
  | .err, h => ⟨rfl, rfl⟩
  | .isl nn s xs, h => ⟨rfl, rfl⟩
  | .iptr x, h => ⟨rfl, rfl⟩
  | .own s xs, h => ⟨rfl, rfl⟩
  | .bx x, h => ⟨rfl, rfl⟩
theorem touchesL_app {K1 K2 : List (Nat × List Nat)} : ∀ {xs : List V}, touchesL (K1 ++ K2) xs = false → touchesL K1 xs = false ∧ touchesL K2 xs = false
  | [], h => ⟨rfl, rfl⟩
  | x :: xs, h => by
    simp only [touchesL, Bool.or_eq_false_iff] at h ⊢
    exact ⟨⟨(touches_app h.1).1, (touchesL_app h.2).1⟩, ⟨(touches_app h.1).2, (touchesL_app h.2).2⟩⟩
end

mutual
theorem immut_rep {H : Heap} {I : Nat → Prop} {h : Nat → Value} {o : Nat → V} : ∀ {x : V} {cs : List Value}, x.immut = true → srep H I h o x cs → rep H I x cs []
  | .agg fs, cs, hi, hh => by simp only [V.immut] at hi; simp only [srep, rep] at hh ⊢; exact immutL_rep hi hh
  | .fn f caps, cs, hi, hh => by
    simp only [V.immut] at hi
    simp only [srep, rep] at hh ⊢
    obtain ⟨vs, h1, h2, h3⟩ := hh
    exact ⟨trivial, vs, h1, immutL_rep hi h2, h3⟩
  | .sl _ _ _ _, cs, hi, hh => by simp [V.immut] at hi
  | .ref _ _, cs, hi, hh => by simp [V.immut] at hi
  | .own _ _, cs, hi, hh => by simp [V.immut] at hi
  | .bx _, cs, hi, hh => by simp [V.immut] at hi
  | .tup _, cs, hi, hh => by simp [V.immut] at hi
  | .dead, cs, hi, hh => by simp [V.immut] at hi
  | .int k n, cs, hi, hh => by simpa only [srep] using hh
  | .bool b, cs, hi, hh => by simpa only [srep] using hh
  | .str s, cs, hi, hh => by simpa only [srep] using hh
  | .nilp, cs, hi, hh => by simpa only [srep] using hh
  | .nilfn, cs, hi, hh => by simpa only [srep] using hh
  | .nilif, cs, hi, hh => by simpa only [srep] using hh
  | .err, cs, hi, hh => by simpa only [srep] using hh
  | .isl nn s xs, cs, hi, hh => by simpa only [srep] using hh
  | .iptr x, cs, hi, hh => by simpa only [srep] using hh
theorem immutL_rep {H : Heap} {I : Nat → Prop} {h : Nat → Value} {o : Nat → V} : ∀ {xs : List V} {cs : List Value}, immutL xs = true → srepL H I h o xs cs → repL H I xs cs []
  | [], cs, hi, hh => by simp only [srepL, repL] at hh ⊢; exact ⟨hh, trivial⟩
  | x :: xs, cs, hi, hh => by
    simp only [immutL, Bool.and_eq_true] at hi
    simp only [srepL, repL] at hh ⊢
    obtain ⟨d, ds, rfl, h1, h2⟩ := hh
    exact ⟨d, ds, [], [], rfl, rfl, immut_rep hi.1 h1, immutL_rep hi.2 h2⟩
end

/-- what comes out when a value is taken -/
def Taken (E : Env) (I : Nat → Prop) (h : Nat → Value) (F : Nat → List Nat) (st : St) (a : Act) (w : World) (st' : St) (K : List (Nat × List Nat)) (R : List Nat → Prop) : Prop :=
  ∃ F' G, SatW E I h F' st' a w ∧ R G ∧ G.Nodup ∧ (∀ m, ∀ b ∈ G, b ∉ F' m) ∧ (∀ b ∈ G, ∃ m, b ∈ F m) ∧ (∀ m b, b ∈ F' m → b ∈ F m) ∧ st'.n = st.n ∧
    (∀ z cs, touches K z = false → srep (hp w) I h st.o z cs → srep (hp w) I h st'.o z cs) ∧
    (∀ z v, touches K z = false → SV (hp w) I h st.o z v → SV (hp w) I h st'.o z v) ∧ (∀ m, st.o m = .dead → st'.o m = .dead)

section
variable {E : Env} {I : Nat → Prop} {h : Nat → Value} {F : Nat → List Nat} {st : St} {a : Act} {w : World}

theorem taken_none (hs : SatW E I h F st a w) {R : List Nat → Prop} (hR : R []) : Taken E I h F st a w st [] R :=
  ⟨F, [], hs, hR, by simp, by simp, by simp, fun _ _ h => h, rfl, fun _ _ _ h => h, fun _ _ _ h => h, fun _ h => h⟩

theorem absorb_sl (hs : SatW E I h F st a w) {n : Nat} {p : List Nat} {off len : Nat} {cs : List Value} {y : V} {st' : St} {K : List (Nat × List Nat)}
    (hx : srep (hp w) I h st.o (.sl n p off len) cs) (ha : absorb st (.sl n p off len) = some (y, st', K)) :
    Taken E I h F st a w st' K fun G => rep (hp w) I y cs G := by
  have hx0 := hx
  simp only [srep] at hx
  obtain ⟨s, ys, b, ob, L, cap, h1, h2, h3, h4, oo, rfl, h5⟩ := hx
  have hroot := hs.root h1 (by simp)
  have hrep := hs.rep hroot
  by_cases hrt : ∃ s' ys', st.o n = .own s' ys' ∧ p = []
  · obtain ⟨s', ys', hO, rfl⟩ := hrt
    simp only [absorb, hO] at ha
    simp only [Option.some.injEq, Prod.mk.injEq] at ha
    obtain ⟨rfl, rfl, rfl⟩ := ha
    rw [hO] at h1 h2 hrep
    simp only [rget, V.get, Option.some.injEq, V.own.injEq] at h1
    obtain ⟨rfl, rfl⟩ := h1
    simp only [rhdr, Option.some.injEq] at h2
    rw [h2] at hrep
    obtain ⟨G', k1, k2, k3⟩ := rep_window hrep h3 h5
    refine ⟨upd F n [], G', hs.kill n, k1, k3 (hs.nd n), ?_, fun b hb => ⟨n, k2 b hb⟩, ?_, rfl, ?_, ?_, ?_⟩
    · intro m b hb
      by_cases hm : m = n
      · subst hm; simp [upd_same]
      · simp only [upd_ne _ _ hm]; exact hs.dj n m (Ne.symm hm) b (k2 b hb)
    · intro m b hb
      by_cases hm : m = n
      · subst hm; simp [upd_same] at hb
      · simpa only [upd_ne _ _ hm] using hb
    · intro z cs ht hz
      have := srep_tr (Tr.kill hs n) hz
      rwa [kill_untouched ht] at this
    · intro z v ht hz
      have := SV_tr (Tr.kill hs n) hz
      rwa [kill_untouched ht] at this
    · intro m hm
      simp only [kill]
      by_cases hmn : m = n
      · subst hmn; simp [upd_same]
      · simpa only [upd_ne _ _ hmn] using hm
  · have hpo : p = [] → (st.o n).isOwn = false := by
      intro hp; subst hp
      cases hO : st.o n <;> try rfl
      exact absurd ⟨_, _, hO, rfl⟩ hrt
    have ha' : (match rget (st.o n) p with
      | some (.own s ys) => some (V.own s ((ys.drop off).take len), place n p .dead st, [(n, p)])
      | _ => none) = some (y, st', K) := by
      simp only [absorb] at ha
      split at ha
      · rename_i s' ys' hO; exact absurd ⟨_, _, hO, rfl⟩ hrt
      · exact ha
    rw [h1] at ha'
    simp only [Option.some.injEq, Prod.mk.injEq] at ha'
    obtain ⟨rfl, rfl, rfl⟩ := ha'
    obtain ⟨b1, o1, c1, e1, ds, G, hn, hb1, hw1, hyr, hGF, hGn, _, hput⟩ := hs.place hroot h1 hpo
    have hds : ds = [.slice (some ⟨b, ob, none⟩) L cap] := by
      have hl := rep_len hyr
      simp only [V.size] at hl
      obtain ⟨u, rfl⟩ := List.length_eq_one_iff.1 hl
      have hcell : rhdr (hp w) (h n) (st.o n) p = cellAt (hp w) (b1, o1) := by
        cases hO : st.o n with
        | own s0 xs =>
          rw [hO] at hn
          cases p with
          | nil => simp [rnav] at hn
          | cons j p => simp only [rhdr, hn]
        | bx x => rw [hO] at hn; simp only [rhdr, hn]
        | _ => rw [hO] at hroot; simp [V.isRoot] at hroot
      rw [h2] at hcell
      have := hw1 0 (by simp)
      simp [cellAt, hp, hb1] at this hcell
      rw [this] at hcell
      simpa using hcell.symm
    subst hds
    obtain ⟨F', k1, k2, k3, k4, _⟩ := hput .dead _ [] w rfl rfl (by simp [rep]) (by simp) (by simp) (by simp) (by simp) (by simp) rfl (by rw [wr_same hw1]; exact hb1) (fun _ _ => rfl) rfl ⟨rfl, Nat.le_refl _⟩ rfl
    obtain ⟨G', m1, m2, m3⟩ := rep_window hyr h3 h5
    refine ⟨F', G', k1, m1, m3 hGn, ?_, fun b hb => ⟨n, hGF b (m2 b hb)⟩, ?_, rfl, ?_, ?_, ?_⟩
    · intro m b hb hb2
      by_cases hm : m = n
      · subst hm
        rcases k4 b hb2 with h | h
        · exact h.2 (m2 b hb)
        · simp at h
      · rw [k3 m hm] at hb2; exact hs.dj n m (Ne.symm hm) b (hGF b (m2 b hb)) hb2
    · intro m b hb
      by_cases hm : m = n
      · subst hm
        rcases k4 b hb with h | h
        · exact h.1
        · simp at h
      · rw [k3 m hm] at hb; exact hb
    · intro z cs ht hz
      have := srep_tr k2 hz
      rwa [move_untouched ht] at this
    · intro z v ht hz
      have := SV_tr k2 hz
      rwa [move_untouched ht] at this
    · intro m hm
      simp only [place]
      by_cases hmn : m = n
      · subst hmn; rw [hm] at hroot; simp [V.isRoot] at hroot
      · simpa only [upd_ne _ _ hmn] using hm

mutual
theorem absorb_ok : ∀ {x : V} {st st' : St} {F : Nat → List Nat} {cs : List Value} {y : V} {K : List (Nat × List Nat)}, SatW E I h F st a w → srep (hp w) I h st.o x cs → absorb st x = some (y, st', K) →
    Taken E I h F st a w st' K fun G => rep (hp w) I y cs G
  | .sl n p off len, st, st', F, cs, y, K, hs, hx, ha => absorb_sl hs hx ha
  | .agg fs, st, st', F, cs, y, K, hs, hx, ha => by
    simp only [absorb] at ha
    split at ha
    · rename_i gs st1 K1 hl
      simp only [Option.some.injEq, Prod.mk.injEq] at ha
      obtain ⟨rfl, rfl, rfl⟩ := ha
      simp only [srep] at hx
      obtain ⟨F', G, h1, h2, h3⟩ := absorbL_ok hs hx hl
      exact ⟨F', G, h1, by simp only [rep]; exact h2, h3⟩
    · cases ha
  | .fn f cs', st, st', F, cs, y, K, hs, hx, ha => by
    simp only [absorb] at ha
    split at ha
    · rename_i hi
      simp only [Option.some.injEq, Prod.mk.injEq] at ha
      obtain ⟨rfl, rfl, rfl⟩ := ha
      exact taken_none hs (immut_rep (x := .fn f cs') (by simpa only [V.immut] using hi) hx)
    · cases ha
  | .ref n p, st, st', F, cs, y, K, hs, hx, ha => by
    simp only [absorb] at ha
    split at ha
    · rename_i x hO
      simp only [Option.some.injEq, Prod.mk.injEq] at ha
      obtain ⟨rfl, rfl, rfl⟩ := ha
      have hrep := hs.rep (n := n) (by rw [hO]; rfl)
      rw [hO] at hrep
      have hrep2 := hrep
      simp only [rep] at hrep2
      obtain ⟨b, c, e, G, ds, hhv, _⟩ := hrep2
      have hh : h n = .pointer (some ⟨b, 0, none⟩) := by simpa using hhv
      simp only [srep, hO] at hx
      obtain ⟨ad, z, k1, k2, rfl⟩ := hx
      have had : ad = (b, 0) := by
        simp only [rnav, hh] at k1
        cases x <;> simp [nav] at k1 <;> exact k1.symm
      subst had
      refine ⟨upd F n [], F n, hs.kill n, by rw [← hh]; exact hrep, hs.nd n, ?_, fun b hb => ⟨n, hb⟩, ?_, rfl, ?_, ?_, ?_⟩
      · intro m b hb
        by_cases hm : m = n
        · subst hm; simp [upd_same]
        · simp only [upd_ne _ _ hm]; exact hs.dj n m (Ne.symm hm) b hb
      · intro m b hb
        by_cases hm : m = n
        · subst hm; simp [upd_same] at hb
        · simpa only [upd_ne _ _ hm] using hb
      · intro z cs ht hz
        have := srep_tr (Tr.kill hs n) hz
        rwa [kill_untouched ht] at this
      · intro z v ht hz
        have := SV_tr (Tr.kill hs n) hz
        rwa [kill_untouched ht] at this
      · intro m hm
        simp only [kill]
        by_cases hmn : m = n
        · subst hmn; simp [upd_same]
        · simpa only [upd_ne _ _ hmn] using hm
    · cases ha
  | .tup _, st, st', F, cs, y, K, hs, hx, ha => by simp [absorb] at ha
  | .own _ _, st, st', F, cs, y, K, hs, hx, ha => by simp [absorb] at ha
  | .bx _, st, st', F, cs, y, K, hs, hx, ha => by simp [absorb] at ha
  | .dead, st, st', F, cs, y, K, hs, hx, ha => by simp [absorb] at ha
  | .int k n, st, st', F, cs, y, K, hs, hx, ha => by
    simp only [absorb, Option.some.injEq, Prod.mk.injEq] at ha; obtain ⟨rfl, rfl, rfl⟩ := ha; exact taken_none hs (by simpa only [srep] using hx)
  | .bool b, st, st', F, cs, y, K, hs, hx, ha => by
    simp only [absorb, Option.some.injEq, Prod.mk.injEq] at ha; obtain ⟨rfl, rfl, rfl⟩ := ha; exact taken_none hs (by simpa only [srep] using hx)
  | .str s, st, st', F, cs, y, K, hs, hx, ha => by
    simp only [absorb, Option.some.injEq, Prod.mk.injEq] at ha; obtain ⟨rfl, rfl, rfl⟩ := ha; exact taken_none hs (by simpa only [srep] using hx)
  | .nilp, st, st', F, cs, y, K, hs, hx, ha => by
    simp only [absorb, Option.some.injEq, Prod.mk.injEq] at ha; obtain ⟨rfl, rfl, rfl⟩ := ha; exact taken_none hs (by simpa only [srep] using hx)
  | .nilfn, st, st', F, cs, y, K, hs, hx, ha => by
    simp only [absorb, Option.some.injEq, Prod.mk.injEq] at ha; obtain ⟨rfl, rfl, rfl⟩ := ha; exact taken_none hs (by simpa only [srep] using hx)
  | .nilif, st, st', F, cs, y, K, hs, hx, ha => by
    simp only [absorb, Option.some.injEq, Prod.mk.injEq] at ha; obtain ⟨rfl, rfl, rfl⟩ := ha; exact taken_none hs (by simpa only [srep] using hx)
  | .err, st, st', F, cs, y, K, hs, hx, ha => by
    simp only [absorb, Option.some.injEq, Prod.mk.injEq] at ha; obtain ⟨rfl, rfl, rfl⟩ := ha; exact taken_none hs (by simpa only [srep] using hx)
  | .isl nn s xs, st, st', F, cs, y, K, hs, hx, ha => by
    simp only [absorb, Option.some.injEq, Prod.mk.injEq] at ha; obtain ⟨rfl, rfl, rfl⟩ := ha; exact taken_none hs (by simpa only [srep] using hx)
  | .iptr z, st, st', F, cs, y, K, hs, hx, ha => by
    simp only [absorb, Option.some.injEq, Prod.mk.injEq] at ha; obtain ⟨rfl, rfl, rfl⟩ := ha; exact taken_none hs (by simpa only [srep] using hx)
theorem absorbL_ok : ∀ {xs : List V} {st st' : St} {F : Nat → List Nat} {cs : List Value} {ys : List V} {K : List (Nat × List Nat)}, SatW E I h F st a w → srepL (hp w) I h st.o xs cs → absorbL st xs = some (ys, st', K) →
    Taken E I h F st a w st' K fun G => repL (hp w) I ys cs G
  | [], st, st', F, cs, ys, K, hs, hx, ha => by
    simp only [absorbL, Option.some.injEq, Prod.mk.injEq] at ha; obtain ⟨rfl, rfl, rfl⟩ := ha
    simp only [srepL] at hx
    exact taken_none hs (by simp only [repL]; exact ⟨hx, trivial⟩)
  | x :: xs, st, st', F, cs, ys, K, hs, hx, ha => by
    simp only [absorbL] at ha
    split at ha
    · rename_i y st1 K1 h1
      split at ha
      · cases ha
      · rename_i ht
        split at ha
        · rename_i zs st2 K2 h2
          simp only [Option.some.injEq, Prod.mk.injEq] at ha
          obtain ⟨rfl, rfl, rfl⟩ := ha
          simp only [srepL] at hx
          obtain ⟨d, ds, rfl, hx1, hx2⟩ := hx
          obtain ⟨F1, G1, a1, a2, a3, a4, a5, a6, a7, a8, a9, a10⟩ := absorb_ok hs hx1 h1
          have hx2' : srepL (hp w) I h st1.o xs ds := by
            have ht' : touchesL K1 xs = false := by simpa using ht
            clear ht h2
            induction xs generalizing ds with
            | nil => simpa only [srepL] using hx2
            | cons z zs ih =>
              simp only [srepL] at hx2 ⊢
              simp only [touchesL, Bool.or_eq_false_iff] at ht'
              obtain ⟨d', ds', rfl, k1, k2⟩ := hx2
              exact ⟨d', ds', rfl, a8 z d' ht'.1 k1, ih _ k2 ht'.2⟩
          obtain ⟨F2, G2, b1, b2, b3, b4, b5, b6, b7, b8, b9, b10⟩ := absorbL_ok a1 hx2' h2
          refine ⟨F2, G1 ++ G2, b1, ?_, ?_, ?_, ?_, fun m b hb => a6 m b (b6 m b hb), by rw [b7, a7], ?_, ?_, fun m hm => b10 m (a10 m hm)⟩
          · simp only [repL]; exact ⟨d, ds, G1, G2, rfl, rfl, a2, b2⟩
          · rw [List.nodup_append]
            refine ⟨a3, b3, fun b hb c hc he => ?_⟩
            subst he
            obtain ⟨m, hm⟩ := b5 b hc
            exact a4 m b hb hm
          · intro m b hb hb2
            rcases List.mem_append.1 hb with h | h
            · exact a4 m b h (b6 m b hb2)
            · exact b4 m b h hb2
          · intro b hb
            rcases List.mem_append.1 hb with h | h
            · exact a5 b h
            · obtain ⟨m, hm⟩ := b5 b h; exact ⟨m, a6 m b hm⟩
          · intro z cs hz hzr
            obtain ⟨t1, t2⟩ := touches_app hz
            exact b8 z cs t2 (a8 z cs t1 hzr)
          · intro z v hz hzr
            obtain ⟨t1, t2⟩ := touches_app hz
            exact b9 z v t2 (a9 z v t1 hzr)
        · cases ha
    · cases ha
end
end
end Go.Lite

/- Operations on memory: new variables, loads, stores. -/
namespace Go.Lite

mutual
theorem rep_srep {H : Heap} {I : Nat → Prop} {h : Nat → Value} {o : Nat → V} : ∀ {x : V} {cs : List Value}, rep H I x cs [] → srep H I h o x cs
  | .agg fs, cs, hh => by simp only [rep, srep] at hh ⊢; exact repL_srepL hh
  | .fn f caps, cs, hh => by
    simp only [rep, srep] at hh ⊢
    obtain ⟨_, vs, h1, h2, h3⟩ := hh
    exact ⟨vs, h1, repL_srepL h2, h3⟩
  | .sl _ _ _ _, cs, hh => by simp [rep] at hh
  | .ref _ _, cs, hh => by simp [rep] at hh
  | .own _ _, cs, hh => by simp only [rep] at hh; obtain ⟨_, _, _, _, _, _, _, _, _, hF, _⟩ := hh; cases hF
  | .bx _, cs, hh => by simp only [rep] at hh; obtain ⟨_, _, _, _, _, _, hF, _⟩ := hh; cases hF
  | .tup _, cs, hh => by simp [rep] at hh
  | .dead, cs, hh => by simp only [rep, srep] at hh ⊢; exact hh.1
  | .int k n, cs, hh => by simpa only [srep] using hh
  | .bool b, cs, hh => by simpa only [srep] using hh
  | .str s, cs, hh => by simpa only [srep] using hh
  | .nilp, cs, hh => by simpa only [srep] using hh
  | .nilfn, cs, hh => by simpa only [srep] using hh
  | .nilif, cs, hh => by simpa only [srep] using hh
  | .err, cs, hh => by simpa only [srep] using hh
  | .isl nn s xs, cs, hh => by simpa only [srep] using hh
  | .iptr x, cs, hh => by simpa only [srep] using hh
theorem repL_srepL {H : Heap} {I : Nat → Prop} {h : Nat → Value} {o : Nat → V} : ∀ {xs : List V} {cs : List Value}, repL H I xs cs [] → srepL H I h o xs cs
  | [], cs, hh => by simp only [repL, srepL] at hh ⊢; exact hh.1
  | x :: xs, cs, hh => by
    simp only [repL, srepL] at hh ⊢
    obtain ⟨d, ds, G, Gs, rfl, hF, h1, h2⟩ := hh
    have : G = [] ∧ Gs = [] := by cases G <;> cases Gs <;> simp at hF ⊢
    obtain ⟨rfl, rfl⟩ := this
    exact ⟨d, ds, rfl, rep_srep h1, repL_srepL h2⟩
end

/-! the cells of a solid value can be stored -/
mutual
theorem solid_one {H : Heap} {I : Nat → Prop} : ∀ {x : V} {cs : List Value} {G : List Nat}, rep H I x cs G → x.solid = true → ∀ v ∈ cs, v.oneCell' = true
  | .agg fs, cs, G, hh, hs => by simp only [rep, V.solid] at hh hs; exact solidL_one hh hs
  | .fn f caps, cs, G, hh, _ => by simp only [rep] at hh; obtain ⟨_, vs, rfl, _⟩ := hh; simp [Value.oneCell']
  | .sl _ _ _ _, cs, G, hh, _ => by simp [rep] at hh
  | .ref _ _, cs, G, hh, _ => by simp [rep] at hh
  | .own _ _, cs, G, hh, _ => by simp only [rep] at hh; obtain ⟨_, _, _, _, _, _, _, rfl, _⟩ := hh; simp [Value.oneCell']
  | .bx _, cs, G, hh, _ => by simp only [rep] at hh; obtain ⟨_, _, _, _, _, rfl, _⟩ := hh; simp [Value.oneCell']
  | .tup _, cs, G, hh, _ => by simp [rep] at hh
  | .dead, cs, G, hh, hs => by simp [V.solid] at hs
  | .int k n, cs, G, hh, _ => by simp only [rep] at hh; rw [hh.1]; simp [Value.oneCell']
  | .bool b, cs, G, hh, _ => by simp only [rep] at hh; rw [hh.1]; simp [Value.oneCell']
  | .str s, cs, G, hh, _ => by simp only [rep] at hh; rw [hh.1]; simp [Value.oneCell']
  | .nilp, cs, G, hh, _ => by simp only [rep] at hh; rw [hh.1]; simp [Value.oneCell']
  | .nilfn, cs, G, hh, _ => by simp only [rep] at hh; rw [hh.1]; simp [Value.oneCell']
  | .nilif, cs, G, hh, _ => by simp only [rep] at hh; rw [hh.1]; simp [Value.oneCell']
  | .err, cs, G, hh, _ => by simp only [rep] at hh; obtain ⟨⟨t, v, rfl⟩, _⟩ := hh; simp [Value.oneCell']
  | .isl nn s xs, cs, G, hh, _ => by
    simp only [rep] at hh
    cases nn with
    | false => rw [(hh.2.1 rfl).2]; simp [Value.oneCell']
    | true => obtain ⟨_, _, _, rfl, _⟩ := hh.2.2 rfl; simp [Value.oneCell']
  | .iptr x, cs, G, hh, _ => by simp only [rep] at hh; obtain ⟨_, _, _, _, _, _, _, rfl, _⟩ := hh; simp [Value.oneCell']
theorem solidL_one {H : Heap} {I : Nat → Prop} : ∀ {xs : List V} {cs : List Value} {G : List Nat}, repL H I xs cs G → solidL xs = true → ∀ v ∈ cs, v.oneCell' = true
  | [], cs, G, hh, _ => by simp only [repL] at hh; rw [hh.1]; simp
  | x :: xs, cs, G, hh, hs => by
    simp only [repL, solidL, Bool.and_eq_true] at hh hs
    obtain ⟨d, ds, _, _, rfl, _, h1, h2⟩ := hh
    intro v hv
    rcases List.mem_append.1 hv with h | h
    · exact solid_one h1 hs.1 v h
    · exact solidL_one h2 hs.2 v h
end

/-! views -/
mutual
def view (n : Nat) (p : List Nat) : V → V
  | .own _ ys => .sl n p 0 ys.length
  | .agg fs => .agg (viewL n p 0 fs)
  | .bx _ => .dead
  | .sl _ _ _ _ => .dead
  | .ref _ _ => .dead
  | .tup _ => .dead
  | .dead => .dead
  | .int k n => .int k n
  | .bool b => .bool b
  | .str s => .str s
  | .nilp => .nilp
  | .nilfn => .nilfn
  | .nilif => .nilif
  | .err => .err
  | .isl nn s xs => .isl nn s xs
  | .iptr x => .iptr x
  | .fn f cs => .fn f cs
def viewL (n : Nat) (p : List Nat) (j : Nat) : List V → List V
  | [] => []
  | x :: xs => view n (p ++ [j]) x :: viewL n p (j + 1) xs
end

mutual
theorem view_ok {H : Heap} {I : Nat → Prop} {h : Nat → Value} {o : Nat → V} {n : Nat} (hroot : (o n).isRoot = true) : ∀ {y : V} {p : List Nat} {b1 o1 : Nat} {c1 : Array Value} {e1 : TypeId} {fr : Nat × Nat} {ds : List Value} {G : List Nat},
    rnav H (h n) (o n) p = some (b1, o1) → rget (o n) p = some y → H b1 = some (.cells c1 e1 fr) → win c1 o1 ds → rep H I y ds G → srep H I h o (view n p y) ds
  | .own s ys, p, b1, o1, c1, e1, fr, ds, G, hn, hg, hb, hw, hr => by
    simp only [rep] at hr
    obtain ⟨b, ob, cap, c, e, G0, ds0, rfl, hcap, rfl, hb2, hsz, hL, huni, hw2⟩ := hr
    simp only [view, srep]
    refine ⟨s, ys, b, ob, ys.length, cap, hg, ?_, by omega, hcap, ob, by simp, .inl (by simp)⟩
    have hc : cellAt H (b1, o1) = some (.slice (some ⟨b, ob, none⟩) ys.length cap) := by
      have := hw 0 (by simp); simpa [cellAt, hb] using this
    cases hO : o n with
    | own s0 xs =>
      rw [hO] at hn
      cases p with
      | nil => simp [rnav] at hn
      | cons j p => simp only [rhdr, hn, hc]
    | bx x => rw [hO] at hn; simp only [rhdr, hn, hc]
    | _ => rw [hO] at hroot; simp [V.isRoot] at hroot
  | .agg fs, p, b1, o1, c1, e1, fr, ds, G, hn, hg, hb, hw, hr => by
    simp only [rep] at hr
    simp only [view, srep]
    exact viewL_ok hroot (pre := []) (fs := fs) (c1 := c1) hn (by simpa using hg) hb (by simpa [sizeL] using hw) hr
  | .bx x, p, b1, o1, c1, e1, fr, ds, G, hn, hg, hb, hw, hr => by
    have := rep_len hr
    simp only [V.size] at this
    obtain ⟨u, rfl⟩ := List.length_eq_one_iff.1 this
    simp only [view, srep]; exact ⟨u, rfl⟩
  | .sl _ _ _ _, p, b1, o1, c1, e1, fr, ds, G, hn, hg, hb, hw, hr => by simp [rep] at hr
  | .ref _ _, p, b1, o1, c1, e1, fr, ds, G, hn, hg, hb, hw, hr => by simp [rep] at hr
  | .tup _, p, b1, o1, c1, e1, fr, ds, G, hn, hg, hb, hw, hr => by simp [rep] at hr
  | .dead, p, b1, o1, c1, e1, fr, ds, G, hn, hg, hb, hw, hr => by simp only [rep] at hr; simp only [view, srep]; exact hr.1
  | .int k n, p, b1, o1, c1, e1, fr, ds, G, hn, hg, hb, hw, hr => by simp only [rep] at hr; simp only [view, srep, rep]; exact ⟨hr.1, trivial⟩
  | .bool b, p, b1, o1, c1, e1, fr, ds, G, hn, hg, hb, hw, hr => by simp only [rep] at hr; simp only [view, srep, rep]; exact ⟨hr.1, trivial⟩
  | .str s, p, b1, o1, c1, e1, fr, ds, G, hn, hg, hb, hw, hr => by simp only [rep] at hr; simp only [view, srep, rep]; exact ⟨hr.1, trivial⟩
  | .nilp, p, b1, o1, c1, e1, fr, ds, G, hn, hg, hb, hw, hr => by simp only [rep] at hr; simp only [view, srep, rep]; exact ⟨hr.1, trivial⟩
  | .nilfn, p, b1, o1, c1, e1, fr, ds, G, hn, hg, hb, hw, hr => by simp only [rep] at hr; simp only [view, srep, rep]; exact ⟨hr.1, trivial⟩
  | .nilif, p, b1, o1, c1, e1, fr, ds, G, hn, hg, hb, hw, hr => by simp only [rep] at hr; simp only [view, srep, rep]; exact ⟨hr.1, trivial⟩
  | .err, p, b1, o1, c1, e1, fr, ds, G, hn, hg, hb, hw, hr => by simp only [rep] at hr; simp only [view, srep, rep]; exact ⟨hr.1, trivial⟩
  | .isl nn s xs, p, b1, o1, c1, e1, fr, ds, G, hn, hg, hb, hw, hr => by
    have hG : G = [] := by simp only [rep] at hr; exact hr.1
    subst hG; simp only [view]; exact rep_srep hr
  | .iptr x, p, b1, o1, c1, e1, fr, ds, G, hn, hg, hb, hw, hr => by
    have hG : G = [] := by simp only [rep] at hr; exact hr.1
    subst hG; simp only [view]; exact rep_srep hr
  | .fn f cs, p, b1, o1, c1, e1, fr, ds, G, hn, hg, hb, hw, hr => by
    have hG : G = [] := by simp only [rep] at hr; exact hr.1
    subst hG; simp only [view]; exact rep_srep hr
theorem viewL_ok {H : Heap} {I : Nat → Prop} {h : Nat → Value} {o : Nat → V} {n : Nat} (hroot : (o n).isRoot = true) : ∀ {fs pre : List V} {p : List Nat} {b1 o1 : Nat} {c1 : Array Value} {e1 : TypeId} {fr : Nat × Nat} {ds : List Value} {G : List Nat},
    rnav H (h n) (o n) p = some (b1, o1) → rget (o n) p = some (.agg (pre ++ fs)) → H b1 = some (.cells c1 e1 fr) → win c1 (o1 + sizeL pre) ds → repL H I fs ds G → srepL H I h o (viewL n p pre.length fs) ds
  | [], pre, p, b1, o1, c1, e1, fr, ds, G, hn, hg, hb, hw, hr => by simp only [repL] at hr; simp only [viewL, srepL]; exact hr.1
  | x :: xs, pre, p, b1, o1, c1, e1, fr, ds, G, hn, hg, hb, hw, hr => by
    simp only [repL] at hr
    obtain ⟨d, ds', G1, G2, rfl, rfl, h1, h2⟩ := hr
    simp only [viewL, srepL]
    have hlt : pre.length < (pre ++ x :: xs).length := by simp
    obtain ⟨k1, k2⟩ := rnav_field hn hg hlt
    have hx : (pre ++ x :: xs)[pre.length]? = some x := by simp
    rw [hx] at k2
    have htk : (pre ++ x :: xs).take pre.length = pre := by simp
    rw [htk] at k1
    refine ⟨d, ds', rfl, view_ok hroot k1 k2 hb (win_app.1 hw).1 h1, ?_⟩
    have := viewL_ok hroot (fs := xs) (pre := pre ++ [x]) hn (by simpa using hg) hb (by
      have h3 := (win_app.1 hw).2
      rw [rep_len h1] at h3
      rw [sizeL_app]; simpa [sizeL, Nat.add_assoc] using h3) h2
    simpa using this
end

/-! the steps -/
def V.isAgg : V → Bool
  | .agg _ => true
  | _ => false

def loadV (ti : TyI) (st : St) (x : V) : Option V :=
  match x with
  | .iptr y => if ti.known = true ∧ y.size = ti.sz ∧ (decide (ti.kd = .struct)) = y.isAgg ∧ y.part = true then some y else none
  | .ref n p => match rget (st.o n) p with
    | some y => if ti.known = true ∧ y.size = ti.sz ∧ (decide (ti.kd = .struct)) = y.isAgg ∧ (view n p y).part = true then some (view n p y) else none
    | none => none
  | _ => none

def V.leaf : V → Bool
  | .agg _ => false
  | .own _ _ => false
  | .bx _ => false
  | _ => true

def create (d : Nat) (x : V) (st : St) : St := { st with s := fun t => (st.s t).mapA (killA d), o := upd st.o d x }

def storeV (ti : TyI) (st : St) (ax x : V) : Option St :=
  match ax with
  | .ref n p => match absorb st x with
    | some (y, st1, K) => match rget (st1.o n) p with
      | some z => if ti.known = true ∧ y.size = ti.sz ∧ z.size = y.size ∧ y.solid = true ∧ touches K (.ref n p) = false then
          some (if z.leaf = true then place0 n p y st1 else place n p y st1) else none
      | none => none
    | none => none
  | _ => none

def Stp (P : Program) (o : Oper) (st st' : St) : Prop :=
  ∀ E I h F a w, SatW E I h F st a w → ∃ nx w' v I', (execOp a.eval o).run P w = .ok nx w' ∧ (nx = .value v ∨ (nx = .skip ∧ v = undef)) ∧ (∀ b, I b → I' b) ∧ Sat E I' st' (a.put o.dst v) w'

section
variable {P : Program} {ty : Nat → TyI} {E : Env} {I : Nat → Prop} {h : Nat → Value} {F : Nat → List Nat} {st : St} {a : Act} {w : World}

theorem Stp_pure (hty : TyOk P ty) {o : Oper} {x : V} (hst : stepV ty st o.op = some x) (hd : dOk st o.dst = true) : Stp P o st (put st o.dst x) := by
  intro E I h F a w hs
  obtain ⟨v, h1, h2⟩ := pure_ok hty hs hst
  exact ⟨.value v, w, v, I, h1 w, .inl rfl, fun _ h => h, h, F, hs.put hd h2⟩

theorem create_eq (d : Nat) (x : V) (st : St) : create d x st = { kill d st with o := upd (kill d st).o d x } := by
  simp only [create, kill]
  congr 1
  funext m; simp only [upd]; split <;> rfl

/-- a new object in new memory -/
theorem SatW.create (hs : SatW E I h F st a w) {d : Nat} {x : V} {hv : Value} {G : List Nat} (hroot : x.isRoot = true) (hr : Lite.rep (hp w) I x [hv] G) (hnd : G.Nodup)
    (hdj : ∀ m, ∀ b ∈ G, b ∉ F m) (hfr : ∀ b ∈ G, b < w.heap.size ∧ ¬ I b ∧ (E.base ≤ b ∨ b ∈ E.A)) (hd : d < argName) :
    SatW E I (upd h d hv) (upd (upd F d []) d G) (Lite.create d x st) a w := by
  rw [create_eq]
  refine (hs.kill d).add (by simp [Lite.kill, upd_same]) hroot hr hnd ?_ hfr (fun v hv => absurd (hs.ms d v hv) (by omega))
  intro m b hb
  by_cases hm : m = d
  · subst hm; simp [upd_same]
  · simp only [upd_ne _ _ hm]; exact hdj m b hb

theorem SatW.push (hs : SatW E I h F st a w) (o : Obj) : SatW E I h F st a { w with heap := w.heap.push o } :=
  hs.ext (by simp) (fun b hb => by simp [Array.getElem?_push, Nat.ne_of_lt hb]) rfl ⟨rfl, by first | exact Nat.le_refl _ | exact Nat.le_succ _⟩ rfl

theorem SatW.drew (hs : SatW E I h F st a w) (n : Nat) : SatW E I h F st a { w with drawn := w.drawn + n } :=
  hs.ext (Nat.le_refl _) (fun _ _ => rfl) rfl ⟨rfl, Nat.le_add_right _ _⟩ rfl

theorem push_new (w : World) (o : Obj) : hp { w with heap := w.heap.push o } w.heap.size = some o := by simp [hp]
theorem push_old (w : World) (o : Obj) {b : Nat} (hb : b < w.heap.size) : hp { w with heap := w.heap.push o } b = hp w b := by
  simp [hp, Array.getElem?_push, Nat.ne_of_lt hb]

end
end Go.Lite

/- Loads, stores, new variables: sound. -/
namespace Go.Lite

theorem cell_hp {w : World} {b o : Nat} {c : Array Value} {e : TypeId} {fr : Nat × Nat} (hb : hp w b = some (.cells c e fr)) (k : Nat) : w.cell? ((⟨b, o, none⟩ : Addr).add k) = c[o + k]? := by
  rw [addr_add]
  have : w.heap[b]? = some (.cells c e fr) := hb
  simp [World.cell?, this]

theorem wr_eq (ds : List Value) : ∀ (c : Array Value) (o : Nat), o + ds.length ≤ c.size → (c.toList.take o ++ ds ++ c.toList.drop (o + ds.length)).toArray = wr c o ds := by
  intro c o hl
  apply Array.ext_getElem?
  intro k
  have hlen : (c.toList.take o).length = o := by simp; omega
  by_cases hk : k < o ∨ o + ds.length ≤ k
  · rw [wr_out _ _ _ _ hk]
    simp only [List.append_assoc, List.getElem?_toArray]
    rcases hk with hk | hk
    · rw [List.getElem?_append_left (by rw [hlen]; exact hk), List.getElem?_take_of_lt hk]; simp
    · rw [List.getElem?_append_right (by rw [hlen]; omega), List.getElem?_append_right (by rw [hlen]; omega), List.getElem?_drop, hlen]
      have : o + ds.length + (k - o - ds.length) = k := by omega
      rw [this]; simp
  · have h2 := wr_in ds c o hl (k - o) (by omega)
    rw [show o + (k - o) = k by omega] at h2
    rw [h2]
    simp only [List.append_assoc, List.getElem?_toArray]
    rw [List.getElem?_append_right (by rw [hlen]; omega), List.getElem?_append_left (by rw [hlen]; omega), hlen]

section
variable {P : Program} {ty : Nat → TyI} {E : Env} {I : Nat → Prop} {h : Nat → Value} {F : Nat → List Nat} {st : St} {a : Act} {w : World}

theorem run_loadCells_win {b o : Nat} {c : Array Value} {e : TypeId} {fr : Nat × Nat} {ds : List Value} (hb : hp w b = some (.cells c e fr)) (hw : win c o ds) :
    (loadCells ⟨b, o, none⟩ ds.length).run P w = .ok ds.toArray w := by
  refine run_loadCells_list w _ ds fun j v hv => ?_
  rw [cell_hp hb, hw j (lt_of_some hv), hv]

theorem run_loadVar (hty : TyOk P ty) {t : Nat} {b o : Nat} {c : Array Value} {e : TypeId} {fr : Nat × Nat} {ds : List Value} {agg : Bool} (hk : (ty t).known = true)
    (hb : hp w b = some (.cells c e fr)) (hw : win c o ds) (hl : ds.length = (ty t).sz) (ha : decide ((ty t).kd = .struct) = agg) (h1 : agg = false → ds.length = 1) :
    (loadVar t ⟨b, o, none⟩).run P w = .ok (if agg = true then .agg ds.toArray else ds.getD 0 undef) w := by
  obtain ⟨i, hi, hsz, _⟩ := hty.info hk
  have hag := hty.agg hk w
  rw [ha] at hag
  unfold loadVar
  rw [Sem.run_bind, hag]
  cases agg with
  | true =>
    have : (sizeOf t).run P w = .ok ds.length w := by simp [sizeOf, typeInfo, hi, hsz, hl]
    simp only [Result.andThen_ok, if_true, Sem.run_bind, this, run_loadCells_win hb hw, Sem.run_pure]
  | false =>
    obtain ⟨u, rfl⟩ := List.length_eq_one_iff.1 (h1 rfl)
    have hc := cell_hp (o := o) hb 0
    have h0 := hw 0 (by simp)
    simp only [addr_add, Nat.add_zero] at hc
    simp at h0
    simp [hc, h0]

theorem SV_of_srep {H : Heap} {o : Nat → V} {x : V} {ds : List Value} (hx : srep H I h o x ds) (hp : x.part = true) : SV H I h o x (if x.isAgg = true then .agg ds.toArray else ds.getD 0 undef) := by
  have hl := srep_len hx
  cases x <;> simp [V.part] at hp
  case agg fs =>
    simp only [srep] at hx
    simp only [V.isAgg, if_true, SV, SV1]; exact ⟨ds, rfl, hx⟩
  all_goals
    simp only [V.size] at hl
    obtain ⟨v, rfl⟩ := List.length_eq_one_iff.1 hl
    simp only [V.isAgg, SV, SV1]; exact hx

theorem view_isAgg (n : Nat) (p : List Nat) (y : V) (hp : (view n p y).part = true) : (view n p y).isAgg = y.isAgg := by cases y <;> simp [view, V.isAgg]

theorem load_core (hty : TyOk P ty) {t : Nat} {x : Operand} {y : V} (hl : loadV (ty t) st (ev st x) = some y) (hs : SatW E I h F st a w) : ∃ v b o, a.eval x = .pointer (some ⟨b, o, none⟩) ∧ (loadVar t ⟨b, o, none⟩).run P w = .ok v w ∧ SV (hp w) I h st.o y v := by
  have hx := hs.ev x
  unfold loadV at hl
  split at hl
  · rename_i z hz
    split at hl
    · rename_i hc
      simp only [Option.some.injEq] at hl; subst hl
      rw [hz] at hx
      simp only [SV, SV1, srep, rep] at hx
      obtain ⟨_, b, ob, c, e, fr, ds, hv, hI, hH, hr, hw⟩ := hx
      have hv' : a.eval x = .pointer (some ⟨b, ob, none⟩) := by simpa using hv
      have hlen := rep_len hr
      have hrun := run_loadVar (P := P) hty (t := t) hc.1 hH hw (by rw [hlen]; exact hc.2.1) hc.2.2.1 (by
        intro hna; rw [hlen]; cases z <;> simp [V.isAgg] at hna <;> rfl)
      exact ⟨_, b, ob, hv', hrun, SV_of_srep (rep_srep hr) hc.2.2.2⟩
    · cases hl
  · rename_i n p hz
    split at hl
    · rename_i z hg
      split at hl
      · rename_i hc
        simp only [Option.some.injEq] at hl; subst hl
        rw [hz] at hx
        simp only [SV, SV1, srep] at hx
        obtain ⟨ad, z', hn, hg', hv⟩ := hx
        have hroot := root_of_nav hn
        have hrep := hs.rep hroot
        have hpo : p = [] → (st.o n).isOwn = false := by
          intro hp; subst hp
          cases hO : st.o n <;> try rfl
          rw [hO] at hn; simp [rnav] at hn
        obtain ⟨b1, o1, c1, e1, ds, L, G, R, hn', hb1, hw1, hy, _⟩ := stored hroot hrep (hs.nd n) hg hpo
        rw [hn] at hn'
        have had : ad = (b1, o1) := Option.some.inj hn'
        subst had
        have hv' : a.eval x = .pointer (some ⟨b1, o1, none⟩) := by simpa using hv
        have hlen := rep_len hy
        have hvw := view_ok hroot hn hg hb1 hw1 hy
        have hrun := run_loadVar (P := P) hty (t := t) hc.1 hb1 hw1 (by rw [hlen]; exact hc.2.1) hc.2.2.1 (by
          intro hna; rw [hlen]; cases z <;> simp [V.isAgg] at hna <;> rfl)
        exact ⟨_, b1, o1, hv', hrun, by rw [← view_isAgg _ _ _ hc.2.2.2]; exact SV_of_srep hvw hc.2.2.2⟩
      · cases hl
    · cases hl
  · cases hl

theorem load_val (hty : TyOk P ty) {t : Nat} {x : Operand} {y : V} (hl : loadV (ty t) st (ev st x) = some y) (hs : SatW E I h F st a w) : ∃ v, (Instr.loadAt t (a.eval x)).run P w = .ok v w ∧ SV (hp w) I h st.o y v := by
  obtain ⟨v, b, o, h1, h2, h3⟩ := load_core hty hl hs
  refine ⟨v, ?_, h3⟩
  rw [h1]
  simp only [Instr.loadAt, Instr.sureAddr, Sem.run_bind, Sem.run_pure, Result.andThen_ok]
  exact h2

theorem load_ok (hty : TyOk P ty) {o : Oper} {t : Nat} {x : Operand} {y : V} (ho : o.op = .load t x) (hl : loadV (ty t) st (ev st x) = some y) (hs : SatW E I h F st a w) : ∃ v, (execOp a.eval o).run P w = .ok (.value v) w ∧ SV (hp w) I h st.o y v := by
  obtain ⟨v, h1, h2⟩ := load_val hty hl hs
  refine ⟨v, ?_, h2⟩
  simp only [execOp, ho]
  rw [Sem.run_bind, h1]; rfl

theorem Stp_load (hty : TyOk P ty) {o : Oper} {t : Nat} {x : Operand} {y : V} (ho : o.op = .load t x) (hl : loadV (ty t) st (ev st x) = some y) (hd : dOk st o.dst = true) :
    Stp P o st (put st o.dst y) := by
  intro E I h F a w hs
  obtain ⟨v, h1, h2⟩ := load_ok hty ho hl hs
  exact ⟨.value v, w, v, I, h1, .inl rfl, fun _ h => h, h, F, hs.put hd h2⟩

theorem run_storeVar (hty : TyOk P ty) {t : Nat} {b o : Nat} {c : Array Value} {e : TypeId} {v : Value} {ds : List Value} (hk : (ty t).known = true)
    (hb : w.heap[b]? = some (.cells c e (0, 0))) (hl : o + ds.length ≤ c.size) (hv : v.cells.toList = ds) (hsz : ds.length = (ty t).sz) (h1 : ∀ u ∈ ds, u.oneCell' = true) :
    (storeVar t ⟨b, o, none⟩ v).run P w = .ok () (w.setRow b (wr c o ds)) := by
  obtain ⟨i, hi, hsz', _⟩ := hty.info hk
  have hs : (sizeOf t).run P w = .ok v.cells.size w := by
    rw [← Array.length_toList, hv, hsz]; simp [sizeOf, typeInfo, hi, hsz']
  have hst := run_storeCells_at P b o e ds 0 c w hb (by simpa using hl) h1
  simp only [Nat.add_zero] at hst
  rw [wr_eq ds c o hl] at hst
  unfold storeVar
  rw [Sem.run_bind, hs]
  simp [hv, hst]

theorem leaf_get {y : V} (hl : y.leaf = true) {j : Nat} {p : List Nat} : y.get (j :: p) = none := by
  cases y <;> simp [V.leaf] at hl <;> simp [V.get]

theorem get_app : ∀ (p r : List Nat) (x : V), x.get (p ++ r) = (x.get p).bind fun y => y.get r
  | [], r, x => by cases x <;> simp [V.get]
  | i :: p, r, x => by
    cases x with
    | agg fs =>
      simp only [List.cons_append, V.get]
      cases fs[i]? with
      | none => rfl
      | some y => exact get_app p r y
    | own s xs =>
      simp only [List.cons_append, V.get]
      cases xs[i]? with
      | none => rfl
      | some y => exact get_app p r y
    | _ => simp [V.get]

theorem rget_app {O : V} {p r : List Nat} : rget O (p ++ r) = (rget O p).bind fun y => y.get r := by
  cases O <;> simp only [rget] <;> exact get_app p r _

theorem Stp_store (hty : TyOk P ty) {o : Oper} {t : Nat} {x z : Operand} {st' : St} (ho : o.op = .store t x z) (hdst : o.dst = none) (hl : storeV (ty t) st (ev st x) (ev st z) = some st') :
    Stp P o st st' := by
  intro E I h F a w hs
  have hx := hs.ev x
  have hz := hs.ev z
  unfold storeV at hl
  split at hl
  · rename_i n p hxe
    split at hl
    · rename_i y st1 K hab
      split at hl
      · rename_i u hg
        split at hl
        · rename_i hc
          obtain ⟨hk, hysz, husz, hsol, htch⟩ := hc
          simp only [Option.some.injEq] at hl; subst hl
          rw [hxe] at hx
          have hpart : (ev st z).part = true := by
            cases hq : ev st z <;> rw [hq] at hab <;> simp [absorb] at hab <;> simp [V.part]
          have hcells := SV_cells hz hpart
          obtain ⟨F1, G', hs1, hrep, hnd', hdj', hin', hsub', hn1, _, hsv, _⟩ := absorb_ok hs hcells hab
          have hx1 := hsv _ _ htch hx
          simp only [SV, SV1, srep] at hx1
          obtain ⟨ad, u', hn, hg', hv⟩ := hx1
          have hroot := root_of_nav hn
          have hpo : p = [] → (st1.o n).isOwn = false := by
            intro hp; subst hp
            cases hO : st1.o n <;> try rfl
            rw [hO] at hn; simp [rnav] at hn
          obtain ⟨b1, o1, c1, e1, ds, G, hn', hb1, hw1, hur, hGF, hGn, hbF, hput⟩ := hs1.place hroot hg hpo
          rw [hn] at hn'
          have had : ad = (b1, o1) := Option.some.inj hn'
          subst had
          have hv' : a.eval x = .pointer (some ⟨b1, o1, none⟩) := by simpa using hv
          have hds : ds.length = u.size := rep_len hur
          have hcl : (a.eval z).cells.toList.length = y.size := rep_len hrep
          have hlen : (a.eval z).cells.toList.length = ds.length := by rw [hcl, hds, husz]
          have hbd : o1 + (a.eval z).cells.toList.length ≤ c1.size ∨ (a.eval z).cells.toList = [] := by
            by_cases hd0 : ds = []
            · right; apply List.eq_nil_of_length_eq_zero; rw [hlen, hd0]; rfl
            · left; rw [hlen]; exact win_lt hw1 hd0
          have hb1G : b1 ∉ G' := fun hb => hdj' n b1 hb hbF
          have hfr : ∀ b ∈ G', b < w.heap.size ∧ ¬ I b ∧ (E.base ≤ b ∨ b ∈ E.A) := by
            intro b hb; obtain ⟨m, hm⟩ := hin' b hb; exact hs.fresh m b hm
          have hrun : (Instr.storeAt t (a.eval x) (a.eval z)).run P w = .ok () (w.setRow b1 (wr c1 o1 (a.eval z).cells.toList)) := by
            rw [hv']
            simp only [Instr.storeAt, Instr.sureAddr, Sem.run_bind, Sem.run_pure, Result.andThen_ok]
            rcases hbd with hbd | hbd
            · exact run_storeVar hty hk hb1 hbd rfl (by rw [hcl]; exact hysz) (solid_one hrep hsol)
            · obtain ⟨i, hi, hsz', _⟩ := hty.info hk
              have hss : (sizeOf t).run P w = .ok (a.eval z).cells.size w := by
                rw [← Array.length_toList, hcl, hysz]; simp [sizeOf, typeInfo, hi, hsz']
              unfold storeVar
              rw [Sem.run_bind, hss]
              simp [hbd, storeCells, wr, setRow_self w b1 c1 e1 (0, 0) hb1]
          obtain ⟨F', k1, _, _, _, k5⟩ := hput y _ G' (w.setRow b1 (wr c1 o1 (a.eval z).cells.toList)) husz.symm hlen hrep hnd' hb1G
            (fun b hb hb2 => absurd hb2 (hdj' n b hb)) (fun m _ b hb => hdj' m b hb) hfr (by simp) (setRow_heap w b1 c1 _ e1 (0, 0) hb1) (fun b hb => setRow_other w b1 b _ hb) rfl ⟨rfl, Nat.le_refl _⟩ rfl
          refine ⟨.skip, w.setRow b1 (wr c1 o1 (a.eval z).cells.toList), undef, I, ?_, .inr ⟨rfl, rfl⟩, fun _ h => h, h, F', ?_⟩
          · simp only [execOp, ho]
            rw [Sem.run_bind, hrun]; rfl
          · rw [hdst]
            simp only [Act.put]
            split
            · rename_i hleaf
              refine k5 ?_ ?_
              · rintro q ⟨r, hr, rfl⟩
                rw [rget_app, hg]
                cases r with
                | nil => exact absurd rfl hr
                | cons j r => exact leaf_get hleaf
              · cases u <;> simp [V.leaf] at hleaf <;> rfl
            · exact k1
        · cases hl
      · cases hl
    · cases hl
  · cases hl
end
end Go.Lite
