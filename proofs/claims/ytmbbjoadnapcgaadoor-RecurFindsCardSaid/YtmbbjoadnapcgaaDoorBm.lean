/- Rules by which a row goes on, over the residues of a modulus: plain laws, no program. -/
namespace VBm

section
variable {p : Nat} [NeZero p]

def sm (f : Nat → Fin p) : Nat → Fin p
  | 0 => 0
  | n + 1 => sm f n + f n

theorem sm_congr {f g : Nat → Fin p} : ∀ {n : Nat}, (∀ i, i < n → f i = g i) → sm f n = sm g n
  | 0, _ => rfl
  | n + 1, h => by
    unfold sm
    rw [sm_congr (fun i hi => h i (by omega)), h n (by omega)]
theorem sm_add (f g : Nat → Fin p) : ∀ n, sm (fun i => f i + g i) n = sm f n + sm g n
  | 0 => by simp [sm]
  | n + 1 => by
    have := sm_add f g n
    simp only [sm, this]
    grind
theorem sm_mul (c : Fin p) (f : Nat → Fin p) : ∀ n, sm (fun i => c * f i) n = c * sm f n
  | 0 => by simp only [sm]; grind
  | n + 1 => by
    have := sm_mul c f n
    simp only [sm, this]
    grind
theorem sm_zero : ∀ n, sm (fun _ => (0 : Fin p)) n = 0
  | 0 => rfl
  | n + 1 => by simp [sm, sm_zero n]
theorem sm_neg (f : Nat → Fin p) (n : Nat) : sm (fun i => -f i) n = -sm f n := by
  have := sm_mul (-1) f n
  have e : (fun i => -f i) = fun i => -1 * f i := by funext i; grind
  rw [e, this]
  grind
theorem sm_swap (f : Nat → Nat → Fin p) (n : Nat) : ∀ m, sm (fun i => sm (f i) n) m = sm (fun j => sm (fun i => f i j) m) n
  | 0 => by simp [sm, sm_zero]
  | m + 1 => by
    simp only [sm]
    rw [sm_swap f n m, ← sm_add]
/-- a longer sum whose further terms are 0 -/
theorem sm_more {f : Nat → Fin p} {n m : Nat} (h : n ≤ m) (hz : ∀ i, n ≤ i → i < m → f i = 0) : sm f m = sm f n := by
  induction m with
  | zero => have : n = 0 := by omega
            rw [this]
  | succ m ih =>
    by_cases e : n = m + 1
    · rw [e]
    · rw [sm, ih (by omega) (fun i h1 h2 => hz i h1 (by omega)), hz m (by omega) (by omega)]
      grind
/-- a sum whose first terms are 0 -/
theorem sm_shift {f : Nat → Fin p} {g n : Nat} (hz : ∀ i, i < g → f i = 0) : sm f (g + n) = sm (fun i => f (g + i)) n := by
  induction n with
  | zero =>
    have := sm_more (f := f) (n := 0) (m := g) (by omega) (fun i _ h => hz i h)
    simpa [sm] using this
  | succ n ih => rw [← Nat.add_assoc, sm, ih, sm]
theorem sm_one {f : Nat → Fin p} {k n : Nat} (hk : k < n) (hz : ∀ i, i < n → i ≠ k → f i = 0) : sm f n = f k := by
  induction n with
  | zero => omega
  | succ n ih =>
    rw [sm]
    by_cases e : k = n
    · subst e
      rw [sm_more (n := 0) (by omega) (fun i _ h => hz i (by omega) (by omega))]
      simp [sm]
    · rw [ih (by omega) (fun i h1 h2 => hz i (by omega) h2), hz n (by omega) (by omega)]
      grind

/-! a row, and rules by which it goes on -/
def ms (row r : Nat → Fin p) (L j : Nat) : Fin p := row j + sm (fun i => r i * row (j - 1 - i)) L

def Hd (row r : Nat → Fin p) (L n : Nat) : Prop := ∀ j, L ≤ j → j < n → ms row r L j = 0

/-- Massey's lemma -/
theorem massey {row C R : Nat → Fin p} {L l n : Nat} (hC : Hd row C L n) (hR : Hd row R l (n + 1)) (hn : ms row C L n ≠ 0) : n + 1 ≤ l + L := by
  rcases Nat.lt_or_ge n (l + L) with h | h
  · omega
  · exfalso
    apply hn
    -- row n by R
    have e1 := hR n (by omega) (by omega)
    unfold ms at e1 ⊢
    have a1 : sm (fun i => R i * row (n - 1 - i)) l = sm (fun i => -sm (fun k => R i * (C k * row (n - 2 - i - k))) L) l := by
      refine sm_congr fun i hi => ?_
      have e2 := hC (n - 1 - i) (by omega) (by omega)
      unfold ms at e2
      rw [sm_mul]
      have e3 : sm (fun k => C k * row (n - 1 - i - 1 - k)) L = sm (fun k => C k * row (n - 2 - i - k)) L := sm_congr fun k _ => by congr 2; omega
      rw [e3] at e2
      grind
    have a2 : sm (fun k => C k * row (n - 1 - k)) L = sm (fun k => -sm (fun i => R i * (C k * row (n - 2 - i - k))) l) L := by
      refine sm_congr fun k hk => ?_
      have e2 := hR (n - 1 - k) (by omega) (by omega)
      unfold ms at e2
      have e3 : sm (fun i => R i * (C k * row (n - 2 - i - k))) l = C k * sm (fun i => R i * row (n - 1 - k - 1 - i)) l := by
        rw [← sm_mul]
        refine sm_congr fun i _ => ?_
        have : n - 2 - i - k = n - 1 - k - 1 - i := by omega
        rw [this]
        grind
      rw [e3]
      grind
    rw [a2, sm_neg, ← sm_swap, ← sm_neg, ← a1]
    exact e1

/-- one step: C' = C - t x^g B -/
def nx (C B : Nat → Fin p) (M g : Nat) (t : Fin p) : Nat → Fin p := fun i =>
  C i - (if i + 1 = g then t else 0) - (if g ≤ i ∧ i < g + M then t * B (i - g) else 0)

theorem ms_nx {row C B : Nat → Fin p} {L M g L' j : Nat} {t : Fin p} (hg : 1 ≤ g) (h1 : L ≤ L') (h2 : g + M ≤ L') (hj : L' ≤ j) (hC : ∀ i, L ≤ i → C i = 0) :
    ms row (nx C B M g t) L' j = ms row C L j - t * ms row B M (j - g) := by
  unfold ms nx
  have e : sm (fun i => (C i - (if i + 1 = g then t else 0) - (if g ≤ i ∧ i < g + M then t * B (i - g) else 0)) * row (j - 1 - i)) L'
      = sm (fun i => C i * row (j - 1 - i)) L' + (sm (fun i => (if i + 1 = g then -t else 0) * row (j - 1 - i)) L' + sm (fun i => (if g ≤ i ∧ i < g + M then -t * B (i - g) else 0) * row (j - 1 - i)) L') := by
    rw [← sm_add, ← sm_add]
    refine sm_congr fun i _ => ?_
    split <;> split <;> grind
  rw [e]
  have e1 : sm (fun i => C i * row (j - 1 - i)) L' = sm (fun i => C i * row (j - 1 - i)) L := sm_more h1 fun i h _ => by rw [hC i h]; grind
  have e2 : sm (fun i => (if i + 1 = g then -t else 0) * row (j - 1 - i)) L' = -t * row (j - g) := by
    rw [sm_one (k := g - 1) (by omega) (fun i _ hi => by rw [if_neg (by omega)]; grind)]
    rw [if_pos (by omega)]
    congr 2
    omega
  have e3 : sm (fun i => (if g ≤ i ∧ i < g + M then -t * B (i - g) else 0) * row (j - 1 - i)) L' = -t * sm (fun i => B i * row (j - g - 1 - i)) M := by
    rw [sm_more h2 (fun i h _ => by rw [if_neg (by omega)]; grind), sm_shift (fun i hi => by rw [if_neg (by omega)]; grind), ← sm_mul]
    refine sm_congr fun i hi => ?_
    rw [if_pos (by omega)]
    have : j - 1 - (g + i) = j - g - 1 - i := by omega
    rw [this, show g + i - g = i by omega]
    grind
  rw [e1, e2, e3]
  grind

/-- what holds ahead of place n: the rule C of length L, the one ahead of its last growth B of length M, that missed by d0 at n - g -/
structure Bm (row : Nat → Fin p) (n : Nat) (C : Nat → Fin p) (L : Nat) (B : Nat → Fin p) (M g : Nat) (d0 : Fin p) : Prop where
  le : L ≤ n
  hold : Hd row C L n
  tail : ∀ i, L ≤ i → C i = 0
  least : ∀ l R, Hd row R l n → L ≤ l
  gap : 1 ≤ g
  len : L + M + g = n + 1
  ne : d0 ≠ 0
  old : g = n + 1 ∨ g ≤ n ∧ Hd row B M (n - g) ∧ ms row B M (n - g) = d0 ∧ M ≤ n - g

theorem Bm.start {row : Nat → Fin p} {one : Fin p} (h : one ≠ 0) : Bm row 0 (fun _ => 0) 0 (fun _ => 0) 0 1 one :=
  ⟨by omega, fun j h1 h2 => by omega, fun _ _ => rfl, fun _ _ _ => by omega, by omega, by omega, h, .inl rfl⟩

theorem Hd.mono {row r : Nat → Fin p} {L n m : Nat} (h : Hd row r L n) (hm : m ≤ n) : Hd row r L m := fun j h1 h2 => h j h1 (by omega)

theorem Bm.same {row : Nat → Fin p} {n : Nat} {C B : Nat → Fin p} {L M g : Nat} {d0 : Fin p} (h : Bm row n C L B M g d0) (hd : ms row C L n = 0) : Bm row (n + 1) C L B M (g + 1) d0 := by
  refine ⟨by have := h.le; omega, fun j h1 h2 => ?_, h.tail, fun l R hR => h.least l R (hR.mono (by omega)), by omega, by have := h.len; omega, h.ne, ?_⟩
  · by_cases e : j = n
    · rw [e]; exact hd
    · exact h.hold j h1 (by omega)
  · rcases h.old with h1 | ⟨h1, h2, h3, h4⟩
    · left; omega
    · right
      rw [show n + 1 - (g + 1) = n - g by omega]
      exact ⟨by omega, h2, h3, h4⟩

theorem Bm.holds_next {row : Nat → Fin p} {n : Nat} {C B : Nat → Fin p} {L M g : Nat} {d0 t : Fin p} (h : Bm row n C L B M g d0) (ht : t * d0 = ms row C L n) {L' : Nat} (h1 : L ≤ L') (h2 : g + M ≤ L') : Hd row (nx C B M g t) L' (n + 1) := by
  intro j hj1 hj2
  rw [ms_nx h.gap h1 h2 hj1 h.tail]
  rcases h.old with ho | ⟨hg, hB, hd, hM⟩
  · omega
  · by_cases e : j = n
    · subst e; rw [hd, ht]; grind
    · rw [h.hold j (by omega) (by omega), hB (j - g) (by omega) (by omega)]; grind

theorem Bm.least_next {row : Nat → Fin p} {n : Nat} {C B : Nat → Fin p} {L M g : Nat} {d0 : Fin p} (h : Bm row n C L B M g d0) (hd : ms row C L n ≠ 0) {l : Nat} {R : Nat → Fin p} (hR : Hd row R l (n + 1)) : L ≤ l ∧ n + 1 ≤ l + L :=
  ⟨h.least l R (hR.mono (by omega)), massey h.hold hR hd⟩

theorem nx_tail {C B : Nat → Fin p} {L M g L' : Nat} {t : Fin p} (hC : ∀ i, L ≤ i → C i = 0) (h1 : L ≤ L') (h2 : g + M ≤ L') : ∀ i, L' ≤ i → nx C B M g t i = 0 := by
  intro i hi
  unfold nx
  rw [hC i (by omega), if_neg (by omega), if_neg (by omega)]
  grind

/-- the rule stays as long as it is -/
theorem Bm.keep {row : Nat → Fin p} {n : Nat} {C B : Nat → Fin p} {L M g : Nat} {d0 t : Fin p} (h : Bm row n C L B M g d0) (hd : ms row C L n ≠ 0) (ht : t * d0 = ms row C L n) (hL : n < 2 * L) :
    Bm row (n + 1) (nx C B M g t) L B M (g + 1) d0 := by
  have hl := h.len
  refine ⟨by have := h.le; omega, h.holds_next ht (by omega) (by omega), nx_tail h.tail (by omega) (by omega), fun l R hR => (h.least_next hd hR).1, by omega, by omega, h.ne, ?_⟩
  rcases h.old with h1 | ⟨h1, h2, h3, h4⟩
  · left; omega
  · right
    rw [show n + 1 - (g + 1) = n - g by omega]
    exact ⟨by omega, h2, h3, h4⟩

/-- the rule grows -/
theorem Bm.grow {row : Nat → Fin p} {n : Nat} {C B : Nat → Fin p} {L M g : Nat} {d0 t : Fin p} (h : Bm row n C L B M g d0) (hd : ms row C L n ≠ 0) (ht : t * d0 = ms row C L n) (hL : 2 * L ≤ n) :
    Bm row (n + 1) (nx C B M g t) (n + 1 - L) C L 1 (ms row C L n) := by
  have hl := h.len
  have hle := h.le
  refine ⟨by omega, h.holds_next ht (by omega) (by omega), nx_tail h.tail (by omega) (by omega), fun l R hR => ?_, by omega, by omega, hd, ?_⟩
  · have := h.least_next hd hR; omega
  · right
    rw [show n + 1 - 1 = n by omega]
    exact ⟨by omega, h.hold, rfl, hle⟩
end
end VBm
