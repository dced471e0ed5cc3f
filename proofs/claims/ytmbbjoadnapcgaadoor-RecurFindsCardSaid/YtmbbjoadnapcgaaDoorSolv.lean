/- Plain laws: residues, and equations that are taken off one another (no program). -/
import Derived.Test.YtmbbjoadnapcgaaDoorList
import Derived.Test.YtmbbjoadnapcgaaDoorBm
namespace Go.Proofs.YtmbbjoadnapcgaaDoor
open VBm

/-- a number's residue -/
def F (q : Nat) [NeZero q] (x : Int) : Fin q := ⟨(x % (q : Int)).toNat, by
  have h0 : (0 : Int) < q := by have := Nat.pos_of_ne_zero (NeZero.ne q); omega
  have h1 := Int.emod_nonneg x (Int.ne_of_gt h0)
  have h2 := Int.emod_lt_of_pos x h0
  omega⟩

section
variable {q : Nat} [NeZero q]
theorem q_pos : (0 : Int) < (q : Int) := by have := Nat.pos_of_ne_zero (NeZero.ne q); omega
theorem F_val (x : Int) : ((F q x).val : Int) = x % (q : Int) := by
  have h1 := Int.emod_nonneg x (Int.ne_of_gt (q_pos (q := q)))
  show (((x % (q : Int)).toNat : Nat) : Int) = _
  omega
theorem F_iff {x y : Int} : F q x = F q y ↔ x % (q : Int) = y % (q : Int) := by
  constructor
  · intro h
    rw [← F_val, ← F_val, h]
  · intro h
    apply Fin.ext
    have := F_val (q := q) x
    have := F_val (q := q) y
    omega
theorem F_add (x y : Int) : F q (x + y) = F q x + F q y := by
  apply Fin.ext
  rw [Fin.val_add]
  have h1 := F_val (q := q) x
  have h2 := F_val (q := q) y
  have h3 := F_val (q := q) (x + y)
  have h4 := Int.add_emod x y (q : Int)
  rw [← h1, ← h2, ← Int.natCast_add, ← Int.natCast_emod] at h4
  omega
theorem F_mul (x y : Int) : F q (x * y) = F q x * F q y := by
  apply Fin.ext
  rw [Fin.val_mul]
  have h1 := F_val (q := q) x
  have h2 := F_val (q := q) y
  have h3 := F_val (q := q) (x * y)
  have h4 := Int.mul_emod x y (q : Int)
  rw [← h1, ← h2, ← Int.natCast_mul, ← Int.natCast_emod] at h4
  omega
theorem F_mod (x : Int) : F q (x % (q : Int)) = F q x := F_iff.2 (Int.emod_emod_of_dvd _ (Int.dvd_refl _))
theorem F_zero : F q 0 = 0 := by
  apply Fin.ext
  have := F_val (q := q) 0
  rw [Int.zero_emod] at this
  rw [Fin.val_zero]
  omega
theorem F_sub (x y : Int) : F q (x - y) = F q x - F q y := by
  have h := F_add (q := q) (x - y) y
  rw [Int.sub_add_cancel] at h
  grind
theorem F_ne {x : Int} (h0 : 0 < x) (h1 : x < q) : F q x ≠ 0 := by
  rw [← F_zero]
  intro h
  have := F_iff.1 h
  rw [Int.zero_emod, Int.emod_eq_of_lt (by omega) h1] at this
  omega

/-- a row of numbers as residues -/
def fr (q : Nat) [NeZero q] (l : List Int) : Nat → Fin q := fun i => F q (rn l i)

theorem sm_head (f : Nat → Fin q) : ∀ n, sm f (1 + n) = f 0 + sm (fun i => f (1 + i)) n
  | 0 => by simp only [sm]; grind
  | n + 1 => by
    rw [← Nat.add_assoc, sm, sm_head f n, sm]
    grind

/-- row i of a matrix, and its number at j -/
def rr (M : List (List Int)) (i : Nat) : List Int := M.getD i []
def en (M : List (List Int)) (i j : Nat) : Int := rn (rr M i) j

/-- do the equations from `used` on, without the first k unknowns, have a solution -/
def Solv (q : Nat) [NeZero q] (M : List (List Int)) (n used k : Nat) : Prop :=
  ∃ x : Nat → Fin q, ∀ i, used ≤ i → i < M.length → sm (fun d => F q (en M i (k + d)) * x (k + d)) (n - k) = F q (en M i n)

theorem solv_end {M : List (List Int)} {n used : Nat} (h : ∀ i, used ≤ i → i < M.length → en M i n = 0) : Solv q M n used n :=
  ⟨fun _ => 0, fun i h1 h2 => by rw [Nat.sub_self, h i h1 h2, F_zero]; rfl⟩

theorem sm_from (M : List (List Int)) (x : Nat → Fin q) {n k : Nat} (hk : k < n) (i : Nat) :
    sm (fun d => F q (en M i (k + d)) * x (k + d)) (n - k) = F q (en M i k) * x k + sm (fun d => F q (en M i (k + 1 + d)) * x (k + 1 + d)) (n - (k + 1)) := by
  rw [show n - k = 1 + (n - (k + 1)) by omega, sm_head]
  simp only [Nat.add_zero, Nat.add_assoc]

theorem solv_skip {M : List (List Int)} {n used k : Nat} (hk : k < n) (h : ∀ i, used ≤ i → i < M.length → en M i k = 0) (hs : Solv q M n used (k + 1)) : Solv q M n used k := by
  obtain ⟨x, hx⟩ := hs
  refine ⟨x, fun i h1 h2 => ?_⟩
  rw [sm_from M x hk i, h i h1 h2, F_zero, hx i h1 h2]
  grind

theorem solv_elim {M N : List (List Int)} {n used k : Nat} {iv : Int} (hk : k < n) (hl : N.length = M.length) (hiv : F q iv * F q (en M used k) = 1)
    (hN : ∀ i j, used < i → i < M.length → k ≤ j → j ≤ n → en N i j = (en M i j - (en M i k * iv) % (q : Int) * en M used j % (q : Int)) % (q : Int))
    (hs : Solv q N n (used + 1) (k + 1)) : Solv q M n used k := by
  obtain ⟨x, hx⟩ := hs
  obtain ⟨v, hv⟩ : ∃ v, v = F q iv * (F q (en M used n) - sm (fun d => F q (en M used (k + 1 + d)) * x (k + 1 + d)) (n - (k + 1))) := ⟨_, rfl⟩
  obtain ⟨y, hyk, hyo⟩ : ∃ y : Nat → Fin q, y k = v ∧ ∀ j, j ≠ k → y j = x j := ⟨fun j => if j = k then v else x j, if_pos rfl, fun j h => if_neg h⟩
  have hrest : ∀ i, sm (fun d => F q (en M i (k + 1 + d)) * y (k + 1 + d)) (n - (k + 1)) = sm (fun d => F q (en M i (k + 1 + d)) * x (k + 1 + d)) (n - (k + 1)) := fun i =>
    sm_congr fun d _ => by rw [hyo _ (by omega)]
  refine ⟨y, fun i h1 h2 => ?_⟩
  rw [sm_from M _ hk i, hrest i, hyk]
  obtain ⟨su, hsu⟩ : ∃ su, su = sm (fun d => F q (en M used (k + 1 + d)) * x (k + 1 + d)) (n - (k + 1)) := ⟨_, rfl⟩
  rw [← hsu] at hv
  by_cases e : i = used
  · subst e
    rw [← hsu, hv]
    grind
  · have hi : used < i := by omega
    have hx1 := hx i (by omega) (by omega)
    have hNe : ∀ j, k ≤ j → j ≤ n → F q (en N i j) = F q (en M i j) - F q (en M i k) * F q iv * F q (en M used j) := fun j h3 h4 => by
      rw [hN i j hi h2 h3 h4, F_mod, F_sub, F_mod, F_mul, F_mod, F_mul]
    have hsum : sm (fun d => F q (en N i (k + 1 + d)) * x (k + 1 + d)) (n - (k + 1)) = sm (fun d => F q (en M i (k + 1 + d)) * x (k + 1 + d)) (n - (k + 1)) + -(F q (en M i k) * F q iv) * su := by
      rw [hsu, ← sm_mul, ← sm_add]
      refine sm_congr fun d hd => ?_
      rw [hNe (k + 1 + d) (by omega) (by omega)]
      grind
    rw [hsum, hNe n (by omega) (Nat.le_refl _)] at hx1
    rw [hv]
    grind

theorem solv_swap {M N : List (List Int)} {n used k at' : Nat} (h1 : used ≤ at') (h2 : at' < M.length) (hl : N.length = M.length)
    (hu : rr N used = rr M at') (ha : rr N at' = rr M used) (ho : ∀ i, i ≠ used → i ≠ at' → rr N i = rr M i) (hs : Solv q N n used k) : Solv q M n used k := by
  obtain ⟨x, hx⟩ := hs
  refine ⟨x, fun i h3 h4 => ?_⟩
  by_cases e : i = used
  · have := hx at' h1 (by omega)
    unfold en at this ⊢
    rw [ha] at this
    rw [e]
    exact this
  · by_cases e2 : i = at'
    · have := hx used (Nat.le_refl _) (by omega)
      unfold en at this ⊢
      rw [hu] at this
      rw [e2]
      exact this
    · have := hx i h3 (by omega)
      unfold en at this ⊢
      rw [ho i e e2] at this
      exact this

theorem solv_init {M : List (List Int)} {row : List Int} {n : Nat} (hl : M.length = row.length - n)
    (h1 : ∀ i j, i < row.length - n → j < n → en M i j = rn row (n + i - 1 - j) % (q : Int))
    (h2 : ∀ i, i < row.length - n → en M i n = (0 - rn row (n + i)) % (q : Int)) (hs : Solv q M n 0 0) : ∃ R : Nat → Fin q, Hd (fr q row) R n row.length := by
  obtain ⟨x, hx⟩ := hs
  refine ⟨x, fun j h3 h4 => ?_⟩
  have e := hx (j - n) (by omega) (by omega)
  rw [h2 (j - n) (by omega), F_mod, F_sub, F_zero, show n + (j - n) = j by omega, Nat.sub_zero] at e
  unfold ms
  have e2 : sm (fun i => x i * fr q row (j - 1 - i)) n = sm (fun d => F q (en M (j - n) (0 + d)) * x (0 + d)) n := sm_congr fun d hd => by
    rw [Nat.zero_add, h1 (j - n) d (by omega) hd, F_mod, show n + (j - n) - 1 - d = j - 1 - d by omega]
    unfold fr
    grind
  rw [e2, e]
  unfold fr
  grind
end
end Go.Proofs.YtmbbjoadnapcgaaDoor
