/- Plain laws: the rule that is found holds, and none is shorter (residues, no program). -/
import Derived.Test.YtmbbjoadnapcgaaDoorFindF
import Derived.Test.YtmbbjoadnapcgaaDoorHolds
import Derived.Test.YtmbbjoadnapcgaaDoorPlain1
import Derived.Test.YtmbbjoadnapcgaaDoorSolv
namespace Go.Proofs.YtmbbjoadnapcgaaDoor
open VNum VBm

/-! the inverse -/
theorem invL_law (m x : Int) (hm : 0 < m) : ∀ (f : Nat) (r s a b : Int), 0 ≤ r → 0 ≤ s → s.toNat < f → (m ∣ r - a * x) → (m ∣ s - b * x) →
    (invL m f r s a b).1 = (Int.gcd r s : Int) ∧ m ∣ (invL m f r s a b).1 - (invL m f r s a b).2 * x
  | 0, _, _, _, _, _, _, hf, _, _ => by omega
  | f + 1, r, s, a, b, hr, hs, hf, h1, h2 => by
    unfold invL
    by_cases h0 : 0 < s
    · rw [if_pos h0]
      have e1 := Int.emod_nonneg r (show s ≠ 0 by omega)
      have e2 := Int.emod_lt_of_pos r h0
      have ih := invL_law m x hm f s (r % s) b ((a - r / s * b) % m) hs e1 (by omega) h2 (by
        have hd := Int.mul_ediv_add_emod r s
        obtain ⟨c1, hc1⟩ := h1
        obtain ⟨c2, hc2⟩ := h2
        have hq := Int.mul_ediv_add_emod (a - r / s * b) m
        refine ⟨c1 - r / s * c2 + (a - r / s * b) / m * x, ?_⟩
        generalize r / s = Q at *
        generalize (a - Q * b) / m = Z at *
        generalize (a - Q * b) % m = Y at *
        grind)
      refine ⟨?_, ih.2⟩
      rw [ih.1]
      have hg : Int.gcd s (r % s) = Int.gcd r s := by
        rw [Int.gcd_comm r s]
        have hd := Int.mul_ediv_add_emod r s
        apply Nat.dvd_antisymm
        · apply Int.dvd_gcd
          · exact Int.gcd_dvd_left ..
          · have e9 : ((Int.gcd s (r % s) : Nat) : Int) ∣ s * (r / s) + r % s := Int.dvd_add (Int.dvd_trans (Int.gcd_dvd_left ..) (Int.dvd_mul_right ..)) (Int.gcd_dvd_right ..)
            rw [hd] at e9
            exact e9
        · apply Int.dvd_gcd
          · exact Int.gcd_dvd_left ..
          · have : r % s = r - s * (r / s) := by omega
            rw [this]
            exact Int.dvd_sub (Int.gcd_dvd_right ..) (Int.dvd_trans (Int.gcd_dvd_left ..) (Int.dvd_mul_right ..))
      rw [hg]
    · rw [if_neg h0]
      have : s = 0 := by omega
      subst this
      refine ⟨?_, h1⟩
      rw [Int.gcd_zero_right]
      omega

theorem pr_gcd {q : Nat} (hp : Pr q) {x : Int} (h0 : 0 < x) (h1 : x < q) : Int.gcd q x = 1 := by
  rcases hp.2 (Int.gcd q x) (by have := Int.gcd_dvd_left (a := (q : Int)) (b := x); exact Int.natCast_dvd_natCast.1 this) with h | h
  · exact h
  · exfalso
    have := Int.gcd_dvd_right (a := (q : Int)) (b := x)
    rw [h] at this
    have := Int.le_of_dvd h0 this
    omega

section
variable {q : Nat} [NeZero q]

theorem F_1 (h2 : 2 ≤ q) : F q 1 = 1 := by
  apply Fin.ext
  have := F_val (q := q) 1
  rw [Int.emod_eq_of_lt (by omega) (by omega)] at this
  have e : (1 : Fin q).val = 1 % q := rfl
  rw [e, Nat.mod_eq_of_lt (by omega)]
  omega
theorem invF_law (hp : Pr q) {x : Int} (h0 : 0 < x) (h1 : x < q) : F q (invF q x).1 * F q x = 1 := by
  have hx : x % (q : Int) = x := Int.emod_eq_of_lt (by omega) h1
  have h2 := hp.1
  have L := invL_law q x (by omega) (x.toNat + 1) q x 0 1 (by omega) (by omega) (by omega) ⟨1, by omega⟩ ⟨0, by omega⟩
  rw [pr_gcd hp h0 h1] at L
  have e : invF q x = ((invL q (x.toNat + 1) q x 0 1).2, 0) := by
    unfold invF
    rw [hx, if_neg (by omega)]
    simp only [L.1]
    rfl
  rw [e]
  obtain ⟨L1, c, hc⟩ := L
  rw [L1] at hc
  have e3 : F q (((1 : Nat) : Int) - (invL q (x.toNat + 1) q x 0 1).2 * x) = 0 := by
    rw [hc, F_mul, ← F_zero (q := q)]
    have : F q (q : Int) = F q 0 := F_iff.2 (by rw [Int.emod_self, Int.zero_emod])
    rw [this, F_zero]
    grind
  rw [F_sub, F_mul] at e3
  have e4 : F q ((1 : Nat) : Int) = 1 := F_1 h2
  rw [e4] at e3
  show F q (invL q (x.toNat + 1) q x 0 1).2 * F q x = 1
  grind

theorem F_one (h2 : 2 ≤ q) : F q 1 ≠ 0 := F_ne (by omega) (by omega)

/-! what is missed, and the next rule -/
theorem F_miss (r row : List Int) (p : Nat) : ∀ k, F q (missTo q r row p k) = fr q row p + sm (fun i => fr q r i * fr q row (p - 1 - i)) k
  | 0 => by
    rw [missTo, F_mod]
    simp only [sm, fr]
    grind
  | k + 1 => by
    rw [missTo, F_mod, F_add, F_mul, F_miss r row p k, sm]
    simp only [fr]
    grind
theorem F_missed (r row : List Int) (p : Nat) : F q (missTo q r row p r.length) = ms (fr q row) (fr q r) r.length p := F_miss r row p _

theorem rn_growF (l : List Int) (n i : Nat) : rn (growF l n) i = rn l i := by
  unfold rn growF
  rw [List.getD_eq_getElem?_getD, List.getD_eq_getElem?_getD]
  rcases Nat.lt_or_ge i l.length with h | h
  · rw [List.getElem?_append_left h]
  · rw [List.getElem?_append_right h, List.getElem?_eq_none h, List.getElem?_replicate]
    split <;> rfl
theorem rn_set (l : List Int) (j : Nat) (x : Int) (i : Nat) (h : j < l.length) : rn (l.set j x) i = if i = j then x else rn l i := by
  unfold rn
  rw [List.getD_eq_getElem?_getD, List.getD_eq_getElem?_getD, List.getElem?_set]
  by_cases e : j = i
  · rw [if_pos e, if_pos e.symm, if_pos (by omega)]; rfl
  · rw [if_neg e, if_neg (fun h => e h.symm)]

theorem fr_updTo (t : Int) (old : List Int) (gap : Nat) (nw : List Int) (i : Nat) : ∀ k, gap + k ≤ nw.length →
    F q (rn (updTo q t old gap nw k) i) = F q (rn nw i) - (if gap ≤ i ∧ i < gap + k then F q t * fr q old (i - gap) else 0)
  | 0, _ => by
    rw [updTo, if_neg (by omega)]
    grind
  | k + 1, h => by
    rw [updTo, rn_set _ _ _ _ (by rw [updTo_len]; omega)]
    have ih := fr_updTo t old gap nw i k (by omega)
    by_cases e : i = gap + k
    · rw [if_pos e, F_mod, F_sub, F_mul, ← e, ih, if_neg (by omega), if_pos (by omega)]
      rw [show i - gap = k by omega]
      simp only [fr]
      grind
    · rw [if_neg e, ih]
      by_cases e2 : gap ≤ i ∧ i < gap + k
      · rw [if_pos e2, if_pos (by omega)]
      · rw [if_neg e2, if_neg (by omega)]

theorem fr_nextF (t : Int) (s : St) (hg : 1 ≤ s.gap) : fr q (nextF q t s) = nx (fr q s.now) (fr q s.old) s.old.length s.gap (F q t) := by
  funext i
  have hlen : ((growF s.now (s.gap + s.old.length)).set (s.gap - 1) ((rn (growF s.now (s.gap + s.old.length)) (s.gap - 1) - t) % (q : Int))).length = max (s.gap + s.old.length) s.now.length := by
    rw [List.length_set, growF_len]
  unfold nx
  show F q (rn (nextF q t s) i) = _
  unfold nextF
  rw [fr_updTo _ _ _ _ _ _ (by rw [hlen]; omega), rn_set _ _ _ _ (by rw [growF_len]; omega), rn_growF, rn_growF]
  congr 1
  by_cases e : i = s.gap - 1
  · rw [if_pos e, F_mod, F_sub, ← e, if_pos (by omega)]
    rfl
  · rw [if_neg e, if_neg (by omega)]
    simp only [fr]
    grind

theorem fr_growF (l : List Int) (n : Nat) : fr q (growF l n) = fr q l := by
  funext i
  unfold fr
  rw [rn_growF]

/-- the state ahead of place k is Berlekamp's and Massey's -/
theorem findTo_bm (hp : Pr q) (row : List Int) : ∀ k, Bm (fr q row) k (fr q (findTo q row k).now) (findTo q row k).now.length (fr q (findTo q row k).old) (findTo q row k).old.length (findTo q row k).gap (F q (findTo q row k).was)
  | 0 => by
    have e : fr q ([] : List Int) = fun _ => 0 := by
      funext i
      show F q (rn [] i) = 0
      rw [rn_out (by simp), F_zero]
    show Bm (fr q row) 0 (fr q []) 0 (fr q []) 0 1 (F q (1 % (q : Int)))
    rw [e, F_mod]
    exact Bm.start (F_one hp.1)
  | k + 1 => by
    have h2 := hp.1
    have ih := findTo_bm hp row k
    have ok := findTo_ok (m := (q : Int)) (by omega) row k
    show Bm (fr q row) (k + 1) (fr q (stepF q row (findTo q row k) k).now) (stepF q row (findTo q row k) k).now.length (fr q (stepF q row (findTo q row k) k).old) (stepF q row (findTo q row k) k).old.length (stepF q row (findTo q row k) k).gap (F q (stepF q row (findTo q row k) k).was)
    generalize findTo q row k = s at *
    have hms := F_missed (q := q) s.now row k
    have hr := missTo_rng (m := (q : Int)) (by omega) s.now row k s.now.length
    unfold stepF
    by_cases hz : missTo q s.now row k s.now.length = 0
    · rw [if_pos hz]
      exact ih.same (by rw [← hms, hz, F_zero])
    · rw [if_neg hz]
      have hne : ms (fr q row) (fr q s.now) s.now.length k ≠ 0 := by rw [← hms]; exact F_ne (by omega) hr.2
      have hwas : 0 < s.was := by
        have := ok.w0
        rcases Int.lt_or_le 0 s.was with h | h
        · exact h
        · exfalso
          apply ih.ne
          rw [show s.was = 0 by omega, F_zero]
      have hinv := invF_law hp hwas ok.w1
      have ht : F q (missTo q s.now row k s.now.length * (invF q s.was).1 % (q : Int)) * F q s.was = ms (fr q row) (fr q s.now) s.now.length k := by
        rw [F_mod, F_mul, hms]
        grind
      generalize missTo q s.now row k s.now.length * (invF q s.was).1 % (q : Int) = t at *
      have hl := nextF_len (q : Int) t s
      have hf := fr_nextF (q := q) t s ok.gap
      by_cases hL : k < 2 * s.now.length
      · rw [if_pos hL]
        have := ih.keep hne ht hL
        have hl2 : (nextF q t s).length = s.now.length := by rw [hl]; have := ok.len; omega
        show Bm (fr q row) (k + 1) (fr q (nextF q t s)) (nextF q t s).length (fr q s.old) s.old.length (s.gap + 1) (F q s.was)
        rw [hf, hl2]
        exact this
      · rw [if_neg hL]
        have := ih.grow hne ht (by omega)
        have hl2 : (growF (nextF q t s) (k + 1 - s.now.length)).length = k + 1 - s.now.length := by rw [growF_len, hl]; have := ok.len; omega
        show Bm (fr q row) (k + 1) (fr q (growF (nextF q t s) (k + 1 - s.now.length))) (growF (nextF q t s) (k + 1 - s.now.length)).length (fr q s.now) s.now.length 1 (F q (missTo q s.now row k s.now.length))
        rw [fr_growF, hf, hl2, hms]
        exact this

theorem F_next (r row : List Int) (n : Nat) : ∀ k, F q (nextTo q r row n k) = sm (fun i => fr q r i * fr q row (n - 1 - i)) k
  | 0 => by rw [nextTo, F_zero]; rfl
  | k + 1 => by
    rw [nextTo, F_mod, F_add, F_mul, F_next r row n k, sm]
    rfl

theorem found_holds (hp : Pr q) (row : List Int) : holdsF q (findTo q row row.length).now row = true := by
  apply holds_true
  intro i h1 h2
  have h := (findTo_bm hp row row.length).hold i h1 h2
  apply F_iff.1
  rw [F_sub, F_zero, F_next]
  unfold ms at h
  show _ = fr q row i
  grind

theorem found_least (hp : Pr q) (row : List Int) {n : Nat} {R : Nat → Fin q} (h : Hd (fr q row) R n row.length) : (findTo q row row.length).now.length ≤ n :=
  (findTo_bm hp row row.length).least n R h

/-- the reference's inverse -/
theorem pow_inv (hp : Pr q) {x : Int} {k : Nat} (hk : q = k + 2) (h0 : 0 < x) (h1 : x < q) : F q (x ^ k % (q : Int)) * F q x = 1 := by
  have h2 := hp.1
  have hx : ¬ q ∣ x.toNat := fun h => by
    have := Nat.le_of_dvd (by omega) h
    omega
  have hf := fermat hp hx
  rw [F_mod, ← F_mul]
  have e1 : x ^ k * x = x ^ (q - 1) := by
    rw [show q - 1 = k + 1 by omega, Int.pow_succ]
  rw [e1, ← F_1 h2]
  apply F_iff.2
  have e2 : x = (x.toNat : Int) := by omega
  rw [e2, ← Int.natCast_pow, ← Int.natCast_emod, hf, Int.emod_eq_of_lt (by omega) (by omega)]
  rfl
end
end Go.Proofs.YtmbbjoadnapcgaaDoor
