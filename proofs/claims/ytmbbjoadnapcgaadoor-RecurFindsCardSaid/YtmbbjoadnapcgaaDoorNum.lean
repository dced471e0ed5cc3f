/- Plain numbers, no program: Fermat's little theorem, Miller and Rabin's test, and that three great numbers are prime. -/
namespace VNum

/-- a prime number -/
def Pr (p : Nat) : Prop := 2 ≤ p ∧ ∀ d, d ∣ p → d = 1 ∨ d = p

theorem Pr.coprime {p x : Nat} (hp : Pr p) (hx : ¬ p ∣ x) : Nat.Coprime p x := by
  have h := hp.2 (Nat.gcd p x) (Nat.gcd_dvd_left _ _)
  rcases h with h | h
  · exact h
  · exact absurd (h ▸ Nat.gcd_dvd_right p x) hx

theorem Pr.dvd_mul {p x y : Nat} (hp : Pr p) (h : p ∣ x * y) : p ∣ x ∨ p ∣ y := by
  by_cases hx : p ∣ x
  · exact .inl hx
  · exact .inr (Nat.Coprime.dvd_of_dvd_mul_left (hp.coprime hx) h)

theorem subset_of_length {α : Type} [DecidableEq α] : ∀ (l1 l2 : List α), l1.Nodup → l1 ⊆ l2 → l2.length ≤ l1.length → l2 ⊆ l1 := by
  intro l1
  induction l1 with
  | nil =>
    intro l2 _ _ h3
    have : l2 = [] := List.eq_nil_of_length_eq_zero (by simpa using h3)
    simp [this]
  | cons a t ih =>
    intro l2 h1 h2 h3
    have ha : a ∈ l2 := h2 (List.mem_cons_self ..)
    have hn := List.nodup_cons.1 h1
    have hp := List.perm_cons_erase ha
    have hl : (l2.erase a).length + 1 = l2.length := by
      have := hp.length_eq
      simp at this
      omega
    have hsub : t ⊆ l2.erase a := by
      intro b hb
      have hb2 : b ∈ l2 := h2 (List.mem_cons_of_mem _ hb)
      have hne : b ≠ a := fun e => hn.1 (e ▸ hb)
      exact (List.mem_erase_of_ne hne).2 hb2
    have := ih (l2.erase a) hn.2 hsub (by simp at h3; omega)
    intro b hb
    by_cases e : b = a
    · simp [e]
    · exact List.mem_cons_of_mem _ (this ((List.mem_erase_of_ne e).2 hb))

/-- the product of a list modulo p -/
def prod : List Nat → Nat
  | [] => 1
  | a :: l => a * prod l

theorem prod_perm {l l' : List Nat} (h : l.Perm l') : prod l = prod l' := by
  induction h with
  | nil => rfl
  | cons x _ ih => simp [prod, ih]
  | swap x y l => simp [prod, Nat.mul_left_comm]
  | trans _ _ ih1 ih2 => exact ih1.trans ih2

theorem prod_map_mul (x p : Nat) (l : List Nat) : prod (l.map fun i => x * i % p) % p = x ^ l.length * prod l % p := by
  induction l with
  | nil => simp [prod]
  | cons a t ih =>
    simp only [List.map_cons, prod, List.length_cons]
    rw [Nat.mul_mod, ih, Nat.mod_mod, ← Nat.mul_mod]
    congr 1
    rw [Nat.pow_succ]
    simp [Nat.mul_assoc, Nat.mul_left_comm, Nat.mul_comm]

theorem prod_coprime {p : Nat} (hp : Pr p) (l : List Nat) (h : ∀ a ∈ l, ¬ p ∣ a) : ¬ p ∣ prod l := by
  induction l with
  | nil =>
    intro hd
    have := Nat.le_of_dvd (by decide) hd
    have := hp.1
    simp [prod] at *
    omega
  | cons a t ih =>
    intro hd
    rcases hp.dvd_mul hd with h1 | h1
    · exact h a (List.mem_cons_self ..) h1
    · exact ih (fun b hb => h b (List.mem_cons_of_mem _ hb)) h1

theorem nodup_map_on {α β : Type} (f : α → β) : ∀ l : List α, l.Nodup → (∀ a ∈ l, ∀ b ∈ l, f a = f b → a = b) → (l.map f).Nodup
  | [], _, _ => by simp
  | a :: t, h, hf => by
    have hn := List.nodup_cons.1 h
    rw [List.map_cons, List.nodup_cons]
    refine ⟨?_, nodup_map_on f t hn.2 fun b hb c hc => hf b (List.mem_cons_of_mem _ hb) c (List.mem_cons_of_mem _ hc)⟩
    intro hm
    obtain ⟨b, hb, he⟩ := List.mem_map.1 hm
    have := hf b (List.mem_cons_of_mem _ hb) a (List.mem_cons_self ..) he
    exact hn.1 (this ▸ hb)

theorem mul_inj_mod {p x a b : Nat} (hp : Pr p) (hx : ¬ p ∣ x) (ha : a < p) (hb : b < p) (h : x * a % p = x * b % p) : a = b := by
  have key : ∀ a b, a < p → b < p → a ≤ b → x * a % p = x * b % p → a = b := by
    intro a b ha hb hab h
    have h1 : p ∣ x * b - x * a := Nat.dvd_of_mod_eq_zero (Nat.sub_mod_eq_zero_of_mod_eq h.symm)
    rw [← Nat.mul_sub] at h1
    have h2 := (hp.dvd_mul h1).resolve_left hx
    have := Nat.eq_zero_of_dvd_of_lt h2 (by omega)
    omega
  rcases Nat.le_total a b with hab | hab
  · exact key a b ha hb hab h
  · exact (key b a hb ha hab h.symm).symm

theorem fermat {p x : Nat} (hp : Pr p) (hx : ¬ p ∣ x) : x ^ (p - 1) % p = 1 := by
  have hp2 := hp.1
  let L := List.range' 1 (p - 1)
  have hL : ∀ a, a ∈ L ↔ 1 ≤ a ∧ a < p := by
    intro a
    simp only [L, List.mem_range'_1]
    omega
  have hnd : L.Nodup := List.nodup_range' ..
  have hlen : L.length = p - 1 := by simp [L]
  have hM : (L.map fun i => x * i % p).Nodup := by
    refine nodup_map_on _ L hnd fun a ha b hb h => ?_
    exact mul_inj_mod hp hx ((hL a).1 ha).2 ((hL b).1 hb).2 h
  have hsub : (L.map fun i => x * i % p) ⊆ L := by
    intro c hc
    obtain ⟨i, hi, rfl⟩ := List.mem_map.1 hc
    have hi' := (hL i).1 hi
    rw [hL]
    refine ⟨?_, Nat.mod_lt _ (by omega)⟩
    rcases Nat.eq_zero_or_pos (x * i % p) with h0 | h0
    · have hd := Nat.dvd_of_mod_eq_zero h0
      rcases hp.dvd_mul hd with h | h
      · exact absurd h hx
      · have := Nat.le_of_dvd (by omega) h
        omega
    · exact h0
  have hsup := subset_of_length _ L hM hsub (by simp)
  have hperm : (L.map fun i => x * i % p).Perm L := (List.perm_ext_iff_of_nodup hM hnd).2 fun a => ⟨fun h => hsub h, fun h => hsup h⟩
  have h1 := prod_map_mul x p L
  rw [prod_perm hperm, hlen] at h1
  have hcop := prod_coprime hp L fun a ha hd => by
    have := (hL a).1 ha
    have := Nat.le_of_dvd (by omega) hd
    omega
  -- prod L * 1 ≡ prod L * x^(p-1)
  have h2 : prod L * (1 % p) % p = prod L * (x ^ (p - 1) % p) % p := by
    rw [Nat.mul_mod_mod, Nat.mul_mod_mod, Nat.mul_one, h1, Nat.mul_comm]
  have h3 := mul_inj_mod hp hcop (Nat.mod_lt _ (by omega)) (Nat.mod_lt _ (by omega)) h2
  rw [← h3, Nat.mod_eq_of_lt (by omega)]


/-! Miller and Rabin's test, as the program does it -/
def tzL : Nat → Nat → Nat
  | 0, _ => 0
  | f + 1, n => if n % 2 = 1 then 0 else 1 + tzL f (n / 2)

def powL (n : Nat) : Nat → Nat → Nat → Nat → Nat
  | 0, _, _, x => x
  | f + 1, e, b, x => if e = 0 then x else powL n f (e / 2) (b * b % n) (if e % 2 = 1 then x * b % n else x)

def sqs (n : Nat) : Nat → Nat → Bool
  | 0, _ => false
  | t + 1, x => if x = n - 1 then true else sqs n t (x * x % n)

def strongB (n base : Nat) : Bool :=
  if powL n 64 ((n - 1) / 2 ^ tzL 64 (n - 1)) (base % n) 1 = 1 then true
  else sqs n (tzL 64 (n - 1)) (powL n 64 ((n - 1) / 2 ^ tzL 64 (n - 1)) (base % n) 1)

def basesL : List Nat := [2, 3, 5, 7, 11, 13, 17, 19, 23, 29, 31, 37]

def smallB (n : Nat) : List Nat → Option Bool
  | [] => none
  | b :: l => if n % b = 0 then some (n == b) else smallB n l

def isP (n : Nat) : Bool :=
  if n < 2 then false else
    match smallB n basesL with
    | some r => r
    | none => basesL.all (strongB n)

theorem tzL_spec : ∀ (f n : Nat), 0 < n → n < 2 ^ f → 2 ^ tzL f n ∣ n ∧ (n / 2 ^ tzL f n) % 2 = 1
  | 0, n, h0, h => by simp at h; omega
  | f + 1, n, h0, h => by
    unfold tzL
    by_cases h1 : n % 2 = 1
    · rw [if_pos h1]; simp [h1]
    · rw [if_neg h1]
      have h2 : 0 < n / 2 := by omega
      have ih := tzL_spec f (n / 2) h2 (by rw [Nat.pow_succ] at h; omega)
      rw [Nat.add_comm 1, Nat.pow_succ, Nat.mul_comm]
      refine ⟨?_, ?_⟩
      · obtain ⟨k, hk⟩ := ih.1
        exact ⟨k, by rw [Nat.mul_assoc, ← hk]; omega⟩
      · rw [← Nat.div_div_eq_div_mul]; exact ih.2

theorem mulmod_congr {n a b c d : Nat} (h : a % n = b % n) (k : c % n = d % n) : a * c % n = b * d % n := by
  rw [Nat.mul_mod, h, k, ← Nat.mul_mod]

theorem powL_spec (n : Nat) : ∀ (f e b x : Nat), e < 2 ^ f → x % n = x → powL n f e b x = x * b ^ e % n
  | 0, e, b, x, he, hx => by
    have : e = 0 := by simpa using he
    subst this
    simp [powL, hx]
  | f + 1, e, b, x, he, hx => by
    unfold powL
    by_cases h0 : e = 0
    · subst h0; simp [hx]
    · rw [if_neg h0]
      have he2 : e / 2 < 2 ^ f := by rw [Nat.pow_succ] at he; omega
      have hsq : (b * b % n) ^ (e / 2) % n = b ^ (2 * (e / 2)) % n := by
        rw [← Nat.pow_mod, Nat.pow_mul]; congr 2; rw [Nat.pow_two]
      by_cases h1 : e % 2 = 1
      · rw [if_pos h1, powL_spec n f _ _ _ he2 (Nat.mod_mod _ _)]
        have e2 : e = 2 * (e / 2) + 1 := by omega
        calc x * b % n * (b * b % n) ^ (e / 2) % n = x * b * b ^ (2 * (e / 2)) % n := mulmod_congr (Nat.mod_mod _ _) hsq
          _ = x * b ^ (2 * (e / 2) + 1) % n := by rw [Nat.pow_succ]; congr 1; simp [Nat.mul_assoc, Nat.mul_comm, Nat.mul_left_comm]
          _ = x * b ^ e % n := by rw [← e2]
      · rw [if_neg h1, powL_spec n f _ _ _ he2 hx]
        have e2 : e = 2 * (e / 2) := by omega
        calc x * (b * b % n) ^ (e / 2) % n = x * b ^ (2 * (e / 2)) % n := mulmod_congr rfl hsq
          _ = x * b ^ e % n := by rw [← e2]

theorem sqs_of (n : Nat) (hp : Pr n) : ∀ (t y : Nat), y < n → y ^ 2 ^ t % n = 1 → y = 1 ∨ sqs n t y = true
  | 0, y, hy, h => by
    left
    simpa [Nat.mod_eq_of_lt hy] using h
  | t + 1, y, hy, h => by
    have hp2 := hp.1
    by_cases hm : y = n - 1
    · right; simp [sqs, hm]
    · have hz : (y * y % n) ^ 2 ^ t % n = 1 := by
        rw [← Nat.pow_mod, ← h, Nat.pow_succ, Nat.mul_comm (2 ^ t), Nat.pow_mul, Nat.pow_two]
      rcases sqs_of n hp t (y * y % n) (Nat.mod_lt _ (by omega)) hz with h1 | h1
      · left
        rcases Nat.eq_zero_or_pos y with h0 | h0
        · subst h0; simp at h1
        · have h2 : n ∣ (y - 1) * (y + 1) := by
            have e : (y - 1) * (y + 1) = y * y - 1 := by
              obtain ⟨z, rfl⟩ : ∃ z, y = z + 1 := ⟨y - 1, by omega⟩
              simp only [Nat.add_sub_cancel]
              have : (z + 1) * (z + 1) = z * (z + 1 + 1) + 1 := by grind
              omega
            rw [e]
            have h3 : 1 % n = y * y % n := by rw [h1, Nat.mod_eq_of_lt (by omega)]
            exact Nat.dvd_of_mod_eq_zero (Nat.sub_mod_eq_zero_of_mod_eq h3.symm)
          rcases hp.dvd_mul h2 with h3 | h3
          · have := Nat.eq_zero_of_dvd_of_lt h3 (by omega); omega
          · have := Nat.le_of_dvd (by omega) h3; omega
      · right; simp [sqs, hm, h1]

theorem strong_of (n b : Nat) (hp : Pr n) (hn : n < 2 ^ 64) (h3 : 3 ≤ n) (hb : ¬ n ∣ b) : strongB n b = true := by
  have ht := tzL_spec 64 (n - 1) (by omega) (by omega)
  unfold strongB
  generalize tzL 64 (n - 1) = t at *
  have hd : (n - 1) / 2 ^ t < 2 ^ 64 := Nat.lt_of_le_of_lt (Nat.div_le_self _ _) (by omega)
  have hpw := powL_spec n 64 ((n - 1) / 2 ^ t) (b % n) 1 hd (Nat.mod_eq_of_lt (by omega))
  rw [Nat.one_mul] at hpw
  generalize powL n 64 ((n - 1) / 2 ^ t) (b % n) 1 = x at *
  have hx : x < n := by rw [hpw]; exact Nat.mod_lt _ (by omega)
  have hf : x ^ 2 ^ t % n = 1 := by
    rw [hpw, ← Nat.pow_mod, ← Nat.pow_mul, Nat.div_mul_cancel ht.1, ← Nat.pow_mod]
    exact fermat hp hb
  rcases sqs_of n hp t x hx hf with h | h
  · rw [if_pos h]
  · split
    · rfl
    · exact h

theorem smallB_some {n : Nat} : ∀ {l : List Nat} {r : Bool}, smallB n l = some r → ∃ b ∈ l, n % b = 0 ∧ r = (n == b)
  | [], r, h => by simp [smallB] at h
  | b :: l, r, h => by
    unfold smallB at h
    by_cases hb : n % b = 0
    · rw [if_pos hb] at h
      exact ⟨b, List.mem_cons_self .., hb, (Option.some.inj h).symm⟩
    · rw [if_neg hb] at h
      obtain ⟨c, hc, h1⟩ := smallB_some h
      exact ⟨c, List.mem_cons_of_mem _ hc, h1⟩
theorem smallB_none {n : Nat} : ∀ {l : List Nat}, smallB n l = none → ∀ b ∈ l, n % b ≠ 0
  | [], _, b, hb => by simp at hb
  | c :: l, h, b, hb => by
    unfold smallB at h
    by_cases hc : n % c = 0
    · rw [if_pos hc] at h; simp at h
    · rw [if_neg hc] at h
      rcases List.mem_cons.1 hb with rfl | hb
      · exact hc
      · exact smallB_none h b hb

theorem basesL_two : ∀ b ∈ basesL, 2 ≤ b := by decide

theorem isP_of {n : Nat} (hp : Pr n) (hn : n < 2 ^ 64) : isP n = true := by
  have h2 := hp.1
  unfold isP
  rw [if_neg (by omega)]
  cases hs : smallB n basesL with
  | some r =>
    obtain ⟨b, hb, hm, rfl⟩ := smallB_some hs
    have hb2 := basesL_two b hb
    rcases hp.2 b (Nat.dvd_of_mod_eq_zero hm) with h | h
    · omega
    · simp [h]
  | none =>
    have hnb := smallB_none hs
    simp only [List.all_eq_true]
    intro b hb
    have hb2 := basesL_two b hb
    refine strong_of n b hp hn ?_ ?_
    · have := hnb 2 (by decide); omega
    · intro hd
      have hb0 : ∀ b ∈ basesL, ∀ d, d < b + 1 → d ∣ b → d = 1 ∨ d = b := by decide
      rcases hb0 b hb n (Nat.lt_succ_of_le (Nat.le_of_dvd (by omega) hd)) hd with h | h
      · omega
      · exact hnb b hb (by rw [h]; exact Nat.mod_self _)

/-! the numbers up to 100000 -/
def smallPrimes : List Nat := [2, 3, 5, 7, 11, 13, 17, 19, 23, 29, 31, 37, 41, 43, 47, 53, 59, 61, 67, 71, 73, 79, 83, 89, 97, 101, 103, 107, 109, 113, 127, 131, 137, 139, 149, 151, 157, 163, 167, 173, 179, 181, 191, 193, 197, 199, 211, 223, 227, 229, 233, 239, 241, 251, 257, 263, 269, 271, 277, 281, 283, 293, 307, 311, 313]

def trialB (n : Nat) : List Nat → Bool
  | [] => true
  | q :: l => if n % q = 0 then n == q else trialB n l
def someWeak (n : Nat) : List Nat → Bool
  | [] => false
  | b :: l => if strongB n b = true then someWeak n l else true
def chk (n : Nat) : Bool :=
  match smallB n basesL with
  | some _ => true
  | none => if trialB n smallPrimes = true then true else someWeak n basesL
def chkFrom : Nat → Nat → Bool
  | 0, _ => true
  | k + 1, n => if chk n = true then chkFrom k (n + 1) else false

theorem chkFrom_at : ∀ (k n i : Nat), chkFrom k n = true → n ≤ i → i < n + k → chk i = true
  | 0, n, i, _, h1, h2 => by omega
  | k + 1, n, i, h, h1, h2 => by
    unfold chkFrom at h
    by_cases hc : chk n = true
    · rw [if_pos hc] at h
      by_cases e : i = n
      · rw [e]; exact hc
      · exact chkFrom_at k (n + 1) i h (by omega) (by omega)
    · rw [if_neg hc] at h; simp at h

theorem someWeak_some {n : Nat} : ∀ {l : List Nat}, someWeak n l = true → ∃ b ∈ l, strongB n b = false
  | [], h => by simp [someWeak] at h
  | b :: l, h => by
    unfold someWeak at h
    by_cases hb : strongB n b = true
    · rw [if_pos hb] at h
      obtain ⟨c, hc, h1⟩ := someWeak_some h
      exact ⟨c, List.mem_cons_of_mem _ hc, h1⟩
    · exact ⟨b, List.mem_cons_self .., by simpa using hb⟩

theorem trialB_true {n : Nat} : ∀ {l : List Nat}, trialB n l = true → ∀ q ∈ l, n % q = 0 → n = q ∨ ∃ r ∈ l, r = n
  | [], _, q, hq, _ => by simp at hq
  | c :: l, h, q, hq, hm => by
    unfold trialB at h
    by_cases hc : n % c = 0
    · rw [if_pos hc] at h
      exact .inr ⟨c, List.mem_cons_self .., by simpa using (by simpa using h : n = c).symm⟩
    · rw [if_neg hc] at h
      rcases List.mem_cons.1 hq with rfl | hq
      · exact absurd hm hc
      · rcases trialB_true h q hq hm with h1 | ⟨r, hr, h1⟩
        · exact .inl h1
        · exact .inr ⟨r, List.mem_cons_of_mem _ hr, h1⟩

/-- d has a divisor in the list -/
def hasIn (d : Nat) : List Nat → Bool
  | [] => false
  | q :: l => if d % q = 0 then true else hasIn d l
theorem hasIn_some {d : Nat} : ∀ {l : List Nat}, hasIn d l = true → ∃ q ∈ l, d % q = 0
  | [], h => by simp [hasIn] at h
  | q :: l, h => by
    unfold hasIn at h
    by_cases hq : d % q = 0
    · exact ⟨q, List.mem_cons_self .., hq⟩
    · rw [if_neg hq] at h
      obtain ⟨c, hc, h1⟩ := hasIn_some h
      exact ⟨c, List.mem_cons_of_mem _ hc, h1⟩
def hasFrom : Nat → Nat → Bool
  | 0, _ => true
  | k + 1, n => if hasIn n smallPrimes = true then hasFrom k (n + 1) else false
theorem hasFrom_at : ∀ (k n i : Nat), hasFrom k n = true → n ≤ i → i < n + k → hasIn i smallPrimes = true
  | 0, n, i, _, h1, h2 => by omega
  | k + 1, n, i, h, h1, h2 => by
    unfold hasFrom at h
    by_cases hc : hasIn n smallPrimes = true
    · rw [if_pos hc] at h
      by_cases e : i = n
      · rw [e]; exact hc
      · exact hasFrom_at k (n + 1) i h (by omega) (by omega)
    · rw [if_neg hc] at h; simp at h
theorem has_small : hasFrom 315 2 = true := by decide +kernel

/-- the least of two cofactors is small -/
theorem pr_of_small {n : Nat} (h2 : 2 ≤ n) (hn : n < 100489) (h : ∀ q, 2 ≤ q → q ≤ 316 → q ∣ n → q = n) : Pr n := by
  refine ⟨h2, fun d hd => ?_⟩
  obtain ⟨e, he⟩ := hd
  by_cases h1 : d = 1
  · exact .inl h1
  · right
    have hd0 : d ≠ 0 := by rintro rfl; simp at he; omega
    by_cases hdl : d ≤ 316
    · exact h d (by omega) hdl ⟨e, he⟩
    · have hel : e ≤ 316 := by
        rcases Nat.lt_or_ge 316 e with h3 | h3
        · have := Nat.mul_le_mul (show 317 ≤ d by omega) (show 317 ≤ e by omega); omega
        · exact h3
      by_cases he1 : e = 1
      · subst he1; omega
      · have he0 : e ≠ 0 := by rintro rfl; simp at he; omega
        have := h e (by omega) hel ⟨d, by rw [he, Nat.mul_comm]⟩
        have h5 : d * e = e := by omega
        have : 317 * e ≤ d * e := Nat.mul_le_mul_right _ (by omega)
        omega

theorem bases_pr : ∀ b ∈ basesL, ∀ d, d < b + 1 → d ∣ b → d = 1 ∨ d = b := by decide
theorem small_lt : ∀ q ∈ smallPrimes, 2 ≤ q := by decide

theorem pr_of_mem {n : Nat} (h : n ∈ basesL) : Pr n :=
  ⟨basesL_two n h, fun d hd => bases_pr n h d (Nat.lt_succ_of_le (Nat.le_of_dvd (by have := basesL_two n h; omega) hd)) hd⟩
theorem small_pr : ∀ q ∈ smallPrimes, ∀ d, d < q + 1 → d ∣ q → d = 1 ∨ d = q := by decide +kernel
theorem pr_of_mem_small {n : Nat} (h : n ∈ smallPrimes) : Pr n :=
  ⟨small_lt n h, fun d hd => small_pr n h d (Nat.lt_succ_of_le (Nat.le_of_dvd (by have := small_lt n h; omega) hd)) hd⟩

theorem trialB_pr {n : Nat} (h2 : 2 ≤ n) (hn : n < 100489) (h : trialB n smallPrimes = true) : Pr n := by
  by_cases hm : n ∈ smallPrimes
  · exact pr_of_mem_small hm
  · refine pr_of_small h2 hn fun q hq1 hq2 hqd => ?_
    obtain ⟨c, hc, hqc⟩ := hasIn_some (hasFrom_at 315 2 q has_small hq1 (by omega))
    have hcn : n % c = 0 := Nat.mod_eq_zero_of_dvd (Nat.dvd_trans (Nat.dvd_of_mod_eq_zero hqc) hqd)
    rcases trialB_true h c hc hcn with h1 | ⟨r, hr, h1⟩
    · exact absurd (h1 ▸ hc) hm
    · exact absurd (h1 ▸ hr) hm

theorem isP_small {n : Nat} (hn : n < 100489) (hc : chk n = true) (h : isP n = true) : Pr n := by
  unfold isP at h
  by_cases h2 : n < 2
  · rw [if_pos h2] at h; simp at h
  · rw [if_neg h2] at h
    cases hs : smallB n basesL with
    | some r =>
      rw [hs] at h
      obtain ⟨b, hb, hm, hr⟩ := smallB_some hs
      have : n = b := by simpa [hr] using h
      exact pr_of_mem (this ▸ hb)
    | none =>
      rw [hs] at h
      simp only [List.all_eq_true] at h
      unfold chk at hc
      rw [hs] at hc
      simp only at hc
      by_cases ht : trialB n smallPrimes = true
      · exact trialB_pr (by omega) hn ht
      · rw [if_neg ht] at hc
        obtain ⟨b, hb, h1⟩ := someWeak_some hc
        rw [h b hb] at h1
        simp at h1

theorem great1 : isP 998244353 = true := by decide +kernel
theorem great2 : isP 9223372036854775783 = true := by decide +kernel
theorem great3 : isP 2305843009213693951 = true := by decide +kernel


theorem exists_pr : ∀ n : Nat, 2 ≤ n → ∃ q, Pr q ∧ q ∣ n := by
  intro n
  induction n using Nat.strongRecOn with
  | ind n ih =>
    intro h
    by_cases hp : Pr n
    · exact ⟨n, hp, Nat.dvd_refl n⟩
    · have : ∃ d, d ∣ n ∧ d ≠ 1 ∧ d ≠ n := by
        apply Classical.byContradiction
        intro hc
        apply hp
        refine ⟨h, fun d hd => ?_⟩
        by_cases h1 : d = 1
        · exact .inl h1
        · by_cases h2 : d = n
          · exact .inr h2
          · exact absurd ⟨d, hd, h1, h2⟩ hc
      obtain ⟨d, hd, h1, h2⟩ := this
      have hle := Nat.le_of_dvd (by omega) hd
      have h0 : d ≠ 0 := by rintro rfl; have := Nat.eq_zero_of_zero_dvd hd; omega
      obtain ⟨q, hq, hqd⟩ := ih d (by omega) (by omega)
      exact ⟨q, hq, Nat.dvd_trans hqd hd⟩

theorem pow_gcd (q g : Nat) : ∀ a b : Nat, g ^ a % q = 1 % q → g ^ b % q = 1 % q → g ^ Nat.gcd a b % q = 1 % q := by
  intro a b
  induction a, b using Nat.gcd.induction with
  | H0 n => intro _ h; simpa using h
  | H1 m n hm ih =>
    intro ha hb
    rw [Nat.gcd_rec]
    refine ih ?_ ha
    have e : g ^ n = (g ^ m) ^ (n / m) * g ^ (n % m) := by
      rw [← Nat.pow_mul, ← Nat.pow_add, Nat.div_add_mod]
    rw [e] at hb
    rw [← hb]
    have h1 : (g ^ m) ^ (n / m) % q = 1 % q := by
      rw [Nat.pow_mod, ha, ← Nat.pow_mod, Nat.one_pow]
    have := mulmod_congr (n := q) h1 (rfl : g ^ (n % m) % q = g ^ (n % m) % q)
    rw [this, Nat.one_mul]

/-- a prime factor of p - 1 with its witness divides q - 1 for each prime divisor q of p -/
theorem pock_one {p q f g r : Nat} (hp : 2 ≤ p) (hq : Pr q) (hqp : q ∣ p) (hf : Pr f) (hfp : f ∣ p - 1) (h1 : g ^ (p - 1) % p = 1) (hr : g ^ ((p - 1) / f) % p = r) (hg : Nat.gcd (r - 1) p = 1) : f ∣ q - 1 := by
  apply Classical.byContradiction
  intro hnf
  have hq2 := hq.1
  have hone : 1 % q = 1 := Nat.mod_eq_of_lt (by omega)
  have hgp : g ^ (p - 1) % q = 1 % q := by
    rw [← Nat.mod_mod_of_dvd _ hqp, h1]
  have hqg : ¬ q ∣ g := by
    intro hd
    have : q ∣ g ^ (p - 1) := Nat.dvd_trans hd ⟨g ^ (p - 1 - 1), by rw [← Nat.pow_succ', show (p - 1 - 1).succ = p - 1 by omega]⟩
    have := Nat.mod_eq_zero_of_dvd this
    omega
  have hfe := fermat hq hqg
  have hgc := pow_gcd q g (q - 1) (p - 1) (by rw [hfe, hone]) hgp
  have hdl : ¬ f ∣ Nat.gcd (q - 1) (p - 1) := fun h => hnf (Nat.dvd_trans h (Nat.gcd_dvd_left _ _))
  have hdr := Nat.gcd_dvd_right (q - 1) (p - 1)
  generalize Nat.gcd (q - 1) (p - 1) = d at *
  obtain ⟨e, he⟩ := hdr
  have hfe2 : f ∣ e := by
    rw [he] at hfp
    exact (hf.dvd_mul hfp).resolve_left hdl
  obtain ⟨k, hk⟩ := hfe2
  have hdiv : (p - 1) / f = d * k := by
    have hf0 : 0 < f := by have := hf.1; omega
    rw [he, hk, Nat.mul_left_comm, Nat.mul_div_cancel_left _ hf0]
  have h3 : g ^ ((p - 1) / f) % q = 1 % q := by
    rw [hdiv, Nat.pow_mul, Nat.pow_mod, hgc, ← Nat.pow_mod, Nat.one_pow]
  rw [← Nat.mod_mod_of_dvd _ hqp, hr] at h3
  have h4 : q ∣ r - 1 := Nat.dvd_of_mod_eq_zero (Nat.sub_mod_eq_zero_of_mod_eq h3)
  have h5 : q ∣ 1 := hg ▸ Nat.dvd_gcd h4 hqp
  have := Nat.le_of_dvd (by omega) h5
  omega

theorem pr_of_big {p s : Nat} (hp : 2 ≤ p) (hs : p < s * s) (h : ∀ q, Pr q → q ∣ p → s ≤ q) : Pr p := by
  refine ⟨hp, fun d hd => ?_⟩
  obtain ⟨e, he⟩ := hd
  by_cases h1 : d = 1
  · exact .inl h1
  · right
    by_cases h2 : e = 1
    · subst h2; omega
    · have hd0 : d ≠ 0 := by rintro rfl; simp at he; omega
      have he0 : e ≠ 0 := by rintro rfl; simp at he; omega
      obtain ⟨q1, hq1, hd1⟩ := exists_pr d (by omega)
      obtain ⟨q2, hq2, hd2⟩ := exists_pr e (by omega)
      have l1 := h q1 hq1 (Nat.dvd_trans hd1 ⟨e, he⟩)
      have l2 := h q2 hq2 (Nat.dvd_trans hd2 ⟨d, by rw [he, Nat.mul_comm]⟩)
      have := Nat.le_of_dvd (by omega) hd1
      have := Nat.le_of_dvd (by omega) hd2
      have := Nat.mul_le_mul (show s ≤ d by omega) (show s ≤ e by omega)
      omega

/-- trial division from d on, k numbers -/
def noDiv (n : Nat) : Nat → Nat → Bool
  | 0, _ => true
  | k + 1, d => if n % d = 0 then false else noDiv n k (d + 1)
theorem noDiv_at {n : Nat} : ∀ (k d i : Nat), noDiv n k d = true → d ≤ i → i < d + k → ¬ i ∣ n
  | 0, d, i, _, h1, h2 => by omega
  | k + 1, d, i, h, h1, h2 => by
    unfold noDiv at h
    by_cases hc : n % d = 0
    · rw [if_pos hc] at h; simp at h
    · rw [if_neg hc] at h
      by_cases e : i = d
      · subst e; intro hd; exact hc (Nat.mod_eq_zero_of_dvd hd)
      · exact noDiv_at k (d + 1) i h (by omega) (by omega)
theorem pr_of_noDiv {p k : Nat} (hp : 2 ≤ p) (h : noDiv p k 2 = true) (hk : p < (k + 2) * (k + 2)) : Pr p := by
  refine pr_of_big hp hk fun q hq hqp => ?_
  rcases Nat.lt_or_ge q (k + 2) with hl | hl
  · exact absurd hqp (noDiv_at k 2 q h hq.1 (by omega))
  · exact hl

theorem pr_a : Pr 998244353 := pr_of_noDiv (k := 31600) (by omega) (by decide +kernel) (by omega)
theorem pr_b1 : Pr 319279 := pr_of_noDiv (k := 600) (by omega) (by decide +kernel) (by omega)
theorem pr_b2 : Pr 456065899 := pr_of_noDiv (k := 21400) (by omega) (by decide +kernel) (by omega)
theorem pr_c1 : Pr 61 := pr_of_noDiv (k := 10) (by omega) (by decide +kernel) (by omega)
theorem pr_c2 : Pr 151 := pr_of_noDiv (k := 15) (by omega) (by decide +kernel) (by omega)
theorem pr_c3 : Pr 331 := pr_of_noDiv (k := 20) (by omega) (by decide +kernel) (by omega)
theorem pr_c4 : Pr 1321 := pr_of_noDiv (k := 40) (by omega) (by decide +kernel) (by omega)

def pockB (p f g : Nat) : Bool :=
  (p - 1) % f == 0 && (powL p 64 (p - 1) g 1 == 1 && Nat.gcd (powL p 64 ((p - 1) / f) g 1 - 1) p == 1)
theorem pock_two {p q f g : Nat} (hp : 2 ≤ p) (hp64 : p < 2 ^ 64) (hq : Pr q) (hqp : q ∣ p) (hf : Pr f) (h : pockB p f g = true) : f ∣ q - 1 := by
  have e1 : 1 % p = 1 := Nat.mod_eq_of_lt (by omega)
  have hd : (p - 1) / f < 2 ^ 64 := Nat.lt_of_le_of_lt (Nat.div_le_self _ _) (by omega)
  simp only [pockB, Bool.and_eq_true, beq_iff_eq] at h
  obtain ⟨h0, h1, h2⟩ := h
  rw [powL_spec p 64 _ _ _ (by omega) e1, Nat.one_mul] at h1
  rw [powL_spec p 64 _ _ _ hd e1, Nat.one_mul] at h2
  exact pock_one hp hq hqp hf (Nat.dvd_of_mod_eq_zero h0) h1 rfl h2

theorem two_le_mul {a b q : Nat} (hab : Nat.Coprime a b) (ha : a ∣ q) (hb : b ∣ q) : a * b ∣ q := Nat.Coprime.mul_dvd_of_dvd_of_dvd hab ha hb

theorem pk_pr_b1 : pockB 9223372036854775783 319279 3 = true := by decide +kernel
theorem pk_pr_b2 : pockB 9223372036854775783 456065899 3 = true := by decide +kernel
theorem pk_pr_c1 : pockB 2305843009213693951 61 37 = true := by decide +kernel
theorem pk_pr_c2 : pockB 2305843009213693951 151 37 = true := by decide +kernel
theorem pk_pr_c3 : pockB 2305843009213693951 331 37 = true := by decide +kernel
theorem pk_pr_c4 : pockB 2305843009213693951 1321 37 = true := by decide +kernel
theorem pr_of_two {p a b g : Nat} (hp : 2 ≤ p) (hp64 : p < 2 ^ 64) (ha : Pr a) (hb : Pr b) (hab : Nat.Coprime a b) (ka : pockB p a g = true) (kb : pockB p b g = true)
    (hs : p < (a * b) * (a * b)) : Pr p := by
  refine pr_of_big hp hs fun q hq hqp => ?_
  have := Nat.le_of_dvd (by have := hq.1; omega) (two_le_mul hab (pock_two hp hp64 hq hqp ha ka) (pock_two hp hp64 hq hqp hb kb))
  omega
theorem pr_of_four {p a b c d g : Nat} (hp : 2 ≤ p) (hp64 : p < 2 ^ 64) (ha : Pr a) (hb : Pr b) (hc : Pr c) (hd : Pr d) (hab : Nat.Coprime a (b * (c * d))) (hbc : Nat.Coprime b (c * d)) (hcd : Nat.Coprime c d)
    (ka : pockB p a g = true) (kb : pockB p b g = true) (kc : pockB p c g = true) (kd : pockB p d g = true)
    (hs : p < (a * (b * (c * d))) * (a * (b * (c * d)))) : Pr p := by
  refine pr_of_big hp hs fun q hq hqp => ?_
  have := Nat.le_of_dvd (by have := hq.1; omega) (two_le_mul hab (pock_two hp hp64 hq hqp ha ka) (two_le_mul hbc (pock_two hp hp64 hq hqp hb kb) (two_le_mul hcd (pock_two hp hp64 hq hqp hc kc) (pock_two hp hp64 hq hqp hd kd))))
  omega
theorem pr_b : Pr 9223372036854775783 := pr_of_two (by decide) (by decide) pr_b1 pr_b2 (by decide +kernel) pk_pr_b1 pk_pr_b2 (by decide)
theorem pr_c : Pr 2305843009213693951 := pr_of_four (by decide) (by decide) pr_c1 pr_c2 pr_c3 pr_c4 (by decide +kernel) (by decide +kernel) (by decide +kernel) pk_pr_c1 pk_pr_c2 pk_pr_c3 pk_pr_c4 (by decide)

end VNum
