/- The product of two polynomials, coefficient by coefficient: by its contract. -/
import Derived.Test.YtmbbjoadnapcgaaDoorUField
import Derived.Test.YtmbbjoadnapcgaaDoorWLast
import Derived.StillTailTactics
namespace Go.Proofs.YtmbbjoadnapcgaaDoor
open Go.RowKit Go.Proofs.YtmbbjoadnapcgaaDoorW.PrintWords Go.Proofs.YtmbbjoadnapcgaaDoorW.PrintLast VNum

/-- the first k coefficients of b, times x, put upon a row from place i on -/
def rowTo (m x : Int) (b : List Int) (i : Nat) (o : List Int) : Nat → List Int
  | 0 => o
  | k + 1 => (rowTo m x b i o k).set (i + k) ((rn (rowTo m x b i o k) (i + k) + x * rn b k) % m)
theorem rowTo_len (m x : Int) (b : List Int) (i : Nat) (o : List Int) : ∀ k, (rowTo m x b i o k).length = o.length
  | 0 => rfl
  | k + 1 => by rw [rowTo, List.length_set, rowTo_len m x b i o k]
theorem rowTo_md {m : Int} (hm : 0 < m) (x : Int) (b : List Int) (i : Nat) {o : List Int} (h : Md m o) : ∀ k, Md m (rowTo m x b i o k)
  | 0 => h
  | k + 1 => by rw [rowTo]; exact (rowTo_md hm x b i h k).set _ (Int.emod_nonneg _ (by omega)) (Int.emod_lt_of_pos _ hm)
/-- the product of a's first i coefficients and b -/
def oneTo (m : Int) (a b : List Int) (n : Nat) : Nat → List Int
  | 0 => List.replicate n 0
  | i + 1 => rowTo m (rn a i) b i (oneTo m a b n i) b.length
theorem oneTo_len (m : Int) (a b : List Int) (n : Nat) : ∀ i, (oneTo m a b n i).length = n
  | 0 => by rw [oneTo, List.length_replicate]
  | i + 1 => by rw [oneTo, rowTo_len, oneTo_len m a b n i]
theorem Md.zeros {m : Int} (hm : 0 < m) (n : Nat) : Md m (List.replicate n 0) := fun x hx => by rw [(List.mem_replicate.1 hx).2]; omega
theorem oneTo_md {m : Int} (hm : 0 < m) (a b : List Int) (n : Nat) : ∀ i, Md m (oneTo m a b n i)
  | 0 => Md.zeros hm n
  | i + 1 => by rw [oneTo]; exact rowTo_md hm _ _ _ (oneTo_md hm a b n i) _
def oneF (m : Int) (a b : List Int) : List Int := if a.length = 0 ∨ b.length = 0 then [] else oneTo m a b (a.length + b.length - 1) a.length
theorem oneF_md {m : Int} (hm : 0 < m) (a b : List Int) : Md m (oneF m a b) := by
  unfold oneF
  split
  · exact Md.nil m
  · exact oneTo_md hm _ _ _ _
theorem wr_add (i k : Nat) (hi : i ≤ 300000) (hk : k ≤ 300000) : IntKind.i64.wrap ((i : Int) + (k : Int)) = (i : Int) + (k : Int) := IntWalk.i64_in _ (by omega)
theorem wr_natL (q : Nat) (h : q ≤ 600000) : IntKind.i64.wrap (q : Int) = (q : Int) := IntWalk.i64_in _ (by omega)

theorem one_nil (F : Addr) (A1 A2 : Option Addr) (c1 c2 : Nat) (la lb : List Int) (w : World) (h : la.length = 0 ∨ lb.length = 0) :
    Calls Tryd.prog 46 #[.pointer (some F), .slice A1 la.length c1, .slice A2 lb.length c2] w fun e w' => e = .returned (.slice none 0 0) ∧ ∃ n, w' = w.drewN n := by
  by_cases ha : la.length = 0
  · rw [ha]
    go_enter Tryd.func46, Tryd.ntmps46
    go_wp2
    go_ret
    exact ⟨rfl, 0, rfl⟩
  · have hb : lb.length = 0 := by omega
    rw [hb]
    have e1 : ((la.length : Int) == 0) = false := beq_eq_false_iff_ne.mpr (by omega)
    go_enter Tryd.func46, Tryd.ntmps46
    go_wp2
    go_ret
    exact ⟨rfl, 0, rfl⟩

set_option maxHeartbeats 8000000 in
set_option maxRecDepth 100000 in
theorem one_calls (F a : Addr) (p : Int) (A1 A2 : Option Addr) (c1 c2 : Nat) (la lb : List Int) (w : World) (hF : UF w F a p) (h2 : 2 ≤ p) (h1 : p < 9223372036854775808) (hra : Rc w A1 c1 la) (hrb : Rc w A2 c2 lb) (hla : la.length ≤ 200000) (hlb : lb.length ≤ 200000) (ula : U64 la) (ulb : U64 lb) :
    Calls Tryd.prog 46 #[.pointer (some F), .slice A1 la.length c1, .slice A2 lb.length c2] w fun e w' => ∃ A' c', e = .returned (.slice A' (oneF p la lb).length c') ∧ Rc w' A' c' (oneF p la lb) ∧ Below w.heap.size w w' := by
  by_cases hz : la.length = 0 ∨ lb.length = 0
  · refine (one_nil F A1 A2 c1 c2 la lb w hz).mono ?_
    rintro e w' ⟨rfl, n, rfl⟩
    have e1 : oneF p la lb = [] := by unfold oneF; rw [if_pos hz]
    rw [e1]
    exact ⟨none, 0, rfl, Rc.nil _, below_drewN (Below.refl _ _) n⟩
  obtain ⟨N, hN⟩ : ∃ N, N = la.length + lb.length - 1 := ⟨_, rfl⟩
  have hone : Hid (oneF p la lb = oneTo p la lb N la.length) := Lib.hid (by unfold oneF; rw [if_neg hz, ← hN])
  have eN : (la.length : Int) + (lb.length : Int) - 1 = (N : Int) := by omega
  have e1 : ((la.length : Int) == 0) = false := beq_eq_false_iff_ne.mpr (by omega)
  have e2 : ((lb.length : Int) == 0) = false := beq_eq_false_iff_ne.mpr (by omega)
  have HN := Lib.hid hN
  have hmk := print_make (P := Tryd.prog) 50 22 .u64 8 Tryd.underlying50 infoU (by decide) N (by omega)
  have HA := Lib.hid hra
  have HB := Lib.hid hrb
  have HF := Lib.hid hF
  have UA := Lib.hid ula
  have UB := Lib.hid ulb
  have ia : (la.length : Int) ≤ 200000 := by omega
  have ib : (lb.length : Int) ≤ 200000 := by omega
  have HLA := Lib.hid hla
  have HLB := Lib.hid hlb
  have HM : Hid (Ow (w.alloc (.cells (madeCells #[.int .u64 0] N) 22)) w.heap.size (.slice (some ⟨w.heap.size, 0, none⟩) N N) (List.replicate N 0)) := Lib.hid (Ow.made w w.heap.size N (Nat.le_refl _) (by omega))
  have HBl : Hid (Below w.heap.size w (w.alloc (.cells (madeCells #[.int .u64 0] N) 22))) := Lib.hid (below_alloc (Below.refl _ _) _)
  obtain ⟨g, hg⟩ : ∃ g, g = w.heap.size := ⟨_, rfl⟩
  have HG := Lib.hid hg
  clear hra hrb hF ula ulb hz hla hlb hN hg
  go_enter Tryd.func46, Tryd.ntmps46
  go_wp2
  rw [← HG.out] at HM HBl
  clear e1 e2 hmk
  rw [← HG.out]
  go_loopw [8, 9, 10, 11, 29] (fun _ _ _ _ v29 W => ∃ (i : Nat) (o : List Int), v29 = .int .i64 i ∧ i ≤ la.length ∧ Hid (o = oneTo p la lb N i) ∧ Hid (o.length = N)
      ∧ Hid (Ow W g (.slice (some ⟨g, 0, none⟩) o.length N) o) ∧ Hid (Below g w W)) (fun _ _ _ _ v29 _ => la.length - (intOf v29).toNat)
  case atStart => exact ⟨0, List.replicate N 0, rfl, by omega, Lib.hid rfl, Lib.hid (by simp), by simpa using HM, HBl⟩
  case round =>
    clear HM HBl
    obtain ⟨W, rfl⟩ : ∃ W : World, W = wr := ⟨_, rfl⟩
    obtain ⟨i, o1, rfl, hi, ho1, ho2, how1, hbw1⟩ := hrel
    have HBG : Hid (Below w.heap.size w W) := Lib.hid (by rw [← HG.out]; exact hbw1.out)
    by_cases hil : i < la.length
    · obtain ⟨ad, rfl, hcl⟩ := (HA.out.kept HBG.out).get i hil
      have HKL : Hid (i + 1 ≤ la.length) := Lib.hid (Nat.succ_le_of_lt hil)
      have HKM := Lib.hid (ms_suc hil)
      obtain ⟨x0, x1⟩ := UA.out.rng i
      have i1 : (i : Int) < (la.length : Int) := by omega
      have i3 : (0 : Int) ≤ (i : Int) := by omega
      have ib2 : i ≤ 300000 := by omega
      go_wp2
      go_loopw [10, 11, 36] (fun _ _ v36 W2 => ∃ (k : Nat) (o : List Int), v36 = .int .i64 k ∧ k ≤ lb.length ∧ Hid (o = rowTo p (rn la i) lb i o1 k) ∧ Hid (o.length = N)
          ∧ Hid (Ow W2 g (.slice (some ⟨g, 0, none⟩) o.length N) o) ∧ Hid (Below g w W2)) (fun _ _ v36 _ => lb.length - (intOf v36).toNat)
      case atStart => exact ⟨0, o1, rfl, by omega, Lib.hid rfl, ho2, how1, hbw1⟩
      case round =>
        clear how1 hbw1 HBG hcl
        obtain ⟨W2, rfl⟩ : ∃ W : World, W = wr := ⟨_, rfl⟩
        obtain ⟨k, o, rfl, hk, ho3, ho4, how, hbw⟩ := hrel
        have HBG : Hid (Below w.heap.size w W2) := Lib.hid (by rw [← HG.out]; exact hbw.out)
        by_cases hkl : k < lb.length
        · obtain ⟨q, hq⟩ : ∃ q, q = i + k := ⟨_, rfl⟩
          have HQ := Lib.hid hq
          have eq : (i : Int) + (k : Int) = (q : Int) := by omega
          have hqN : q < N := by have := HN.out; omega
          clear hq
          obtain ⟨ad2, rfl, hcl⟩ := (HB.out.kept HBG.out).get k hkl
          obtain ⟨hc1, hfz⟩ := how.out.cells q (by rw [ho4.out]; exact hqN)
          have HUF := Lib.hid (HF.out.kept HBG.out)
          have hfc := HUF.out.c
          obtain ⟨y0, y1⟩ := UB.out.rng k
          have HMD : Md p o := by rw [ho3.out]; exact rowTo_md (by omega) _ _ _ (by rw [ho1.out]; exact oneTo_md (by omega) _ _ _ _) _
          obtain ⟨z0, z1⟩ := (HMD.u64 h1).rng q
          have m0 : 0 ≤ rn la i * rn lb k % p := Int.emod_nonneg _ (by omega)
          have HKL2 : Hid (k + 1 ≤ lb.length) := Lib.hid (Nat.succ_le_of_lt hkl)
          have HKM2 := Lib.hid (ms_suc hkl)
          have j1 : (k : Int) < (lb.length : Int) := by omega
          have j3 : (0 : Int) ≤ (k : Int) := by omega
          have q1 : (q : Int) < (N : Int) := by omega
          have q3 : (0 : Int) ≤ (q : Int) := by omega
          have qb : q ≤ 600000 := by omega
          clear HMD
          go_wp2
          have wq := wr_natL q qb
          refine start_ (n := 24) (S := fun w' => w'.cell? F = some (.pointer (some a)) ∧ w'.cell? ⟨g, q, none⟩ = some (.int .u64 (rn o q)) ∧ w'.frozen? ⟨g, q, none⟩ = false ∧ FA w' a p) (ds := [23]) #[false, false, false, false, false, false, false, false, false, false, false, false, false, false, false, false, false, false, false, false, false, false, false, false] (by kernel_rfl) rfl rfl ⟨hfc, hc1, hfz, HUF.out.f.drewN 1⟩ (fun hHeld => ?_)
          refine pure_ (i := 0) (N := some 41) (v := ?_) (a' := ?_) #[true, false, false, false, false, false, false, false, false, false, false, false, false, false, false, false, false, false, false, false, false, false, false, false] rfl rfl (by kernel_rfl) (fun _ _ _ h => h) (Or.inl ⟨by rfl, ?_⟩) ?_ ?_
          rotate_left
          · intro w'
            go_simp
            with_reducible rfl
          rotate_left
          · simp only [Act.put, List.setIfInBounds_toArray, List.set_cons_zero, List.set_cons_succ]
            rfl
          refine pure_ (i := 1) (N := some 42) (v := ?_) (a' := ?_) #[true, true, false, false, false, false, false, false, false, false, false, false, false, false, false, false, false, false, false, false, false, false, false, false] rfl rfl (by kernel_rfl) (fun _ _ _ h => h) (Or.inl ⟨by rfl, ?_⟩) ?_ ?_
          rotate_left
          · intro w'
            go_simp
            with_reducible rfl
          rotate_left
          · simp only [Act.put, List.setIfInBounds_toArray, List.set_cons_zero, List.set_cons_succ]
            rfl
          refine pure_ (i := 2) (N := some 43) (v := ?_) (a' := ?_) #[true, true, true, false, false, false, false, false, false, false, false, false, false, false, false, false, false, false, false, false, false, false, false, false] rfl rfl (by kernel_rfl) (fun _ _ _ h => h) (Or.inl ⟨by rfl, ?_⟩) ?_ ?_
          rotate_left
          · intro w'
            go_simp
            with_reducible rfl
          rotate_left
          · simp only [Act.put, List.setIfInBounds_toArray, List.set_cons_zero, List.set_cons_succ]
            rfl
          refine pure_ (i := 3) (N := some 44) (v := ?_) (a' := ?_) #[true, true, true, true, false, false, false, false, false, false, false, false, false, false, false, false, false, false, false, false, false, false, false, false] rfl rfl (by kernel_rfl) (fun _ _ _ h => h) (Or.inl ⟨by rfl, ?_⟩) ?_ ?_
          rotate_left
          · intro w'
            go_simp
            with_reducible rfl
          rotate_left
          · simp only [Act.put, List.setIfInBounds_toArray, List.set_cons_zero, List.set_cons_succ]
            rfl
          refine pure_ (i := 4) (N := some 45) (v := ?_) (a' := ?_) #[true, true, true, true, true, false, false, false, false, false, false, false, false, false, false, false, false, false, false, false, false, false, false, false] rfl rfl (by kernel_rfl) (fun _ _ _ h => h) (Or.inl ⟨by rfl, ?_⟩) ?_ ?_
          rotate_left
          · intro w'
            go_simp
            with_reducible rfl
          rotate_left
          · simp only [Act.put, List.setIfInBounds_toArray, List.set_cons_zero, List.set_cons_succ]
            rfl
          refine pure_ (i := 5) (N := some 46) (v := ?_) (a' := ?_) #[true, true, true, true, true, true, false, false, false, false, false, false, false, false, false, false, false, false, false, false, false, false, false, false] rfl rfl (by kernel_rfl) (fun _ _ _ h => h) (Or.inl ⟨by rfl, ?_⟩) ?_ ?_
          rotate_left
          · intro w'
            go_simp
            with_reducible rfl
          rotate_left
          · simp only [Act.put, List.setIfInBounds_toArray, List.set_cons_zero, List.set_cons_succ]
            rfl
          refine pure_ (i := 6) (N := some 47) (v := ?_) (a' := ?_) #[true, true, true, true, true, true, true, false, false, false, false, false, false, false, false, false, false, false, false, false, false, false, false, false] rfl rfl (by kernel_rfl) (fun _ _ _ h => h) (Or.inl ⟨by rfl, ?_⟩) ?_ ?_
          rotate_left
          · intro w'
            go_simp
            with_reducible rfl
          rotate_left
          · simp only [Act.put, List.setIfInBounds_toArray, List.set_cons_zero, List.set_cons_succ]
            rfl
          refine pure_ (i := 8) (N := some 49) (v := ?_) (a' := ?_) #[true, true, true, true, true, true, true, false, true, false, false, false, false, false, false, false, false, false, false, false, false, false, false, false] rfl rfl (by kernel_rfl) (fun _ _ _ h => h) (Or.inl ⟨by rfl, ?_⟩) ?_ ?_
          rotate_left
          · intro w'
            go_simp
            with_reducible rfl
          rotate_left
          · simp only [Act.put, List.setIfInBounds_toArray, List.set_cons_zero, List.set_cons_succ]
            rfl
          refine pure_ (i := 9) (N := some 50) (v := ?_) (a' := ?_) #[true, true, true, true, true, true, true, false, true, true, false, false, false, false, false, false, false, false, false, false, false, false, false, false] rfl rfl (by kernel_rfl) (fun _ _ _ h => h) (Or.inl ⟨by rfl, ?_⟩) ?_ ?_
          rotate_left
          · intro w'
            go_simp
            with_reducible rfl
          rotate_left
          · simp only [Act.put, List.setIfInBounds_toArray, List.set_cons_zero, List.set_cons_succ]
            rfl
          refine pure_ (i := 10) (N := some 51) (v := ?_) (a' := ?_) #[true, true, true, true, true, true, true, false, true, true, true, false, false, false, false, false, false, false, false, false, false, false, false, false] rfl rfl (by kernel_rfl) (fun _ _ _ h => h) (Or.inl ⟨by rfl, ?_⟩) ?_ ?_
          rotate_left
          · intro w'
            go_simp
            with_reducible rfl
          rotate_left
          · simp only [Act.put, List.setIfInBounds_toArray, List.set_cons_zero, List.set_cons_succ]
            rfl
          refine pure_ (i := 11) (N := some 52) (v := ?_) (a' := ?_) #[true, true, true, true, true, true, true, false, true, true, true, true, false, false, false, false, false, false, false, false, false, false, false, false] rfl rfl (by kernel_rfl) (fun _ _ _ h => h) (Or.inl ⟨by rfl, ?_⟩) ?_ ?_
          rotate_left
          · intro w'
            go_simp
            with_reducible rfl
          rotate_left
          · simp only [Act.put, List.setIfInBounds_toArray, List.set_cons_zero, List.set_cons_succ]
            rfl
          refine pure_ (i := 12) (N := some 53) (v := ?_) (a' := ?_) #[true, true, true, true, true, true, true, false, true, true, true, true, true, false, false, false, false, false, false, false, false, false, false, false] rfl rfl (by kernel_rfl) (fun _ _ _ h => h) (Or.inl ⟨by rfl, ?_⟩) ?_ ?_
          rotate_left
          · intro w'
            go_simp
            with_reducible rfl
          rotate_left
          · simp only [Act.put, List.setIfInBounds_toArray, List.set_cons_zero, List.set_cons_succ]
            rfl
          refine pure_ (i := 14) (N := some 55) (v := ?_) (a' := ?_) #[true, true, true, true, true, true, true, false, true, true, true, true, true, false, true, false, false, false, false, false, false, false, false, false] rfl rfl (by kernel_rfl) (fun _ _ _ h => h) (Or.inl ⟨by rfl, ?_⟩) ?_ ?_
          rotate_left
          · intro w'
            go_simp
            with_reducible rfl
          rotate_left
          · simp only [Act.put, List.setIfInBounds_toArray, List.set_cons_zero, List.set_cons_succ]
            rfl
          refine pure_ (i := 15) (N := some 56) (v := ?_) (a' := ?_) #[true, true, true, true, true, true, true, false, true, true, true, true, true, false, true, true, false, false, false, false, false, false, false, false] rfl rfl (by kernel_rfl) (fun _ _ _ h => h) (Or.inl ⟨by rfl, ?_⟩) ?_ ?_
          rotate_left
          · intro w'
            go_simp
            with_reducible rfl
          rotate_left
          · simp only [Act.put, List.setIfInBounds_toArray, List.set_cons_zero, List.set_cons_succ]
            rfl
          refine pure_ (i := 16) (N := some 57) (v := ?_) (a' := ?_) #[true, true, true, true, true, true, true, false, true, true, true, true, true, false, true, true, true, false, false, false, false, false, false, false] rfl rfl (by kernel_rfl) (fun _ _ _ h => h) (Or.inl ⟨by rfl, ?_⟩) ?_ ?_
          rotate_left
          · intro w'
            go_simp
            with_reducible rfl
          rotate_left
          · simp only [Act.put, List.setIfInBounds_toArray, List.set_cons_zero, List.set_cons_succ]
            rfl
          refine pure_ (i := 18) (N := some 59) (v := ?_) (a' := ?_) #[true, true, true, true, true, true, true, false, true, true, true, true, true, false, true, true, true, false, true, false, false, false, false, false] rfl rfl (by kernel_rfl) (fun _ _ _ h => h) (Or.inl ⟨by rfl, ?_⟩) ?_ ?_
          rotate_left
          · intro w'
            go_simp
            with_reducible rfl
          rotate_left
          · simp only [Act.put, List.setIfInBounds_toArray, List.set_cons_zero, List.set_cons_succ]
            rfl
          refine pure_ (i := 19) (N := some 60) (v := ?_) (a' := ?_) #[true, true, true, true, true, true, true, false, true, true, true, true, true, false, true, true, true, false, true, true, false, false, false, false] rfl rfl (by kernel_rfl) (fun _ _ _ h => h) (Or.inl ⟨by rfl, ?_⟩) ?_ ?_
          rotate_left
          · intro w'
            go_simp
            with_reducible rfl
          rotate_left
          · simp only [Act.put, List.setIfInBounds_toArray, List.set_cons_zero, List.set_cons_succ]
            rfl
          refine take_ (i := 7) (N := some 48) (v := ?_) (a' := ?_) #[true, true, true, true, true, true, true, true, true, true, true, true, true, false, true, true, true, false, true, true, false, false, false, false] rfl rfl (by kernel_rfl) (fun _ _ _ h => h) (Or.inl ⟨by rfl, ?_⟩) hHeld ?_ ?_
          rotate_left
          · rintro w' ⟨s0, s1, s2, s3⟩
            go_simp
            with_reducible rfl
          rotate_left
          · simp only [Act.put, List.setIfInBounds_toArray, List.set_cons_zero, List.set_cons_succ]
            rfl
          refine take_ (i := 13) (N := some 54) (v := ?_) (a' := ?_) #[true, true, true, true, true, true, true, true, true, true, true, true, true, true, true, true, true, false, true, true, false, false, false, false] rfl rfl (by kernel_rfl) (fun _ _ _ h => h) (Or.inl ⟨by rfl, ?_⟩) hHeld ?_ ?_
          rotate_left
          · rintro w' ⟨s0, s1, s2, s3⟩
            go_simp
            with_reducible rfl
          rotate_left
          · simp only [Act.put, List.setIfInBounds_toArray, List.set_cons_zero, List.set_cons_succ]
            rfl
          refine take_ (i := 17) (N := some 58) (v := ?_) (a' := ?_) #[true, true, true, true, true, true, true, true, true, true, true, true, true, true, true, true, true, true, true, true, false, false, false, false] rfl rfl (by kernel_rfl) (fun _ _ _ h => h) (Or.inl ⟨by rfl, ?_⟩) hHeld ?_ ?_
          rotate_left
          · rintro w' ⟨s0, s1, s2, s3⟩
            go_simp
            with_reducible rfl
          rotate_left
          · simp only [Act.put, List.setIfInBounds_toArray, List.set_cons_zero, List.set_cons_succ]
            rfl
          refine one_ (i := 20) (N := some 61) #[true, true, true, true, true, true, true, true, true, true, true, true, true, true, true, true, true, true, true, true, true, false, false, false] rfl rfl (by kernel_rfl) (by decide) (fun K hK => ?_)
          refine goes_ Tryd.func16 (by kernel_rfl) rfl #[.pointer (some a), .int .u64 (rn la i), .int .u64 (rn lb k)] (by rfl) rfl rfl (by simp only [List.map_toArray, List.map_cons, List.map_nil]; rfl) ?_
          with_reducible refine (mul_calls a p _ _ _ hHeld.2.2.2 h2 h1 x0 y0).mono ?_
          rintro e w3 ⟨rfl, n8, rfl⟩
          refine ⟨_, rfl, ?_⟩
          refine hK.out _ _ ⟨hHeld.1, hHeld.2.1, hHeld.2.2.1, FA.drewN hHeld.2.2.2 _⟩ (fun hHeld => ?_)
          clear hK K
          refine norm_ (a' := ?_) ?_ ?_
          rotate_left
          · show Act.put _ (some 61) _ = _
            simp only [Act.put, List.setIfInBounds_toArray, List.set_cons_zero, List.set_cons_succ]
            rfl
          refine one_ (i := 21) (N := some 62) #[true, true, true, true, true, true, true, true, true, true, true, true, true, true, true, true, true, true, true, true, true, true, false, false] rfl rfl (by kernel_rfl) (by decide) (fun K hK => ?_)
          refine goes_ Tryd.func29 (by kernel_rfl) rfl #[.pointer (some a), .int .u64 (rn o q), .int .u64 (rn la i * rn lb k % p)] (by rfl) rfl rfl (by simp only [List.map_toArray, List.map_cons, List.map_nil]; rfl) ?_
          with_reducible refine (add_calls a p _ _ _ hHeld.2.2.2 h2 h1 z0 m0).mono ?_
          rintro e w3 ⟨rfl, n9, rfl⟩
          refine ⟨_, rfl, ?_⟩
          refine hK.out _ _ ⟨hHeld.1, hHeld.2.1, hHeld.2.2.1, FA.drewN hHeld.2.2.2 _⟩ (fun hHeld => ?_)
          clear hK K
          refine norm_ (a' := ?_) ?_ ?_
          rotate_left
          · show Act.put _ (some 62) _ = _
            simp only [Act.put, List.setIfInBounds_toArray, List.set_cons_zero, List.set_cons_succ]
            rfl
          refine pure_ (i := 22) (N := some 63) (v := ?_) (a' := ?_) #[true, true, true, true, true, true, true, true, true, true, true, true, true, true, true, true, true, true, true, true, true, true, true, false] rfl rfl (by kernel_rfl) (fun _ _ _ h => h) (Or.inl ⟨by rfl, ?_⟩) ?_ ?_
          rotate_left
          · intro w'
            go_simp
            with_reducible rfl
          rotate_left
          · simp only [Act.put, List.setIfInBounds_toArray, List.set_cons_zero, List.set_cons_succ]
            rfl
          refine last_ (i := 23) (N := none) #[true, true, true, true, true, true, true, true, true, true, true, true, true, true, true, true, true, true, true, true, true, true, true, true] rfl rfl (by kernel_rfl) (by decide) (fun K hK => ?_)
          have hFR := hHeld.2.2.1
          refine skip_ (w1 := ?_) (by rfl) rfl ?_ ?_
          rotate_left
          · go_simp
            rfl
          refine hK.out _ _ ?_
          clear hK K
          refine done_ (by kernel_rfl) ?_
          clear hHeld wq eq hcl hc1 hfz hfc
          go_wp2
          go_roundw
          case rel =>
            refine ⟨k + 1, o.set q ((rn o q + rn la i * rn lb k) % p), rfl, HKL2.out, Lib.hid ?_, Lib.hid ?_, Lib.hid ?_, Lib.hid ?_⟩
            · rw [rowTo, ← ho3.out, HQ.out]
            · rw [List.length_set]; exact ho4.out
            · rw [List.length_set]; exact (Ow.store (Ow.drewN how.out _) q _).1
            · exact Below.setCell (p := ⟨g, q, none⟩) (below_drewN hbw.out _) (Nat.le_refl _) _
          case measure =>
            simp only [intOf]
            exact HKM2.out
        · have hkk : k = lb.length := by omega
          subst hkk
          go_wp2
          go_roundw
          case rel => exact ⟨i + 1, o, rfl, HKL.out, Lib.hid (by rw [oneTo, ← ho1.out, ho3.out]), ho4, how, hbw⟩
          case measure =>
            simp only [intOf]
            exact HKM.out
    · have hii : i = la.length := by omega
      subst hii
      obtain ⟨A4, c4, e4, r4⟩ := how1.out.rc
      injection e4 with e5 _ e6
      subst e5 e6
      have HR4 := Lib.hid r4
      clear r4
      go_wp2
      go_ret
      have e9 := hone.out
      rw [← ho1.out] at e9
      rw [e9]
      exact ⟨_, _, by rw [ho2.out]; rfl, HR4.out, HBG.out⟩
end Go.Proofs.YtmbbjoadnapcgaaDoor
