/- The quotient of two polynomials, and what is left: by their contracts. -/
import Derived.Test.YtmbbjoadnapcgaaDoorTimes
import Derived.Test.YtmbbjoadnapcgaaDoorWLast
import Derived.StillTailTactics
import Derived.Laws.AppendOwn
namespace Go.Proofs.YtmbbjoadnapcgaaDoor
open Go.RowKit Go.Proofs.YtmbbjoadnapcgaaDoorW.PrintWords Go.Proofs.YtmbbjoadnapcgaaDoorW.PrintLast VNum

/-- a store into another row -/
theorem Ow.other {W : World} {b g2 cap : Nat} {l : List Int} (h : Ow W b (.slice (some ⟨g2, 0, none⟩) l.length cap) l) {g : Nat} (hg : g2 ≠ g) (k : Nat) (u : Value) : Ow (W.setCell ⟨g, k, none⟩ u) b (.slice (some ⟨g2, 0, none⟩) l.length cap) l := by
  have h2 := Kd.own_of_R (enc := Value.int .u64) h
  have h3 := Kd.R_of_own (enc := Value.int .u64) (h1 := fun _ => rfl) (ok := fun k => k = g2) h2 (fun k hk => by simp [Value.ownBlock] at hk; exact hk.symm)
  exact Kd.R_mono (Kd.R_far (p := ⟨g, k, none⟩) h3 (fun k hk => by subst hk; exact hg) u) (fun _ _ => trivial)

/-- the first k coefficients of b, times x, taken off a row from place i on -/
def subTo (m x : Int) (b : List Int) (i : Nat) (o : List Int) : Nat → List Int
  | 0 => o
  | k + 1 => (subTo m x b i o k).set (i + k) ((rn (subTo m x b i o k) (i + k) - x * rn b k) % m)
theorem subTo_len (m x : Int) (b : List Int) (i : Nat) (o : List Int) : ∀ k, (subTo m x b i o k).length = o.length
  | 0 => rfl
  | k + 1 => by rw [subTo, List.length_set, subTo_len m x b i o k]
theorem subTo_md {m : Int} (hm : 0 < m) (x : Int) (b : List Int) (i : Nat) {o : List Int} (h : Md m o) : ∀ k, Md m (subTo m x b i o k)
  | 0 => h
  | k + 1 => by rw [subTo]; exact (subTo_md hm x b i h k).set _ (Int.emod_nonneg _ (by omega)) (Int.emod_lt_of_pos _ hm)
/-- one coefficient of the quotient: the quotient, and what is left -/
def divStep (m : Int) (b : List Int) (tp : Nat) (iv : Int) (i : Nat) (s : List Int × List Int) : List Int × List Int :=
  (s.1.set i (rn s.2 (i + tp) * iv % m), subTo m (rn s.2 (i + tp) * iv % m) b i s.2 b.length)
def divS (m : Int) (a b : List Int) (tp : Nat) (iv : Int) (nQ : Nat) : Nat → List Int × List Int
  | 0 => (List.replicate nQ 0, a)
  | j + 1 => divStep m b tp iv (nQ - 1 - j) (divS m a b tp iv nQ j)
theorem divS_ok {m : Int} (hm : 0 < m) {a : List Int} (b : List Int) (tp : Nat) (iv : Int) (nQ : Nat) (ha : Md m a) : ∀ j, (divS m a b tp iv nQ j).1.length = nQ ∧ (divS m a b tp iv nQ j).2.length = a.length ∧ Md m (divS m a b tp iv nQ j).1 ∧ Md m (divS m a b tp iv nQ j).2
  | 0 => ⟨by rw [divS, List.length_replicate], rfl, Md.zeros hm _, ha⟩
  | j + 1 => by
    obtain ⟨h1, h2, h3, h4⟩ := divS_ok hm b tp iv nQ ha j
    refine ⟨?_, ?_, ?_, ?_⟩
    · rw [divS, divStep, List.length_set, h1]
    · rw [divS, divStep, subTo_len, h2]
    · rw [divS, divStep]; exact h3.set _ (Int.emod_nonneg _ (by omega)) (Int.emod_lt_of_pos _ hm)
    · rw [divS, divStep]; exact subTo_md hm _ _ _ h4 _
/-- the quotient, and what is left -/
def divF (m : Int) (a b : List Int) : List Int × List Int :=
  if a.length < b.length then ([], a)
  else (trimF (divS m a b (b.length - 1) (invF m (rn b (b.length - 1))).1 (a.length - (b.length - 1)) (a.length - (b.length - 1))).1,
    trimF (divS m a b (b.length - 1) (invF m (rn b (b.length - 1))).1 (a.length - (b.length - 1)) (a.length - (b.length - 1))).2)

theorem ms_down (s : Nat) : ((s : Int) - 1 + 1).toNat < ((s : Int) + 1).toNat := by omega

set_option maxHeartbeats 8000000 in
set_option maxRecDepth 100000 in
theorem divide_calls (F a : Addr) (p : Int) (A1 A2 : Option Addr) (c1 c2 : Nat) (la lb : List Int) (w : World) (hF : UF w F a p) (h2 : 2 ≤ p) (h1 : p < 9223372036854775808) (hra : Rc w A1 c1 la) (hrb : Rc w A2 c2 lb) (hla : la.length ≤ 200000) (hlb : lb.length ≤ 200000) (mla : Md p la) (mlb : Md p lb) (ha0 : 0 < la.length) (hb0 : 0 < lb.length) :
    Calls Tryd.prog 36 #[.pointer (some F), .slice A1 la.length c1, .slice A2 lb.length c2] w fun e w' => ∃ A3 c3 A4 c4, e = .returned (.tuple #[.slice A3 (divF p la lb).1.length c3, .slice A4 (divF p la lb).2.length c4]) ∧ Rc w' A3 c3 (divF p la lb).1 ∧ Rc w' A4 c4 (divF p la lb).2 ∧ Below w.heap.size w w' := by
  obtain ⟨ad, rfl, hcs⟩ := hra.srcs ha0
  obtain ⟨i0, hi, hz0, hz1, hz2⟩ := info_parts infoU
  have HCS : Hid (∀ j v, (la.map (Value.int .u64))[j]? = some v → w.cell? (ad.add j) = some v) := Lib.hid hcs
  have HB := Lib.hid hrb
  have HF := Lib.hid hF
  have MA := Lib.hid mla
  have MB := Lib.hid mlb
  have HLA := Lib.hid hla
  have HLB := Lib.hid hlb
  have HA0 := Lib.hid ha0
  have ia : (la.length : Int) ≤ 200000 := by omega
  have ib : (lb.length : Int) ≤ 200000 := by omega
  clear hcs hra hrb hF mla mlb hla hlb
  by_cases hlt : la.length < lb.length
  · have hd : Hid (divF p la lb = ([], la)) := Lib.hid (by unfold divF; rw [if_pos hlt])
    have e1 : (la.length : Int) < (lb.length : Int) := by omega
    have e2 := decide_eq_true e1
    clear e1 hb0
    go_enter Tryd.func36, Tryd.ntmps36
    go_wp2_with (at_builtin; refine wpList_append_own _ rfl _ _ 50 rfl w.heap.size 22 i0 (.int .u64 0) 1 8 Tryd.underlying50 hi hz0 hz1 hz2 rfl (by decide) _ 0 [] rfl (World.ownsRow_nil _ _ _ _) ad la.length c1 (la.map (Value.int .u64)) rfl ?qc1 ?qc2 ?qc3 ?qc4 ?qc5 ?qc6 ?_)
    case qc1 => simp
    case qc2 => intro j u hj; exact HCS.out j u hj
    case qc3 => intro u hu; obtain ⟨x, _, rfl⟩ := List.mem_map.1 hu; rfl
    case qc4 => have := HLA.out; unfold maxLen; omega
    case qc5 => have := HLA.out; omega
    case qc6 => exact Nat.le_refl _
    intro v' w1 hown hgrow _
    have ho := Ow.of_owns (l := la) (by simpa using hown)
    obtain ⟨g1, cap1, rfl, hg, hlt1⟩ := ho.form HA0.out
    obtain ⟨A9, c9, e9, r9⟩ := ho.rc
    injection e9 with e5 _ e6
    subst e5 e6
    have HR9 := Lib.hid r9
    have HBw : Hid (Below w.heap.size w w1) := Lib.hid ((Below.refl _ w).grown hgrow (Nat.le_refl _) (by intro k hk; simp [Value.ownBlock] at hk))
    clear hown hgrow ho r9 hi hz0 hz1 hz2
    go_wp2
    go_ret2
    rw [hd.out]
    exact ⟨none, 0, _, _, rfl, Rc.nil _, HR9.out, HBw.out⟩
  · obtain ⟨tp, htp⟩ : ∃ tp, tp = lb.length - 1 := ⟨_, rfl⟩
    obtain ⟨nQ, hnq⟩ : ∃ nQ, nQ = la.length - tp := ⟨_, rfl⟩
    obtain ⟨iv, hiv⟩ : ∃ iv, iv = (invF p (rn lb tp)).1 := ⟨_, rfl⟩
    have hd : Hid (divF p la lb = (trimF (divS p la lb tp iv nQ nQ).1, trimF (divS p la lb tp iv nQ nQ).2)) := Lib.hid (by unfold divF; rw [if_neg hlt, hiv, hnq, htp])
    have e1 : ¬ (la.length : Int) < (lb.length : Int) := by omega
    have e2 := decide_eq_false e1
    have e3 : decide (la.length < lb.length) = false := decide_eq_false hlt
    have e4 : (la.length < lb.length) = False := eq_false hlt
    have et : (lb.length : Int) - 1 = (tp : Int) := by omega
    have en : (la.length : Int) - (tp : Int) = (nQ : Int) := by omega
    obtain ⟨v0, v1⟩ := (show 0 ≤ iv ∧ iv < p by rw [hiv]; exact invF_rng h2 _)
    have HTP : Hid (tp + 1 = lb.length) := Lib.hid (by omega)
    have HNQ : Hid (nQ + tp = la.length) := Lib.hid (by omega)
    have HIV := Lib.hid hiv
    have hmk := print_make (P := Tryd.prog) 50 22 .u64 8 Tryd.underlying50 infoU (by decide) nQ (by have := HLA.out; omega)
    have HBE : Hid (Below w.heap.size w w) := Lib.hid (Below.refl _ _)
    have hge : lb.length ≤ la.length := by omega
    clear e1 hlt htp hnq hiv
    go_enter Tryd.func36, Tryd.ntmps36
    go_wp2_with (at_builtin; refine wpList_append_own _ rfl _ _ 50 rfl w.heap.size 22 i0 (.int .u64 0) 1 8 Tryd.underlying50 hi hz0 hz1 hz2 rfl (by decide) _ 0 [] rfl (World.ownsRow_nil _ _ _ _) ad la.length c1 (la.map (Value.int .u64)) rfl ?qc1 ?qc2 ?qc3 ?qc4 ?qc5 ?qc6 ?_)
    case qc1 => simp
    case qc2 => intro j u hj; exact HCS.out j u hj
    case qc3 => intro u hu; obtain ⟨x, _, rfl⟩ := List.mem_map.1 hu; rfl
    case qc4 => have := HLA.out; unfold maxLen; omega
    case qc5 => have := HLA.out; omega
    case qc6 => exact Nat.le_refl _
    intro v' w1 hown hgrow _
    have ho := Ow.of_owns (l := la) (by simpa using hown)
    obtain ⟨g1, cap1, rfl, hg, hlt1⟩ := ho.form HA0.out
    have HO := Lib.hid ho
    have HG := Lib.hid hg
    have HLT := Lib.hid hlt1
    have HBw : Hid (Below w.heap.size w w1) := Lib.hid ((Below.refl _ w).grown hgrow (Nat.le_refl _) (by intro k hk; simp [Value.ownBlock] at hk))
    have HUF1 := Lib.hid (HF.out.kept HBw.out)
    obtain ⟨adb, rfl, hcb⟩ := (HB.out.kept HBw.out).get tp (by have := HTP.out; omega)
    have hfc := HUF1.out.c
    obtain ⟨b0, b1⟩ := (MB.out.u64 h1).rng tp
    have cinv := Lib.hid (fun n => inv_calls a p (rn lb tp) (w1.drewN n) (HUF1.out.f.drewN n) h2 h1 b0)
    rw [← HIV.out] at cinv
    have i1 : (tp : Int) < (lb.length : Int) := by omega
    have i3 : (0 : Int) ≤ (tp : Int) := by omega
    clear hown hgrow ho hi hz0 hz1 hz2 hg hlt1
    go_wp2
    go_quiet ((first | (go_at_call 15; exact Calls.quiet_of (cinv.out _))))
    go_wp2
    have MO := Lib.hid (Ow.made (w1.drewN nq) w.heap.size nQ HBw.out.size (by have := HLA.out; have := HNQ.out; omega))
    have HQF := Lib.hid (below_alloc (Below.refl (w1.drewN nq).heap.size (w1.drewN nq)) (.cells (madeCells #[.int .u64 0] nQ) 22))
    have HO2 : Hid (Ow ((w1.drewN nq).alloc (.cells (madeCells #[.int .u64 0] nQ) 22)) w.heap.size (.slice (some ⟨g1, 0, none⟩) la.length cap1) la) := Lib.hid (Ow.kept (HO.out.drewN nq) HQF.out)
    have HB2 : Hid (Below w.heap.size w ((w1.drewN nq).alloc (.cells (madeCells #[.int .u64 0] nQ) 22))) := Lib.hid ((below_drewN HBw.out nq).trans (HQF.out.mono HBw.out.size))
    clear hmk hfc hcb cinv HO i1 i3 hge e2 e3 e4
    go_loopw [13] (fun v13 W => ∃ (r : Nat) (q l : List Int), v13 = .int .i64 ((r : Int) - 1) ∧ r ≤ nQ ∧ Hid (divS p la lb tp iv nQ (nQ - r) = (q, l)) ∧ Hid (q.length = nQ) ∧ Hid (l.length = la.length)
        ∧ Hid (Ow W w.heap.size (.slice (some ⟨g1, 0, none⟩) l.length cap1) l) ∧ Hid (Ow W w.heap.size (.slice (some ⟨w1.heap.size, 0, none⟩) q.length nQ) q) ∧ Hid (Below w.heap.size w W)) (fun v13 _ => (intOf v13 + 1).toNat)
    case atStart => exact ⟨nQ, List.replicate nQ 0, la, rfl, Nat.le_refl _, Lib.hid (by rw [Nat.sub_self]; rfl), Lib.hid (by simp), Lib.hid rfl, HO2, by simpa using MO, HB2⟩
    case round =>
      clear HO2 MO HB2 HQF
      obtain ⟨W, rfl⟩ : ∃ W : World, W = wr := ⟨_, rfl⟩
      obtain ⟨r, q, l, rfl, hr, hqs, hq1, hl1, how1, how2, hbw⟩ := hrel
      rcases Nat.eq_zero_or_pos r with hr0 | hr0
      · subst hr0
        have hf := hqs.out
        rw [Nat.sub_zero] at hf
        obtain ⟨A4, c4, e4, r4⟩ := how2.out.rc
        injection e4 with e5 _ e6
        subst e5 e6
        obtain ⟨A5, c5, e7, r5⟩ := how1.out.rc
        injection e7 with e8 _ e9
        subst e8 e9
        have ct1 := trim_calls _ _ q W r4 (by have := hq1.out; have := HNQ.out; have := HLA.out; omega)
        have ct2 := fun n => trim_calls _ _ l (W.drewN n) (r5.drewN n) (by have := hl1.out; have := HLA.out; omega)
        rw [hq1.out] at ct1
        rw [hl1.out] at ct2
        have CT1 := Lib.hid ct1
        have CT2 := Lib.hid ct2
        have HQS := Lib.hid hf
        clear r4 r5 ct1 ct2 hf
        go_wp2_with (first
          | (go_at_call 41; with_reducible refine CT1.out.mono ?_; rintro e w4 ⟨A6, c6, rfl, hr6, n6, rfl⟩; have HR6 := Lib.hid hr6; clear hr6)
          | (go_at_call 41; with_reducible refine (CT2.out _).mono ?_; rintro e w5 ⟨A7, c7, rfl, hr7, n7, rfl⟩; have HR7 := Lib.hid hr7; clear hr7))
        go_ret2
        rw [hd.out, HQS.out]
        exact ⟨A6, c6, A7, c7, rfl, HR6.out, HR7.out, below_drewN hbw.out _⟩
      · obtain ⟨s, rfl⟩ : ∃ s, r = s + 1 := ⟨r - 1, by omega⟩
        have es : ((s + 1 : Nat) : Int) - 1 = (s : Int) := by omega
        rw [es]
        have hok := divS_ok (m := p) (by omega) lb tp iv nQ MA.out (nQ - (s + 1))
        rw [hqs.out] at hok
        obtain ⟨_, _, mq, ml⟩ := hok
        have ML := Lib.hid ml
        have hstep : Hid (divS p la lb tp iv nQ (nQ - s) = divStep p lb tp iv s (q, l)) := Lib.hid (by
          have e : nQ - s = nQ - (s + 1) + 1 := by omega
          have e2 : nQ - 1 - (nQ - (s + 1)) = s := by omega
          rw [e, divS, hqs.out, e2])
        obtain ⟨q1, hq⟩ : ∃ q1, q1 = s + tp := ⟨_, rfl⟩
        have HQ := Lib.hid hq
        have eq : (s : Int) + (tp : Int) = (q1 : Int) := by omega
        have hqN : q1 < la.length := by have := HNQ.out; omega
        have hsN : s < nQ := by omega
        obtain ⟨hc1, _⟩ := how1.out.cells q1 (by rw [hl1.out]; exact hqN)
        obtain ⟨_, hfz⟩ := how2.out.cells s (by rw [hq1.out]; exact hsN)
        have HBG : Hid (Below w.heap.size w W) := hbw
        have HUF := Lib.hid (HF.out.kept hbw.out)
        have hfc := HUF.out.c
        obtain ⟨z0, z1⟩ := (ml.u64 h1).rng q1
        obtain ⟨qi, hqi⟩ : ∃ qi, qi = rn l q1 * iv % p := ⟨_, rfl⟩
        have qi0 : 0 ≤ qi := by rw [hqi]; exact Int.emod_nonneg _ (by omega)
        have HQI := Lib.hid hqi
        have i1 : (q1 : Int) < (la.length : Int) := by omega
        have i2 : (0 : Int) ≤ (q1 : Int) := by omega
        have i3 : (s : Int) < (nQ : Int) := by omega
        have i4 : (0 : Int) ≤ (s : Int) := by omega
        have i5 : decide ((0 : Int) ≤ (s : Int)) = true := decide_eq_true i4
        have sb : s ≤ 600000 := by have := HLA.out; omega
        have qb : q1 ≤ 600000 := by have := HLA.out; omega
        clear mq ml hq hqi hr0
        go_wp2
        have wq := wr_natL q1 qb
        have ws := wr_natL s sb
        refine start_ (n := 16) (S := fun w' => w'.cell? F = some (.pointer (some a)) ∧ w'.cell? ⟨g1, q1, none⟩ = some (.int .u64 (rn l q1)) ∧ w'.frozen? ⟨w1.heap.size, s, none⟩ = false ∧ FA w' a p) (ds := [15]) #[false, false, false, false, false, false, false, false, false, false, false, false, false, false, false, false] (by kernel_rfl) rfl rfl ⟨hfc, hc1, hfz, HUF.out.f.drewN 1⟩ (fun hHeld => ?_)
        refine pure_ (i := 0) (N := some 51) (v := ?_) (a' := ?_) #[true, false, false, false, false, false, false, false, false, false, false, false, false, false, false, false] rfl rfl (by kernel_rfl) (fun _ _ _ h => h) (Or.inl ⟨by rfl, ?_⟩) ?_ ?_
        rotate_left
        · intro w'
          go_simp
          with_reducible rfl
        rotate_left
        · simp only [Act.put, List.setIfInBounds_toArray, List.set_cons_zero, List.set_cons_succ]
          rfl
        refine pure_ (i := 1) (N := some 52) (v := ?_) (a' := ?_) #[true, true, false, false, false, false, false, false, false, false, false, false, false, false, false, false] rfl rfl (by kernel_rfl) (fun _ _ _ h => h) (Or.inl ⟨by rfl, ?_⟩) ?_ ?_
        rotate_left
        · intro w'
          go_simp
          with_reducible rfl
        rotate_left
        · simp only [Act.put, List.setIfInBounds_toArray, List.set_cons_zero, List.set_cons_succ]
          rfl
        refine pure_ (i := 2) (N := some 53) (v := ?_) (a' := ?_) #[true, true, true, false, false, false, false, false, false, false, false, false, false, false, false, false] rfl rfl (by kernel_rfl) (fun _ _ _ h => h) (Or.inl ⟨by rfl, ?_⟩) ?_ ?_
        rotate_left
        · intro w'
          go_simp
          with_reducible rfl
        rotate_left
        · simp only [Act.put, List.setIfInBounds_toArray, List.set_cons_zero, List.set_cons_succ]
          rfl
        refine pure_ (i := 3) (N := some 54) (v := ?_) (a' := ?_) #[true, true, true, true, false, false, false, false, false, false, false, false, false, false, false, false] rfl rfl (by kernel_rfl) (fun _ _ _ h => h) (Or.inl ⟨by rfl, ?_⟩) ?_ ?_
        rotate_left
        · intro w'
          go_simp
          with_reducible rfl
        rotate_left
        · simp only [Act.put, List.setIfInBounds_toArray, List.set_cons_zero, List.set_cons_succ]
          rfl
        refine pure_ (i := 4) (N := some 55) (v := ?_) (a' := ?_) #[true, true, true, true, true, false, false, false, false, false, false, false, false, false, false, false] rfl rfl (by kernel_rfl) (fun _ _ _ h => h) (Or.inl ⟨by rfl, ?_⟩) ?_ ?_
        rotate_left
        · intro w'
          go_simp
          with_reducible rfl
        rotate_left
        · simp only [Act.put, List.setIfInBounds_toArray, List.set_cons_zero, List.set_cons_succ]
          rfl
        refine pure_ (i := 6) (N := some 57) (v := ?_) (a' := ?_) #[true, true, true, true, true, false, true, false, false, false, false, false, false, false, false, false] rfl rfl (by kernel_rfl) (fun _ _ _ h => h) (Or.inl ⟨by rfl, ?_⟩) ?_ ?_
        rotate_left
        · intro w'
          go_simp
          with_reducible rfl
        rotate_left
        · simp only [Act.put, List.setIfInBounds_toArray, List.set_cons_zero, List.set_cons_succ]
          rfl
        refine pure_ (i := 7) (N := some 58) (v := ?_) (a' := ?_) #[true, true, true, true, true, false, true, true, false, false, false, false, false, false, false, false] rfl rfl (by kernel_rfl) (fun _ _ _ h => h) (Or.inl ⟨by rfl, ?_⟩) ?_ ?_
        rotate_left
        · intro w'
          go_simp
          with_reducible rfl
        rotate_left
        · simp only [Act.put, List.setIfInBounds_toArray, List.set_cons_zero, List.set_cons_succ]
          rfl
        refine pure_ (i := 8) (N := some 59) (v := ?_) (a' := ?_) #[true, true, true, true, true, false, true, true, true, false, false, false, false, false, false, false] rfl rfl (by kernel_rfl) (fun _ _ _ h => h) (Or.inl ⟨by rfl, ?_⟩) ?_ ?_
        rotate_left
        · intro w'
          go_simp
          with_reducible rfl
        rotate_left
        · simp only [Act.put, List.setIfInBounds_toArray, List.set_cons_zero, List.set_cons_succ]
          rfl
        refine pure_ (i := 9) (N := some 60) (v := ?_) (a' := ?_) #[true, true, true, true, true, false, true, true, true, true, false, false, false, false, false, false] rfl rfl (by kernel_rfl) (fun _ _ _ h => h) (Or.inl ⟨by rfl, ?_⟩) ?_ ?_
        rotate_left
        · intro w'
          go_simp
          with_reducible rfl
        rotate_left
        · simp only [Act.put, List.setIfInBounds_toArray, List.set_cons_zero, List.set_cons_succ]
          rfl
        refine pure_ (i := 10) (N := some 61) (v := ?_) (a' := ?_) #[true, true, true, true, true, false, true, true, true, true, true, false, false, false, false, false] rfl rfl (by kernel_rfl) (fun _ _ _ h => h) (Or.inl ⟨by rfl, ?_⟩) ?_ ?_
        rotate_left
        · intro w'
          go_simp
          with_reducible rfl
        rotate_left
        · simp only [Act.put, List.setIfInBounds_toArray, List.set_cons_zero, List.set_cons_succ]
          rfl
        refine pure_ (i := 12) (N := some 63) (v := ?_) (a' := ?_) #[true, true, true, true, true, false, true, true, true, true, true, false, true, false, false, false] rfl rfl (by kernel_rfl) (fun _ _ _ h => h) (Or.inl ⟨by rfl, ?_⟩) ?_ ?_
        rotate_left
        · intro w'
          go_simp
          with_reducible rfl
        rotate_left
        · simp only [Act.put, List.setIfInBounds_toArray, List.set_cons_zero, List.set_cons_succ]
          rfl
        refine take_ (i := 5) (N := some 56) (v := ?_) (a' := ?_) #[true, true, true, true, true, true, true, true, true, true, true, false, true, false, false, false] rfl rfl (by kernel_rfl) (fun _ _ _ h => h) (Or.inl ⟨by rfl, ?_⟩) hHeld ?_ ?_
        rotate_left
        · rintro w' ⟨s0, s1, s2, s3⟩
          go_simp
          with_reducible rfl
        rotate_left
        · simp only [Act.put, List.setIfInBounds_toArray, List.set_cons_zero, List.set_cons_succ]
          rfl
        refine take_ (i := 11) (N := some 62) (v := ?_) (a' := ?_) #[true, true, true, true, true, true, true, true, true, true, true, true, true, false, false, false] rfl rfl (by kernel_rfl) (fun _ _ _ h => h) (Or.inl ⟨by rfl, ?_⟩) hHeld ?_ ?_
        rotate_left
        · rintro w' ⟨s0, s1, s2, s3⟩
          go_simp
          with_reducible rfl
        rotate_left
        · simp only [Act.put, List.setIfInBounds_toArray, List.set_cons_zero, List.set_cons_succ]
          rfl
        refine one_ (i := 13) (N := some 64) #[true, true, true, true, true, true, true, true, true, true, true, true, true, true, false, false] rfl rfl (by kernel_rfl) (by decide) (fun K hK => ?_)
        refine goes_ Tryd.func16 (by kernel_rfl) rfl #[.pointer (some a), .int .u64 (rn l q1), .int .u64 iv] (by rfl) rfl rfl (by simp only [List.map_toArray, List.map_cons, List.map_nil]; rfl) ?_
        with_reducible refine (mul_calls a p _ _ _ hHeld.2.2.2 h2 h1 z0 v0).mono ?_
        rintro e w3 ⟨rfl, n8, rfl⟩
        refine ⟨_, rfl, ?_⟩
        refine hK.out _ _ ⟨hHeld.1, hHeld.2.1, hHeld.2.2.1, FA.drewN hHeld.2.2.2 _⟩ (fun hHeld => ?_)
        clear hK K
        refine norm_ (a' := ?_) ?_ ?_
        rotate_left
        · show Act.put _ (some 64) _ = _
          simp only [Act.put, List.setIfInBounds_toArray, List.set_cons_zero, List.set_cons_succ]
          rfl
        refine pure_ (i := 14) (N := some 65) (v := ?_) (a' := ?_) #[true, true, true, true, true, true, true, true, true, true, true, true, true, true, true, false] rfl rfl (by kernel_rfl) (fun _ _ _ h => h) (Or.inl ⟨by rfl, ?_⟩) ?_ ?_
        rotate_left
        · intro w'
          go_simp
          with_reducible rfl
        rotate_left
        · simp only [Act.put, List.setIfInBounds_toArray, List.set_cons_zero, List.set_cons_succ]
          rfl
        refine last_ (i := 15) (N := none) #[true, true, true, true, true, true, true, true, true, true, true, true, true, true, true, true] rfl rfl (by kernel_rfl) (by decide) (fun K hK => ?_)
        have hFR := hHeld.2.2.1
        refine skip_ (w1 := ?_) (by rfl) rfl ?_ ?_
        rotate_left
        · go_simp
          rfl
        refine hK.out _ _ ?_
        clear hK K
        refine done_ (by kernel_rfl) ?_
        clear wq ws hc1 hfz hfc eq hHeld
        have HL1 : Hid (Ow ((W.drewN (1 + n8)).setCell ⟨w1.heap.size, s, none⟩ (.int .u64 (rn l q1 * iv % p))) w.heap.size (.slice (some ⟨g1, 0, none⟩) l.length cap1) l) := Lib.hid (Ow.other (how1.out.drewN _) (Nat.ne_of_lt HLT.out) s _)
        have HL2 : Hid (Ow ((W.drewN (1 + n8)).setCell ⟨w1.heap.size, s, none⟩ (.int .u64 (rn l q1 * iv % p))) w.heap.size (.slice (some ⟨w1.heap.size, 0, none⟩) (q.set s qi).length nQ) (q.set s qi)) := Lib.hid (by rw [List.length_set, HQI.out]; exact (Ow.store (how2.out.drewN _) s _).1)
        have HL3 : Hid (Below w.heap.size w ((W.drewN (1 + n8)).setCell ⟨w1.heap.size, s, none⟩ (.int .u64 (rn l q1 * iv % p)))) := Lib.hid (Below.setCell (p := ⟨w1.heap.size, s, none⟩) (below_drewN hbw.out _) HBw.out.size _)
        clear how1 how2 hbw HBG
        go_wp2
        go_loopw [68] (fun v68 W2 => ∃ (k : Nat) (l2 : List Int), v68 = .int .i64 k ∧ k ≤ lb.length ∧ Hid (l2 = subTo p qi lb s l k) ∧ Hid (l2.length = la.length)
            ∧ Hid (Ow W2 w.heap.size (.slice (some ⟨g1, 0, none⟩) l2.length cap1) l2) ∧ Hid (Ow W2 w.heap.size (.slice (some ⟨w1.heap.size, 0, none⟩) (q.set s qi).length nQ) (q.set s qi)) ∧ Hid (Below w.heap.size w W2)) (fun v68 _ => lb.length - (intOf v68).toNat)
        case atStart => exact ⟨0, l, rfl, by omega, Lib.hid rfl, hl1, HL1, HL2, HL3⟩
        case round =>
          clear HL1 HL2 HL3 HUF i1 i2 i5
          obtain ⟨W2, rfl⟩ : ∃ W : World, W = wr := ⟨_, rfl⟩
          obtain ⟨k, l2, rfl, hk, hl2a, hl2b, how1, how2, hbw⟩ := hrel
          by_cases hkl : k < lb.length
          · obtain ⟨q2, hq⟩ : ∃ q2, q2 = s + k := ⟨_, rfl⟩
            have HQ2 := Lib.hid hq
            have eq : (s : Int) + (k : Int) = (q2 : Int) := by omega
            have hq2N : q2 < la.length := by have := HNQ.out; have := HTP.out; omega
            clear hq
            obtain ⟨adb2, e7, hcl⟩ := (HB.out.kept hbw.out).get k hkl
            obtain rfl := Option.some.inj e7
            obtain ⟨hc1, hfz⟩ := how1.out.cells q2 (by rw [hl2b.out]; exact hq2N)
            obtain ⟨hc3, _⟩ := how2.out.cells s (by rw [List.length_set, hq1.out]; exact hsN)
            have hqs2 : rn (q.set s qi) s = qi := by
              unfold rn
              rw [List.getD_eq_getElem?_getD, List.getElem?_set_self (by rw [hq1.out]; exact hsN)]; rfl
            rw [hqs2] at hc3
            have HUF := Lib.hid (HF.out.kept hbw.out)
            have hfc := HUF.out.c
            obtain ⟨y0, y1⟩ := (MB.out.u64 h1).rng k
            have HMD : Md p l2 := by rw [hl2a.out]; exact subTo_md (by omega) _ _ _ ML.out _
            obtain ⟨t0, t1⟩ := (HMD.u64 h1).rng q2
            have m0 : 0 ≤ qi * rn lb k % p := Int.emod_nonneg _ (by omega)
            have HKL2 : Hid (k + 1 ≤ lb.length) := Lib.hid (Nat.succ_le_of_lt hkl)
            have HKM2 := Lib.hid (ms_suc hkl)
            have j1 : (k : Int) < (lb.length : Int) := by omega
            have j3 : (0 : Int) ≤ (k : Int) := by omega
            have j4 : (q2 : Int) < (la.length : Int) := by omega
            have j5 : (0 : Int) ≤ (q2 : Int) := by omega
            have q2b : q2 ≤ 600000 := by have := HLA.out; omega
            clear HMD hqs2 e7
            go_wp2
            have wq := wr_natL q2 q2b
            have ws := wr_natL s sb
            refine start_ (n := 27) (S := fun w' => w'.cell? F = some (.pointer (some a)) ∧ w'.cell? ⟨g1, q2, none⟩ = some (.int .u64 (rn l2 q2)) ∧ w'.cell? ⟨w1.heap.size, s, none⟩ = some (.int .u64 qi) ∧ w'.frozen? ⟨g1, q2, none⟩ = false ∧ FA w' a p) (ds := [26]) #[false, false, false, false, false, false, false, false, false, false, false, false, false, false, false, false, false, false, false, false, false, false, false, false, false, false, false] (by kernel_rfl) rfl rfl ⟨hfc, hc1, hc3, hfz, HUF.out.f.drewN 1⟩ (fun hHeld => ?_)
            refine pure_ (i := 0) (N := some 73) (v := ?_) (a' := ?_) #[true, false, false, false, false, false, false, false, false, false, false, false, false, false, false, false, false, false, false, false, false, false, false, false, false, false, false] rfl rfl (by kernel_rfl) (fun _ _ _ h => h) (Or.inl ⟨by rfl, ?_⟩) ?_ ?_
            rotate_left
            · intro w'
              go_simp
              with_reducible rfl
            rotate_left
            · simp only [Act.put, List.setIfInBounds_toArray, List.set_cons_zero, List.set_cons_succ]
              rfl
            refine pure_ (i := 1) (N := some 74) (v := ?_) (a' := ?_) #[true, true, false, false, false, false, false, false, false, false, false, false, false, false, false, false, false, false, false, false, false, false, false, false, false, false, false] rfl rfl (by kernel_rfl) (fun _ _ _ h => h) (Or.inl ⟨by rfl, ?_⟩) ?_ ?_
            rotate_left
            · intro w'
              go_simp
              with_reducible rfl
            rotate_left
            · simp only [Act.put, List.setIfInBounds_toArray, List.set_cons_zero, List.set_cons_succ]
              rfl
            refine pure_ (i := 2) (N := some 75) (v := ?_) (a' := ?_) #[true, true, true, false, false, false, false, false, false, false, false, false, false, false, false, false, false, false, false, false, false, false, false, false, false, false, false] rfl rfl (by kernel_rfl) (fun _ _ _ h => h) (Or.inl ⟨by rfl, ?_⟩) ?_ ?_
            rotate_left
            · intro w'
              go_simp
              with_reducible rfl
            rotate_left
            · simp only [Act.put, List.setIfInBounds_toArray, List.set_cons_zero, List.set_cons_succ]
              rfl
            refine pure_ (i := 3) (N := some 76) (v := ?_) (a' := ?_) #[true, true, true, true, false, false, false, false, false, false, false, false, false, false, false, false, false, false, false, false, false, false, false, false, false, false, false] rfl rfl (by kernel_rfl) (fun _ _ _ h => h) (Or.inl ⟨by rfl, ?_⟩) ?_ ?_
            rotate_left
            · intro w'
              go_simp
              with_reducible rfl
            rotate_left
            · simp only [Act.put, List.setIfInBounds_toArray, List.set_cons_zero, List.set_cons_succ]
              rfl
            refine pure_ (i := 4) (N := some 77) (v := ?_) (a' := ?_) #[true, true, true, true, true, false, false, false, false, false, false, false, false, false, false, false, false, false, false, false, false, false, false, false, false, false, false] rfl rfl (by kernel_rfl) (fun _ _ _ h => h) (Or.inl ⟨by rfl, ?_⟩) ?_ ?_
            rotate_left
            · intro w'
              go_simp
              with_reducible rfl
            rotate_left
            · simp only [Act.put, List.setIfInBounds_toArray, List.set_cons_zero, List.set_cons_succ]
              rfl
            refine pure_ (i := 5) (N := some 78) (v := ?_) (a' := ?_) #[true, true, true, true, true, true, false, false, false, false, false, false, false, false, false, false, false, false, false, false, false, false, false, false, false, false, false] rfl rfl (by kernel_rfl) (fun _ _ _ h => h) (Or.inl ⟨by rfl, ?_⟩) ?_ ?_
            rotate_left
            · intro w'
              go_simp
              with_reducible rfl
            rotate_left
            · simp only [Act.put, List.setIfInBounds_toArray, List.set_cons_zero, List.set_cons_succ]
              rfl
            refine pure_ (i := 6) (N := some 79) (v := ?_) (a' := ?_) #[true, true, true, true, true, true, true, false, false, false, false, false, false, false, false, false, false, false, false, false, false, false, false, false, false, false, false] rfl rfl (by kernel_rfl) (fun _ _ _ h => h) (Or.inl ⟨by rfl, ?_⟩) ?_ ?_
            rotate_left
            · intro w'
              go_simp
              with_reducible rfl
            rotate_left
            · simp only [Act.put, List.setIfInBounds_toArray, List.set_cons_zero, List.set_cons_succ]
              rfl
            refine pure_ (i := 8) (N := some 81) (v := ?_) (a' := ?_) #[true, true, true, true, true, true, true, false, true, false, false, false, false, false, false, false, false, false, false, false, false, false, false, false, false, false, false] rfl rfl (by kernel_rfl) (fun _ _ _ h => h) (Or.inl ⟨by rfl, ?_⟩) ?_ ?_
            rotate_left
            · intro w'
              go_simp
              with_reducible rfl
            rotate_left
            · simp only [Act.put, List.setIfInBounds_toArray, List.set_cons_zero, List.set_cons_succ]
              rfl
            refine pure_ (i := 9) (N := some 82) (v := ?_) (a' := ?_) #[true, true, true, true, true, true, true, false, true, true, false, false, false, false, false, false, false, false, false, false, false, false, false, false, false, false, false] rfl rfl (by kernel_rfl) (fun _ _ _ h => h) (Or.inl ⟨by rfl, ?_⟩) ?_ ?_
            rotate_left
            · intro w'
              go_simp
              with_reducible rfl
            rotate_left
            · simp only [Act.put, List.setIfInBounds_toArray, List.set_cons_zero, List.set_cons_succ]
              rfl
            refine pure_ (i := 10) (N := some 83) (v := ?_) (a' := ?_) #[true, true, true, true, true, true, true, false, true, true, true, false, false, false, false, false, false, false, false, false, false, false, false, false, false, false, false] rfl rfl (by kernel_rfl) (fun _ _ _ h => h) (Or.inl ⟨by rfl, ?_⟩) ?_ ?_
            rotate_left
            · intro w'
              go_simp
              with_reducible rfl
            rotate_left
            · simp only [Act.put, List.setIfInBounds_toArray, List.set_cons_zero, List.set_cons_succ]
              rfl
            refine pure_ (i := 11) (N := some 84) (v := ?_) (a' := ?_) #[true, true, true, true, true, true, true, false, true, true, true, true, false, false, false, false, false, false, false, false, false, false, false, false, false, false, false] rfl rfl (by kernel_rfl) (fun _ _ _ h => h) (Or.inl ⟨by rfl, ?_⟩) ?_ ?_
            rotate_left
            · intro w'
              go_simp
              with_reducible rfl
            rotate_left
            · simp only [Act.put, List.setIfInBounds_toArray, List.set_cons_zero, List.set_cons_succ]
              rfl
            refine pure_ (i := 12) (N := some 85) (v := ?_) (a' := ?_) #[true, true, true, true, true, true, true, false, true, true, true, true, true, false, false, false, false, false, false, false, false, false, false, false, false, false, false] rfl rfl (by kernel_rfl) (fun _ _ _ h => h) (Or.inl ⟨by rfl, ?_⟩) ?_ ?_
            rotate_left
            · intro w'
              go_simp
              with_reducible rfl
            rotate_left
            · simp only [Act.put, List.setIfInBounds_toArray, List.set_cons_zero, List.set_cons_succ]
              rfl
            refine pure_ (i := 14) (N := some 87) (v := ?_) (a' := ?_) #[true, true, true, true, true, true, true, false, true, true, true, true, true, false, true, false, false, false, false, false, false, false, false, false, false, false, false] rfl rfl (by kernel_rfl) (fun _ _ _ h => h) (Or.inl ⟨by rfl, ?_⟩) ?_ ?_
            rotate_left
            · intro w'
              go_simp
              with_reducible rfl
            rotate_left
            · simp only [Act.put, List.setIfInBounds_toArray, List.set_cons_zero, List.set_cons_succ]
              rfl
            refine pure_ (i := 15) (N := some 88) (v := ?_) (a' := ?_) #[true, true, true, true, true, true, true, false, true, true, true, true, true, false, true, true, false, false, false, false, false, false, false, false, false, false, false] rfl rfl (by kernel_rfl) (fun _ _ _ h => h) (Or.inl ⟨by rfl, ?_⟩) ?_ ?_
            rotate_left
            · intro w'
              go_simp
              with_reducible rfl
            rotate_left
            · simp only [Act.put, List.setIfInBounds_toArray, List.set_cons_zero, List.set_cons_succ]
              rfl
            refine pure_ (i := 16) (N := some 89) (v := ?_) (a' := ?_) #[true, true, true, true, true, true, true, false, true, true, true, true, true, false, true, true, true, false, false, false, false, false, false, false, false, false, false] rfl rfl (by kernel_rfl) (fun _ _ _ h => h) (Or.inl ⟨by rfl, ?_⟩) ?_ ?_
            rotate_left
            · intro w'
              go_simp
              with_reducible rfl
            rotate_left
            · simp only [Act.put, List.setIfInBounds_toArray, List.set_cons_zero, List.set_cons_succ]
              rfl
            refine pure_ (i := 18) (N := some 91) (v := ?_) (a' := ?_) #[true, true, true, true, true, true, true, false, true, true, true, true, true, false, true, true, true, false, true, false, false, false, false, false, false, false, false] rfl rfl (by kernel_rfl) (fun _ _ _ h => h) (Or.inl ⟨by rfl, ?_⟩) ?_ ?_
            rotate_left
            · intro w'
              go_simp
              with_reducible rfl
            rotate_left
            · simp only [Act.put, List.setIfInBounds_toArray, List.set_cons_zero, List.set_cons_succ]
              rfl
            refine pure_ (i := 19) (N := some 92) (v := ?_) (a' := ?_) #[true, true, true, true, true, true, true, false, true, true, true, true, true, false, true, true, true, false, true, true, false, false, false, false, false, false, false] rfl rfl (by kernel_rfl) (fun _ _ _ h => h) (Or.inl ⟨by rfl, ?_⟩) ?_ ?_
            rotate_left
            · intro w'
              go_simp
              with_reducible rfl
            rotate_left
            · simp only [Act.put, List.setIfInBounds_toArray, List.set_cons_zero, List.set_cons_succ]
              rfl
            refine pure_ (i := 20) (N := some 93) (v := ?_) (a' := ?_) #[true, true, true, true, true, true, true, false, true, true, true, true, true, false, true, true, true, false, true, true, true, false, false, false, false, false, false] rfl rfl (by kernel_rfl) (fun _ _ _ h => h) (Or.inl ⟨by rfl, ?_⟩) ?_ ?_
            rotate_left
            · intro w'
              go_simp
              with_reducible rfl
            rotate_left
            · simp only [Act.put, List.setIfInBounds_toArray, List.set_cons_zero, List.set_cons_succ]
              rfl
            refine pure_ (i := 22) (N := some 95) (v := ?_) (a' := ?_) #[true, true, true, true, true, true, true, false, true, true, true, true, true, false, true, true, true, false, true, true, true, false, true, false, false, false, false] rfl rfl (by kernel_rfl) (fun _ _ _ h => h) (Or.inl ⟨by rfl, ?_⟩) ?_ ?_
            rotate_left
            · intro w'
              go_simp
              with_reducible rfl
            rotate_left
            · simp only [Act.put, List.setIfInBounds_toArray, List.set_cons_zero, List.set_cons_succ]
              rfl
            refine take_ (i := 7) (N := some 80) (v := ?_) (a' := ?_) #[true, true, true, true, true, true, true, true, true, true, true, true, true, false, true, true, true, false, true, true, true, false, true, false, false, false, false] rfl rfl (by kernel_rfl) (fun _ _ _ h => h) (Or.inl ⟨by rfl, ?_⟩) hHeld ?_ ?_
            rotate_left
            · rintro w' ⟨s0, s1, s2, s3, s4⟩
              go_simp
              with_reducible rfl
            rotate_left
            · simp only [Act.put, List.setIfInBounds_toArray, List.set_cons_zero, List.set_cons_succ]
              rfl
            refine take_ (i := 13) (N := some 86) (v := ?_) (a' := ?_) #[true, true, true, true, true, true, true, true, true, true, true, true, true, true, true, true, true, false, true, true, true, false, true, false, false, false, false] rfl rfl (by kernel_rfl) (fun _ _ _ h => h) (Or.inl ⟨by rfl, ?_⟩) hHeld ?_ ?_
            rotate_left
            · rintro w' ⟨s0, s1, s2, s3, s4⟩
              go_simp
              with_reducible rfl
            rotate_left
            · simp only [Act.put, List.setIfInBounds_toArray, List.set_cons_zero, List.set_cons_succ]
              rfl
            refine take_ (i := 17) (N := some 90) (v := ?_) (a' := ?_) #[true, true, true, true, true, true, true, true, true, true, true, true, true, true, true, true, true, true, true, true, true, false, true, false, false, false, false] rfl rfl (by kernel_rfl) (fun _ _ _ h => h) (Or.inl ⟨by rfl, ?_⟩) hHeld ?_ ?_
            rotate_left
            · rintro w' ⟨s0, s1, s2, s3, s4⟩
              go_simp
              with_reducible rfl
            rotate_left
            · simp only [Act.put, List.setIfInBounds_toArray, List.set_cons_zero, List.set_cons_succ]
              rfl
            refine take_ (i := 21) (N := some 94) (v := ?_) (a' := ?_) #[true, true, true, true, true, true, true, true, true, true, true, true, true, true, true, true, true, true, true, true, true, true, true, false, false, false, false] rfl rfl (by kernel_rfl) (fun _ _ _ h => h) (Or.inl ⟨by rfl, ?_⟩) hHeld ?_ ?_
            rotate_left
            · rintro w' ⟨s0, s1, s2, s3, s4⟩
              go_simp
              with_reducible rfl
            rotate_left
            · simp only [Act.put, List.setIfInBounds_toArray, List.set_cons_zero, List.set_cons_succ]
              rfl
            refine one_ (i := 23) (N := some 96) #[true, true, true, true, true, true, true, true, true, true, true, true, true, true, true, true, true, true, true, true, true, true, true, true, false, false, false] rfl rfl (by kernel_rfl) (by decide) (fun K hK => ?_)
            refine goes_ Tryd.func16 (by kernel_rfl) rfl #[.pointer (some a), .int .u64 qi, .int .u64 (rn lb k)] (by rfl) rfl rfl (by simp only [List.map_toArray, List.map_cons, List.map_nil]; rfl) ?_
            with_reducible refine (mul_calls a p _ _ _ hHeld.2.2.2.2 h2 h1 qi0 y0).mono ?_
            rintro e w3 ⟨rfl, n8, rfl⟩
            refine ⟨_, rfl, ?_⟩
            refine hK.out _ _ ⟨hHeld.1, hHeld.2.1, hHeld.2.2.1, hHeld.2.2.2.1, FA.drewN hHeld.2.2.2.2 _⟩ (fun hHeld => ?_)
            clear hK K
            refine norm_ (a' := ?_) ?_ ?_
            rotate_left
            · show Act.put _ (some 96) _ = _
              simp only [Act.put, List.setIfInBounds_toArray, List.set_cons_zero, List.set_cons_succ]
              rfl
            refine one_ (i := 24) (N := some 97) #[true, true, true, true, true, true, true, true, true, true, true, true, true, true, true, true, true, true, true, true, true, true, true, true, true, false, false] rfl rfl (by kernel_rfl) (by decide) (fun K hK => ?_)
            refine goes_ Tryd.func18 (by kernel_rfl) rfl #[.pointer (some a), .int .u64 (rn l2 q2), .int .u64 (qi * rn lb k % p)] (by rfl) rfl rfl (by simp only [List.map_toArray, List.map_cons, List.map_nil]; rfl) ?_
            with_reducible refine (sub_calls a p _ _ _ hHeld.2.2.2.2 h2 h1 t0 m0).mono ?_
            rintro e w3 ⟨rfl, n9, rfl⟩
            refine ⟨_, rfl, ?_⟩
            refine hK.out _ _ ⟨hHeld.1, hHeld.2.1, hHeld.2.2.1, hHeld.2.2.2.1, FA.drewN hHeld.2.2.2.2 _⟩ (fun hHeld => ?_)
            clear hK K
            refine norm_ (a' := ?_) ?_ ?_
            rotate_left
            · show Act.put _ (some 97) _ = _
              simp only [Act.put, List.setIfInBounds_toArray, List.set_cons_zero, List.set_cons_succ]
              rfl
            refine pure_ (i := 25) (N := some 98) (v := ?_) (a' := ?_) #[true, true, true, true, true, true, true, true, true, true, true, true, true, true, true, true, true, true, true, true, true, true, true, true, true, true, false] rfl rfl (by kernel_rfl) (fun _ _ _ h => h) (Or.inl ⟨by rfl, ?_⟩) ?_ ?_
            rotate_left
            · intro w'
              go_simp
              with_reducible rfl
            rotate_left
            · simp only [Act.put, List.setIfInBounds_toArray, List.set_cons_zero, List.set_cons_succ]
              rfl
            refine last_ (i := 26) (N := none) #[true, true, true, true, true, true, true, true, true, true, true, true, true, true, true, true, true, true, true, true, true, true, true, true, true, true, true] rfl rfl (by kernel_rfl) (by decide) (fun K hK => ?_)
            have hFR := hHeld.2.2.2.1
            refine skip_ (w1 := ?_) (by rfl) rfl ?_ ?_
            rotate_left
            · go_simp
              rfl
            refine hK.out _ _ ?_
            clear hK K
            refine done_ (by kernel_rfl) ?_
            clear hHeld wq ws eq hcl hc1 hc3 hfz hfc
            go_wp2
            go_roundw
            case rel =>
              refine ⟨k + 1, l2.set q2 ((rn l2 q2 - qi * rn lb k) % p), rfl, HKL2.out, Lib.hid ?_, Lib.hid ?_, Lib.hid ?_, Lib.hid ?_, Lib.hid ?_⟩
              · rw [subTo, ← hl2a.out, HQ2.out]
              · rw [List.length_set]; exact hl2b.out
              · rw [List.length_set]; exact (Ow.store (Ow.drewN how1.out _) q2 _).1
              · exact Ow.other (Ow.drewN how2.out _) (Nat.ne_of_gt HLT.out) q2 _
              · exact Below.setCell (p := ⟨g1, q2, none⟩) (below_drewN hbw.out _) HG.out _
            case measure =>
              simp only [intOf]
              exact HKM2.out
          · have hkk : k = lb.length := by omega
            subst hkk
            go_wp2
            go_roundw
            case rel =>
              refine ⟨s, q.set s qi, l2, rfl, by omega, Lib.hid ?_, Lib.hid (by rw [List.length_set]; exact hq1.out), hl2b, how1, how2, hbw⟩
              rw [hstep.out, divStep]
              simp only
              rw [← HQ.out, ← HQI.out, hl2a.out]
            case measure =>
              simp only [intOf]
              exact ms_down s
end Go.Proofs.YtmbbjoadnapcgaaDoor
