/- The shortest rule by which a row goes on is found: by its contract, for every row. -/
import Derived.Test.YtmbbjoadnapcgaaDoorField
import Derived.Test.YtmbbjoadnapcgaaDoorWLast
import Derived.StillTailTactics
namespace Go.Proofs.YtmbbjoadnapcgaaDoor
open Go.RowKit Go.Proofs.YtmbbjoadnapcgaaDoorW.PrintWords Go.Proofs.YtmbbjoadnapcgaaDoorW.PrintLast VNum

theorem wr_nat (q : Nat) (h : q ≤ 20000) : IntKind.i64.wrap (q : Int) = (q : Int) := IntWalk.i64_in _ (by omega)
theorem ms_suc {k n : Nat} (h : k < n) : n - ((k : Int) + 1).toNat < n - (k : Int).toNat := by omega
theorem wr_suc (q : Nat) (h : q ≤ 20000) : wrap64 ((q : Int) + 1) = (q : Int) + 1 := IntWalk.wrap64_in _ (by omega)

theorem find_none (p : Int) (A : Option Addr) (c : Nat) (row : List Int) (w : World) (hT : Tab w) (h0 : 0 ≤ p) (h1 : p < 18446744073709551616) (h : 9223372036854775808 ≤ p ∨ isP p.toNat = false) :
    Calls Tryd.prog 5 #[.int .u64 p, .slice A row.length c] w fun e w' => e = .returned (.tuple #[.slice none 0 0, .int .i64 14]) ∧ Below w.heap.size w w' := by
  have HC := Lib.hid (rfield_none p w hT h0 h1 h)
  clear hT h
  go_enter Tryd.func5, Tryd.ntmps5
  go_wp2_with (go_at_call 12; refine HC.out.mono ?_; rintro e w' ⟨rfl, hb2⟩)
  go_ret2
  exact ⟨rfl, hb2⟩

theorem find_long (p : Int) (A : Option Addr) (c : Nat) (row : List Int) (w : World) (hT : Tab w) (h0 : 0 ≤ p) (h1 : p < 9223372036854775808) (h : isP p.toNat = true) (hl : 10000 < row.length) :
    Calls Tryd.prog 5 #[.int .u64 p, .slice A row.length c] w fun e w' => e = .returned (.tuple #[.slice none 0 0, .int .i64 13]) ∧ Below w.heap.size w w' := by
  have HC := Lib.hid (rfield_some p w hT h0 h1 h)
  clear hT h
  go_enter Tryd.func5, Tryd.ntmps5
  go_wp2_with (go_at_call 12; refine HC.out.mono ?_; rintro e w' ⟨a, rfl, hf, hb2, hsz⟩)
  go_ret2
  exact ⟨rfl, hb2⟩

theorem invL_rng {m : Int} (hm : 0 < m) : ∀ (f : Nat) (r s a b : Int), 0 ≤ a → a < m → 0 ≤ b → b < m → 0 ≤ (invL m f r s a b).2 ∧ (invL m f r s a b).2 < m
  | 0, r, s, a, b, ha, ha1, _, _ => ⟨ha, ha1⟩
  | f + 1, r, s, a, b, ha, ha1, hb, hb1 => by
    unfold invL
    split
    · exact invL_rng hm f _ _ _ _ hb hb1 (Int.emod_nonneg _ (by omega)) (Int.emod_lt_of_pos _ hm)
    · exact ⟨ha, ha1⟩
theorem invF_rng {m : Int} (hm : 2 ≤ m) (x : Int) : 0 ≤ (invF m x).1 ∧ (invF m x).1 < m := by
  unfold invF
  split
  · simp; omega
  · simp only
    split
    · exact invL_rng (by omega) _ _ _ _ _ (by omega) (by omega) (by omega) (by omega)
    · simp; omega

theorem Ow.slice_len {W : World} {b g n cap : Nat} {l : List Int} (h : Ow W b (.slice (some ⟨g, 0, none⟩) n cap) l) : n = l.length := by
  obtain ⟨A, c, he, _⟩ := h.rc
  injection he

set_option maxHeartbeats 4000000 in
set_option maxRecDepth 100000 in
theorem find_calls (p : Int) (A : Option Addr) (c : Nat) (row : List Int) (w : World) (hT : Tab w) (h0 : 0 ≤ p) (h1 : p < 9223372036854775808) (h : isP p.toNat = true) (hrow : Rc w A c row) (hl : row.length ≤ 10000) (ur : U64 row) :
    Calls Tryd.prog 5 #[.int .u64 p, .slice A row.length c] w fun e w' => ∃ A' c', e = .returned (.tuple #[.slice A' (findTo p row row.length).now.length c', .int .i64 0]) ∧ Rc w' A' c' (findTo p row row.length).now ∧ Below w.heap.size w w' := by
  have h2 : 2 ≤ p := by have := isP_two h; omega
  have HC := Lib.hid (rfield_some p w hT h0 h1 h)
  have HR := Lib.hid hrow
  have UR := Lib.hid ur
  clear hT h hrow ur
  go_enter Tryd.func5, Tryd.ntmps5
  go_wp2_with (first
    | (go_at_call 12; refine HC.out.mono ?_; rintro e w1 ⟨a, rfl, hf, hb1, hsz⟩)
    | (go_at_call 13; refine (of_calls a p _ _ hf h2 (by omega)).mono ?_; rintro e w2 ⟨rfl, n1, rfl⟩))
  have HF := Lib.hid hf
  have hrow1 := Lib.hid (HR.out.kept hb1)
  have hbF : Below w1.heap.size w1 (w1.drewN n1) := below_drewN (Below.refl _ _) n1
  clear hf HC
  go_loopw [8, 9, 10, 11, 36] (fun v8 v9 v10 v11 v36 wr => ∃ (k : Nat) (A1 : Option Addr) (c1 : Nat) (A2 : Option Addr) (c2 : Nat) (now old : List Int) (was : Int) (gap : Nat), v36 = .int .i64 k ∧ k ≤ row.length ∧ Hid (findTo p row k = { now := now, old := old, was := was, gap := gap })
      ∧ v8 = .slice A1 now.length c1 ∧ Rc wr A1 c1 now ∧ v9 = .slice A2 old.length c2 ∧ Rc wr A2 c2 old ∧ v10 = .int .u64 was ∧ v11 = .int .i64 gap ∧ Below w1.heap.size w1 wr) (fun _ _ _ _ v36 _ => row.length - (intOf v36).toNat)
  case atStart => exact ⟨0, none, 0, none, 0, [], [], 1 % p, 1, rfl, by omega, rfl, rfl, Rc.nil _, rfl, Rc.nil _, rfl, rfl, hbF⟩
  case round =>
    clear hbF
    obtain ⟨k, A1, c1, A2, c2, now, old, was, gap, rfl, hk, HS, rfl, hr1, rfl, hr2, rfl, rfl, hbw⟩ := hrel
    have hok := findTo_ok (m := p) (by omega) row k
    have hnext : Hid (findTo p row (k + 1) = stepF p row (findTo p row k) k) := rfl
    rw [HS.out] at hok hnext
    obtain ⟨o1, o2, o3, o4, o5, o6, o7, o8⟩ := hok
    simp only at o1 o2 o3 o4 o5 o6 o7 o8
    have O5 := Lib.hid o5
    have O6 := Lib.hid o6
    have HR1 := Lib.hid hr1
    have HR2 := Lib.hid hr2
    have hmr := missTo_rng (m := p) (by omega) now row k now.length
    have hbw2 := Lib.hid hbw
    have hFA := Lib.hid (HF.out.kept hbw)
    have hRW := Lib.hid (hrow1.out.kept hbw)
    clear o4 o5 o6 hr1 hr2 hbw
    by_cases hkl : k < row.length
    · have cmiss := Lib.hid (miss_calls a p A1 A c1 c now row k wr hFA.out h2 h1 HR1.out hRW.out hkl o1 (O5.out.u64 h1) UR.out)
      obtain ⟨d, hd⟩ : ∃ d, d = missTo p now row k now.length := ⟨_, rfl⟩
      rw [← hd] at hmr cmiss
      obtain ⟨d0, d1⟩ := hmr
      have HD := Lib.hid hd
      clear hd
      by_cases hd0 : d = 0
      · subst hd0
        have hst : stepF p row { now := now, old := old, was := was, gap := gap } k = { now := now, old := old, was := was, gap := gap + 1 } := by
          unfold stepF
          rw [if_pos HD.out.symm]
        have HST := Lib.hid hst
        clear hst
        go_wp2_with (go_at_call 14; refine cmiss.out.mono ?_; rintro e w' ⟨rfl, n2, rfl⟩)
        go_roundw
        case rel => exact ⟨k + 1, A1, c1, A2, c2, now, old, was, gap + 1, by go_num, by omega, by have := hnext.out; rw [HST.out] at this; exact this, rfl, HR1.out.drewN _, rfl, HR2.out.drewN _, rfl, by go_num, below_drewN hbw2.out _⟩
        case measure => simp [intOf]; omega
      · have dd : (d == 0) = false := beq_eq_false_iff_ne.mpr hd0
        have cinv := Lib.hid (fun n => inv_calls a p was (wr.drewN n) (hFA.out.drewN n) h2 h1 o7)
        have hiv := invF_rng h2 was
        obtain ⟨iv, hiv2⟩ : ∃ iv, iv = (invF p was).1 := ⟨_, rfl⟩
        rw [← hiv2] at hiv cinv
        obtain ⟨v0, v1⟩ := hiv
        have HIV := Lib.hid hiv2
        clear hiv2
        have cmul := Lib.hid (fun n => mul_calls a p d iv (wr.drewN n) (hFA.out.drewN n) h2 h1 d0 v0)
        obtain ⟨t, ht⟩ : ∃ t, t = d * iv % p := ⟨_, rfl⟩
        have t0 : 0 ≤ t := by rw [ht]; exact Int.emod_nonneg _ (by omega)
        rw [← ht] at cmul
        have HT := Lib.hid ht
        clear ht
        obtain ⟨N, hN⟩ : ∃ N, N = gap + old.length := ⟨_, rfl⟩
        have eN : (gap : Int) + (old.length : Int) = (N : Int) := by omega
        have cgr := Lib.hid (fun n => grown_calls A1 c1 now N (wr.drewN n) (HR1.out.drewN n) (by omega) (by omega))
        obtain ⟨nx, hnx⟩ : ∃ nx, nx = growF now N := ⟨_, rfl⟩
        rw [← hnx] at cgr
        have hnl : nx.length = max N now.length := by rw [hnx, growF_len]
        have hnm : Md p nx := by rw [hnx]; exact O5.out.grow (by omega) _
        obtain ⟨j, hj⟩ : ∃ j, j = gap - 1 := ⟨_, rfl⟩
        have ej : (gap : Int) - 1 = (j : Int) := by omega
        have hjl : j < nx.length := by omega
        have HN := Lib.hid hN
        have HNX := Lib.hid hnx
        have HJ := Lib.hid hj
        have HNL := Lib.hid hnl
        have HNM := Lib.hid hnm
        have nj := (hnm.u64 h1).rng j
        obtain ⟨nj0, nj1⟩ := nj
        clear hN hnx hj hnl hnm
        go_wp2_with (first
          | (go_at_call 14; refine cmiss.out.mono ?_; rintro e w' ⟨rfl, n2, rfl⟩)
          | (go_at_call 15; refine (cinv.out _).mono ?_; rintro e w' ⟨rfl, n3, rfl⟩)
          | (go_at_call 16; refine (cmul.out _).mono ?_; rintro e w' ⟨rfl, n4, rfl⟩)
          | (go_at_call 17; refine (cgr.out _).mono ?_; rintro e w2 ⟨g, rfl, hg, hown, hb2⟩; have HOW := Lib.hid hown; have HB2 := Lib.hid hb2; obtain ⟨hcell, hfr⟩ := HOW.out.cells j hjl; clear hown hb2)
          | (go_at_call 18; refine (sub_calls a p _ _ _ ((hFA.out.drewN _).kept HB2.out) h2 h1 nj0 t0).mono ?_; rintro e w3 ⟨rfl, n5, rfl⟩))
        obtain ⟨w0, rfl⟩ : ∃ w0 : World, w0 = wr := ⟨_, rfl⟩
        have hOW2 : Ow ((w2.drewN n5).setCell ⟨g, j, none⟩ (.int .u64 ((rn nx j - t) % p))) w0.heap.size (.slice (some ⟨g, 0, none⟩) (nx.set j ((rn nx j - t) % p)).length nx.length) (nx.set j ((rn nx j - t) % p)) := by
          have h := ((HOW.out.drewN n5).store j ((rn nx j - t) % p)).1
          rw [List.length_set]
          exact h.lower (Nat.le_refl _)
        have hB5 : Below w0.heap.size w0 ((w2.drewN n5).setCell ⟨g, j, none⟩ (.int .u64 ((rn nx j - t) % p))) := by
          have hx : Below w0.heap.size w0 (w2.drewN n5) := below_drewN ((below_drewN (Below.refl _ _) _).trans HB2.out) n5
          exact hx.setCell (by simpa using hg) _
        have HOW2 := Lib.hid hOW2
        have HB5 := Lib.hid hB5
        clear hOW2 hB5 HOW HB2
        go_loopw [18, 78] (fun _ v78 W => ∃ (k2 : Nat) (nx3 : List Int), v78 = .int .i64 k2 ∧ k2 ≤ old.length ∧ Hid (nx3 = updTo p t old gap (nx.set j ((rn nx j - t) % p)) k2) ∧ nx3.length = nx.length
            ∧ Hid (Ow W w0.heap.size (.slice (some ⟨g, 0, none⟩) nx3.length nx.length) nx3) ∧ Hid (Below w0.heap.size w0 W)) (fun _ v78 _ => old.length - (intOf v78).toNat)
        case atStart => exact ⟨0, nx.set j ((rn nx j - t) % p), rfl, by omega, rfl, List.length_set, HOW2, HB5⟩
        case round =>
          clear HOW2 HB5 hcell hfr
          obtain ⟨k2, nx3, rfl, hk2, hnx3, hl3, hOW4, hB4⟩ := hrel
          by_cases hkk2 : k2 < old.length
          · obtain ⟨ad, rfl, hc2⟩ := (HR2.out.kept hB4.out).get k2 hkk2
            obtain ⟨q, hq⟩ : ∃ q, q = gap + k2 := ⟨_, rfl⟩
            have eq : (gap : Int) + (k2 : Int) = (q : Int) := by omega
            have hql : q < nx.length := by have := HNL.out; have := HN.out; omega
            have HQ := Lib.hid hq
            clear hq
            obtain ⟨hc1, hfz⟩ := hOW4.out.cells q (by omega)
            have hFA4 := HF.out.kept (hbw2.out.trans (hB4.out.mono hbw2.out.size))
            have i1 : (k2 : Int) < (old.length : Int) := by omega
            have i2 : (q : Int) < (nx.length : Int) := by omega
            have i3 : (0 : Int) ≤ (k2 : Int) := by omega
            have i4 : (0 : Int) ≤ (q : Int) := by omega
            have HMD : Md p nx3 := by rw [hnx3.out]; exact updTo_md (by omega) (HNM.out.set _ (Int.emod_nonneg _ (by omega)) (Int.emod_lt_of_pos _ (by omega))) _
            obtain ⟨b0, b1⟩ := (HMD.u64 h1).rng q
            obtain ⟨c0, c1⟩ := (O6.out.u64 h1).rng k2
            have m0 : 0 ≤ t * rn old k2 % p := Int.emod_nonneg _ (by omega)
            have HKL : Hid (k2 + 1 ≤ old.length) := Lib.hid (Nat.succ_le_of_lt hkk2)
            have HKM := Lib.hid (ms_suc hkk2)
            have HKI : Hid ((k2 : Int) + 1 = ((k2 + 1 : Nat) : Int)) := Lib.hid rfl
            clear HMD
            have qb : q ≤ 20000 := by have := HQ.out; omega
            have kb : k2 ≤ 20000 := by omega
            have wq : IntKind.i64.wrap (q : Int) = (q : Int) := wr_nat q qb
            go_wp2
            refine start_ (n := 21) (S := fun w' => w'.cell? ⟨g, q, none⟩ = some (.int .u64 (rn nx3 q)) ∧ w'.cell? (ad.add k2) = some (.int .u64 (rn old k2)) ∧ w'.frozen? ⟨g, q, none⟩ = false ∧ FA w' a p ∧ Ow w' w0.heap.size (.slice (some ⟨g, 0, none⟩) nx3.length nx.length) nx3 ∧ Below w0.heap.size w0 w') (ds := [20]) #[false, false, false, false, false, false, false, false, false, false, false, false, false, false, false, false, false, false, false, false, false] (by kernel_rfl) rfl rfl ⟨hc1, hc2, hfz, hFA4.drewN 1, hOW4.out.drewN 1, hB4.out.drew⟩ (fun hHeld => ?_)
            refine pure_ (i := 0) (N := some 81) (v := ?_) (a' := ?_) #[true, false, false, false, false, false, false, false, false, false, false, false, false, false, false, false, false, false, false, false, false] rfl rfl (by kernel_rfl) (fun _ _ _ h => h) (Or.inl ⟨by rfl, ?_⟩) ?_ ?_
            rotate_left
            · intro w'
              go_simp
              with_reducible rfl
            rotate_left
            · simp only [Act.put, List.setIfInBounds_toArray, List.set_cons_zero, List.set_cons_succ]
              rfl
            refine pure_ (i := 1) (N := some 82) (v := ?_) (a' := ?_) #[true, true, false, false, false, false, false, false, false, false, false, false, false, false, false, false, false, false, false, false, false] rfl rfl (by kernel_rfl) (fun _ _ _ h => h) (Or.inl ⟨by rfl, ?_⟩) ?_ ?_
            rotate_left
            · intro w'
              go_simp
              with_reducible rfl
            rotate_left
            · simp only [Act.put, List.setIfInBounds_toArray, List.set_cons_zero, List.set_cons_succ]
              rfl
            refine pure_ (i := 2) (N := some 83) (v := ?_) (a' := ?_) #[true, true, true, false, false, false, false, false, false, false, false, false, false, false, false, false, false, false, false, false, false] rfl rfl (by kernel_rfl) (fun _ _ _ h => h) (Or.inl ⟨by rfl, ?_⟩) ?_ ?_
            rotate_left
            · intro w'
              go_simp
              with_reducible rfl
            rotate_left
            · simp only [Act.put, List.setIfInBounds_toArray, List.set_cons_zero, List.set_cons_succ]
              rfl
            refine pure_ (i := 3) (N := some 84) (v := ?_) (a' := ?_) #[true, true, true, true, false, false, false, false, false, false, false, false, false, false, false, false, false, false, false, false, false] rfl rfl (by kernel_rfl) (fun _ _ _ h => h) (Or.inl ⟨by rfl, ?_⟩) ?_ ?_
            rotate_left
            · intro w'
              go_simp
              with_reducible rfl
            rotate_left
            · simp only [Act.put, List.setIfInBounds_toArray, List.set_cons_zero, List.set_cons_succ]
              rfl
            refine pure_ (i := 4) (N := some 85) (v := ?_) (a' := ?_) #[true, true, true, true, true, false, false, false, false, false, false, false, false, false, false, false, false, false, false, false, false] rfl rfl (by kernel_rfl) (fun _ _ _ h => h) (Or.inl ⟨by rfl, ?_⟩) ?_ ?_
            rotate_left
            · intro w'
              go_simp
              with_reducible rfl
            rotate_left
            · simp only [Act.put, List.setIfInBounds_toArray, List.set_cons_zero, List.set_cons_succ]
              rfl
            refine pure_ (i := 5) (N := some 86) (v := ?_) (a' := ?_) #[true, true, true, true, true, true, false, false, false, false, false, false, false, false, false, false, false, false, false, false, false] rfl rfl (by kernel_rfl) (fun _ _ _ h => h) (Or.inl ⟨by rfl, ?_⟩) ?_ ?_
            rotate_left
            · intro w'
              go_simp
              with_reducible rfl
            rotate_left
            · simp only [Act.put, List.setIfInBounds_toArray, List.set_cons_zero, List.set_cons_succ]
              rfl
            refine pure_ (i := 6) (N := some 87) (v := ?_) (a' := ?_) #[true, true, true, true, true, true, true, false, false, false, false, false, false, false, false, false, false, false, false, false, false] rfl rfl (by kernel_rfl) (fun _ _ _ h => h) (Or.inl ⟨by rfl, ?_⟩) ?_ ?_
            rotate_left
            · intro w'
              go_simp
              with_reducible rfl
            rotate_left
            · simp only [Act.put, List.setIfInBounds_toArray, List.set_cons_zero, List.set_cons_succ]
              rfl
            refine pure_ (i := 7) (N := some 88) (v := ?_) (a' := ?_) #[true, true, true, true, true, true, true, true, false, false, false, false, false, false, false, false, false, false, false, false, false] rfl rfl (by kernel_rfl) (fun _ _ _ h => h) (Or.inl ⟨by rfl, ?_⟩) ?_ ?_
            rotate_left
            · intro w'
              go_simp
              with_reducible rfl
            rotate_left
            · simp only [Act.put, List.setIfInBounds_toArray, List.set_cons_zero, List.set_cons_succ]
              rfl
            refine pure_ (i := 8) (N := some 89) (v := ?_) (a' := ?_) #[true, true, true, true, true, true, true, true, true, false, false, false, false, false, false, false, false, false, false, false, false] rfl rfl (by kernel_rfl) (fun _ _ _ h => h) (Or.inl ⟨by rfl, ?_⟩) ?_ ?_
            rotate_left
            · intro w'
              go_simp
              with_reducible rfl
            rotate_left
            · simp only [Act.put, List.setIfInBounds_toArray, List.set_cons_zero, List.set_cons_succ]
              rfl
            refine pure_ (i := 9) (N := some 90) (v := ?_) (a' := ?_) #[true, true, true, true, true, true, true, true, true, true, false, false, false, false, false, false, false, false, false, false, false] rfl rfl (by kernel_rfl) (fun _ _ _ h => h) (Or.inl ⟨by rfl, ?_⟩) ?_ ?_
            rotate_left
            · intro w'
              go_simp
              with_reducible rfl
            rotate_left
            · simp only [Act.put, List.setIfInBounds_toArray, List.set_cons_zero, List.set_cons_succ]
              rfl
            refine pure_ (i := 11) (N := some 92) (v := ?_) (a' := ?_) #[true, true, true, true, true, true, true, true, true, true, false, true, false, false, false, false, false, false, false, false, false] rfl rfl (by kernel_rfl) (fun _ _ _ h => h) (Or.inl ⟨by rfl, ?_⟩) ?_ ?_
            rotate_left
            · intro w'
              go_simp
              with_reducible rfl
            rotate_left
            · simp only [Act.put, List.setIfInBounds_toArray, List.set_cons_zero, List.set_cons_succ]
              rfl
            refine pure_ (i := 12) (N := some 93) (v := ?_) (a' := ?_) #[true, true, true, true, true, true, true, true, true, true, false, true, true, false, false, false, false, false, false, false, false] rfl rfl (by kernel_rfl) (fun _ _ _ h => h) (Or.inl ⟨by rfl, ?_⟩) ?_ ?_
            rotate_left
            · intro w'
              go_simp
              with_reducible rfl
            rotate_left
            · simp only [Act.put, List.setIfInBounds_toArray, List.set_cons_zero, List.set_cons_succ]
              rfl
            refine pure_ (i := 13) (N := some 94) (v := ?_) (a' := ?_) #[true, true, true, true, true, true, true, true, true, true, false, true, true, true, false, false, false, false, false, false, false] rfl rfl (by kernel_rfl) (fun _ _ _ h => h) (Or.inl ⟨by rfl, ?_⟩) ?_ ?_
            rotate_left
            · intro w'
              go_simp
              with_reducible rfl
            rotate_left
            · simp only [Act.put, List.setIfInBounds_toArray, List.set_cons_zero, List.set_cons_succ]
              rfl
            refine pure_ (i := 14) (N := some 95) (v := ?_) (a' := ?_) #[true, true, true, true, true, true, true, true, true, true, false, true, true, true, true, false, false, false, false, false, false] rfl rfl (by kernel_rfl) (fun _ _ _ h => h) (Or.inl ⟨by rfl, ?_⟩) ?_ ?_
            rotate_left
            · intro w'
              go_simp
              with_reducible rfl
            rotate_left
            · simp only [Act.put, List.setIfInBounds_toArray, List.set_cons_zero, List.set_cons_succ]
              rfl
            refine pure_ (i := 15) (N := some 96) (v := ?_) (a' := ?_) #[true, true, true, true, true, true, true, true, true, true, false, true, true, true, true, true, false, false, false, false, false] rfl rfl (by kernel_rfl) (fun _ _ _ h => h) (Or.inl ⟨by rfl, ?_⟩) ?_ ?_
            rotate_left
            · intro w'
              go_simp
              with_reducible rfl
            rotate_left
            · simp only [Act.put, List.setIfInBounds_toArray, List.set_cons_zero, List.set_cons_succ]
              rfl
            refine take_ (i := 10) (N := some 91) (v := ?_) (a' := ?_) #[true, true, true, true, true, true, true, true, true, true, true, true, true, true, true, true, false, false, false, false, false] rfl rfl (by kernel_rfl) (fun _ _ _ h => h) (Or.inl ⟨by rfl, ?_⟩) hHeld ?_ ?_
            rotate_left
            · rintro w' ⟨s0, s1, s2, s3, s4, s5⟩
              go_simp
              with_reducible rfl
            rotate_left
            · simp only [Act.put, List.setIfInBounds_toArray, List.set_cons_zero, List.set_cons_succ]
              rfl
            refine take_ (i := 16) (N := some 97) (v := ?_) (a' := ?_) #[true, true, true, true, true, true, true, true, true, true, true, true, true, true, true, true, true, false, false, false, false] rfl rfl (by kernel_rfl) (fun _ _ _ h => h) (Or.inl ⟨by rfl, ?_⟩) hHeld ?_ ?_
            rotate_left
            · rintro w' ⟨s0, s1, s2, s3, s4, s5⟩
              go_simp
              with_reducible rfl
            rotate_left
            · simp only [Act.put, List.setIfInBounds_toArray, List.set_cons_zero, List.set_cons_succ]
              rfl
            refine one_ (i := 17) (N := some 98) #[true, true, true, true, true, true, true, true, true, true, true, true, true, true, true, true, true, true, false, false, false] rfl rfl (by kernel_rfl) (by decide) (fun K hK => ?_)
            refine goes_ Tryd.func16 (by kernel_rfl) rfl #[.pointer (some a), .int .u64 t, .int .u64 (rn old k2)] (by rfl) rfl rfl (by simp only [List.map_toArray, List.map_cons, List.map_nil]; rfl) ?_
            with_reducible refine (mul_calls a p t _ _ hHeld.2.2.2.1 h2 h1 t0 c0).mono ?_
            rintro e w3 ⟨rfl, n8, rfl⟩
            refine ⟨_, rfl, ?_⟩
            refine hK.out _ _ ⟨hHeld.1, hHeld.2.1, hHeld.2.2.1, FA.drewN hHeld.2.2.2.1 _, Ow.drewN hHeld.2.2.2.2.1 _, below_drewN hHeld.2.2.2.2.2 _⟩ (fun hHeld => ?_)
            clear hK K
            refine norm_ (a' := ?_) ?_ ?_
            rotate_left
            · show Act.put _ (some 98) _ = _
              simp only [Act.put, List.setIfInBounds_toArray, List.set_cons_zero, List.set_cons_succ]
              rfl
            refine one_ (i := 18) (N := some 99) #[true, true, true, true, true, true, true, true, true, true, true, true, true, true, true, true, true, true, true, false, false] rfl rfl (by kernel_rfl) (by decide) (fun K hK => ?_)
            refine goes_ Tryd.func18 (by kernel_rfl) rfl #[.pointer (some a), .int .u64 (rn nx3 q), .int .u64 (t * rn old k2 % p)] (by rfl) rfl rfl (by simp only [List.map_toArray, List.map_cons, List.map_nil]; rfl) ?_
            with_reducible refine (sub_calls a p _ _ _ hHeld.2.2.2.1 h2 h1 b0 m0).mono ?_
            rintro e w3 ⟨rfl, n9, rfl⟩
            refine ⟨_, rfl, ?_⟩
            refine hK.out _ _ ⟨hHeld.1, hHeld.2.1, hHeld.2.2.1, FA.drewN hHeld.2.2.2.1 _, Ow.drewN hHeld.2.2.2.2.1 _, below_drewN hHeld.2.2.2.2.2 _⟩ (fun hHeld => ?_)
            clear hK K
            refine norm_ (a' := ?_) ?_ ?_
            rotate_left
            · show Act.put _ (some 99) _ = _
              simp only [Act.put, List.setIfInBounds_toArray, List.set_cons_zero, List.set_cons_succ]
              rfl
            refine pure_ (i := 19) (N := some 100) (v := ?_) (a' := ?_) #[true, true, true, true, true, true, true, true, true, true, true, true, true, true, true, true, true, true, true, true, false] rfl rfl (by kernel_rfl) (fun _ _ _ h => h) (Or.inl ⟨by rfl, ?_⟩) ?_ ?_
            rotate_left
            · intro w'
              go_simp
              with_reducible rfl
            rotate_left
            · simp only [Act.put, List.setIfInBounds_toArray, List.set_cons_zero, List.set_cons_succ]
              rfl
            refine last_ (i := 20) (N := none) #[true, true, true, true, true, true, true, true, true, true, true, true, true, true, true, true, true, true, true, true, true] rfl rfl (by kernel_rfl) (by decide) (fun K hK => ?_)
            have hFR := hHeld.2.2.1
            refine skip_ (w1 := ?_) (by rfl) rfl ?_ ?_
            rotate_left
            · go_simp
              rfl
            refine hK.out _ _ ?_
            clear hK K
            refine done_ (by kernel_rfl) ?_
            clear hHeld wq eq i1 i2 i3 i4 b0 b1 c0 c1 m0
            go_wp2
            go_roundw
            case rel =>
              refine ⟨k2 + 1, nx3.set q ((rn nx3 q - t * rn old k2) % p), by first | rfl | (rw [wr_suc k2 kb]; rfl), HKL.out, Lib.hid ?_, ?_, Lib.hid ?_, Lib.hid ?_⟩
              · rw [updTo, ← hnx3.out, HQ.out]
              · rw [List.length_set]; exact hl3
              · rw [List.length_set]; exact (Ow.store (Ow.drewN hOW4.out _) q _).1
              · exact Below.setCell (p := ⟨g, q, none⟩) (below_drewN hB4.out _) (by simpa using hg) _
            case measure =>
              simp only [intOf]
              first | exact HKM.out | (rw [wr_suc k2 kb]; exact HKM.out)
          · have hkk : k2 = old.length := by omega
            subst hkk
            have HNX3 : Hid (nx3 = nextF p t { now := now, old := old, was := was, gap := gap }) := Lib.hid <| by
              have := hnx3.out
              unfold nextF
              rw [HNX.out, HN.out, HJ.out] at this
              exact this
            have hB6 := hbw2.out.trans (hB4.out.mono hbw2.out.size)
            have HB6 := Lib.hid hB6
            have HFIN : Hid (∀ s, stepF p row { now := now, old := old, was := was, gap := gap } k = s → findTo p row (k + 1) = s) := Lib.hid fun s hs => by have := hnext.out; rw [hs] at this; exact this
            have HST : Hid (stepF p row { now := now, old := old, was := was, gap := gap } k = if k < 2 * now.length then { now := nx3, old := old, was := was, gap := gap + 1 } else { now := growF nx3 (k + 1 - now.length), old := now, was := d, gap := 1 }) := Lib.hid <| by
              unfold stepF
              rw [if_neg (by simp only; rw [← HD.out]; exact hd0)]
              simp only
              rw [← HD.out, ← HIV.out, ← HT.out, ← HNX3.out]
            clear hB6
            have HKL : Hid (k + 1 ≤ row.length) := Lib.hid (Nat.succ_le_of_lt hkl)
            have HKM := Lib.hid (ms_suc hkl)
            have kb : k ≤ 20000 := by omega
            have gb : gap ≤ 20000 := by omega
            by_cases hk2n : k < 2 * now.length
            · have e1 : (k : Int) < 2 * (now.length : Int) := by omega
              have e2 := decide_eq_true e1
              clear e1
              go_wp2
              go_roundw
              case rel =>
                obtain ⟨A9, c9, e9, r9⟩ := hOW4.out.rc
                refine ⟨k + 1, A9, c9, A2, c2, nx3, old, was, gap + 1, by first | rfl | (rw [wr_suc k kb]; rfl), HKL.out, Lib.hid (HFIN.out _ (by rw [HST.out, if_pos hk2n])), ?_, r9, rfl, HR2.out.kept hB4.out, rfl, by first | rfl | (rw [wr_suc gap gb]; rfl), HB6.out⟩
                rw [← e9, hl3]
              case measure =>
                simp only [intOf]
                first | exact HKM.out | (rw [wr_suc k kb]; exact HKM.out)
            · have e1 : ¬ (k : Int) < 2 * (now.length : Int) := by omega
              have e2 := decide_eq_false e1
              clear e1
              obtain ⟨A9, c9, e9, r9⟩ := hOW4.out.rc
              obtain ⟨M, hM⟩ : ∃ M, M = k + 1 - now.length := ⟨_, rfl⟩
              have eM : (k : Int) + 1 - (now.length : Int) = (M : Int) := by omega
              have hMb : M ≤ 20000 := by omega
              have hnb : nx3.length ≤ 20000 := by rw [hl3, HNL.out]; have := HN.out; omega
              have cg2 := Lib.hid (grown_calls A9 c9 nx3 M wr r9 (by omega) (by omega))
              rw [← e9, hl3] at cg2
              have HM := Lib.hid hM
              clear hM hMb hnb r9 e9 o1 o2 o3
              go_wp2_with (go_at_call 17; refine cg2.out.mono ?_; rintro e w4 ⟨g4, rfl, hg4, hown4, hb4⟩; have HOW5 := Lib.hid hown4; have HB7 := Lib.hid hb4; clear hown4 hb4)
              go_roundw
              case rel =>
                obtain ⟨A8, c8, e8, r8⟩ := HOW5.out.rc
                refine ⟨k + 1, A8, c8, A1, c1, growF nx3 M, now, d, 1, by first | rfl | (rw [wr_suc k kb]; rfl), HKL.out, Lib.hid (HFIN.out _ (by rw [HST.out, if_neg hk2n, HM.out])), ?_, r8, rfl, HR1.out.kept (hB4.out.trans (HB7.out.mono hB4.out.size)), rfl, rfl, HB6.out.trans (HB7.out.mono HB6.out.size)⟩
                exact e8
              case measure =>
                simp only [intOf]
                first | exact HKM.out | (rw [wr_suc k kb]; exact HKM.out)
    · have hkk : k = row.length := by omega
      subst hkk
      go_wp2
      go_ret2
      refine ⟨A1, c1, ?_, ?_, ?_⟩
      · rw [HS.out]; rfl
      · rw [HS.out]; exact HR1.out
      · exact hb1.trans (hbw2.out.mono hb1.size)
end Go.Proofs.YtmbbjoadnapcgaaDoor
