/- A polynomial to the nth, modulo another: by its contract, where each step stays short. -/
import Derived.Test.YtmbbjoadnapcgaaDoorDivide
namespace Go.Proofs.YtmbbjoadnapcgaaDoor
open Go.RowKit Go.Proofs.YtmbbjoadnapcgaaDoorW.PrintWords VNum

theorem Md.take {m : Int} {l : List Int} (h : Md m l) (n : Nat) : Md m (l.take n) := fun x hx => h x (List.mem_of_mem_take hx)
theorem trimF_md {m : Int} {l : List Int} (h : Md m l) : Md m (trimF l) := h.take _
theorem divF_md {m : Int} (hm : 0 < m) {a : List Int} (b : List Int) (ha : Md m a) : Md m (divF m a b).2 := by
  unfold divF
  split
  · exact ha
  · exact trimF_md (divS_ok hm b _ _ _ ha _).2.2.2
theorem trimF_le (l : List Int) : (trimF l).length ≤ l.length := by rw [trimF_len]; exact trimN_le _ _
theorem oneF_le (m : Int) (a b : List Int) : (oneF m a b).length ≤ a.length + b.length := by
  unfold oneF
  split
  · simp
  · rw [oneTo_len]; omega
theorem normTo_md {m : Int} (hm : 0 < m) (l : List Int) : ∀ k, Md m (normTo m l k)
  | 0 => by rw [normTo]; exact Md.zeros hm _
  | k + 1 => by rw [normTo]; exact (normTo_md hm l k).set _ (Int.emod_nonneg _ (by omega)) (Int.emod_lt_of_pos _ hm)
theorem normF_md {m : Int} (hm : 0 < m) (l : List Int) : Md m (normF m l) := trimF_md (normTo_md hm l _)

theorem half_cast (n : Nat) : ((n / 2 : Nat) : Int) = (n : Int) / 2 := by omega
theorem half_lt {n : Nat} (h : 0 < n) : n / 2 < n := by omega
theorem half_b {n : Nat} (h : (n : Int) < 18446744073709551616) : ((n / 2 : Nat) : Int) < 18446744073709551616 := by omega
theorem pos_cast {n : Nat} (h : 0 < n) : (0 : Int) < (n : Int) := by omega
theorem pos_dec {n : Nat} (h : 0 < n) : decide ((0 : Int) < (n : Int)) = true := decide_eq_true (pos_cast h)
theorem and_nat {n : Nat} (h : (n : Int) < 18446744073709551616) : bits .and .u64 (n : Int) 1 = (n : Int) % 2 := and_one_u64 _ (by omega) (by omega)
theorem half_ms {n : Nat} (h : 0 < n) : ((n : Int) / 2).toNat < (n : Int).toNat := by omega
theorem par_cast {n r : Nat} (h : n % 2 = r) : (n : Int) % 2 = (r : Int) := by omega
theorem lit1 (W : World) (x : Int) : Rc (W.alloc (.cells #[.int .u64 x] 22)) (some ⟨W.heap.size, 0, none⟩) 1 [x] := by
  obtain ⟨A, c, e, h⟩ := (Ow.of_block (l := [x]) (heap_alloc_new W (.cells #[.int .u64 x] 22)) rfl (Nat.le_refl W.heap.size) (by simp)).rc
  injection e with e1 _ e2
  subst e1 e2
  exact h
theorem lit2 (W : World) (x y : Int) : Rc (W.alloc (.cells #[.int .u64 x, .int .u64 y] 22)) (some ⟨W.heap.size, 0, none⟩) 2 [x, y] := by
  obtain ⟨A, c, e, h⟩ := (Ow.of_block (l := [x, y]) (heap_alloc_new W (.cells #[.int .u64 x, .int .u64 y] 22)) rfl (Nat.le_refl W.heap.size) (by simp)).rc
  injection e with e1 _ e2
  subst e1 e2
  exact h

/-- the power, where each step stays short; none if one does not -/
def powF (m : Int) (b : List Int) : Nat → Nat → List Int → List Int → Option (List Int)
  | 0, n, out, _ => if n = 0 then some out else none
  | k + 1, n, out, a =>
    if n = 0 then some out
    else if a.length ≤ 16 ∧ out.length ≤ 16 ∧ 0 < (trimF (oneF m a a)).length ∧ (n % 2 = 1 → 0 < (trimF (oneF m out a)).length) then
      powF m b k (n / 2) (if n % 2 = 1 then (divF m (trimF (oneF m out a)) b).2 else out) (divF m (trimF (oneF m a a)) b).2
    else none

set_option maxHeartbeats 4000000 in
set_option maxRecDepth 100000 in
theorem powmod_calls (F a : Addr) (p : Int) (A1 A2 : Option Addr) (c1 c2 : Nat) (la lb : List Int) (n : Nat) (r : List Int) (w : World) (hF : UF w F a p) (h2 : 2 ≤ p) (h1 : p < 9223372036854775808) (hra : Rc w A1 c1 la) (hrb : Rc w A2 c2 lb) (hla : la.length ≤ 16) (hlb : lb.length ≤ 16) (ula : U64 la) (ulb : U64 lb) (hn : (n : Int) < 18446744073709551616)
    (ha0 : 0 < (normF p la).length) (hb0 : 0 < (normF p lb).length) (hr : powF p (normF p lb) 64 n (divF p [1] (normF p lb)).2 (divF p (normF p la) (normF p lb)).2 = some r) :
    Calls Tryd.prog 27 #[.pointer (some F), .slice A1 la.length c1, .int .u64 n, .slice A2 lb.length c2] w fun e w' => ∃ A3 c3, e = .returned (.tuple #[.slice A3 r.length c3, .int .i64 0]) ∧ Rc w' A3 c3 r ∧ Below w.heap.size w w' := by
  obtain ⟨na, hna⟩ : ∃ na, na = normF p la := ⟨_, rfl⟩
  obtain ⟨nb, hnb⟩ : ∃ nb, nb = normF p lb := ⟨_, rfl⟩
  have mna : Md p na := by rw [hna]; exact normF_md (by omega) _
  have mnb : Md p nb := by rw [hnb]; exact normF_md (by omega) _
  have lna : na.length ≤ 16 := by rw [hna]; unfold normF; have := trimF_le (normTo p la la.length); rw [normTo_len] at this; omega
  have lnb : nb.length ≤ 16 := by rw [hnb]; unfold normF; have := trimF_le (normTo p lb lb.length); rw [normTo_len] at this; omega
  have cna := Lib.hid (norm_calls F a p A1 c1 la w hF h2 hra (by omega) ula)
  have cnb := Lib.hid (fun (W : World) (hb : Below w.heap.size w W) => norm_calls F a p A2 c2 lb W (hF.kept hb) h2 (hrb.kept hb) (by omega) ulb)
  rw [← hna, ← hnb] at hr
  rw [← hna] at ha0 cna
  rw [← hnb] at hb0 cnb
  have HF := Lib.hid hF
  have MNA := Lib.hid mna
  have MNB := Lib.hid mnb
  have LNA := Lib.hid lna
  have LNB := Lib.hid lnb
  have e1 : ((nb.length : Int) == 0) = false := beq_eq_false_iff_ne.mpr (by omega)
  obtain ⟨o1, ho1⟩ : ∃ o1, o1 = (divF p [1] nb).2 := ⟨_, rfl⟩
  obtain ⟨o2, ho2⟩ : ∃ o2, o2 = (divF p na nb).2 := ⟨_, rfl⟩
  have m1 : Md p [1] := fun x hx => by rw [List.mem_singleton.1 hx]; omega
  have mo1 : Md p o1 := by rw [ho1]; exact divF_md (by omega) _ m1
  have mo2 : Md p o2 := by rw [ho2]; exact divF_md (by omega) _ mna
  rw [← ho1, ← ho2] at hr
  have CD1 : Hid (∀ (W : World) (A6 : Option Addr) (c6 : Nat), Below w.heap.size w W → Rc W A6 c6 nb → Calls Tryd.prog 36 #[.pointer (some F), .slice (some ⟨W.heap.size, 0, none⟩) 1 1, .slice A6 nb.length c6] (W.alloc (.cells #[.int .u64 1] 22)) fun e w' => ∃ v A4 c4, e = .returned (.tuple #[v, .slice A4 o1.length c4]) ∧ Rc w' A4 c4 o1 ∧ Below W.heap.size W w') := Lib.hid (fun W A6 c6 hb h6 => by
    have hk := below_alloc (Below.refl W.heap.size W) (.cells #[.int .u64 1] 22)
    refine (divide_calls F a p _ A6 1 c6 [1] nb _ ((hF.kept hb).kept hk) h2 h1 (lit1 W 1) (h6.kept hk) (by simp) (by omega) m1 mnb (by simp) hb0).mono ?_
    rintro e w' ⟨A3, c3, A4, c4, rfl, _, hr4, hb4⟩
    rw [ho1]
    exact ⟨_, A4, c4, rfl, hr4, hk.trans (hb4.mono hk.size)⟩)
  have CD2 : Hid (∀ (W : World) (A5 A6 : Option Addr) (c5 c6 : Nat), Below w.heap.size w W → Rc W A5 c5 na → Rc W A6 c6 nb → Calls Tryd.prog 36 #[.pointer (some F), .slice A5 na.length c5, .slice A6 nb.length c6] W fun e w' => ∃ v A4 c4, e = .returned (.tuple #[v, .slice A4 o2.length c4]) ∧ Rc w' A4 c4 o2 ∧ Below W.heap.size W w') := Lib.hid (fun W A5 A6 c5 c6 hb h5 h6 => by
    refine (divide_calls F a p A5 A6 c5 c6 na nb _ (hF.kept hb) h2 h1 h5 h6 (by omega) (by omega) mna mnb ha0 hb0).mono ?_
    rintro e w' ⟨A3, c3, A4, c4, rfl, _, hr4, hb4⟩
    rw [ho2]
    exact ⟨_, A4, c4, rfl, hr4, hb4⟩)
  have MO1 := Lib.hid mo1
  have MO2 := Lib.hid mo2
  have HR := Lib.hid hr
  clear hF hra hrb hla hlb ula ulb mna mnb lna lnb hr hna hnb ho1 ho2 m1 mo1 mo2
  go_enter Tryd.func27, Tryd.ntmps27
  go_wp2_with (first
    | (go_at_call 35; with_reducible refine cna.out.mono ?_; rintro e w1 ⟨A5, c5, rfl, hr5, hb5⟩; have HR5 := Lib.hid hr5; have HB5 := Lib.hid hb5; clear hr5 hb5)
    | (go_at_call 35; with_reducible refine (cnb.out _ HB5.out).mono ?_; rintro e w2 ⟨A6, c6, rfl, hr6, hb6⟩; have HR6 := Lib.hid hr6; have HB6 := Lib.hid (HB5.out.trans (hb6.mono HB5.out.size)); have HR5b := Lib.hid (HR5.out.kept hb6); clear hr6 hb6)
    | (go_at_call 36; with_reducible refine (CD1.out _ A6 c6 HB6.out HR6.out).mono ?_; rintro e w3 ⟨v3, A7, c7, rfl, hr7, hb7⟩; have HR7 := Lib.hid hr7; have HB7 := Lib.hid (HB6.out.trans (hb7.mono HB6.out.size)); have HR5c := Lib.hid (HR5b.out.kept hb7); have HR6c := Lib.hid (HR6.out.kept hb7); clear hr7 hb7)
    | (go_at_call 36; with_reducible refine (CD2.out _ A5 A6 c5 c6 HB7.out HR5c.out HR6c.out).mono ?_; rintro e w4 ⟨v4, A8, c8, rfl, hr8, hb8⟩; have HR8 := Lib.hid hr8; have HB8 := Lib.hid (HB7.out.trans (hb8.mono HB7.out.size)); have HR7b := Lib.hid (HR7.out.kept hb8); have HR6d := Lib.hid (HR6c.out.kept hb8); clear hr8 hb8))
  go_loopw [1, 2, 11] (fun v1 v2 v11 W => ∃ (k n : Nat) (out l : List Int) (A7 A8 : Option Addr) (c7 c8 : Nat), v2 = .int .u64 n ∧ (n : Int) < 18446744073709551616 ∧ v1 = .slice A8 l.length c8 ∧ v11 = .slice A7 out.length c7 ∧ Hid (powF p nb k n out l = some r)
      ∧ Hid (Rc W A8 c8 l) ∧ Hid (Rc W A7 c7 out) ∧ Hid (Md p l) ∧ Hid (Md p out) ∧ Hid (Rc W A6 c6 nb) ∧ Hid (Below w.heap.size w W)) (fun _ v2 _ _ => (intOf v2).toNat)
  case atStart => exact ⟨64, n, o1, o2, A7, A8, c7, c8, rfl, hn, rfl, rfl, HR, HR8, HR7b, MO2, MO1, HR6d, HB8⟩
  case round =>
    clear hn HR HR8 HR7b MO1 MO2 HR6d HB8 HR7 HR6c HR5c HB7 HR5b HB6 HR6 HR5 HB5 CD1 CD2 cna cnb ha0 e1
    obtain ⟨W, rfl⟩ : ∃ W : World, W = wr := ⟨_, rfl⟩
    obtain ⟨k, n, out, l, A7, A8, c7, c8, rfl, hn, rfl, rfl, hp, hrl, hro, hml, hmo, hrb, hbw⟩ := hrel
    rcases Nat.eq_zero_or_pos n with h0 | h0
    · subst h0
      have he : out = r := by
        have := hp.out
        cases k <;> simp [powF] at this <;> exact this
      subst he
      go_wp2
      go_ret2
      exact ⟨A7, c7, rfl, hro.out, hbw.out⟩
    · obtain ⟨k, rfl⟩ : ∃ k', k = k' + 1 := by
        cases k with
        | zero => have := hp.out; simp [powF] at this; omega
        | succ k => exact ⟨k, rfl⟩
      have hp2 := hp.out
      rw [powF, if_neg (by omega)] at hp2
      by_cases hC : l.length ≤ 16 ∧ out.length ≤ 16 ∧ 0 < (trimF (oneF p l l)).length ∧ (n % 2 = 1 → 0 < (trimF (oneF p out l)).length)
      · rw [if_pos hC] at hp2
        obtain ⟨C1, C2, C3, C4⟩ := hC
        obtain ⟨t2, ht2⟩ : ∃ t2, t2 = trimF (oneF p l l) := ⟨_, rfl⟩
        obtain ⟨u2, hu2⟩ : ∃ u2, u2 = (divF p t2 nb).2 := ⟨_, rfl⟩
        have mt2 : Md p t2 := by rw [ht2]; exact trimF_md (oneF_md (by omega) _ _)
        have lt2 : t2.length ≤ 200000 := by rw [ht2]; have := trimF_le (oneF p l l); have := oneF_le p l l; omega
        have mu2 : Md p u2 := by rw [hu2]; exact divF_md (by omega) _ mt2
        rw [← ht2] at C3 hp2
        rw [← hu2] at hp2
        have CT2 : Hid (∀ W' : World, Below w.heap.size w W' → Rc W' A8 c8 l → Calls Tryd.prog 37 #[.pointer (some F), .slice A8 l.length c8, .slice A8 l.length c8] W' fun e w' => ∃ A' c', e = .returned (.slice A' t2.length c') ∧ Rc w' A' c' t2 ∧ Below W'.heap.size W' w') := Lib.hid (fun W' hb ha => by
          rw [ht2]
          exact times_short F a p A8 A8 c8 c8 l l W' (HF.out.kept hb) h2 h1 ha ha C1 C1 (hml.out.u64 h1) (hml.out.u64 h1))
        have CV2 : Hid (∀ (W' : World) (Aa : Option Addr) (ca : Nat), Below w.heap.size w W' → Rc W' Aa ca t2 → Rc W' A6 c6 nb → Calls Tryd.prog 36 #[.pointer (some F), .slice Aa t2.length ca, .slice A6 nb.length c6] W' fun e w' => ∃ v A4 c4, e = .returned (.tuple #[v, .slice A4 u2.length c4]) ∧ Rc w' A4 c4 u2 ∧ Below W'.heap.size W' w') := Lib.hid (fun W' Aa ca hb ha h6 => by
          refine (divide_calls F a p Aa A6 ca c6 t2 nb _ (HF.out.kept hb) h2 h1 ha h6 lt2 (by have := LNB.out; omega) mt2 MNB.out C3 hb0).mono ?_
          rintro e w' ⟨A3, c3, A4, c4, rfl, _, hr4, hb4⟩
          rw [hu2]
          exact ⟨_, A4, c4, rfl, hr4, hb4⟩)
        clear lt2
        have hand := and_nat hn
        have HDN := Lib.hid (half_cast n)
        have HLT2 := Lib.hid (half_lt h0)
        have g1 := pos_cast h0
        have g2 := pos_dec h0
        have MU2 := Lib.hid mu2
        rcases Nat.mod_two_eq_zero_or_one n with hpar | hpar
        · have hm := par_cast hpar
          rw [hm] at hand
          rw [if_neg (by rw [hpar]; decide)] at hp2
          have HP2 := Lib.hid hp2
          clear hp hp2 C1 C2 C3 C4 ht2 hu2 mt2 mu2 hm
          go_wp2_with (first
            | (go_at_call 37; with_reducible refine (CT2.out _ hbw.out hrl.out).mono ?_; rintro e w7 ⟨A12, c12, rfl, hr12, hb12⟩; have HR12 := Lib.hid hr12; have HB12 := Lib.hid (hbw.out.trans (hb12.mono hbw.out.size)); have HRo12 := Lib.hid (hro.out.kept hb12); have HRb12 := Lib.hid (hrb.out.kept hb12); clear hr12 hb12)
            | (go_at_call 36; with_reducible refine (CV2.out _ A12 c12 HB12.out HR12.out HRb12.out).mono ?_; rintro e w8 ⟨v8, A13, c13, rfl, hr13, hb13⟩; have HR13 := Lib.hid hr13; have HB13 := Lib.hid (HB12.out.trans (hb13.mono HB12.out.size)); have HRo13 := Lib.hid (HRo12.out.kept hb13); have HRb13 := Lib.hid (HRb12.out.kept hb13); clear hr13 hb13))
          go_roundw
          case rel => exact ⟨k, n / 2, out, u2, A7, A13, c7, c13, by rw [HDN.out], half_b hn, rfl, rfl, HP2, HR13, HRo13, MU2, hmo, HRb13, HB13⟩
          case measure =>
            simp only [intOf]
            exact half_ms h0
        · have hm := par_cast hpar
          rw [hm] at hand
          rw [if_pos hpar] at hp2
          have C5 := C4 hpar
          obtain ⟨t1, ht1⟩ : ∃ t1, t1 = trimF (oneF p out l) := ⟨_, rfl⟩
          obtain ⟨u1, hu1⟩ : ∃ u1, u1 = (divF p t1 nb).2 := ⟨_, rfl⟩
          have mt1 : Md p t1 := by rw [ht1]; exact trimF_md (oneF_md (by omega) _ _)
          have lt1 := Lib.hid (show t1.length ≤ 200000 by rw [ht1]; have := trimF_le (oneF p out l); have := oneF_le p out l; omega)
          have mu1 : Md p u1 := by rw [hu1]; exact divF_md (by omega) _ mt1
          rw [← ht1] at C5 hp2
          rw [← hu1] at hp2
          have CT1 : Hid (∀ W' : World, Below w.heap.size w W' → Rc W' A7 c7 out → Rc W' A8 c8 l → Calls Tryd.prog 37 #[.pointer (some F), .slice A7 out.length c7, .slice A8 l.length c8] W' fun e w' => ∃ A' c', e = .returned (.slice A' t1.length c') ∧ Rc w' A' c' t1 ∧ Below W'.heap.size W' w') := Lib.hid (fun W' hb ha hb' => by
            rw [ht1]
            exact times_short F a p A7 A8 c7 c8 out l W' (HF.out.kept hb) h2 h1 ha hb' C2 C1 (hmo.out.u64 h1) (hml.out.u64 h1))
          have CV1 : Hid (∀ (W' : World) (Aa : Option Addr) (ca : Nat), Below w.heap.size w W' → Rc W' Aa ca t1 → Rc W' A6 c6 nb → Calls Tryd.prog 36 #[.pointer (some F), .slice Aa t1.length ca, .slice A6 nb.length c6] W' fun e w' => ∃ v A4 c4, e = .returned (.tuple #[v, .slice A4 u1.length c4]) ∧ Rc w' A4 c4 u1 ∧ Below W'.heap.size W' w') := Lib.hid (fun W' Aa ca hb ha h6 => by
            refine (divide_calls F a p Aa A6 ca c6 t1 nb _ (HF.out.kept hb) h2 h1 ha h6 lt1.out (by have := LNB.out; omega) mt1 MNB.out C5 hb0).mono ?_
            rintro e w' ⟨A3, c3, A4, c4, rfl, _, hr4, hb4⟩
            rw [hu1]
            exact ⟨_, A4, c4, rfl, hr4, hb4⟩)
          have HP2 := Lib.hid hp2
          have MU1 := Lib.hid mu1
          clear hp hp2 C1 C2 C3 C4 C5 ht2 hu2 mt2 mu2 ht1 hu1 mt1 mu1 lt1 hm
          go_wp2_with (first
            | (go_at_call 37; with_reducible refine (CT1.out _ hbw.out hro.out hrl.out).mono ?_; rintro e w5 ⟨A10, c10, rfl, hr10, hb10⟩; have HR10 := Lib.hid hr10; have HB10 := Lib.hid (hbw.out.trans (hb10.mono hbw.out.size)); have HRl10 := Lib.hid (hrl.out.kept hb10); have HRb10 := Lib.hid (hrb.out.kept hb10); clear hr10 hb10)
            | (go_at_call 36; with_reducible refine (CV1.out _ A10 c10 HB10.out HR10.out HRb10.out).mono ?_; rintro e w6 ⟨v6, A11, c11, rfl, hr11, hb11⟩; have HR11 := Lib.hid hr11; have HB11 := Lib.hid (HB10.out.trans (hb11.mono HB10.out.size)); have HRl11 := Lib.hid (HRl10.out.kept hb11); have HRb11 := Lib.hid (HRb10.out.kept hb11); clear hr11 hb11)
            | (go_at_call 37; with_reducible refine (CT2.out _ HB11.out HRl11.out).mono ?_; rintro e w7 ⟨A12, c12, rfl, hr12, hb12⟩; have HR12 := Lib.hid hr12; have HB12 := Lib.hid (HB11.out.trans (hb12.mono HB11.out.size)); have HRo12 := Lib.hid (HR11.out.kept hb12); have HRb12 := Lib.hid (HRb11.out.kept hb12); clear hr12 hb12)
            | (go_at_call 36; with_reducible refine (CV2.out _ A12 c12 HB12.out HR12.out HRb12.out).mono ?_; rintro e w8 ⟨v8, A13, c13, rfl, hr13, hb13⟩; have HR13 := Lib.hid hr13; have HB13 := Lib.hid (HB12.out.trans (hb13.mono HB12.out.size)); have HRo13 := Lib.hid (HRo12.out.kept hb13); have HRb13 := Lib.hid (HRb12.out.kept hb13); clear hr13 hb13))
          go_roundw
          case rel => exact ⟨k, n / 2, u1, u2, A11, A13, c11, c13, by rw [HDN.out], half_b hn, rfl, rfl, HP2, HR13, HRo13, MU2, MU1, HRb13, HB13⟩
          case measure =>
            simp only [intOf]
            exact half_ms h0
      · rw [if_neg hC] at hp2
        exact absurd hp2 (by simp)
end Go.Proofs.YtmbbjoadnapcgaaDoor
