/- Is there a rule of so many numbers: the reference's elimination, by its contract. -/
import Derived.Test.YtmbbjoadnapcgaaDoorMat
import Derived.Test.YtmbbjoadnapcgaaDoorRefPow
import Derived.Test.YtmbbjoadnapcgaaDoorCast
import Derived.Test.YtmbbjoadnapcgaaDoorWLast
import Derived.StillTailTactics
namespace Go.Proofs.YtmbbjoadnapcgaaDoor
open Go.RowKit Go.Proofs.YtmbbjoadnapcgaaDoorW.PrintWords Go.Proofs.YtmbbjoadnapcgaaDoorW.PrintLast VNum VBm

/-- the coefficients of the equation for place i -/
def coefTo (p : Int) (row : List Int) (i : Nat) : Nat → List Int
  | 0 => []
  | k + 1 => coefTo p row i k ++ [rn row (i - 1 - k) % p]
theorem coefTo_len (p : Int) (row : List Int) (i : Nat) : ∀ k, (coefTo p row i k).length = k
  | 0 => rfl
  | k + 1 => by rw [coefTo, List.length_append, coefTo_len p row i k]; rfl
theorem rn_app (l : List Int) (x : Int) (j : Nat) : rn (l ++ [x]) j = if j = l.length then x else rn l j := by
  unfold rn
  rw [List.getD_eq_getElem?_getD, List.getD_eq_getElem?_getD]
  rcases Nat.lt_trichotomy j l.length with h | h | h
  · rw [List.getElem?_append_left h, if_neg (by omega)]
  · rw [List.getElem?_append_right (by omega), if_pos h, h]; simp
  · rw [List.getElem?_append_right (by omega), if_neg (by omega), List.getElem?_eq_none (by omega : l.length ≤ j), List.getElem?_eq_none (by simp; omega)]
theorem coefTo_at (p : Int) (row : List Int) (i j : Nat) : ∀ k, j < k → rn (coefTo p row i k) j = rn row (i - 1 - j) % p
  | 0, h => by omega
  | k + 1, h => by
    rw [coefTo, rn_app, coefTo_len]
    by_cases e : j = k
    · rw [if_pos e, e]
    · rw [if_neg e, coefTo_at p row i j k (by omega)]
def eqF (p : Int) (row : List Int) (n i : Nat) : List Int := coefTo p row i n ++ [(0 - rn row i) % p]
/-- the first m equations -/
def matTo (p : Int) (row : List Int) (n : Nat) : Nat → List (List Int)
  | 0 => []
  | m + 1 => matTo p row n m ++ [eqF p row n (n + m)]
theorem matTo_len (p : Int) (row : List Int) (n : Nat) : ∀ m, (matTo p row n m).length = m
  | 0 => rfl
  | m + 1 => by rw [matTo, List.length_append, matTo_len p row n m]; rfl
theorem matTo_at (p : Int) (row : List Int) (n i : Nat) : ∀ m, i < m → rr (matTo p row n m) i = eqF p row n (n + i)
  | 0, h => by omega
  | m + 1, h => by
    rw [matTo, rr_app, matTo_len]
    by_cases e : i = m
    · rw [if_pos e, e]
    · rw [if_neg e, matTo_at p row n i m (by omega)]
theorem matTo_en (p : Int) (row : List Int) (n i j m : Nat) (h : i < m) (hj : j < n) : en (matTo p row n m) i j = rn row (n + i - 1 - j) % p := by
  unfold en
  rw [matTo_at p row n i m h, eqF, rn_app, coefTo_len, if_neg (by omega), coefTo_at p row _ j n hj]
theorem matTo_rhs (p : Int) (row : List Int) (n i m : Nat) (h : i < m) : en (matTo p row n m) i n = (0 - rn row (n + i)) % p := by
  unfold en
  rw [matTo_at p row n i m h, eqF, rn_app, coefTo_len, if_pos rfl]
theorem matTo_rng {p : Int} (hp : 0 < p) (row : List Int) (n i j m : Nat) : 0 ≤ en (matTo p row n m) i j ∧ en (matTo p row n m) i j < p := by
  have ho : ∀ l : List Int, l.length ≤ j → 0 ≤ rn l j ∧ rn l j < p := fun l h => by rw [rn_out h]; omega
  rcases Nat.lt_or_ge i m with h | h
  · rcases Nat.lt_trichotomy j n with hj | hj | hj
    · rw [matTo_en p row n i j m h hj]; exact ⟨Int.emod_nonneg _ (by omega), Int.emod_lt_of_pos _ hp⟩
    · subst hj; rw [matTo_rhs p row _ i m h]; exact ⟨Int.emod_nonneg _ (by omega), Int.emod_lt_of_pos _ hp⟩
    · unfold en
      refine ho _ ?_
      rw [matTo_at p row n i m h, eqF, List.length_append, coefTo_len]
      simp; omega
  · unfold en
    refine ho _ ?_
    unfold rr
    rw [List.getD_eq_getElem?_getD, List.getElem?_eq_none (by rw [matTo_len]; exact h)]
    simp

theorem sub_mod_r (a b p : Int) : (a - b % p) % p = (a - b) % p := by rw [Int.sub_emod, Int.emod_emod_of_dvd _ (Int.dvd_refl p), ← Int.sub_emod]
theorem en_set (M : List (List Int)) (i j : Nat) (z : Int) (i' j' : Nat) (hi : i < M.length) (hj : j < (rr M i).length) :
    en (M.set i ((rr M i).set j z)) i' j' = if i' = i ∧ j' = j then z else en M i' j' := by
  unfold en
  rw [rr_set _ _ _ _ hi]
  by_cases e : i' = i
  · rw [if_pos e, rn_set _ _ _ _ hj]
    by_cases e2 : j' = j
    · rw [if_pos e2, if_pos ⟨e, e2⟩]
    · rw [if_neg e2, if_neg (fun h => e2 h.2), e]
  · rw [if_neg e, if_neg (fun h => e h.1)]

section
variable {ops : Array Oper} {rest : List Oper} {o : Oper} {a : Act} {Q : Exit → Act → World → Prop}
/-- a row of the call's own that grows by one number, to length L -/
theorem Ow.appL {w0 W : World} (b L : Nat) (hgd : o.guard = none) (s x : Operand) (ho : o.op = .call { callee := .builtin .append, args := #[s, x], argTypes := #[23, 23] })
    (v : Value) (l : List Int) (y : Int) (hs : a.eval s = v) (hx : a.eval x = .slice (some ⟨W.heap.size, 0, none⟩) 1 1) (HO : Ow W b v l) (HB : Below b w0 W) (hbase : b ≤ W.heap.size) (hl : l.length ≤ 1000000) (hL : l.length + 1 = L)
    (h : ∀ g cap w1 l1, Hid (l1 = l ++ [y]) → b ≤ g → Hid (Ow w1 b (.slice (some ⟨g, 0, none⟩) L cap) l1) → Hid (Below b w0 w1) → wpList Tryd.prog ops Q rest (a.put o.dst (.slice (some ⟨g, 0, none⟩) L cap)) w1) :
    wpList Tryd.prog ops Q (o :: rest) a (W.alloc (.cells [Value.int .u64 y].toArray 22)) := by
  refine Ow.app (w0 := w0) (W := W) b hgd s x ho v l y hs hx HO HB hbase hl ?_
  intro g cap w1 l1 h1 h2 h3 h4 h5
  have e : l1.length = L := by omega
  rw [e]
  rw [e] at h4
  exact h g cap w1 l1 h1 h3 h4 h5
end

set_option maxHeartbeats 16000000 in
set_option maxRecDepth 100000 in
theorem solves_calls (q : Nat) [NeZero q] (p : Int) (hpq : p = (q : Int)) (hq : Pr q) (h1 : p < 9223372036854775808) (n : Nat) (A : Option Addr) (c : Nat) (row : List Int) (w : World) (hrow : Rc w A c row) (hl : row.length ≤ 24) (hn : n < row.length) (ur : U64 row) :
    Calls Tryd.prog 8 #[.int .i64 n, .slice A row.length c, .int .u64 p] w fun e w' => ∃ b : Bool, e = .returned (.bool b) ∧ (b = true → ∃ R : Nat → Fin q, Hd (fr q row) R n row.length) ∧ Below w.heap.size w w' := by
  obtain ⟨G, hG⟩ : ∃ G : Prop, G = (∃ R : Nat → Fin q, Hd (fr q row) R n row.length) := ⟨_, rfl⟩
  rw [← hG]
  have HGOAL : Hid (∀ M : List (List Int), M = matTo p row n (row.length - n) → Solv q M n 0 0 → G) := Lib.hid (fun M hM hs => by
    rw [hG]
    subst hpq
    refine solv_init (by rw [hM, matTo_len]) (fun i j hi hj => ?_) (fun i hi => ?_) hs
    · rw [hM]; exact matTo_en _ row n i j _ hi hj
    · rw [hM]; exact matTo_rhs _ row n i _ hi)
  obtain ⟨L, hL⟩ : ∃ L, L = n + 1 := ⟨_, rfl⟩
  have HL := Lib.hid hL
  have nL : (n : Int) < (L : Int) := by omega
  have h2 : 2 ≤ p := by have := hq.1; omega
  have h1p : 1 ≤ p := by omega
  have hm0 : (p == 0) = false := beq_eq_false_iff_ne.mpr (by omega)
  obtain ⟨kk, hkk⟩ : ∃ kk : Nat, p = (kk : Int) + 2 := ⟨(p - 2).toNat, by omega⟩
  have HINV : Hid (∀ x : Int, 0 < x → x < p → F q (x ^ kk % p) * F q x = 1) := Lib.hid (fun x a b => by
    subst hpq
    exact pow_inv hq (by omega) a b)
  have HKK := Lib.hid hkk
  have HPQ := Lib.hid hpq
  have HR := Lib.hid hrow
  have UR := Lib.hid ur
  have ib : (row.length : Int) ≤ 24 := by omega
  have ibn : (n : Int) < (row.length : Int) := by omega
  have HLE := Lib.hid hl
  have HLN := Lib.hid hn
  clear hrow ur hpq hG hL hkk hq hl hn
  go_enter Tryd.func8, Tryd.ntmps8
  go_wp2
  go_loopw [7, 8, 9, 10] (fun v7 v8 _ _ W => ∃ (i m : Nat) (A7 : Option Addr) (c7 : Nat) (bs : List (Nat × Nat)) (M : List (List Int)), v8 = .int .i64 i ∧ i ≤ row.length ∧ Hid (i = n + m) ∧ v7 = .slice A7 bs.length c7 ∧ Hid (bs.length = m) ∧ Hid (M = matTo p row n m)
      ∧ Hid (Mat W w.heap.size (.slice A7 bs.length c7) L bs M) ∧ Hid (Below w.heap.size w W)) (fun _ v8 _ _ _ => row.length - (intOf v8).toNat)
  case atStart => exact ⟨n, 0, none, 0, [], [], rfl, by omega, Lib.hid rfl, rfl, Lib.hid rfl, Lib.hid rfl, Lib.hid (Mat.nil _ _ _), Lib.hid (Below.refl _ _)⟩
  case round =>
    obtain ⟨W, rfl⟩ : ∃ W : World, W = wr := ⟨_, rfl⟩
    obtain ⟨i, m, A7, c7, bs, M, rfl, hi, him, rfl, hbm, hM, hmat, hbw⟩ := hrel
    by_cases hir : i < row.length
    · have HKLi : Hid (i + 1 ≤ row.length) := Lib.hid (Nat.succ_le_of_lt hir)
      have HKMi := Lib.hid (ms_suc hir)
      have ib2 : i ≤ 20000 := by have := HLE.out; omega
      have i1 : (i : Int) < (row.length : Int) := by omega
      have i3 : (0 : Int) ≤ (i : Int) := by omega
      go_wp2
      go_loopw [9, 10] (fun v9 v10 W2 => ∃ (k : Nat) (A9 : Option Addr) (c9 : Nat) (l : List Int), v10 = .int .i64 k ∧ k ≤ n ∧ v9 = .slice A9 l.length c9 ∧ Hid (l.length = k) ∧ Hid (l = coefTo p row i k) ∧ Hid (Ow W2 W.heap.size (.slice A9 l.length c9) l) ∧ Hid (Below W.heap.size W W2)) (fun _ v10 _ => n - (intOf v10).toNat)
      case atStart => exact ⟨0, none, 0, [], rfl, by omega, rfl, Lib.hid rfl, Lib.hid rfl, Lib.hid (Ow.nil _ _), Lib.hid (Below.refl _ _)⟩
      case round =>
        obtain ⟨W2, rfl⟩ : ∃ W2 : World, W2 = wr := ⟨_, rfl⟩
        obtain ⟨k, A9, c9, l, rfl, hk, rfl, hlk, hlc, hol, hb2⟩ := hrel
        have HR2 := Lib.hid (HR.out.kept (hbw.out.trans (hb2.out.mono hbw.out.size)))
        have hlb := Lib.hid (show l.length ≤ 1000000 by have := hlk.out; have := HLE.out; have := HLN.out; omega)
        by_cases hkn : k < n
        · obtain ⟨j, hj⟩ : ∃ j, j = i - 1 - k := ⟨_, rfl⟩
          have ej : (i : Int) - 1 - (k : Int) = (j : Int) := by have := him.out; omega
          have hjl : j < row.length := by omega
          have HJ := Lib.hid hj
          clear hj
          obtain ⟨ad, rfl, hc⟩ := HR2.out.get j hjl
          obtain ⟨q0, q1⟩ := UR.out.rng j
          have HKL : Hid (k + 1 ≤ n) := Lib.hid (Nat.succ_le_of_lt hkn)
          have HKM := Lib.hid (ms_suc hkn)
          have kb : k ≤ 20000 := by have := HLE.out; have := HLN.out; omega
          have j1 : (j : Int) < (row.length : Int) := by omega
          have j3 : (0 : Int) ≤ (j : Int) := by omega
          go_wp2_with (at_builtin; go_loud (refine Ow.app (w0 := W) (W := W2) W.heap.size rfl (.tmp 33) (.tmp 43) rfl _ l (rn row j % p) rfl rfl hol.out hb2.out hb2.out.size hlb.out ?_))
          intro g3 cap3 w3 l3 hl3 hl3n hg3 ho3 hb3
          have HL3 := Lib.hid hl3n
          clear hl3n
          go_wp2
          go_roundw
          case rel =>
            refine ⟨k + 1, _, _, l3, by first | rfl | (rw [wr_suc k kb]; rfl), HKL.out, rfl, Lib.hid ?_, Lib.hid ?_, ho3, hb3⟩
            · rw [HL3.out, hlk.out]
            · rw [hl3.out, coefTo, ← hlc.out, ← HJ.out]
          case measure =>
            simp only [intOf]
            first | exact HKM.out | (rw [wr_suc k kb]; exact HKM.out)
        · have hkk : k = n := by omega
          subst hkk
          obtain ⟨ad, rfl, hc⟩ := HR2.out.get i hir
          obtain ⟨q0, q1⟩ := UR.out.rng i
          have csub := Lib.hid (rsub_calls p 0 (rn row i) W2 h1p h1 (by omega) q0)
          have hlL := Lib.hid (show l.length + 1 = L by rw [hlk.out, HL.out])
          have hbb := Lib.hid (show bs.length ≤ 1000 by have := hbm.out; have := him.out; have := HLE.out; omega)
          go_wp2_with (first
            | (go_at_call 21; with_reducible refine csub.out.mono ?_; rintro e w' ⟨rfl, n3, rfl⟩)
            | (at_builtin; go_loud (refine Ow.appL (w0 := W) (W := W2.drewN _) W.heap.size L rfl (.tmp 46) (.tmp 53) rfl _ l (-rn row i % p) rfl rfl (hol.out.drewN _) (below_drewN hb2.out _) hb2.out.size hlb.out hlL.out ?_)))
          intro g3 cap3 w3 l3 hl3 hg3 ho3 hb3
          have HG3 := Lib.hid hg3
          have hL3 := Lib.hid (show l3.length = L by rw [hl3.out, List.length_append]; exact hlL.out)
          clear hg3
          go_wp2_with (at_builtin; go_loud (refine Mat.app (w0 := w) (W := w3) w.heap.size L rfl (.tmp 45) (.tmp 55) rfl _ bs M g3 cap3 l3 rfl rfl (hmat.out.kept hb3.out) (ho3.out.lower hbw.out.size) hL3.out (fun i2 hi2 => by have := hmat.out.lt i2 hi2; have := HG3.out; omega) (hbw.out.trans (hb3.out.mono hbw.out.size)) (hbw.out.trans (hb3.out.mono hbw.out.size)).size hbb.out ?_))
          intro g4 cap4 w4 bs4 M4 hM4 hbs4 hg4 hmat4 hb4
          have HB4 := Lib.hid hbs4
          clear hbs4
          go_wp2
          go_roundw
          case rel =>
            refine ⟨i + 1, m + 1, _, _, bs4, M4, by first | rfl | (rw [wr_suc i ib2]; rfl), HKLi.out, Lib.hid (by rw [him.out]; omega), rfl, Lib.hid (by rw [HB4.out, hbm.out]), Lib.hid ?_, hmat4, hb4⟩
            rw [hM4.out, matTo, ← hM.out, ← him.out, hl3.out, hlc.out, eqF, Int.zero_sub]
          case measure =>
            simp only [intOf]
            first | exact HKMi.out | (rw [wr_suc i ib2]; exact HKMi.out)
    · have hii : i = row.length := by omega
      subst hii
      obtain ⟨N, hN⟩ : ∃ N, N = bs.length := ⟨_, rfl⟩
      have hNm : N = row.length - n := by have := him.out; have := hbm.out; omega
      have hNp : 0 < N := by have := HLN.out; omega
      obtain ⟨g, cap, ev, hg, _⟩ := hmat.out.out.form (by omega)
      injection ev with ev1 _ ev2
      subst ev1 ev2
      have HS0 : Hid (Solv q M n 0 0 → G) := Lib.hid (HGOAL.out M (by rw [hM.out]; congr 1; have := him.out; omega))
      have HE0 : Hid (∀ i j, 0 ≤ en M i j ∧ en M i j < p) := Lib.hid (fun i j => by rw [hM.out]; exact matTo_rng (by omega) row n i j _)
      have HBN := Lib.hid hN
      have nb : (N : Int) ≤ 24 := by omega
      have HG := Lib.hid hg
      rw [← hN] at hmat
      rw [← hN]
      clear hM him hbm hN hNm hg HGOAL
      go_wp2
      go_loopw [11, 12, 13, 14, 15, 16, 17, 18, 19] (fun v11 v12 _ _ _ _ _ _ _ W3 => ∃ (used k : Nat) (bs2 : List (Nat × Nat)) (M2 : List (List Int)), v11 = .int .i64 used ∧ v12 = .int .i64 k ∧ used ≤ N ∧ k ≤ n ∧ Hid (bs2.length = N)
          ∧ Hid (Mat W3 w.heap.size (.slice (some ⟨g, 0, none⟩) N c7) L bs2 M2) ∧ Hid (∀ i j, 0 ≤ en M2 i j ∧ en M2 i j < p) ∧ Hid (Solv q M2 n used k → G) ∧ Hid (Below w.heap.size w W3)) (fun _ v12 _ _ _ _ _ _ _ _ => n - (intOf v12).toNat)
      case atStart => exact ⟨0, 0, bs, M, rfl, rfl, by omega, by omega, Lib.hid HBN.out.symm, hmat, HE0, HS0, hbw⟩
      case round =>
        clear hmat hbw HS0 HE0 HBN
        obtain ⟨W3, rfl⟩ : ∃ W3 : World, W3 = wr := ⟨_, rfl⟩
        obtain ⟨used, k, bs2, M2, rfl, rfl, hun, hk, hbl, hmat, hent, hsol, hbw⟩ := hrel
        by_cases hkn : k < n
        · have HKLk : Hid (k + 1 ≤ n) := Lib.hid (Nat.succ_le_of_lt hkn)
          have HKMk := Lib.hid (ms_suc hkn)
          have kb : k ≤ 20000 := by have := HLE.out; have := HLN.out; omega
          have kL : (k : Int) < (L : Int) := by omega
          have k3 : (0 : Int) ≤ (k : Int) := by omega
          have hkL : k < L := by omega
          go_wp2
          go_loopw [13, 14] (fun v13 v14 W4 => ∃ (a : Int) (i d : Nat), W4 = W3.drewN d ∧ v13 = .int .i64 a ∧ v14 = .int .i64 i ∧ used ≤ i ∧ i ≤ N
              ∧ Hid ((a = -1 ∧ ∀ i', used ≤ i' → i' < i → en M2 i' k = 0) ∨ ∃ c : Nat, a = (c : Int) ∧ used ≤ c ∧ c < i ∧ en M2 c k ≠ 0)) (fun _ v14 _ => N - (intOf v14).toNat)
          case atStart => exact ⟨-1, used, 0, rfl, rfl, rfl, Nat.le_refl _, hun, Lib.hid (Or.inl ⟨rfl, fun i' h3 h4 => by omega⟩)⟩
          case round =>
            obtain ⟨a, i, d, rfl, rfl, rfl, hui, hiN, hfound⟩ := hrel
            have HM := Lib.hid (hmat.out.drewN d)
            by_cases hil : i < N
            · obtain ⟨hc1, _⟩ := HM.out.atN hbl.out i hil
              obtain ⟨hc2, _⟩ := HM.out.cell i k (by rw [hbl.out]; exact hil) hkL
              obtain ⟨z0, z1⟩ := hent.out i k
              have HKL : Hid (i + 1 ≤ N) := Lib.hid (Nat.succ_le_of_lt hil)
              have HKM := Lib.hid (ms_suc hil)
              have ib3 : i ≤ 20000 := by omega
              have i1 : (i : Int) < (N : Int) := by omega
              have i3 : (0 : Int) ≤ (i : Int) := by omega
              by_cases hz : en M2 i k = 0
              · have ht : (en M2 i k != 0) = false := by rw [hz]; rfl
                have HZ := Lib.hid hz
                clear hz
                go_wp2
                go_roundw
                case rel =>
                  refine ⟨a, i + 1, _, rfl, rfl, by first | rfl | (rw [wr_suc i ib3]; rfl), by omega, HKL.out, Lib.hid ?_⟩
                  rcases hfound.out with ⟨ha, hall⟩ | ⟨c2, h3, h4, h5, h6⟩
                  · exact Or.inl ⟨ha, fun i' h3 h4 => if h : i' = i then by rw [h]; exact HZ.out else hall i' h3 (by omega)⟩
                  · exact Or.inr ⟨c2, h3, h4, by omega, h6⟩
                case measure =>
                  simp only [intOf]
                  first | exact HKM.out | (rw [wr_suc i ib3]; exact HKM.out)
              · have ht : (en M2 i k != 0) = true := bne_iff_ne.mpr hz
                have HZ := Lib.hid hz
                clear hz
                go_wp2
                go_roundw
                case rel => exact ⟨(i : Int), i + 1, _, rfl, rfl, by first | rfl | (rw [wr_suc i ib3]; rfl), by omega, HKL.out, Lib.hid (Or.inr ⟨i, rfl, hui, by omega, HZ.out⟩)⟩
                case measure =>
                  simp only [intOf]
                  first | exact HKM.out | (rw [wr_suc i ib3]; exact HKM.out)
            · have hiN2 : i = N := by omega
              subst hiN2
              rcases hfound.out with ⟨rfl, hall⟩ | ⟨c2, rfl, h3, h4, h5⟩
              · have HSK : Hid (Solv q M2 n used (k + 1) → G) := Lib.hid (fun h => hsol.out (solv_skip hkn (fun i' h6 h7 => hall i' h6 (by rw [hmat.out.len, hbl.out] at h7; exact h7)) h))
                clear hall hfound
                go_wp2
                go_roundw
                case rel => exact ⟨used, k + 1, bs2, M2, rfl, by first | rfl | (rw [wr_suc k kb]; rfl), hun, HKLk.out, hbl, HM, hent, HSK, Lib.hid (below_drewN hbw.out d)⟩
                case measure =>
                  simp only [intOf]
                  first | exact HKMk.out | (rw [wr_suc k kb]; exact HKMk.out)
              · have hus : used < i := by omega
                obtain ⟨hcc, hfc⟩ := HM.out.atN hbl.out c2 h4
                obtain ⟨hcu, hfu⟩ := HM.out.atN hbl.out used hus
                obtain ⟨x, hx⟩ : ∃ x, x = ab bs2 c2 := ⟨_, rfl⟩
                obtain ⟨u, hu⟩ : ∃ u, u = ab bs2 used := ⟨_, rfl⟩
                obtain ⟨⟨mu, hmu⟩, hfm⟩ := HM.out.midN hbl.out c2 used u hus
                have hsw := HM.out.swapN hbl.out c2 used h4 hus
                obtain ⟨bs3, hb3⟩ : ∃ bs3, bs3 = (bs2.set c2 (ab bs2 used)).set used (ab bs2 c2) := ⟨_, rfl⟩
                obtain ⟨M3, hM3⟩ : ∃ M3, M3 = (M2.set c2 (rr M2 used)).set used (rr M2 c2) := ⟨_, rfl⟩
                rw [← hb3, ← hM3, ← hx, ← hu] at hsw
                rw [← hx] at hcc
                rw [← hu] at hcu
                have hl2 : M2.length = i := by rw [hmat.out.len, hbl.out]
                have hr3 : ∀ j, rr M3 j = if j = used then rr M2 c2 else if j = c2 then rr M2 used else rr M2 j := fun j => by
                  rw [hM3, rr_set _ _ _ _ (by rw [List.length_set]; omega), rr_set _ _ _ _ (by omega)]
                have hbl3 : bs3.length = i := by rw [hb3, List.length_set, List.length_set]; exact hbl.out
                have hl3 : M3.length = i := by rw [hM3, List.length_set, List.length_set]; exact hl2
                have hxu : ab bs3 used = x := by rw [hb3, ab_set _ _ _ _ (by rw [List.length_set, hbl.out]; exact hus), if_pos rfl, hx]
                have heu : en M3 used k = en M2 c2 k := by unfold en; rw [hr3, if_pos rfl]
                have hent3 : ∀ i j, 0 ≤ en M3 i j ∧ en M3 i j < p := fun i' j' => by
                  unfold en
                  rw [hr3]
                  split
                  · exact hent.out c2 j'
                  · split
                    · exact hent.out used j'
                    · exact hent.out i' j'
                have hsol3 : Solv q M3 n used k → G := fun h => hsol.out (solv_swap h3 (by omega) (by rw [hl3, hl2]) (by rw [hr3, if_pos rfl]) (by
                  rw [hr3]
                  by_cases e : c2 = used
                  · rw [if_pos e, e]
                  · rw [if_neg e, if_pos rfl]) (fun j h6 h7 => by rw [hr3, if_neg h6, if_neg h7]) h)
                obtain ⟨hcell, _⟩ := hsw.cell used k (by rw [hbl3]; exact hus) hkL
                rw [hxu] at hcell
                obtain ⟨z0, z1⟩ := hent3 used k
                have hz : 0 < en M3 used k := by rw [heu] at z0 ⊢; omega
                have HIV := Lib.hid (HINV.out (en M3 used k) hz z1)
                obtain ⟨iv, hiv⟩ : ∃ iv, iv = en M3 used k ^ kk % p := ⟨_, rfl⟩
                have iv0 : 0 ≤ iv := by rw [hiv]; exact Int.emod_nonneg _ (by omega)
                rw [← hiv] at HIV
                have HSW := Lib.hid hsw
                have HB3 := Lib.hid hbl3
                have HL3 := Lib.hid hl3
                have HXU := Lib.hid hxu
                have HE3 := Lib.hid hent3
                have HS3 := Lib.hid hsol3
                have HCI : Hid (∀ W : World, Calls Tryd.prog 22 #[.int .u64 (en M3 used k), .int .u64 p] W fun e w' => e = .returned (.int .u64 iv) ∧ ∃ n, w' = W.drewN n) := Lib.hid (fun W => by rw [hiv]; exact rinv_calls p (en M3 used k) kk W HKK.out h1 z0)
                have HUS : Hid (used + 1 ≤ i) := Lib.hid (Nat.succ_le_of_lt hus)
                have ub : used ≤ 20000 := by omega
                have u1 : (used : Int) < (i : Int) := by omega
                have u3 : (0 : Int) ≤ (used : Int) := by omega
                have c1 : (c2 : Int) < (i : Int) := by omega
                have c3 : (0 : Int) ≤ (c2 : Int) := by omega
                have ca : ¬ (c2 : Int) < 0 := by omega
                have cb : decide ((c2 : Int) < 0) = false := decide_eq_false ca
                clear hfound hsw hbl3 hl3 hxu hent3 hsol3 heu hr3 hl2 hb3 hM3 hx hu hiv hz ca h5 hent hsol hmat
                go_wp2_with (go_at_call 22; with_reducible refine (HCI.out _).mono ?_; rintro e w' ⟨rfl, n3, rfl⟩)
                clear hcc hfc hcu hfu hmu hfm hcell cb
                go_loopw [17, 18, 19] (fun v17 _ _ W5 => ∃ (r : Nat) (M5 : List (List Int)), v17 = .int .i64 r ∧ used + 1 ≤ r ∧ r ≤ i ∧ Hid (Mat W5 w.heap.size (.slice (some ⟨g, 0, none⟩) i c7) L bs3 M5) ∧ Hid (∀ i j, 0 ≤ en M5 i j ∧ en M5 i j < p)
                    ∧ Hid (∀ i', i' ≤ used ∨ r ≤ i' → rr M5 i' = rr M3 i') ∧ Hid (∀ i' j', used < i' → i' < r → k ≤ j' → j' ≤ n → en M5 i' j' = (en M3 i' j' - (en M3 i' k * iv) % p * en M3 used j' % p) % p) ∧ Hid (Below w.heap.size w W5)) (fun v17 _ _ _ => i - (intOf v17).toNat)
                case atStart => exact ⟨used + 1, M3, by first | rfl | (rw [wr_suc used ub]; rfl), Nat.le_refl _, HUS.out, Lib.hid (HSW.out.drewN _), HE3, Lib.hid (fun i' _ => rfl), Lib.hid (fun i' j' h6 h7 => by omega), Lib.hid (below_drewN (((below_drewN hbw.out d).setCell HG.out _).setCell HG.out _) _)⟩
                case round =>
                  clear HSW
                  obtain ⟨W5, rfl⟩ : ∃ W5 : World, W5 = wr := ⟨_, rfl⟩
                  obtain ⟨r, M5, rfl, hr1, hr2, hmat5, hent5, hsame5, hel5, hbw5⟩ := hrel
                  by_cases hri : r < i
                  · obtain ⟨y, hy⟩ : ∃ y, y = ab bs3 r := ⟨_, rfl⟩
                    have HY := Lib.hid hy
                    obtain ⟨hg1, _⟩ := hmat5.out.atN HB3.out r hri
                    obtain ⟨hg2, _⟩ := hmat5.out.cell r k (by rw [HB3.out]; exact hri) hkL
                    rw [← hy] at hg1 hg2
                    clear hy
                    obtain ⟨z0, z1⟩ := hent5.out r k
                    have HKLr : Hid (r + 1 ≤ i) := Lib.hid (Nat.succ_le_of_lt hri)
                    have HKMr := Lib.hid (ms_suc hri)
                    have rb : r ≤ 20000 := by omega
                    have r1 : (r : Int) < (i : Int) := by omega
                    have r3 : (0 : Int) ≤ (r : Int) := by omega
                    obtain ⟨t, ht⟩ : ∃ t, t = en M5 r k * iv % p := ⟨_, rfl⟩
                    have t0 : 0 ≤ t := by rw [ht]; exact Int.emod_nonneg _ (by omega)
                    have HT := Lib.hid ht
                    have cmul : Hid (Calls Tryd.prog 23 #[.int .u64 (en M5 r k), .int .u64 iv, .int .u64 p] W5 fun e w' => e = .returned (.int .u64 t) ∧ ∃ n, w' = W5.drewN n) := Lib.hid (by rw [ht]; exact rmul_calls p (en M5 r k) iv W5 h1p h1 z0 iv0)
                    clear ht
                    go_wp2_with (go_at_call 23; with_reducible refine cmul.out.mono ?_; rintro e w' ⟨rfl, n4, rfl⟩)
                    clear hg1 hg2 z0 z1
                    go_loopw [19] (fun v19 W6 => ∃ (j : Nat) (M6 : List (List Int)), v19 = .int .i64 j ∧ k ≤ j ∧ j ≤ L ∧ Hid (Mat W6 w.heap.size (.slice (some ⟨g, 0, none⟩) i c7) L bs3 M6) ∧ Hid (∀ i j, 0 ≤ en M6 i j ∧ en M6 i j < p)
                        ∧ Hid (∀ i', i' ≠ r → rr M6 i' = rr M5 i') ∧ Hid (∀ j', j' < k ∨ j ≤ j' → en M6 r j' = en M5 r j') ∧ Hid (∀ j', k ≤ j' → j' < j → en M6 r j' = (en M5 r j' - t * en M5 used j' % p) % p) ∧ Hid (Below w.heap.size w W6)) (fun v19 _ => L - (intOf v19).toNat)
                    case atStart => exact ⟨k, M5, rfl, Nat.le_refl _, by omega, Lib.hid (hmat5.out.drewN _), hent5, Lib.hid (fun i' _ => rfl), Lib.hid (fun j' _ => rfl), Lib.hid (fun j' h6 h7 => by omega), Lib.hid (below_drewN hbw5.out _)⟩
                    case round =>
                      obtain ⟨W6, rfl⟩ : ∃ W6 : World, W6 = wr := ⟨_, rfl⟩
                      obtain ⟨j, M6, rfl, hj1, hj2, hmat6, hent6, hsame6, hfar6, hel6, hbw6⟩ := hrel
                      by_cases hjL : j < L
                      · obtain ⟨hg1, _⟩ := hmat6.out.atN HB3.out r hri
                        obtain ⟨hg2, hfz⟩ := hmat6.out.cell r j (by rw [HB3.out]; exact hri) hjL
                        obtain ⟨hg3, _⟩ := hmat6.out.cell used j (by rw [HB3.out]; omega) hjL
                        rw [← HY.out] at hg1 hg2 hfz
                        rw [HXU.out] at hg3
                        obtain ⟨z0, z1⟩ := hent6.out r j
                        obtain ⟨e0, e1⟩ := hent6.out used j
                        have m0 : 0 ≤ t * en M6 used j % p := Int.emod_nonneg _ (by omega)
                        have HKLj : Hid (j + 1 ≤ L) := Lib.hid (Nat.succ_le_of_lt hjL)
                        have HKMj := Lib.hid (ms_suc hjL)
                        have jb : j ≤ 20000 := by have := HL.out; have := HLE.out; have := HLN.out; omega
                        have j1 : (j : Int) < (L : Int) := by omega
                        have j3 : (0 : Int) ≤ (j : Int) := by omega
                        have jn : (j : Int) ≤ (n : Int) := by have := HL.out; omega
                        go_wp2
                        refine start_ (n := 23) (S := fun w' => w'.cell? ⟨g, r, none⟩ = some (.slice (some ⟨y.1, 0, none⟩) L y.2) ∧ w'.cell? ⟨y.1, j, none⟩ = some (.int .u64 (en M6 r j)) ∧ w'.cell? ⟨x.1, j, none⟩ = some (.int .u64 (en M6 used j)) ∧ w'.frozen? ⟨y.1, j, none⟩ = false) (ds := [22]) #[false, false, false, false, false, false, false, false, false, false, false, false, false, false, false, false, false, false, false, false, false, false, false] (by kernel_rfl) rfl rfl ⟨hg1, hg2, hg3, hfz⟩ (fun hHeld => ?_)
                        refine pure_ (i := 0) (N := some 125) (v := ?_) (a' := ?_) #[true, false, false, false, false, false, false, false, false, false, false, false, false, false, false, false, false, false, false, false, false, false, false] rfl rfl (by kernel_rfl) (fun _ _ _ h => h) (Or.inl ⟨by rfl, ?_⟩) ?_ ?_
                        rotate_left
                        · intro w'
                          go_simp
                          with_reducible rfl
                        rotate_left
                        · simp only [Act.put, List.setIfInBounds_toArray, List.set_cons_zero, List.set_cons_succ]
                          rfl
                        refine pure_ (i := 1) (N := some 126) (v := ?_) (a' := ?_) #[true, true, false, false, false, false, false, false, false, false, false, false, false, false, false, false, false, false, false, false, false, false, false] rfl rfl (by kernel_rfl) (fun _ _ _ h => h) (Or.inl ⟨by rfl, ?_⟩) ?_ ?_
                        rotate_left
                        · intro w'
                          go_simp
                          with_reducible rfl
                        rotate_left
                        · simp only [Act.put, List.setIfInBounds_toArray, List.set_cons_zero, List.set_cons_succ]
                          rfl
                        refine pure_ (i := 2) (N := some 127) (v := ?_) (a' := ?_) #[true, true, true, false, false, false, false, false, false, false, false, false, false, false, false, false, false, false, false, false, false, false, false] rfl rfl (by kernel_rfl) (fun _ _ _ h => h) (Or.inl ⟨by rfl, ?_⟩) ?_ ?_
                        rotate_left
                        · intro w'
                          go_simp
                          with_reducible rfl
                        rotate_left
                        · simp only [Act.put, List.setIfInBounds_toArray, List.set_cons_zero, List.set_cons_succ]
                          rfl
                        refine pure_ (i := 4) (N := some 129) (v := ?_) (a' := ?_) #[true, true, true, false, true, false, false, false, false, false, false, false, false, false, false, false, false, false, false, false, false, false, false] rfl rfl (by kernel_rfl) (fun _ _ _ h => h) (Or.inl ⟨by rfl, ?_⟩) ?_ ?_
                        rotate_left
                        · intro w'
                          go_simp
                          with_reducible rfl
                        rotate_left
                        · simp only [Act.put, List.setIfInBounds_toArray, List.set_cons_zero, List.set_cons_succ]
                          rfl
                        refine pure_ (i := 5) (N := some 130) (v := ?_) (a' := ?_) #[true, true, true, false, true, true, false, false, false, false, false, false, false, false, false, false, false, false, false, false, false, false, false] rfl rfl (by kernel_rfl) (fun _ _ _ h => h) (Or.inl ⟨by rfl, ?_⟩) ?_ ?_
                        rotate_left
                        · intro w'
                          go_simp
                          with_reducible rfl
                        rotate_left
                        · simp only [Act.put, List.setIfInBounds_toArray, List.set_cons_zero, List.set_cons_succ]
                          rfl
                        refine pure_ (i := 6) (N := some 131) (v := ?_) (a' := ?_) #[true, true, true, false, true, true, true, false, false, false, false, false, false, false, false, false, false, false, false, false, false, false, false] rfl rfl (by kernel_rfl) (fun _ _ _ h => h) (Or.inl ⟨by rfl, ?_⟩) ?_ ?_
                        rotate_left
                        · intro w'
                          go_simp
                          with_reducible rfl
                        rotate_left
                        · simp only [Act.put, List.setIfInBounds_toArray, List.set_cons_zero, List.set_cons_succ]
                          rfl
                        refine pure_ (i := 7) (N := some 132) (v := ?_) (a' := ?_) #[true, true, true, false, true, true, true, true, false, false, false, false, false, false, false, false, false, false, false, false, false, false, false] rfl rfl (by kernel_rfl) (fun _ _ _ h => h) (Or.inl ⟨by rfl, ?_⟩) ?_ ?_
                        rotate_left
                        · intro w'
                          go_simp
                          with_reducible rfl
                        rotate_left
                        · simp only [Act.put, List.setIfInBounds_toArray, List.set_cons_zero, List.set_cons_succ]
                          rfl
                        refine pure_ (i := 9) (N := some 134) (v := ?_) (a' := ?_) #[true, true, true, false, true, true, true, true, false, true, false, false, false, false, false, false, false, false, false, false, false, false, false] rfl rfl (by kernel_rfl) (fun _ _ _ h => h) (Or.inl ⟨by rfl, ?_⟩) ?_ ?_
                        rotate_left
                        · intro w'
                          go_simp
                          with_reducible rfl
                        rotate_left
                        · simp only [Act.put, List.setIfInBounds_toArray, List.set_cons_zero, List.set_cons_succ]
                          rfl
                        refine pure_ (i := 12) (N := some 137) (v := ?_) (a' := ?_) #[true, true, true, false, true, true, true, true, false, true, false, false, true, false, false, false, false, false, false, false, false, false, false] rfl rfl (by kernel_rfl) (fun _ _ _ h => h) (Or.inl ⟨by rfl, ?_⟩) ?_ ?_
                        rotate_left
                        · intro w'
                          go_simp
                          with_reducible rfl
                        rotate_left
                        · simp only [Act.put, List.setIfInBounds_toArray, List.set_cons_zero, List.set_cons_succ]
                          rfl
                        refine pure_ (i := 13) (N := some 138) (v := ?_) (a' := ?_) #[true, true, true, false, true, true, true, true, false, true, false, false, true, true, false, false, false, false, false, false, false, false, false] rfl rfl (by kernel_rfl) (fun _ _ _ h => h) (Or.inl ⟨by rfl, ?_⟩) ?_ ?_
                        rotate_left
                        · intro w'
                          go_simp
                          with_reducible rfl
                        rotate_left
                        · simp only [Act.put, List.setIfInBounds_toArray, List.set_cons_zero, List.set_cons_succ]
                          rfl
                        refine pure_ (i := 14) (N := some 139) (v := ?_) (a' := ?_) #[true, true, true, false, true, true, true, true, false, true, false, false, true, true, true, false, false, false, false, false, false, false, false] rfl rfl (by kernel_rfl) (fun _ _ _ h => h) (Or.inl ⟨by rfl, ?_⟩) ?_ ?_
                        rotate_left
                        · intro w'
                          go_simp
                          with_reducible rfl
                        rotate_left
                        · simp only [Act.put, List.setIfInBounds_toArray, List.set_cons_zero, List.set_cons_succ]
                          rfl
                        refine pure_ (i := 15) (N := some 140) (v := ?_) (a' := ?_) #[true, true, true, false, true, true, true, true, false, true, false, false, true, true, true, true, false, false, false, false, false, false, false] rfl rfl (by kernel_rfl) (fun _ _ _ h => h) (Or.inl ⟨by rfl, ?_⟩) ?_ ?_
                        rotate_left
                        · intro w'
                          go_simp
                          with_reducible rfl
                        rotate_left
                        · simp only [Act.put, List.setIfInBounds_toArray, List.set_cons_zero, List.set_cons_succ]
                          rfl
                        refine pure_ (i := 17) (N := some 142) (v := ?_) (a' := ?_) #[true, true, true, false, true, true, true, true, false, true, false, false, true, true, true, true, false, true, false, false, false, false, false] rfl rfl (by kernel_rfl) (fun _ _ _ h => h) (Or.inl ⟨by rfl, ?_⟩) ?_ ?_
                        rotate_left
                        · intro w'
                          go_simp
                          with_reducible rfl
                        rotate_left
                        · simp only [Act.put, List.setIfInBounds_toArray, List.set_cons_zero, List.set_cons_succ]
                          rfl
                        refine pure_ (i := 19) (N := some 144) (v := ?_) (a' := ?_) #[true, true, true, false, true, true, true, true, false, true, false, false, true, true, true, true, false, true, false, true, false, false, false] rfl rfl (by kernel_rfl) (fun _ _ _ h => h) (Or.inl ⟨by rfl, ?_⟩) ?_ ?_
                        rotate_left
                        · intro w'
                          go_simp
                          with_reducible rfl
                        rotate_left
                        · simp only [Act.put, List.setIfInBounds_toArray, List.set_cons_zero, List.set_cons_succ]
                          rfl
                        refine take_ (i := 3) (N := some 128) (v := ?_) (a' := ?_) #[true, true, true, true, true, true, true, true, false, true, false, false, true, true, true, true, false, true, false, true, false, false, false] rfl rfl (by kernel_rfl) (fun _ _ _ h => h) (Or.inl ⟨by rfl, ?_⟩) hHeld ?_ ?_
                        rotate_left
                        · rintro w' ⟨s0, s1, s2, s3⟩
                          go_simp
                          with_reducible rfl
                        rotate_left
                        · simp only [Act.put, List.setIfInBounds_toArray, List.set_cons_zero, List.set_cons_succ]
                          rfl
                        refine take_ (i := 8) (N := some 133) (v := ?_) (a' := ?_) #[true, true, true, true, true, true, true, true, true, true, false, false, true, true, true, true, false, true, false, true, false, false, false] rfl rfl (by kernel_rfl) (fun _ _ _ h => h) (Or.inl ⟨by rfl, ?_⟩) hHeld ?_ ?_
                        rotate_left
                        · rintro w' ⟨s0, s1, s2, s3⟩
                          go_simp
                          with_reducible rfl
                        rotate_left
                        · simp only [Act.put, List.setIfInBounds_toArray, List.set_cons_zero, List.set_cons_succ]
                          rfl
                        refine pure_ (i := 10) (N := some 135) (v := ?_) (a' := ?_) #[true, true, true, true, true, true, true, true, true, true, true, false, true, true, true, true, false, true, false, true, false, false, false] rfl rfl (by kernel_rfl) (fun _ _ _ h => h) (Or.inl ⟨by rfl, ?_⟩) ?_ ?_
                        rotate_left
                        · intro w'
                          go_simp
                          with_reducible rfl
                        rotate_left
                        · simp only [Act.put, List.setIfInBounds_toArray, List.set_cons_zero, List.set_cons_succ]
                          rfl
                        refine take_ (i := 11) (N := some 136) (v := ?_) (a' := ?_) #[true, true, true, true, true, true, true, true, true, true, true, true, true, true, true, true, false, true, false, true, false, false, false] rfl rfl (by kernel_rfl) (fun _ _ _ h => h) (Or.inl ⟨by rfl, ?_⟩) hHeld ?_ ?_
                        rotate_left
                        · rintro w' ⟨s0, s1, s2, s3⟩
                          go_simp
                          with_reducible rfl
                        rotate_left
                        · simp only [Act.put, List.setIfInBounds_toArray, List.set_cons_zero, List.set_cons_succ]
                          rfl
                        refine take_ (i := 16) (N := some 141) (v := ?_) (a' := ?_) #[true, true, true, true, true, true, true, true, true, true, true, true, true, true, true, true, true, true, false, true, false, false, false] rfl rfl (by kernel_rfl) (fun _ _ _ h => h) (Or.inl ⟨by rfl, ?_⟩) hHeld ?_ ?_
                        rotate_left
                        · rintro w' ⟨s0, s1, s2, s3⟩
                          go_simp
                          with_reducible rfl
                        rotate_left
                        · simp only [Act.put, List.setIfInBounds_toArray, List.set_cons_zero, List.set_cons_succ]
                          rfl
                        refine one_ (i := 18) (N := some 143) #[true, true, true, true, true, true, true, true, true, true, true, true, true, true, true, true, true, true, true, true, false, false, false] rfl rfl (by kernel_rfl) (by decide) (fun K hK => ?_)
                        refine goes_ Tryd.func23 (by kernel_rfl) rfl #[.int .u64 t, .int .u64 (en M6 used j), .int .u64 p] (by rfl) rfl rfl (by simp only [List.map_toArray, List.map_cons, List.map_nil]; rfl) ?_
                        with_reducible refine (rmul_calls p t (en M6 used j) _ h1p h1 t0 e0).mono ?_
                        rintro e w3 ⟨rfl, n8, rfl⟩
                        refine ⟨_, rfl, ?_⟩
                        refine hK.out _ _ ⟨hHeld.1, hHeld.2.1, hHeld.2.2.1, hHeld.2.2.2⟩ (fun hHeld => ?_)
                        clear hK K
                        refine norm_ (a' := ?_) ?_ ?_
                        rotate_left
                        · show Act.put _ (some 143) _ = _
                          simp only [Act.put, List.setIfInBounds_toArray, List.set_cons_zero, List.set_cons_succ]
                          rfl
                        refine one_ (i := 20) (N := some 145) #[true, true, true, true, true, true, true, true, true, true, true, true, true, true, true, true, true, true, true, true, true, false, false] rfl rfl (by kernel_rfl) (by decide) (fun K hK => ?_)
                        refine goes_ Tryd.func21 (by kernel_rfl) rfl #[.int .u64 (en M6 r j), .int .u64 (t * en M6 used j % p), .int .u64 p] (by rfl) rfl rfl (by simp only [List.map_toArray, List.map_cons, List.map_nil]; rfl) ?_
                        with_reducible refine (rsub_calls p _ _ _ h1p h1 z0 m0).mono ?_
                        rintro e w3 ⟨rfl, n9, rfl⟩
                        refine ⟨_, rfl, ?_⟩
                        refine hK.out _ _ ⟨hHeld.1, hHeld.2.1, hHeld.2.2.1, hHeld.2.2.2⟩ (fun hHeld => ?_)
                        clear hK K
                        refine norm_ (a' := ?_) ?_ ?_
                        rotate_left
                        · show Act.put _ (some 145) _ = _
                          simp only [Act.put, List.setIfInBounds_toArray, List.set_cons_zero, List.set_cons_succ]
                          rfl
                        refine pure_ (i := 21) (N := some 146) (v := ?_) (a' := ?_) #[true, true, true, true, true, true, true, true, true, true, true, true, true, true, true, true, true, true, true, true, true, true, false] rfl rfl (by kernel_rfl) (fun _ _ _ h => h) (Or.inl ⟨by rfl, ?_⟩) ?_ ?_
                        rotate_left
                        · intro w'
                          go_simp
                          with_reducible rfl
                        rotate_left
                        · simp only [Act.put, List.setIfInBounds_toArray, List.set_cons_zero, List.set_cons_succ]
                          rfl
                        refine last_ (i := 22) (N := none) #[true, true, true, true, true, true, true, true, true, true, true, true, true, true, true, true, true, true, true, true, true, true, true] rfl rfl (by kernel_rfl) (by decide) (fun K hK => ?_)
                        have hFR := hHeld.2.2.2
                        refine skip_ (w1 := ?_) (by rfl) rfl ?_ ?_
                        rotate_left
                        · go_simp
                          rfl
                        refine hK.out _ _ ?_
                        clear hK K
                        refine done_ (by kernel_rfl) ?_
                        clear hHeld hg1 hg2 hg3 hfz
                        go_wp2
                        go_roundw
                        case rel =>
                          have hlen6 : r < M6.length := by rw [hmat6.out.len, HB3.out]; exact hri
                          have hwid6 : j < (rr M6 r).length := by rw [hmat6.out.wid r (by rw [HB3.out]; exact hri)]; exact hjL
                          refine ⟨j + 1, M6.set r ((rr M6 r).set j ((en M6 r j - t * en M6 used j) % p)), by first | rfl | (rw [wr_suc j jb]; rfl), by omega, HKLj.out, Lib.hid ?_, Lib.hid (fun i' j' => ?_), Lib.hid (fun i' h6 => ?_), Lib.hid (fun j' h6 => ?_), Lib.hid (fun j' h6 h7 => ?_), Lib.hid ?_⟩
                          · rw [HY.out]
                            exact (hmat6.out.drewN _).put r j (by rw [HB3.out]; exact hri) _
                          · rw [en_set _ _ _ _ _ _ hlen6 hwid6]
                            split
                            · exact ⟨Int.emod_nonneg _ (by omega), Int.emod_lt_of_pos _ (by omega)⟩
                            · exact hent6.out i' j'
                          · rw [rr_set _ _ _ _ hlen6, if_neg h6]
                            exact hsame6.out i' h6
                          · rw [en_set _ _ _ _ _ _ hlen6 hwid6, if_neg (by omega)]
                            exact hfar6.out j' (by omega)
                          · rw [en_set _ _ _ _ _ _ hlen6 hwid6]
                            by_cases e : j' = j
                            · rw [if_pos ⟨rfl, e⟩, e, hfar6.out j (Or.inr (Nat.le_refl _))]
                              have : en M6 used j = en M5 used j := by unfold en; rw [hsame6.out used (by omega)]
                              rw [this, sub_mod_r]
                            · rw [if_neg (fun h => e h.2)]
                              exact hel6.out j' h6 (by omega)
                          · exact Below.setCell (p := ⟨y.1, j, none⟩) (below_drewN hbw6.out _) (by rw [HY.out]; exact hmat6.out.base r (by rw [HB3.out]; exact hri)) _
                        case measure =>
                          simp only [intOf]
                          first | exact HKMj.out | (rw [wr_suc j jb]; exact HKMj.out)
                      · have jn : ¬ (j : Int) ≤ (n : Int) := by have := HL.out; omega
                        have hjL2 : j = L := by omega
                        have HJL := Lib.hid hjL2
                        clear hjL2 hjL
                        go_wp2
                        go_roundw
                        case rel =>
                          refine ⟨r + 1, M6, by first | rfl | (rw [wr_suc r rb]; rfl), by omega, HKLr.out, hmat6, hent6, Lib.hid (fun i' h6 => ?_), Lib.hid (fun i' j' h6 h7 h8 h9 => ?_), hbw6⟩
                          · rw [hsame6.out i' (by omega)]
                            exact hsame5.out i' (by omega)
                          · by_cases e : i' = r
                            · subst e
                              rw [hel6.out j' h8 (by have := HJL.out; have := HL.out; omega), HT.out]
                              have e1 : ∀ j, en M5 i' j = en M3 i' j := fun j => by unfold en; rw [hsame5.out i' (Or.inr (Nat.le_refl _))]
                              have e2 : en M5 used j' = en M3 used j' := by unfold en; rw [hsame5.out used (Or.inl (Nat.le_refl _))]
                              rw [e1, e1, e2]
                            · have e1 : en M6 i' j' = en M5 i' j' := by unfold en; rw [hsame6.out i' e]
                              rw [e1]
                              exact hel5.out i' j' h6 (by omega) h8 h9
                        case measure =>
                          simp only [intOf]
                          first | exact HKMr.out | (rw [wr_suc r rb]; exact HKMr.out)
                  · have hri2 : r = i := by omega
                    subst hri2
                    have HSE : Hid (Solv q M5 n (used + 1) (k + 1) → G) := Lib.hid (fun h => HS3.out (solv_elim (N := M5) (iv := iv) hkn (by rw [HL3.out, hmat5.out.len, HB3.out]) HIV.out (fun i' j' h6 h7 h8 h9 => by
                      rw [← HPQ.out]
                      exact hel5.out i' j' h6 (by rw [HL3.out] at h7; exact h7) h8 h9) h))
                    go_wp2
                    go_roundw
                    case rel => exact ⟨used + 1, k + 1, bs3, M5, by first | rfl | (rw [wr_suc used ub]; rfl), by first | rfl | (rw [wr_suc k kb]; rfl), HUS.out, HKLk.out, HB3, hmat5, hent5, HSE, hbw5⟩
                    case measure =>
                      simp only [intOf]
                      first | exact HKMk.out | (rw [wr_suc k kb]; exact HKMk.out)
        · have hkk : k = n := by omega
          subst hkk
          have kL : k < L := by rw [HL.out]; omega
          have k3 : (0 : Int) ≤ (k : Int) := by omega
          go_wp2
          go_loopw [20] (fun v20 W4 => ∃ (i d : Nat), W4 = W3.drewN d ∧ v20 = .int .i64 i ∧ used ≤ i ∧ i ≤ N ∧ Hid (∀ i', used ≤ i' → i' < i → en M2 i' k = 0)) (fun v20 _ => N - (intOf v20).toNat)
          case atStart => exact ⟨used, 0, rfl, rfl, Nat.le_refl _, hun, Lib.hid (fun i' h3 h4 => by omega)⟩
          case round =>
            obtain ⟨i, d, rfl, rfl, hui, hiN, hall⟩ := hrel
            have HM := Lib.hid (hmat.out.drewN d)
            by_cases hil : i < N
            · obtain ⟨hc1, _⟩ := HM.out.atN hbl.out i hil
              obtain ⟨hc2, _⟩ := HM.out.cell i k (by rw [hbl.out]; exact hil) kL
              obtain ⟨z0, z1⟩ := hent.out i k
              have HKL : Hid (i + 1 ≤ N) := Lib.hid (Nat.succ_le_of_lt hil)
              have HKM := Lib.hid (ms_suc hil)
              have ib3 : i ≤ 20000 := by omega
              have i1 : (i : Int) < (N : Int) := by omega
              have i3 : (0 : Int) ≤ (i : Int) := by omega
              by_cases hz : en M2 i k = 0
              · have ht : (en M2 i k != 0) = false := by rw [hz]; rfl
                have HZ := Lib.hid hz
                clear hz
                go_wp2
                go_roundw
                case rel => exact ⟨i + 1, _, rfl, by first | rfl | (rw [wr_suc i ib3]; rfl), by omega, HKL.out, Lib.hid (fun i' h3 h4 => if h : i' = i then by rw [h]; exact HZ.out else hall.out i' h3 (by omega))⟩
                case measure =>
                  simp only [intOf]
                  first | exact HKM.out | (rw [wr_suc i ib3]; exact HKM.out)
              · have ht : (en M2 i k != 0) = true := bne_iff_ne.mpr hz
                clear hz
                go_wp2
                go_ret
                first | exact Or.inl ⟨rfl, below_drewN hbw.out _⟩ | exact ⟨false, rfl, fun h => absurd h (by decide), below_drewN hbw.out _⟩
            · have HG2 : Hid G := Lib.hid (hsol.out (solv_end (fun i' h3 h4 => hall.out i' h3 (by rw [hmat.out.len, hbl.out] at h4; omega))))
              have i1 : ¬ (i : Int) < (N : Int) := by omega
              go_wp2
              go_ret
              first | exact Or.inr ⟨rfl, HG2.out, below_drewN hbw.out _⟩ | exact ⟨true, rfl, fun _ => HG2.out, below_drewN hbw.out _⟩
end Go.Proofs.YtmbbjoadnapcgaaDoor
