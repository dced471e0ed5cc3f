/- A row, and so many numbers more by a rule: by its contract. -/
import Derived.Test.YtmbbjoadnapcgaaDoorClone
import Derived.Test.YtmbbjoadnapcgaaDoorFind
namespace Go.Proofs.YtmbbjoadnapcgaaDoor
open Go.RowKit Go.Proofs.YtmbbjoadnapcgaaDoorW.PrintWords VNum

section
variable {ops : Array Oper} {rest : List Oper} {o : Oper} {a : Act} {Q : Exit → Act → World → Prop}
/-- a row of the call's own that grows by one number -/
theorem Ow.app {w0 W : World} (b : Nat) (hgd : o.guard = none) (s x : Operand) (ho : o.op = .call { callee := .builtin .append, args := #[s, x], argTypes := #[23, 23] })
    (v : Value) (l : List Int) (y : Int) (hs : a.eval s = v) (hx : a.eval x = .slice (some ⟨W.heap.size, 0, none⟩) 1 1) (HO : Ow W b v l) (HB : Below b w0 W) (hbase : b ≤ W.heap.size) (hl : l.length ≤ 1000000)
    (h : ∀ g cap w1 l1, Hid (l1 = l ++ [y]) → l1.length = l.length + 1 → b ≤ g → Hid (Ow w1 b (.slice (some ⟨g, 0, none⟩) l1.length cap) l1) → Hid (Below b w0 w1) → wpList Tryd.prog ops Q rest (a.put o.dst (.slice (some ⟨g, 0, none⟩) l1.length cap)) w1) :
    wpList Tryd.prog ops Q (o :: rest) a (W.alloc (.cells [Value.int .u64 y].toArray 22)) := by
  refine Kd.R_append (Kd.int .u64) (w0 := w0) b hgd s x 23 22 (.int .u64 0) 8 ho Tryd.underlying23 infoU rfl (by decide) (by omega) v l y [Value.int .u64 y] (fun _ => True) (fun _ => False) hs hx rfl (fun _ hk => hk.elim) (fun _ _ => trivial) HO HB hbase (by omega) ?_
  intro v1 w1 ho hb _ _
  obtain ⟨g, cap, rfl, hg, _⟩ := Ow.form ho (by simp)
  exact h g cap w1 (l ++ [y]) (Lib.hid rfl) (by simp) hg (Lib.hid ho) (Lib.hid hb)
end

/-- the first k numbers of a row, brought below m -/
def ofTo (m : Int) (l : List Int) : Nat → List Int
  | 0 => l
  | k + 1 => (ofTo m l k).set k (rn (ofTo m l k) k % m)
theorem ofTo_len (m : Int) (l : List Int) : ∀ k, (ofTo m l k).length = l.length
  | 0 => rfl
  | k + 1 => by rw [ofTo, List.length_set, ofTo_len m l k]
theorem U64.set {l : List Int} (h : U64 l) (k : Nat) {x : Int} (h0 : 0 ≤ x) (h1 : x < 18446744073709551616) : U64 (l.set k x) := fun y hy => by
  rcases List.mem_or_eq_of_mem_set hy with h2 | h2
  · exact h y h2
  · rw [h2]; exact ⟨h0, h1⟩
theorem ofTo_u64 {m : Int} (hm : 0 < m) (hm1 : m < 9223372036854775808) {l : List Int} (h : U64 l) : ∀ k, U64 (ofTo m l k)
  | 0 => h
  | k + 1 => (ofTo_u64 hm hm1 h k).set _ (Int.emod_nonneg _ (by omega)) (by have := Int.emod_lt_of_pos (rn (ofTo m l k) k) hm; omega)

/-- so many numbers more -/
def moreTo (m : Int) (r l : List Int) : Nat → List Int
  | 0 => l
  | k + 1 => (moreTo m r l k ++ [0]).set (moreTo m r l k).length ((0 - missTo m r (moreTo m r l k ++ [0]) (moreTo m r l k).length r.length) % m)
theorem moreTo_len (m : Int) (r l : List Int) : ∀ k, (moreTo m r l k).length = l.length + k
  | 0 => rfl
  | k + 1 => by rw [moreTo, List.length_set, List.length_append, moreTo_len m r l k]; rfl
theorem U64.app0 {l : List Int} (h : U64 l) : U64 (l ++ [0]) := fun y hy => by
  rcases List.mem_append.1 hy with h2 | h2
  · exact h y h2
  · rw [List.mem_singleton.1 h2]; decide
theorem moreTo_u64 {m : Int} (hm : 0 < m) (hm1 : m < 9223372036854775808) (r : List Int) {l : List Int} (h : U64 l) : ∀ k, U64 (moreTo m r l k)
  | 0 => h
  | k + 1 => by
    rw [moreTo]
    exact (moreTo_u64 hm hm1 r h k).app0.set _ (Int.emod_nonneg _ (by omega)) (by have := Int.emod_lt_of_pos (0 - missTo m r (moreTo m r l k ++ [0]) (moreTo m r l k).length r.length) hm; omega)

set_option maxHeartbeats 4000000 in
set_option maxRecDepth 100000 in
theorem more_calls (p : Int) (A1 A2 : Option Addr) (c1 c2 : Nat) (r row : List Int) (many : Nat) (w : World) (hT : Tab w) (h0 : 0 ≤ p) (h1 : p < 9223372036854775808) (h : isP p.toNat = true) (hr : Rc w A1 c1 r) (hrow : Rc w A2 c2 row) (hle : r.length ≤ row.length) (hpos : 0 < row.length) (hl : row.length ≤ 1000) (hm : many ≤ 1000) (ur : U64 r) (urow : U64 row) :
    Calls Tryd.prog 9 #[.int .u64 p, .slice A1 r.length c1, .slice A2 row.length c2, .int .i64 many] w fun e w' => ∃ v, e = .returned (.tuple #[v, .int .i64 0]) ∧ Ow w' w.heap.size v (moreTo p r (ofTo p row row.length) many) ∧ Below w.heap.size w w' := by
  have h2 : 2 ≤ p := by have := isP_two h; omega
  have HC := Lib.hid (rfield_some p w hT h0 h1 h)
  have HR := Lib.hid hr
  have HW := Lib.hid hrow
  have UR := Lib.hid ur
  have UW := Lib.hid urow
  have mx := hrow.max
  have hrc := hrow.2
  have b1 : ¬ (row.length : Int) < (r.length : Int) := by omega
  have b2 : decide ((row.length : Int) < (r.length : Int)) = false := decide_eq_false b1
  have b3 : ¬ (many : Int) < 0 := by omega
  have b4 : decide ((many : Int) < 0) = false := decide_eq_false b3
  clear hT h hr hrow ur urow b1 b3
  go_enter Tryd.func9, Tryd.ntmps9
  go_wp2_with (first
    | (go_at_call 12; refine HC.out.mono ?_; rintro e w1 ⟨a, rfl, hf, hb1, hsz⟩; have HF := Lib.hid hf; have HB1 := Lib.hid hb1; clear hf hb1)
    | (go_at_call 24; refine (clone_calls A2 row.length row _ ⟨(HW.out.kept HB1.out).1, Nat.le_refl _⟩ hpos (by omega)).mono ?_; rintro e w2 ⟨v2, rfl, ho2, hb2⟩; obtain ⟨g, cap, rfl, hg, _⟩ := ho2.form hpos; have HO2 := Lib.hid ho2; have HB2 := Lib.hid hb2; have HG := Lib.hid hg; clear ho2 hb2 hg))
  clear b2 b4
  go_loopw [13, 46] (fun _ v46 W => ∃ (k : Nat) (l : List Int), v46 = .int .i64 k ∧ k ≤ row.length ∧ Hid (l = ofTo p row k) ∧ l.length = row.length ∧ Hid (U64 l)
      ∧ Hid (Ow W w1.heap.size (.slice (some ⟨g, 0, none⟩) l.length cap) l) ∧ Hid (Below w1.heap.size w1 W)) (fun _ v46 _ => row.length - (intOf v46).toNat)
  case atStart => exact ⟨0, row, rfl, by omega, Lib.hid rfl, rfl, UW, HO2, HB2⟩
  case round =>
    clear HO2 HB2
    obtain ⟨W, rfl⟩ : ∃ W : World, W = wr := ⟨_, rfl⟩
    obtain ⟨k, l, rfl, hk, hl1, hl2, hul, hol, hbl⟩ := hrel
    by_cases hkr : k < row.length
    · obtain ⟨hc1, hfz⟩ := hol.out.cells k (by omega)
      obtain ⟨u0, u1⟩ := hul.out.rng k
      have HKL : Hid (k + 1 ≤ row.length) := Lib.hid (Nat.succ_le_of_lt hkr)
      have HKM := Lib.hid (ms_suc hkr)
      have kb : k ≤ 20000 := by omega
      have cof := Lib.hid (of_calls a p (rn l k) W (HF.out.kept hbl.out) h2 u0)
      have i1 : (k : Int) < (l.length : Int) := by omega
      have i3 : (0 : Int) ≤ (k : Int) := by omega
      go_wp2_with (go_at_call 13; refine cof.out.mono ?_; rintro e w3 ⟨rfl, n3, rfl⟩)
      go_roundw
      case rel =>
        refine ⟨k + 1, l.set k (rn l k % p), by first | rfl | (rw [wr_suc k kb]; rfl), HKL.out, Lib.hid ?_, ?_, Lib.hid ?_, Lib.hid ?_, Lib.hid ?_⟩
        · rw [ofTo, ← hl1.out]
        · rw [List.length_set]; exact hl2
        · exact hul.out.set k (Int.emod_nonneg _ (by omega)) (by have := Int.emod_lt_of_pos (rn l k) (show 0 < p by omega); omega)
        · rw [List.length_set]; exact (Ow.store (Ow.drewN hol.out _) k _).1
        · exact Below.setCell (p := ⟨g, k, none⟩) (below_drewN hbl.out _) HG.out _
      case measure =>
        simp only [intOf]
        first | exact HKM.out | (rw [wr_suc k kb]; exact HKM.out)
    · have hkk : k = row.length := by omega
      subst hkk
      have HL0 : Hid (l = ofTo p row row.length) := hl1
      go_wp2
      go_loopw [12, 14, 60] (fun v12 _ v60 W2 => ∃ (k : Nat) (l2 : List Int) (g2 cap2 : Nat), v60 = .int .i64 k ∧ k ≤ many ∧ v12 = .slice (some ⟨g2, 0, none⟩) l2.length cap2 ∧ Hid (l2 = moreTo p r l k) ∧ Hid (l2.length = row.length + k) ∧ w1.heap.size ≤ g2
          ∧ Hid (Ow W2 w1.heap.size (.slice (some ⟨g2, 0, none⟩) l2.length cap2) l2) ∧ Hid (Below w1.heap.size w1 W2)) (fun _ _ v60 _ => many - (intOf v60).toNat)
      case atStart => exact ⟨0, l, g, cap, rfl, by omega, by rw [hl2], Lib.hid rfl, Lib.hid (by omega), HG.out, hol, hbl⟩
      case round =>
        clear hol hbl
        obtain ⟨W2, rfl⟩ : ∃ W : World, W = wr := ⟨_, rfl⟩
        obtain ⟨k, l2, g2, cap2, rfl, hk2, rfl, hm1, hm2, hg2, hom, hbm⟩ := hrel
        by_cases hkm : k < many
        · have HKL : Hid (k + 1 ≤ many) := Lib.hid (Nat.succ_le_of_lt hkm)
          have HKM := Lib.hid (ms_suc hkm)
          have kb : k ≤ 20000 := by omega
          have hlb := Lib.hid (show l2.length ≤ 1000000 by have := hm2.out; omega)
          have HUM : Hid (U64 l2) := Lib.hid (by rw [hm1.out]; exact moreTo_u64 (by omega) h1 r hul.out k)
          go_wp2_with (at_builtin; go_loud (refine Ow.app (w0 := w1) (W := W2) w1.heap.size rfl (.tmp 62) (.tmp 63) rfl _ l2 0 rfl rfl hom.out hbm.out hbm.out.size hlb.out ?_))
          intro g3 cap3 w3 l3 hl3 hl3n hg3 ho3 hb3
          have e1 : (l3.length : Int) - 1 = (l2.length : Int) := by omega
          have HL3 := Lib.hid hl3n
          have i9 : (l3.length : Int) ≤ 3000 := by have := hm2.out; omega
          have i8 : (1 : Int) ≤ (l3.length : Int) := by omega
          have q1 : l2.length < l3.length := by omega
          obtain ⟨hc1, hfz⟩ := ho3.out.cells l2.length q1
          have HU3 : Hid (U64 l3) := Lib.hid (by rw [hl3.out]; exact HUM.out.app0)
          have i1 : (l2.length : Int) < (l3.length : Int) := by omega
          have i3 : (0 : Int) ≤ (l2.length : Int) := by omega
          have hrl : r.length ≤ l2.length := by have := hm2.out; omega
          obtain ⟨A4, c4, e4, r4⟩ := ho3.out.rc
          injection e4 with e5 _ e6
          subst e5 e6
          have cms := Lib.hid (miss_calls a p A1 _ c1 _ r l3 l2.length w3 (HF.out.kept hb3.out) h2 h1 ((HR.out.kept HB1.out).kept hb3.out) r4 q1 hrl UR.out HU3.out)
          have hmr := missTo_rng (m := p) (by omega) r l3 l2.length r.length
          obtain ⟨d, hd⟩ : ∃ d, d = missTo p r l3 l2.length r.length := ⟨_, rfl⟩
          rw [← hd] at hmr cms
          obtain ⟨d0, d1⟩ := hmr
          have HD := Lib.hid hd
          have csb := Lib.hid (fun n => sub_calls a p 0 d (w3.drewN n) ((HF.out.kept hb3.out).drewN n) h2 h1 (by omega) d0)
          clear hd r4 hl3n q1
          go_wp2_with (first
            | (go_at_call 14; refine cms.out.mono ?_; rintro e w' ⟨rfl, n6, rfl⟩)
            | (go_at_call 18; refine (csb.out _).mono ?_; rintro e w' ⟨rfl, n7, rfl⟩))
          go_roundw
          case rel =>
            refine ⟨k + 1, l3.set l2.length (-d % p), g3, _, by first | rfl | (rw [wr_suc k kb]; rfl), HKL.out, by rw [List.length_set], Lib.hid ?_, Lib.hid ?_, hg3, Lib.hid ?_, Lib.hid ?_⟩
            · rw [moreTo, ← hm1.out, ← hl3.out, ← HD.out, Int.zero_sub]
            · rw [List.length_set, HL3.out, hm2.out]; rfl
            · rw [List.length_set]; exact (Ow.store (Ow.drewN ho3.out _) l2.length (-d % p)).1
            · exact Below.setCell (p := ⟨g3, l2.length, none⟩) (below_drewN hb3.out _) hg3 _
          case measure =>
            simp only [intOf]
            first | exact HKM.out | (rw [wr_suc k kb]; exact HKM.out)
        · have hkk2 : k = many := by omega
          subst hkk2
          go_wp2
          go_ret2
          refine ⟨_, rfl, ?_, ?_⟩
          · rw [← HL0.out, ← hm1.out]
            exact hom.out.lower HB1.out.size
          · exact HB1.out.trans (hbm.out.mono HB1.out.size)
