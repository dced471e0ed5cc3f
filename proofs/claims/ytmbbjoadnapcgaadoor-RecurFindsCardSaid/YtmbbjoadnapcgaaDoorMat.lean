/- A matrix of words of the call's own: rows of rows, each row a block of its own. -/
import Derived.Test.YtmbbjoadnapcgaaDoorSolv
import Derived.Test.YtmbbjoadnapcgaaDoorMore
namespace Go.Proofs.YtmbbjoadnapcgaaDoor
open Go.RowKit Go.Proofs.YtmbbjoadnapcgaaDoorW.PrintWords VNum

theorem infoR : (Tryd.prog.info? 23).map (fun i => (i.zero, i.size, i.bytes)) = some (some (.slice none 0 0), 1, 24) := by kernel_rfl

/-- a row of L words: its block, and its capacity -/
def encR (L : Nat) (x : Nat × Nat) : Value := .slice (some ⟨x.1, 0, none⟩) L x.2
def ab (bs : List (Nat × Nat)) (i : Nat) : Nat × Nat := bs.getD i (0, 0)

theorem Ow.far {W : World} {b : Nat} {v : Value} {l : List Int} (h : Ow W b v l) {p : Addr} (hne : some p.block ≠ v.ownBlock) (u : Value) : Ow (W.setCell p u) b v l := Ow.of_owns (own_setCell h.owns hne u)

theorem rr_set (M : List (List Int)) (i : Nat) (l : List Int) (k : Nat) (h : i < M.length) : rr (M.set i l) k = if k = i then l else rr M k := by
  unfold rr
  rw [List.getD_eq_getElem?_getD, List.getD_eq_getElem?_getD, List.getElem?_set]
  by_cases e : i = k
  · rw [if_pos e, if_pos e.symm, if_pos (by omega)]; rfl
  · rw [if_neg e, if_neg (fun h => e h.symm)]
theorem rr_app (M : List (List Int)) (l : List Int) (k : Nat) : rr (M ++ [l]) k = if k = M.length then l else rr M k := by
  unfold rr
  rw [List.getD_eq_getElem?_getD, List.getD_eq_getElem?_getD]
  rcases Nat.lt_trichotomy k M.length with h | h | h
  · rw [List.getElem?_append_left h, if_neg (by omega)]
  · rw [List.getElem?_append_right (by omega), if_pos h, h]; simp
  · rw [List.getElem?_append_right (by omega), if_neg (by omega), List.getElem?_eq_none (by omega : M.length ≤ k), List.getElem?_eq_none (by simp; omega)]
theorem ab_set (bs : List (Nat × Nat)) (i : Nat) (x : Nat × Nat) (k : Nat) (h : i < bs.length) : ab (bs.set i x) k = if k = i then x else ab bs k := by
  unfold ab
  rw [List.getD_eq_getElem?_getD, List.getD_eq_getElem?_getD, List.getElem?_set]
  by_cases e : i = k
  · rw [if_pos e, if_pos e.symm, if_pos (by omega)]; rfl
  · rw [if_neg e, if_neg (fun h => e h.symm)]
theorem ab_app (bs : List (Nat × Nat)) (x : Nat × Nat) (k : Nat) : ab (bs ++ [x]) k = if k = bs.length then x else ab bs k := by
  unfold ab
  rw [List.getD_eq_getElem?_getD, List.getD_eq_getElem?_getD]
  rcases Nat.lt_trichotomy k bs.length with h | h | h
  · rw [List.getElem?_append_left h, if_neg (by omega)]
  · rw [List.getElem?_append_right (by omega), if_pos h, h]; simp
  · rw [List.getElem?_append_right (by omega), if_neg (by omega), List.getElem?_eq_none (by omega : bs.length ≤ k), List.getElem?_eq_none (by simp; omega)]

structure Mat (W : World) (b : Nat) (v : Value) (L : Nat) (bs : List (Nat × Nat)) (M : List (List Int)) : Prop where
  out : W.ownsRow b 23 1 v bs.length (encs (encR L) bs)
  len : M.length = bs.length
  wid : ∀ i, i < bs.length → (rr M i).length = L
  row : ∀ i, i < bs.length → Ow W b (encR L (ab bs i)) (rr M i)
  nd : ∀ i j, i ≠ j → i < bs.length → j < bs.length → (ab bs i).1 ≠ (ab bs j).1

section
variable {W W' : World} {b L g cap : Nat} {v : Value} {bs : List (Nat × Nat)} {M : List (List Int)}
theorem Mat.nil (W : World) (b L : Nat) : Mat W b (.slice none 0 0) L [] [] := ⟨own_nil W b _ 1, rfl, fun i hi => absurd hi (by simp), fun i hi => absurd hi (by simp), fun i j _ hi => absurd hi (by simp)⟩
theorem Mat.kept (h : Mat W b v L bs M) (hb : Below W.heap.size W W') : Mat W' b v L bs M := ⟨pw_own_below h.out hb, h.len, h.wid, fun i hi => (h.row i hi).kept hb, h.nd⟩
theorem Mat.drewN (h : Mat W b v L bs M) (n : Nat) : Mat (W.drewN n) b v L bs M := ⟨pw_own_drewN h.out n, h.len, h.wid, fun i hi => (h.row i hi).drewN n, h.nd⟩

theorem Mat.at_ (h : Mat W b (.slice (some ⟨g, 0, none⟩) bs.length cap) L bs M) (i : Nat) (hi : i < bs.length) :
    W.cell? ⟨g, i, none⟩ = some (.slice (some ⟨(ab bs i).1, 0, none⟩) L (ab bs i).2) ∧ W.frozen? ⟨g, i, none⟩ = false := by
  have := own_at_of (d := ((0, 0) : Nat × Nat)) h.out (i : Int) (by omega) (by omega)
  rw [Int.toNat_natCast] at this
  exact this
theorem Mat.cell (h : Mat W b v L bs M) (i j : Nat) (hi : i < bs.length) (hj : j < L) :
    W.cell? ⟨(ab bs i).1, j, none⟩ = some (.int .u64 (en M i j)) ∧ W.frozen? ⟨(ab bs i).1, j, none⟩ = false := by
  have hw := h.wid i hi
  have hr := h.row i hi
  unfold encR at hr
  rw [← hw] at hr
  exact hr.cells j (by omega)
theorem Mat.rc (h : Mat W b v L bs M) (i : Nat) (hi : i < bs.length) : Rc W (some ⟨(ab bs i).1, 0, none⟩) (ab bs i).2 (rr M i) := by
  have hw := h.wid i hi
  obtain ⟨A, c, he, hr⟩ := (h.row i hi).rc
  unfold encR at he
  injection he with e1 _ e2
  rw [e1, e2]
  exact hr
theorem Mat.ne_out (h : Mat W b v L bs M) (i : Nat) (hi : i < bs.length) : some (ab bs i).1 ≠ v.ownBlock := by
  rcases own_type_ne h.out (h.row i hi).owns (by decide) with h1 | h1
  · rw [h1]; simp
  · exact fun e => h1 e.symm
theorem Mat.base (h : Mat W b v L bs M) (i : Nat) (hi : i < bs.length) : b ≤ (ab bs i).1 := by
  rcases own_base' (h.row i hi).owns with h1 | ⟨k, h1, h2⟩
  · exact absurd h1 (by simp [encR, Value.ownBlock])
  · have : (ab bs i).1 = k := by simpa [encR, Value.ownBlock] using h1
    omega
theorem Mat.lt (h : Mat W b v L bs M) (i : Nat) (hi : i < bs.length) : (ab bs i).1 < W.heap.size := own_lt (h.row i hi).owns _ rfl

theorem Mat.put (h : Mat W b v L bs M) (i j : Nat) (hi : i < bs.length) (x : Int) :
    Mat (W.setCell ⟨(ab bs i).1, j, none⟩ (.int .u64 x)) b v L bs (M.set i ((rr M i).set j x)) := by
  have hl := h.len
  refine ⟨own_setCell h.out (h.ne_out i hi) _, by rw [List.length_set]; exact hl, fun k hk => ?_, fun k hk => ?_, h.nd⟩
  · rw [rr_set _ _ _ _ (by omega)]
    split
    · rw [List.length_set]; exact h.wid i hi
    · exact h.wid k hk
  · rw [rr_set _ _ _ _ (by omega)]
    by_cases e : k = i
    · rw [if_pos e, e]
      have hw := h.wid i hi
      have hr := h.row i hi
      unfold encR at hr ⊢
      rw [← hw] at hr ⊢
      exact (hr.store j x).1
    · rw [if_neg e]
      exact (h.row k hk).far (fun e2 => h.nd i k (fun e3 => e e3.symm) hi hk (by simpa [encR, Value.ownBlock] using e2)) _

/-- a row's header is put at a place: the first half of a swap -/
theorem Mat.mid (h : Mat W b (.slice (some ⟨g, 0, none⟩) bs.length cap) L bs M) (i k : Nat) (x : Nat × Nat) (hk : k < bs.length) :
    (∃ u, (W.setCell ⟨g, i, none⟩ (.slice (some ⟨x.1, 0, none⟩) L x.2)).cell? ⟨g, k, none⟩ = some u) ∧ (W.setCell ⟨g, i, none⟩ (.slice (some ⟨x.1, 0, none⟩) L x.2)).frozen? ⟨g, k, none⟩ = false := by
  have h2 := (own_store_of h.out (i : Int) x).1
  rw [Int.toNat_natCast] at h2
  have := own_at_of (d := ((0, 0) : Nat × Nat)) h2 (k : Int) (by omega) (by omega)
  rw [Int.toNat_natCast] at this
  exact ⟨⟨_, this.1⟩, this.2⟩

theorem Mat.swap (h : Mat W b (.slice (some ⟨g, 0, none⟩) bs.length cap) L bs M) (i k : Nat) (hi : i < bs.length) (hk : k < bs.length) :
    Mat ((W.setCell ⟨g, i, none⟩ (.slice (some ⟨(ab bs k).1, 0, none⟩) L (ab bs k).2)).setCell ⟨g, k, none⟩ (.slice (some ⟨(ab bs i).1, 0, none⟩) L (ab bs i).2)) b (.slice (some ⟨g, 0, none⟩) bs.length cap) L
      ((bs.set i (ab bs k)).set k (ab bs i)) ((M.set i (rr M k)).set k (rr M i)) := by
  have hl := h.len
  have h2 := (own_store_of h.out (i : Int) (ab bs k)).1
  have h3 := (own_store_of h2 (k : Int) (ab bs i)).1
  rw [Int.toNat_natCast, Int.toNat_natCast] at h3
  have ea : ∀ j, ab ((bs.set i (ab bs k)).set k (ab bs i)) j = if j = k then ab bs i else if j = i then ab bs k else ab bs j := fun j => by
    rw [ab_set _ _ _ _ (by rw [List.length_set]; exact hk), ab_set _ _ _ _ hi]
  have er : ∀ j, rr ((M.set i (rr M k)).set k (rr M i)) j = if j = k then rr M i else if j = i then rr M k else rr M j := fun j => by
    rw [rr_set _ _ _ _ (by rw [List.length_set]; omega), rr_set _ _ _ _ (by omega)]
  have ln : ((bs.set i (ab bs k)).set k (ab bs i)).length = bs.length := by rw [List.length_set, List.length_set]
  have far : ∀ j, j < bs.length → ∀ (o : Nat) (u : Value), some (⟨g, o, none⟩ : Addr).block ≠ (encR L (ab bs j)).ownBlock := fun j hj o u e => by
    have := h.ne_out j hj
    apply this
    simpa [encR, Value.ownBlock] using e.symm
  have hrow : ∀ j, j < bs.length → Ow ((W.setCell ⟨g, i, none⟩ (.slice (some ⟨(ab bs k).1, 0, none⟩) L (ab bs k).2)).setCell ⟨g, k, none⟩ (.slice (some ⟨(ab bs i).1, 0, none⟩) L (ab bs i).2)) b (encR L (ab bs j)) (rr M j) := fun j hj =>
    ((h.row j hj).far (far j hj i (.bool true)) _).far (far j hj k (.bool true)) _
  refine ⟨by rw [ln]; exact h3, by rw [ln, List.length_set, List.length_set]; exact hl, fun j hj => ?_, fun j hj => ?_, fun j1 j2 hne h4 h5 => ?_⟩
  · rw [ln] at hj
    rw [er]
    split
    · exact h.wid i hi
    · split
      · exact h.wid k hk
      · exact h.wid j hj
  · rw [ln] at hj
    rw [er, ea]
    by_cases e1 : j = k
    · rw [if_pos e1, if_pos e1]; exact hrow i hi
    · rw [if_neg e1, if_neg e1]
      by_cases e2 : j = i
      · rw [if_pos e2, if_pos e2]; exact hrow k hk
      · rw [if_neg e2, if_neg e2]; exact hrow j hj
  · rw [ln] at h4 h5
    rw [ea, ea]
    have nd := h.nd
    by_cases a1 : j1 = k
    · rw [if_pos a1]
      by_cases b1 : j2 = k
      · omega
      · rw [if_neg b1]
        by_cases b2 : j2 = i
        · rw [if_pos b2]; exact nd i k (by omega) hi hk
        · rw [if_neg b2]; exact nd i j2 (by omega) hi h5
    · rw [if_neg a1]
      by_cases a2 : j1 = i
      · rw [if_pos a2]
        by_cases b1 : j2 = k
        · rw [if_pos b1]; exact nd k i (by omega) hk hi
        · rw [if_neg b1]
          by_cases b2 : j2 = i
          · omega
          · rw [if_neg b2]; exact nd k j2 (by omega) hk h5
      · rw [if_neg a2]
        by_cases b1 : j2 = k
        · rw [if_pos b1]; exact nd j1 i (by omega) h4 hi
        · rw [if_neg b1]
          by_cases b2 : j2 = i
          · rw [if_pos b2]; exact nd j1 k (by omega) h4 hk
          · rw [if_neg b2]; exact nd j1 j2 hne h4 h5
variable {N : Nat}
theorem Mat.atN (h : Mat W b (.slice (some ⟨g, 0, none⟩) N cap) L bs M) (hN : bs.length = N) (i : Nat) (hi : i < N) :
    W.cell? ⟨g, i, none⟩ = some (.slice (some ⟨(ab bs i).1, 0, none⟩) L (ab bs i).2) ∧ W.frozen? ⟨g, i, none⟩ = false := by
  subst hN; exact h.at_ i hi
theorem Mat.midN (h : Mat W b (.slice (some ⟨g, 0, none⟩) N cap) L bs M) (hN : bs.length = N) (i k : Nat) (x : Nat × Nat) (hk : k < N) :
    (∃ u, (W.setCell ⟨g, i, none⟩ (.slice (some ⟨x.1, 0, none⟩) L x.2)).cell? ⟨g, k, none⟩ = some u) ∧ (W.setCell ⟨g, i, none⟩ (.slice (some ⟨x.1, 0, none⟩) L x.2)).frozen? ⟨g, k, none⟩ = false := by
  subst hN; exact h.mid i k x hk
theorem Mat.swapN (h : Mat W b (.slice (some ⟨g, 0, none⟩) N cap) L bs M) (hN : bs.length = N) (i k : Nat) (hi : i < N) (hk : k < N) :
    Mat ((W.setCell ⟨g, i, none⟩ (.slice (some ⟨(ab bs k).1, 0, none⟩) L (ab bs k).2)).setCell ⟨g, k, none⟩ (.slice (some ⟨(ab bs i).1, 0, none⟩) L (ab bs i).2)) b (.slice (some ⟨g, 0, none⟩) N cap) L
      ((bs.set i (ab bs k)).set k (ab bs i)) ((M.set i (rr M k)).set k (rr M i)) := by
  subst hN; exact h.swap i k hi hk
end

section
variable {ops : Array Oper} {rest : List Oper} {o : Oper} {a : Act} {Q : Exit → Act → World → Prop}
/-- a matrix that grows by one row -/
theorem Mat.app {w0 W : World} (b L : Nat) (hgd : o.guard = none) (s x : Operand) (ho : o.op = .call { callee := .builtin .append, args := #[s, x], argTypes := #[47, 47] })
    (v : Value) (bs : List (Nat × Nat)) (M : List (List Int)) (g3 c3 : Nat) (l : List Int) (hs : a.eval s = v) (hx : a.eval x = .slice (some ⟨W.heap.size, 0, none⟩) 1 1)
    (HM : Mat W b v L bs M) (HR : Ow W b (.slice (some ⟨g3, 0, none⟩) L c3) l) (hL : l.length = L) (hnew : ∀ i, i < bs.length → (ab bs i).1 ≠ g3) (HB : Below b w0 W) (hbase : b ≤ W.heap.size) (hl : bs.length ≤ 1000)
    (h : ∀ g cap w1 bs1 M1, Hid (M1 = M ++ [l]) → bs1.length = bs.length + 1 → b ≤ g → Hid (Mat w1 b (.slice (some ⟨g, 0, none⟩) bs1.length cap) L bs1 M1) → Hid (Below b w0 w1) → wpList Tryd.prog ops Q rest (a.put o.dst (.slice (some ⟨g, 0, none⟩) bs1.length cap)) w1) :
    wpList Tryd.prog ops Q (o :: rest) a (W.alloc (.cells [Value.slice (some ⟨g3, 0, none⟩) L c3].toArray 23)) := by
  refine print_append_of (w0 := w0) (encR L) b hgd s x 47 23 (.slice none 0 0) 24 ho Tryd.underlying47 infoR rfl (by decide) v bs (g3, c3) hs hx rfl HM.out HB hbase (by omega) ?_
  intro v1 w1 hown hb hgr _
  obtain ⟨g, cap, rfl, hg, _⟩ := hown.form (by simp)
  have hne : ∀ i, i < bs.length → (encR L (ab bs i)).ownBlock = none ∨ (encR L (ab bs i)).ownBlock ≠ v.ownBlock := fun i hi => Or.inr (HM.ne_out i hi)
  have hne3 : (Value.slice (some ⟨g3, 0, none⟩) L c3).ownBlock = none ∨ (Value.slice (some ⟨g3, 0, none⟩) L c3).ownBlock ≠ v.ownBlock := by
    rcases own_type_ne HM.out HR.owns (by decide) with h1 | h1
    · right; rw [h1]; simp [Value.ownBlock]
    · right; exact fun e => h1 e.symm
  have hlen := HM.len
  refine h g cap w1 (bs ++ [(g3, c3)]) (M ++ [l]) (Lib.hid rfl) (by simp) hg (Lib.hid ⟨hown, by simp [hlen], fun i hi => ?_, fun i hi => ?_, fun i j hij hi hj => ?_⟩) (Lib.hid hb)
  · rw [rr_app]
    rw [List.length_append, List.length_singleton] at hi
    split
    · exact hL
    · exact HM.wid i (by omega)
  · rw [rr_app, ab_app, hlen]
    rw [List.length_append, List.length_singleton] at hi
    by_cases e : i = bs.length
    · rw [if_pos e, if_pos e]
      exact Ow.of_owns (own_other HR.owns hgr hne3)
    · rw [if_neg e, if_neg e]
      exact Ow.of_owns (own_other (HM.row i (by omega)).owns hgr (hne i (by omega)))
  · rw [ab_app, ab_app]
    rw [List.length_append, List.length_singleton] at hi hj
    by_cases e : i = bs.length
    · rw [if_pos e, if_neg (by omega)]
      exact fun e2 => hnew j (by omega) e2.symm
    · rw [if_neg e]
      by_cases e2 : j = bs.length
      · rw [if_pos e2]; exact hnew i (by omega)
      · rw [if_neg e2]; exact HM.nd i j hij (by omega) (by omega)
end
end Go.Proofs.YtmbbjoadnapcgaaDoor
