/- The shortest rule by which a row goes on, as it is found: lists of numbers, no program. -/
import Derived.Test.YtmbbjoadnapcgaaDoorGrown
namespace Go.Proofs.YtmbbjoadnapcgaaDoor
open VNum

/-- each number is one of those modulo m -/
def Md (m : Int) (l : List Int) : Prop := ∀ x ∈ l, 0 ≤ x ∧ x < m
theorem Md.nil (m : Int) : Md m [] := fun x hx => absurd hx (by simp)
theorem Md.u64 {m : Int} {l : List Int} (h : Md m l) (hm : m < 9223372036854775808) : U64 l := fun x hx => by have := h x hx; omega
theorem Md.set {m : Int} {l : List Int} (h : Md m l) (k : Nat) {x : Int} (h0 : 0 ≤ x) (h1 : x < m) : Md m (l.set k x) := fun y hy => by
  rcases List.mem_or_eq_of_mem_set hy with h2 | h2
  · exact h y h2
  · rw [h2]; exact ⟨h0, h1⟩
theorem Md.grow {m : Int} {l : List Int} (h : Md m l) (hm : 0 < m) (n : Nat) : Md m (growF l n) := fun x hx => by
  rcases List.mem_append.1 hx with h2 | h2
  · exact h x h2
  · rw [(List.mem_replicate.1 h2).2]; omega

/-- what is taken of a rule, place by place -/
def updTo (m t : Int) (old : List Int) (gap : Nat) (nx : List Int) : Nat → List Int
  | 0 => nx
  | k + 1 => (updTo m t old gap nx k).set (gap + k) ((rn (updTo m t old gap nx k) (gap + k) - t * rn old k) % m)
theorem updTo_len (m t : Int) (old : List Int) (gap : Nat) (nx : List Int) : ∀ k, (updTo m t old gap nx k).length = nx.length
  | 0 => rfl
  | k + 1 => by rw [updTo, List.length_set, updTo_len m t old gap nx k]
theorem updTo_md {m t : Int} {old : List Int} {gap : Nat} {nx : List Int} (hm : 0 < m) (h : Md m nx) : ∀ k, Md m (updTo m t old gap nx k)
  | 0 => h
  | k + 1 => by
    rw [updTo]
    exact (updTo_md hm h k).set _ (Int.emod_nonneg _ (by omega)) (Int.emod_lt_of_pos _ hm)

structure St where
  now : List Int
  old : List Int
  was : Int
  gap : Nat

/-- the rule less the one ahead of its last growth -/
def nextF (m t : Int) (s : St) : List Int :=
  updTo m t s.old s.gap ((growF s.now (s.gap + s.old.length)).set (s.gap - 1) ((rn (growF s.now (s.gap + s.old.length)) (s.gap - 1) - t) % m)) s.old.length

/-- one number more -/
def stepF (m : Int) (row : List Int) (s : St) (p : Nat) : St :=
  if missTo m s.now row p s.now.length = 0 then { s with gap := s.gap + 1 }
  else if p < 2 * s.now.length then { s with now := nextF m (missTo m s.now row p s.now.length * (invF m s.was).1 % m) s, gap := s.gap + 1 }
  else { now := growF (nextF m (missTo m s.now row p s.now.length * (invF m s.was).1 % m) s) (p + 1 - s.now.length), old := s.now, was := missTo m s.now row p s.now.length, gap := 1 }

def findTo (m : Int) (row : List Int) : Nat → St
  | 0 => { now := [], old := [], was := 1 % m, gap := 1 }
  | k + 1 => stepF m row (findTo m row k) k

/-- what holds of the state ahead of place k -/
structure StOk (m : Int) (s : St) (k : Nat) : Prop where
  le : s.now.length ≤ k
  gap : 1 ≤ s.gap
  sum : s.gap + s.old.length ≤ k + 1
  len : s.now.length + s.old.length + s.gap = k + 1
  now : Md m s.now
  old : Md m s.old
  w0 : 0 ≤ s.was
  w1 : s.was < m

theorem nextF_len (m t : Int) (s : St) : (nextF m t s).length = max (s.gap + s.old.length) s.now.length := by
  unfold nextF
  rw [updTo_len, List.length_set, growF_len]
theorem nextF_md {m t : Int} {s : St} (hm : 0 < m) (h : Md m s.now) : Md m (nextF m t s) :=
  updTo_md hm ((h.grow hm _).set _ (Int.emod_nonneg _ (by omega)) (Int.emod_lt_of_pos _ hm)) _

theorem StOk.start {m : Int} (hm : 0 < m) : StOk m { now := [], old := [], was := 1 % m, gap := 1 } 0 :=
  ⟨Nat.le_refl _, Nat.le_refl _, by simp, by simp, Md.nil _, Md.nil _, Int.emod_nonneg _ (by omega), Int.emod_lt_of_pos _ hm⟩
theorem StOk.step {m : Int} {s : St} {k : Nat} (hm : 0 < m) (row : List Int) (h : StOk m s k) : StOk m (stepF m row s k) (k + 1) := by
  obtain ⟨h1, h2, h3, h4, h5, h6, h7, h8⟩ := h
  have hd := missTo_rng hm s.now row k s.now.length
  have hl := nextF_len m (missTo m s.now row k s.now.length * (invF m s.was).1 % m) s
  have hnm := nextF_md (t := missTo m s.now row k s.now.length * (invF m s.was).1 % m) hm h5
  unfold stepF
  split
  · exact ⟨by simp; omega, by simp, by simp; omega, by simp; omega, h5, h6, h7, h8⟩
  · generalize nextF m (missTo m s.now row k s.now.length * (invF m s.was).1 % m) s = nx at *
    split
    · exact ⟨by simp; omega, by simp, by simp; omega, by simp; omega, hnm, h6, h7, h8⟩
    · refine ⟨?_, ?_, ?_, ?_, hnm.grow hm _, h5, hd.1, hd.2⟩
      · simp [growF_len]; omega
      · simp
      · simp; omega
      · simp [growF_len]; omega
theorem findTo_ok {m : Int} (hm : 0 < m) (row : List Int) : ∀ k, StOk m (findTo m row k) k
  | 0 => StOk.start hm
  | k + 1 => (findTo_ok hm row k).step hm row
end Go.Proofs.YtmbbjoadnapcgaaDoor
