/- A row of words that is cloned, and rows of the call's own that grow by one: by their contracts. -/
import Derived.Test.YtmbbjoadnapcgaaDoorGrown
import Derived.Laws.AppendOwn
import Derived.Shelf.RegionOpenPlain
import Derived.Lib.SliceRun
namespace Go.Proofs.YtmbbjoadnapcgaaDoor
open Go.RowKit Go.Proofs.YtmbbjoadnapcgaaDoorW.PrintWords VNum

/-- a row of the call's own, by the kit's word for one -/
theorem Ow.owns {W : World} {b : Nat} {v : Value} {l : List Int} (h : Ow W b v l) : W.ownsRow b 22 1 v l.length (l.map (Value.int .u64)) := by
  have := Kd.own_of_R (enc := Value.int .u64) h
  simpa [encs] using this
theorem Ow.of_owns {W : World} {b : Nat} {v : Value} {l : List Int} (h : W.ownsRow b 22 1 v l.length (l.map (Value.int .u64))) : Ow W b v l :=
  Kd.R_of_own (enc := Value.int .u64) (by simpa [encs] using h) (fun _ _ => trivial)

set_option maxHeartbeats 1000000 in
theorem clone_calls (A : Option Addr) (c : Nat) (l : List Int) (w : World) (hr : Rc w A c l) (h0 : 0 < l.length) (hl : l.length ≤ 1000000) :
    Calls Tryd.prog 24 #[.slice A l.length c] w fun e w' => ∃ v', e = .returned v' ∧ Ow w' w.heap.size v' l ∧ Below w.heap.size w w' := by
  obtain ⟨ad, rfl, hc⟩ := hr.srcs h0
  obtain ⟨i0, hi, hz0, hz1, hz2⟩ := info_parts infoU
  have A : Hid (∀ j v, (l.map (Value.int .u64))[j]? = some v → w.cell? (ad.add j) = some v) := Lib.hid hc
  clear hc hr
  have q22 : ∀ (w : World) (a : Option Addr) (n c n' c' : Nat), (binOp .eql 23 (.slice a n c) (.slice none n' c')).run Tryd.prog w = .ok (.bool a.isNone) w := fun w a n c n' c' => Lib.run_eql_slice_nil w _ _ a n c n' c' Tryd.underlying23
  go_enter Tryd.func24, Tryd.ntmps24
  go_wp2_with (at_builtin; refine wpList_append_own _ rfl _ _ 23 rfl w.heap.size 22 i0 (.int .u64 0) 1 8 Tryd.underlying23 hi hz0 hz1 hz2 rfl (by decide) _ _ _ rfl (World.ownsRow_made w #[] 0 (Nat.le_refl _) (Nat.zero_le _) rfl) ad l.length c (l.map (Value.int .u64)) rfl ?qc1 ?qc2 ?qc3 ?qc4 ?qc5 ?qc6 ?_)
  case qc1 => simp
  case qc2 => intro j u hj; exact Lib.cell?_alloc_some _ (A.out j u hj)
  case qc3 => intro u hu; obtain ⟨x, _, rfl⟩ := List.mem_map.1 hu; rfl
  case qc4 => unfold maxLen; omega
  case qc5 => omega
  case qc6 => simp
  intro v' w1 hown hgrow hnil
  go_wp2
  go_ret
  refine ⟨v', rfl, Ow.of_owns (by simpa using hown), ?_⟩
  exact ((Below.refl _ w).alloc (Nat.le_refl _) _).grown hgrow (by simp) (by intro k hk; simp [Value.ownBlock] at hk; omega)
end Go.Proofs.YtmbbjoadnapcgaaDoor
