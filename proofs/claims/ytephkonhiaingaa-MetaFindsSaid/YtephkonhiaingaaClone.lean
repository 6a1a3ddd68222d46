/- slices.Clone. -/
import Derived.Test.YtephkonhiaingaaVal
set_option linter.unusedSimpArgs false
set_option linter.unusedVariables false
namespace Go.Proofs.Ytephkonhiaingaa
open Go Go.RowKit

section
variable {w w' : World} {v : Value} {n : Nat} {cs : List Value} {F : Nat → Prop}

theorem Own.empty {e s : TypeId} : Own (w.alloc (.cells #[] e)) e s (.slice (some ⟨w.heap.size, 0, none⟩) 0 0) 0 [] (fun b => b = w.heap.size) :=
  ⟨⟨by simp, .inr ⟨w.heap.size, 0, #[], rfl, Nat.zero_le _, Has.new w _, Nat.le_refl _, Nat.zero_le _, by simp, by simp⟩⟩, fun g hg => by simpa [Value.ownBlock] using hg.symm⟩

theorem info_val : (Try.prog.info? 35).map (fun i => (i.zero, i.size, i.bytes)) = some (some (.agg #[.int .i64 0, .int .i64 0, .string ⟨#[]⟩]), 3, 32) := by kernel_rfl
theorem info_i64 : (Try.prog.info? 2).map (fun i => (i.zero, i.size, i.bytes)) = some (some (.int .i64 0), 1, 8) := by kernel_rfl

set_option maxRecDepth 4000 in
theorem cloneV_ok (h : Rd w v n 3 cs) (h1 : ∀ u ∈ cs, u.oneCell' = true) (hn : n ≤ 1000000000) :
    Ret Try.prog 78 #[v] w fun r w' => Own w' 35 3 r n cs (fun b => w.heap.size ≤ b) ∧ Ext w w' := by
  obtain ⟨A, c, rfl⟩ := h.len
  obtain ⟨i0, hi0, hz0, hz1, hz2⟩ := info_parts info_val
  refine ret_E (n := 8) (S := [0, 1, 2]) 2 Try.func78 rfl rfl rfl rfl ?_
  refine WP.vseq rfl fun K hK => ?_
  refine WP.vregion rfl rfl fun U => ?_
  simp [go_sem]
  refine hK _ _ ?_; clear hK K
  refine WP.vseq rfl fun K hK => ?_
  have heq : ∀ w : World, (binOp .eql 52 (.slice A n c) (.slice none 0 0)).run Try.prog w = .ok (.bool A.isNone) w := fun w => Lib.run_eql_slice_nil w 52 35 A n c 0 0 Try.underlying52
  refine WP.vseq rfl fun K hK => ?_
  refine WP.vregion rfl rfl fun U => ?_
  simp [go_sem, heq]
  refine hK _ _ ?_; clear hK K
  cases A with
  | none =>
    refine WP.vcond_t rfl (by simp [go_sem]) ?_
    refine WP.vseq rfl fun K hK => ?_
    refine WP.vregion rfl rfl fun U => ?_
    simp [go_sem]
    refine hK _ _ ?_; clear hK K
    refine WP.vret rfl ?_
    try simp only [thenE_ret, blockE_ret]
    refine ret_done (by simp [go_sem] <;> rfl) ?_
    have hn0 : n = 0 := by
      rcases Nat.eq_zero_or_pos n with h0 | h0
      · exact h0
      · obtain ⟨g, o, c', hv, _⟩ := h.at_ h0; cases hv
    subst hn0
    have hc : cs = [] := List.eq_nil_of_length_eq_zero (by simpa using h.1)
    subst hc
    exact ⟨Own.nil _ _ _ _, Ext.refl _⟩
  | some a =>
    refine WP.vcond_f rfl (by simp [go_sem]) ?_
    refine WP.vskip rfl ?_
    simp only [go_sem]
    refine hK _ _ ?_; clear hK K
    refine WP.vseq rfl fun K hK => ?_
    refine WP.vregion rfl rfl fun U => ?_
    simp [go_sem]
    refine APPEND.own Try.underlying52 hi0 hz0 hz1 hz2 rfl (by omega) (by omega) Own.empty (h.ext ((Ext.refl _).alloc _)) h1 (le_app (by omega)) ?_
    intro v' w' hown hch
    refine hK _ _ ?_; clear hK K
    refine WP.vret rfl ?_
    try simp only [thenE_ret, blockE_ret]
    refine ret_done (by simp [go_sem] <;> rfl) ?_
    have hx : Ext w w' := Chg.and_then ((Ext.refl w).alloc _) hch (fun b hb h => by omega)
    refine ⟨?_, hx⟩
    have := hown.mono (F' := fun b => w.heap.size ≤ b) (fun b hb => by
      rcases hb with hb | hb
      · omega
      · simp at hb; omega)
    simpa using this

set_option maxRecDepth 4000 in
theorem cloneN_ok (h : Rd w v n 1 cs) (h1 : ∀ u ∈ cs, u.oneCell' = true) (hn : n ≤ 1000000000) :
    Ret Try.prog 79 #[v] w fun r w' => Own w' 2 1 r n cs (fun b => w.heap.size ≤ b) ∧ Ext w w' := by
  obtain ⟨A, c, rfl⟩ := h.len
  obtain ⟨i0, hi0, hz0, hz1, hz2⟩ := info_parts info_i64
  refine ret_E (n := 8) (S := [0, 1, 2]) 2 Try.func79 rfl rfl rfl rfl ?_
  refine WP.vseq rfl fun K hK => ?_
  refine WP.vregion rfl rfl fun U => ?_
  simp [go_sem]
  refine hK _ _ ?_; clear hK K
  refine WP.vseq rfl fun K hK => ?_
  have heq : ∀ w : World, (binOp .eql 54 (.slice A n c) (.slice none 0 0)).run Try.prog w = .ok (.bool A.isNone) w := fun w => Lib.run_eql_slice_nil w 54 2 A n c 0 0 Try.underlying54
  refine WP.vseq rfl fun K hK => ?_
  refine WP.vregion rfl rfl fun U => ?_
  simp [go_sem, heq]
  refine hK _ _ ?_; clear hK K
  cases A with
  | none =>
    refine WP.vcond_t rfl (by simp [go_sem]) ?_
    refine WP.vseq rfl fun K hK => ?_
    refine WP.vregion rfl rfl fun U => ?_
    simp [go_sem]
    refine hK _ _ ?_; clear hK K
    refine WP.vret rfl ?_
    try simp only [thenE_ret, blockE_ret]
    refine ret_done (by simp [go_sem] <;> rfl) ?_
    have hn0 : n = 0 := by
      rcases Nat.eq_zero_or_pos n with h0 | h0
      · exact h0
      · obtain ⟨g, o, c', hv, _⟩ := h.at_ h0; cases hv
    subst hn0
    have hc : cs = [] := List.eq_nil_of_length_eq_zero (by simpa using h.1)
    subst hc
    exact ⟨Own.nil _ _ _ _, Ext.refl _⟩
  | some a =>
    refine WP.vcond_f rfl (by simp [go_sem]) ?_
    refine WP.vskip rfl ?_
    simp only [go_sem]
    refine hK _ _ ?_; clear hK K
    refine WP.vseq rfl fun K hK => ?_
    refine WP.vregion rfl rfl fun U => ?_
    simp [go_sem]
    refine APPEND.own Try.underlying54 hi0 hz0 hz1 hz2 rfl (by omega) (by omega) Own.empty (h.ext ((Ext.refl _).alloc _)) h1 (le_app (by omega)) ?_
    intro v' w' hown hch
    refine hK _ _ ?_; clear hK K
    refine WP.vret rfl ?_
    try simp only [thenE_ret, blockE_ret]
    refine ret_done (by simp [go_sem] <;> rfl) ?_
    have hx : Ext w w' := Chg.and_then ((Ext.refl w).alloc _) hch (fun b hb h => by omega)
    refine ⟨?_, hx⟩
    have := hown.mono (F' := fun b => w.heap.size ≤ b) (fun b hb => by
      rcases hb with hb | hb
      · omega
      · simp at hb; omega)
    simpa using this
end
end Go.Proofs.Ytephkonhiaingaa
