/- meta: Arith and Order of what is no cell. -/
import Derived.Test.YtephkonhiaingaaMeta
set_option linter.unusedSimpArgs false
set_option linter.unusedVariables false
namespace Go.Proofs.Ytephkonhiaingaa
open Go Go.RowKit

section
variable {w w' : World} {b h : Nat} {F F' L L' T T' : Nat → Prop} {c : CellM} {vv nv cv fv : Value} {H H' : HeapM} {col : Nat → Nat} {xs : List Val} {D : Dict} {v key val : Val}

set_option maxRecDepth 4000 in
set_option maxHeartbeats 2000000 in
theorem mArith_plain {a b x : Val} {op e : Int} (ha : a.k ≠ 4) (hA : op = 10 → ∀ w, Ret Try.prog 51 #[a.v, b.v] w fun r w' => r = .tuple #[x.v, .int .i64 e] ∧ Ext w w')
    (hR : op ≠ 10 → ∀ w, Ret Try.prog 50 #[.int .i64 op, a.v, b.v] w fun r w' => r = .tuple #[x.v, .int .i64 e] ∧ Ext w w') :
    Ret Try.prog 47 #[.pointer (some ⟨h, 0, none⟩), .int .i64 op, a.v, b.v] w fun r w' => r = .tuple #[x.v, vNull.v, .int .i64 e] ∧ Ext w w' := by
  refine ret_E (n := 54) (S := [0, 1, 2, 3, 4, 5, 6, 7, 8, 9, 10, 11, 12, 13, 14]) 11 Try.func47 rfl rfl rfl rfl ?_
  refine WP.vseq rfl fun K hK => ?_
  refine WP.vregion rfl rfl fun U => ?_
  simp [go_sem]
  refine hK _ _ ?_; clear hK K
  have ha0 : Has ((((w.alloc (vObj a)).alloc (vObj b)).alloc (vObj vNull)).alloc (vObj vNull)) w.heap.size (vObj a) := (((Has.new w _).alloc _).alloc _).alloc _
  have hb0 : Has ((((w.alloc (vObj a)).alloc (vObj b)).alloc (vObj vNull)).alloc (vObj vNull)) (w.heap.size + 1) (vObj b) := by simpa using ((Has.new (w.alloc (vObj a)) (vObj b)).alloc (vObj vNull)).alloc (vObj vNull)
  have hp8 : Has ((((w.alloc (vObj a)).alloc (vObj b)).alloc (vObj vNull)).alloc (vObj vNull)) (w.heap.size + 1 + 1) (vObj vNull) := by simpa using (Has.new ((w.alloc (vObj a)).alloc (vObj b)) (vObj vNull)).alloc (vObj vNull)
  have hp9 : Has ((((w.alloc (vObj a)).alloc (vObj b)).alloc (vObj vNull)).alloc (vObj vNull)) (w.heap.size + 1 + 1 + 1) (vObj vNull) := by simpa using Has.new (((w.alloc (vObj a)).alloc (vObj b)).alloc (vObj vNull)) (vObj vNull)
  have hx0 : Ext w ((((w.alloc (vObj a)).alloc (vObj b)).alloc (vObj vNull)).alloc (vObj vNull)) := ((((Ext.refl _).alloc _).alloc _).alloc _).alloc _
  change WP _ _ _ _ _ _ ((((w.alloc (vObj a)).alloc (vObj b)).alloc (vObj vNull)).alloc (vObj vNull))
  generalize ((((w.alloc (vObj a)).alloc (vObj b)).alloc (vObj vNull)).alloc (vObj vNull)) = w1 at ha0 hb0 hp8 hp9 hx0
  have hac := ha0.cell
  refine WP.vseq rfl fun K hK => ?_
  refine WP.vseq rfl fun K hK => ?_
  refine WP.vregion rfl rfl fun U => ?_
  simp [go_sem, hac]
  refine hK _ _ ?_; clear hK K
  refine WP.vcond_f rfl (by simp [go_sem, ha]) ?_
  refine WP.vskip rfl ?_
  simp only [go_sem]
  refine hK _ _ ?_; clear hK K
  refine WP.vseq rfl fun K hK => ?_
  refine WP.vregion rfl rfl fun U => ?_
  simp [go_sem]
  refine hK _ _ ?_; clear hK K
  have hn0 := Has.new w1 (vObj vNull)
  have hs1 : w.heap.size + 1 + 1 + 1 < w1.heap.size := hp9.lt
  change WP _ _ _ _ _ _ (w1.alloc (vObj vNull))
  generalize w1.heap.size = nb at hn0 hs1
  replace ha0 := ha0.alloc (vObj vNull)
  replace hb0 := hb0.alloc (vObj vNull)
  replace hp8 := hp8.alloc (vObj vNull)
  replace hp9 := hp9.alloc (vObj vNull)
  replace hx0 := hx0.alloc (vObj vNull)
  clear hac
  generalize w1.alloc (vObj vNull) = w2 at ha0 hb0 hp8 hp9 hx0 hn0
  have hac := ha0.cell
  have hbc := hb0.cell
  refine WP.vseq rfl fun K hK => ?_
  refine WP.vregion rfl rfl fun U => ?_
  simp [go_sem]
  refine hK _ _ ?_; clear hK K
  refine WP.vseq rfl fun K hK => ?_
  have J : ∀ (T' : List (Nat × Value)) (U' : Nat → Value) (w' : World), Has w' nb (vObj x) → Has w' (w.heap.size + 1 + 1) (vObj vNull) → Has w' (w.heap.size + 1 + 1 + 1) (vObj vNull) → Ext w w' →
      K ⟨[.pointer (some ⟨h, 0, none⟩), .int .i64 op, a.v, b.v, undef, undef, .pointer (some ⟨w.heap.size, 0, none⟩), .pointer (some ⟨w.heap.size + 1, 0, none⟩), .pointer (some ⟨w.heap.size + 1 + 1, 0, none⟩), .pointer (some ⟨w.heap.size + 1 + 1 + 1, 0, none⟩), .int .i64 0,
        undef, undef, .pointer (some ⟨nb, 0, none⟩), .int .i64 e], T', U'⟩ w' := by
    intro T' U' w3 hn h8 h9 hx3
    refine hK _ _ ?_
    clear hK K
    haveI : Nonempty (SW (fun w' => Has w' nb (vObj x))) := ⟨⟨_, hn⟩⟩
    have hwc : ∀ w' : SW (fun w' => Has w' nb (vObj x)), ∀ i, w'.w.cell? ⟨nb, i, none⟩ = #[.int .i64 x.k, .int .i64 x.n, .string x.t][i]? := fun w' => w'.h.cell
    refine WP.vseq rfl fun K hK => ?_
    refine WP.vdraw rfl (fun w' => Has w' nb (vObj x)) 1000 [(0, true), (2, true), (1, false), (3, false), (4, false), (5, true)] (by kernel_rfl) (by kernel_rfl) hn.drew fun U => ?_
    simp [go_sem, hwc]
    refine (Null_ok _).mono ?_
    rintro r w5 ⟨rfl, hx5⟩
    replace hx5 := ((Ext.refl _).drew).trans hx5
    have hn5 := hn.ext hx5
    have h85 := h8.ext hx5
    have h95 := h9.ext hx5
    have h95' := h95.far3 (rb := w.heap.size + 1 + 1) (q := 0) (x := .int .i64 x.k) (y := .int .i64 x.n) (z := .string x.t) (by omega)
    try simp [go_sem, h85.frozen, h85.cell]
    refine ⟨hn5, hn5.far3 (q := 0) (by omega), ?_⟩
    try simp [go_sem, h95'.frozen, h95'.cell, h95.frozen, h95.cell]
    refine ⟨(hn5.far3 (q := 0) (by omega)).far3 (q := 0) (by omega), ?_⟩
    refine hK _ _ ?_; clear hK K
    have h85' := (h85.put3 x).far3 (rb := w.heap.size + 1 + 1 + 1) (q := 0) (x := .int .i64 0) (y := .int .i64 0) (z := .string ⟨#[]⟩) (by omega)
    have h95'' := h95'.put3 vNull
    refine WP.vret rfl ?_
    try simp only [thenE_ret, blockE_ret]
    refine ret_done (by simp [go_sem, h85'.cell, h95''.cell] <;> rfl) ?_
    exact ⟨rfl, ((hx3.trans hx5).put3 (by omega)).put3 (by omega)⟩
  clear hK
  by_cases hop : op = 10
  · refine WP.vseq rfl fun K hK => ?_
    refine WP.vregion rfl rfl fun U => ?_
    simp [go_sem, hop]
    refine hK _ _ ?_; clear hK K
    refine WP.vcond_t rfl (by simp [go_sem]) ?_
    refine WP.vregion rfl rfl fun U => ?_
    simp [go_sem, hac, hbc]
    refine (hA hop _).mono ?_
    rintro r w3 ⟨rfl, hx3⟩
    have hn3 := hn0.ext hx3
    try simp [go_sem, hn3.frozen, hn3.cell]
    rw [← hop]
    exact J _ _ _ (hn3.put3 x) ((hp8.ext hx3).far3 (q := 0) (by omega)) ((hp9.ext hx3).far3 (q := 0) (by omega)) ((hx0.trans hx3).put3 (by omega))
  · refine WP.vseq rfl fun K hK => ?_
    refine WP.vregion rfl rfl fun U => ?_
    simp [go_sem, hop]
    refine hK _ _ ?_; clear hK K
    refine WP.vcond_f rfl (by simp [go_sem, hop]) ?_
    refine WP.vregion rfl rfl fun U => ?_
    simp [go_sem, hac, hbc]
    refine (hR hop _).mono ?_
    rintro r w3 ⟨rfl, hx3⟩
    have hn3 := hn0.ext hx3
    try simp [go_sem, hn3.frozen, hn3.cell]
    exact J _ _ _ (hn3.put3 x) ((hp8.ext hx3).far3 (q := 0) (by omega)) ((hp9.ext hx3).far3 (q := 0) (by omega)) ((hx0.trans hx3).put3 (by omega))

/-- The name under which an order is asked for. -/
abbrev cmpName : ByteArray := ⟨#[95, 99, 109, 112]⟩

set_option maxRecDepth 4000 in
set_option maxHeartbeats 2000000 in
theorem mOrder_plain {a b : Val} {n e : Int} (ha : a = b ∨ a.k ≠ 4 ∨ b.k = 0) (hC : ∀ w, Ret Try.prog 49 #[a.v, b.v] w fun r w' => r = .tuple #[.int .i64 n, .int .i64 e] ∧ Ext w w') :
    Ret Try.prog 48 #[.pointer (some ⟨h, 0, none⟩), a.v, b.v] w fun r w' => r = .tuple #[.int .i64 n, vNull.v, .int .i64 e] ∧ Ext w w' := by
  refine ret_E (n := 44) (S := [0, 1, 2, 3, 4, 5, 6, 7, 8, 9, 10, 11, 12]) 10 Try.func48 rfl rfl rfl rfl ?_
  refine WP.vseq rfl fun K hK => ?_
  refine WP.vregion rfl rfl fun U => ?_
  simp [go_sem]
  refine hK _ _ ?_; clear hK K
  have ha0 : Has (((w.alloc (vObj a)).alloc (vObj b)).alloc (vObj vNull)) w.heap.size (vObj a) := ((Has.new w _).alloc _).alloc _
  have hb0 : Has (((w.alloc (vObj a)).alloc (vObj b)).alloc (vObj vNull)) (w.heap.size + 1) (vObj b) := by simpa using (Has.new (w.alloc (vObj a)) (vObj b)).alloc _
  have hr0 : Has (((w.alloc (vObj a)).alloc (vObj b)).alloc (vObj vNull)) (w.heap.size + 1 + 1) (vObj vNull) := by simpa using Has.new ((w.alloc (vObj a)).alloc (vObj b)) (vObj vNull)
  have hx0 : Ext w (((w.alloc (vObj a)).alloc (vObj b)).alloc (vObj vNull)) := (((Ext.refl _).alloc _).alloc _).alloc _
  change WP _ _ _ _ _ _ (((w.alloc (vObj a)).alloc (vObj b)).alloc (vObj vNull))
  generalize (((w.alloc (vObj a)).alloc (vObj b)).alloc (vObj vNull)) = w1 at ha0 hb0 hr0 hx0
  have hac := ha0.cell
  have hbc := hb0.cell
  refine WP.vseq rfl fun K hK => ?_
  have J : ∀ (T' : List (Nat × Value)) (U' : Nat → Value) (w' : World), Has w' w.heap.size (vObj a) → Has w' (w.heap.size + 1) (vObj b) → Has w' (w.heap.size + 1 + 1) (vObj vNull) → Ext w w' →
      K ⟨[.pointer (some ⟨h, 0, none⟩), a.v, b.v, undef, .pointer (some ⟨w.heap.size, 0, none⟩), .pointer (some ⟨w.heap.size + 1, 0, none⟩), .int .i64 0, .pointer (some ⟨w.heap.size + 1 + 1, 0, none⟩), .int .i64 0, undef, undef, undef, undef], T', U'⟩ w' := by
    intro T' U' w3 ha3 hb3 hr3 hx3
    refine hK _ _ ?_
    clear hK K
    have hac := ha3.cell
    have hbc := hb3.cell
    refine WP.vseq rfl fun K hK => ?_
    refine WP.vregion rfl rfl fun U => ?_
    simp [go_sem, hac, hbc]
    refine (hC _).mono ?_
    rintro r w4 ⟨rfl, hx4⟩
    have hr4 := hr3.ext hx4
    replace hx3 := hx3.trans hx4
    try simp [go_sem]
    refine hK _ _ ?_; clear hK K
    refine WP.vseq rfl fun K hK => ?_
    refine WP.vregion rfl rfl fun U => ?_
    simp [go_sem]
    refine (Null_ok _).mono ?_
    rintro r w5 ⟨rfl, hx5⟩
    have hr5 := hr4.ext hx5
    replace hx3 := hx3.trans hx5
    try simp [go_sem, hr5.frozen, hr5.cell]
    refine hK _ _ ?_; clear hK K
    refine WP.vret rfl ?_
    try simp only [thenE_ret, blockE_ret]
    refine ret_done (by simp [go_sem, (hr5.setCell 0 (.int .i64 0)).cell] <;> rfl) ?_
    exact ⟨rfl, hx3.put3 (by omega)⟩
  clear hK
  refine WP.vseq rfl fun K hK => ?_
  refine WP.vregion rfl rfl fun U => ?_
  simp [go_sem, hac, hbc]
  refine (Same_ok _ a b).mono ?_
  rintro r w2 ⟨rfl, hx2⟩
  replace ha0 := ha0.ext hx2
  replace hb0 := hb0.ext hx2
  replace hr0 := hr0.ext hx2
  replace hx0 := hx0.trans hx2
  clear hac hbc
  have hac := ha0.cell
  have hbc := hb0.cell
  by_cases hab : a = b
  · try simp [go_sem, hac, hbc, hab]
    refine hK _ _ ?_; clear hK K
    refine WP.vcond_f rfl (by simp [go_sem]) ?_
    refine WP.vskip rfl ?_
    simp only [go_sem]
    subst hab
    exact J _ _ _ ha0 hb0 hr0 hx0
  · by_cases ha4 : a.k = 4
    · have hb4 : b.k = 0 := by rcases ha with h | h | h; exact absurd h hab; exact absurd ha4 h; exact h
      try simp [go_sem, hac, hbc, hab, ha4, hb4]
      refine hK _ _ ?_; clear hK K
      refine WP.vcond_f rfl (by simp [go_sem]) ?_
      refine WP.vskip rfl ?_
      simp only [go_sem]
      exact J _ _ _ ha0 hb0 hr0 hx0
    · try simp [go_sem, hac, hbc, hab, ha4]
      refine hK _ _ ?_; clear hK K
      refine WP.vcond_f rfl (by simp [go_sem]) ?_
      refine WP.vskip rfl ?_
      simp only [go_sem]
      exact J _ _ _ ha0 hb0 hr0 hx0
end
end Go.Proofs.Ytephkonhiaingaa
