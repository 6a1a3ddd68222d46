/- meta: texts, operators' names, Arith, Order. -/
import Derived.Test.YtephkonhiaingaaMFind
import Derived.Test.YtephkonhiaingaaSetDel
set_option linter.unusedSimpArgs false
set_option linter.unusedVariables false
namespace Go.Proofs.Ytephkonhiaingaa
open Go Go.RowKit

section
variable {w w' : World} {b h : Nat} {F F' L L' T T' : Nat → Prop} {c : CellM} {vv nv cv fv : Value} {H H' : HeapM} {col : Nat → Nat} {xs : List Val} {D : Dict} {v key val : Val}

def textG (e : Int) : ByteArray :=
  if e = 3 then ⟨#[110, 111, 32, 115, 117, 99, 104, 32, 115, 108, 111, 116]⟩
  else if e = 1 then ⟨#[111, 117, 116, 32, 111, 102, 32, 114, 97, 110, 103, 101]⟩
  else if e = 10 then ⟨#[100, 105, 118, 105, 115, 105, 111, 110, 32, 98, 121, 32, 122, 101, 114, 111]⟩
  else if e = 2 ∨ e = 6 ∨ e = 4 then ⟨#[116, 111, 111, 32, 108, 111, 110, 103]⟩
  else ⟨#[119, 114, 111, 110, 103, 32, 116, 121, 112, 101]⟩

theorem mText_ok (w : World) (e : Int) : Ret Try.prog 43 #[.int .i64 e] w fun r w' => r = .string (textG e) ∧ w' = w := by
  refine ret_E (n := 14) (S := [0, 1, 2, 3]) 3 Try.func43 rfl rfl rfl rfl ?_
  refine WP.vseq rfl fun K hK => ?_
  refine WP.vregion rfl rfl fun U => ?_
  simp [go_sem]
  refine hK _ _ ?_; clear hK K
  refine WP.vseq rfl fun K hK => ?_
  refine WP.vseq rfl fun K hK => ?_
  refine WP.vregion rfl rfl fun U => ?_
  simp [go_sem]
  refine hK _ _ ?_; clear hK K
  refine WP.vblock rfl ?_
  by_cases h3 : e = 3
  · refine WP.vseq rfl fun K hK => ?_
    refine WP.vregion rfl rfl fun U => ?_
    simp [go_sem]
    refine hK _ _ ?_; clear hK K
    refine WP.vcond_t rfl (by simp [go_sem, h3]) ?_
    refine WP.vseq rfl fun K hK => ?_
    refine WP.vregion rfl rfl fun U => ?_
    simp [go_sem]
    refine hK _ _ ?_; clear hK K
    refine WP.vret rfl ?_
    try simp only [thenE_ret, blockE_ret]
    refine ret_done (by simp [go_sem] <;> rfl) ?_
    exact ⟨by simp [textG, *], rfl⟩
  refine WP.vseq rfl fun K hK => ?_
  refine WP.vregion rfl rfl fun U => ?_
  simp [go_sem]
  refine hK _ _ ?_; clear hK K
  refine WP.vcond_f rfl (by simp [go_sem, h3]) ?_
  by_cases h1 : e = 1
  · refine WP.vseq rfl fun K hK => ?_
    refine WP.vregion rfl rfl fun U => ?_
    simp [go_sem]
    refine hK _ _ ?_; clear hK K
    refine WP.vcond_t rfl (by simp [go_sem, h1]) ?_
    refine WP.vseq rfl fun K hK => ?_
    refine WP.vregion rfl rfl fun U => ?_
    simp [go_sem]
    refine hK _ _ ?_; clear hK K
    refine WP.vret rfl ?_
    try simp only [thenE_ret, blockE_ret]
    refine ret_done (by simp [go_sem] <;> rfl) ?_
    exact ⟨by simp [textG, *], rfl⟩
  refine WP.vseq rfl fun K hK => ?_
  refine WP.vregion rfl rfl fun U => ?_
  simp [go_sem]
  refine hK _ _ ?_; clear hK K
  refine WP.vcond_f rfl (by simp [go_sem, h1]) ?_
  by_cases h10 : e = 10
  · refine WP.vseq rfl fun K hK => ?_
    refine WP.vregion rfl rfl fun U => ?_
    simp [go_sem]
    refine hK _ _ ?_; clear hK K
    refine WP.vcond_t rfl (by simp [go_sem, h10]) ?_
    refine WP.vseq rfl fun K hK => ?_
    refine WP.vregion rfl rfl fun U => ?_
    simp [go_sem]
    refine hK _ _ ?_; clear hK K
    refine WP.vret rfl ?_
    try simp only [thenE_ret, blockE_ret]
    refine ret_done (by simp [go_sem] <;> rfl) ?_
    exact ⟨by simp [textG, *], rfl⟩
  refine WP.vseq rfl fun K hK => ?_
  refine WP.vregion rfl rfl fun U => ?_
  simp [go_sem]
  refine hK _ _ ?_; clear hK K
  refine WP.vcond_f rfl (by simp [go_sem, h10]) ?_
  refine WP.vseq rfl fun K hK => ?_
  refine WP.vseq rfl fun K hK => ?_
  refine WP.vregion rfl rfl fun U => ?_
  simp [go_sem]
  refine hK _ _ ?_; clear hK K
  by_cases h2 : e = 2
  · refine WP.vcond_t rfl (by simp [go_sem, h2]) ?_
    refine WP.vskip rfl ?_
    simp only [go_sem]
    refine hK _ _ ?_; clear hK K
    refine WP.vcond_t rfl (by simp [go_sem, h2]) ?_
    refine WP.vseq rfl fun K hK => ?_
    refine WP.vregion rfl rfl fun U => ?_
    simp [go_sem]
    refine hK _ _ ?_; clear hK K
    refine WP.vret rfl ?_
    try simp only [thenE_ret, blockE_ret]
    refine ret_done (by simp [go_sem] <;> rfl) ?_
    exact ⟨by simp [textG, *], rfl⟩
  refine WP.vcond_f rfl (by simp [go_sem, h2]) ?_
  refine WP.vseq rfl fun K hK => ?_
  refine WP.vregion rfl rfl fun U => ?_
  simp [go_sem]
  refine hK _ _ ?_; clear hK K
  by_cases h6 : e = 6
  · refine WP.vcond_t rfl (by simp [go_sem, h6]) ?_
    refine WP.vskip rfl ?_
    simp only [go_sem]
    refine hK _ _ ?_; clear hK K
    refine WP.vcond_t rfl (by simp [go_sem, h6]) ?_
    refine WP.vseq rfl fun K hK => ?_
    refine WP.vregion rfl rfl fun U => ?_
    simp [go_sem]
    refine hK _ _ ?_; clear hK K
    refine WP.vret rfl ?_
    try simp only [thenE_ret, blockE_ret]
    refine ret_done (by simp [go_sem] <;> rfl) ?_
    exact ⟨by simp [textG, *], rfl⟩
  refine WP.vcond_f rfl (by simp [go_sem, h6]) ?_
  by_cases h4 : e = 4
  · refine WP.vregion rfl rfl fun U => ?_
    simp [go_sem, h4]
    refine hK _ _ ?_; clear hK K
    refine WP.vcond_t rfl (by simp [go_sem, h4]) ?_
    refine WP.vseq rfl fun K hK => ?_
    refine WP.vregion rfl rfl fun U => ?_
    simp [go_sem]
    refine hK _ _ ?_; clear hK K
    refine WP.vret rfl ?_
    try simp only [thenE_ret, blockE_ret]
    refine ret_done (by simp [go_sem] <;> rfl) ?_
    exact ⟨by simp [textG, *], rfl⟩
  refine WP.vregion rfl rfl fun U => ?_
  simp [go_sem, h4]
  refine hK _ _ ?_; clear hK K
  refine WP.vcond_f rfl (by simp [go_sem, h4]) ?_
  refine WP.vskip rfl ?_
  simp only [go_sem]
  refine hK _ _ ?_; clear hK K
  refine WP.vseq rfl fun K hK => ?_
  refine WP.vregion rfl rfl fun U => ?_
  simp [go_sem]
  refine hK _ _ ?_; clear hK K
  refine WP.vret rfl ?_
  try simp only [thenE_ret, blockE_ret]
  refine ret_done (by simp [go_sem] <;> rfl) ?_
  exact ⟨by simp [textG, *], rfl⟩

def opG (op : Int) : ByteArray :=
  if op = 10 then ⟨#[95, 97, 100, 100]⟩ else if op = 0 then ⟨#[95, 115, 117, 98]⟩ else if op = 1 then ⟨#[95, 109, 117, 108]⟩
  else if op = 2 then ⟨#[95, 100, 105, 118]⟩ else if op = 3 then ⟨#[95, 109, 111, 100, 117, 108, 111]⟩ else ⟨#[]⟩

theorem mOp_ok (w : World) (op : Int) : Ret Try.prog 46 #[.int .i64 op] w fun r w' => r = .string (opG op) ∧ w' = w := by
  refine ret_E (n := 14) (S := [0, 1, 2, 3]) 3 Try.func46 rfl rfl rfl rfl ?_
  refine WP.vseq rfl fun K hK => ?_
  refine WP.vregion rfl rfl fun U => ?_
  simp [go_sem]
  refine hK _ _ ?_; clear hK K
  refine WP.vseq rfl fun K hK => ?_
  refine WP.vseq rfl fun K hK => ?_
  refine WP.vregion rfl rfl fun U => ?_
  simp [go_sem]
  refine hK _ _ ?_; clear hK K
  refine WP.vblock rfl ?_
  by_cases h10 : op = 10
  · refine WP.vseq rfl fun K hK => ?_
    refine WP.vregion rfl rfl fun U => ?_
    simp [go_sem]
    refine hK _ _ ?_; clear hK K
    refine WP.vcond_t rfl (by simp [go_sem, h10]) ?_
    refine WP.vseq rfl fun K hK => ?_
    refine WP.vregion rfl rfl fun U => ?_
    simp [go_sem]
    refine hK _ _ ?_; clear hK K
    refine WP.vret rfl ?_
    try simp only [thenE_ret, blockE_ret]
    refine ret_done (by simp [go_sem] <;> rfl) ?_
    exact ⟨by simp [opG, *], rfl⟩
  refine WP.vseq rfl fun K hK => ?_
  refine WP.vregion rfl rfl fun U => ?_
  simp [go_sem]
  refine hK _ _ ?_; clear hK K
  refine WP.vcond_f rfl (by simp [go_sem, h10]) ?_
  by_cases h0 : op = 0
  · refine WP.vseq rfl fun K hK => ?_
    refine WP.vregion rfl rfl fun U => ?_
    simp [go_sem]
    refine hK _ _ ?_; clear hK K
    refine WP.vcond_t rfl (by simp [go_sem, h0]) ?_
    refine WP.vseq rfl fun K hK => ?_
    refine WP.vregion rfl rfl fun U => ?_
    simp [go_sem]
    refine hK _ _ ?_; clear hK K
    refine WP.vret rfl ?_
    try simp only [thenE_ret, blockE_ret]
    refine ret_done (by simp [go_sem] <;> rfl) ?_
    exact ⟨by simp [opG, *], rfl⟩
  refine WP.vseq rfl fun K hK => ?_
  refine WP.vregion rfl rfl fun U => ?_
  simp [go_sem]
  refine hK _ _ ?_; clear hK K
  refine WP.vcond_f rfl (by simp [go_sem, h0]) ?_
  by_cases h1 : op = 1
  · refine WP.vseq rfl fun K hK => ?_
    refine WP.vregion rfl rfl fun U => ?_
    simp [go_sem]
    refine hK _ _ ?_; clear hK K
    refine WP.vcond_t rfl (by simp [go_sem, h1]) ?_
    refine WP.vseq rfl fun K hK => ?_
    refine WP.vregion rfl rfl fun U => ?_
    simp [go_sem]
    refine hK _ _ ?_; clear hK K
    refine WP.vret rfl ?_
    try simp only [thenE_ret, blockE_ret]
    refine ret_done (by simp [go_sem] <;> rfl) ?_
    exact ⟨by simp [opG, *], rfl⟩
  refine WP.vseq rfl fun K hK => ?_
  refine WP.vregion rfl rfl fun U => ?_
  simp [go_sem]
  refine hK _ _ ?_; clear hK K
  refine WP.vcond_f rfl (by simp [go_sem, h1]) ?_
  by_cases h2 : op = 2
  · refine WP.vseq rfl fun K hK => ?_
    refine WP.vregion rfl rfl fun U => ?_
    simp [go_sem]
    refine hK _ _ ?_; clear hK K
    refine WP.vcond_t rfl (by simp [go_sem, h2]) ?_
    refine WP.vseq rfl fun K hK => ?_
    refine WP.vregion rfl rfl fun U => ?_
    simp [go_sem]
    refine hK _ _ ?_; clear hK K
    refine WP.vret rfl ?_
    try simp only [thenE_ret, blockE_ret]
    refine ret_done (by simp [go_sem] <;> rfl) ?_
    exact ⟨by simp [opG, *], rfl⟩
  refine WP.vseq rfl fun K hK => ?_
  refine WP.vregion rfl rfl fun U => ?_
  simp [go_sem]
  refine hK _ _ ?_; clear hK K
  refine WP.vcond_f rfl (by simp [go_sem, h2]) ?_
  by_cases h3 : op = 3
  · refine WP.vseq rfl fun K hK => ?_
    refine WP.vregion rfl rfl fun U => ?_
    simp [go_sem]
    refine hK _ _ ?_; clear hK K
    refine WP.vcond_t rfl (by simp [go_sem, h3]) ?_
    refine WP.vseq rfl fun K hK => ?_
    refine WP.vregion rfl rfl fun U => ?_
    simp [go_sem]
    refine hK _ _ ?_; clear hK K
    refine WP.vret rfl ?_
    try simp only [thenE_ret, blockE_ret]
    refine ret_done (by simp [go_sem] <;> rfl) ?_
    exact ⟨by simp [opG, *], rfl⟩
  refine WP.vseq rfl fun K hK => ?_
  refine WP.vregion rfl rfl fun U => ?_
  simp [go_sem]
  refine hK _ _ ?_; clear hK K
  refine WP.vcond_f rfl (by simp [go_sem, h3]) ?_
  refine WP.vskip rfl ?_
  simp only [go_sem]
  refine hK _ _ ?_; clear hK K
  refine WP.vseq rfl fun K hK => ?_
  refine WP.vregion rfl rfl fun U => ?_
  simp [go_sem]
  refine hK _ _ ?_; clear hK K
  refine WP.vret rfl ?_
  try simp only [thenE_ret, blockE_ret]
  refine ret_done (by simp [go_sem] <;> rfl) ?_
  exact ⟨by simp [opG, *], rfl⟩

theorem nAdd_ok (w : World) (a b : Int) : Ret Try.prog 93 #[.int .i64 a, .int .i64 b] w fun r w' => r = .int .i64 (IntKind.i64.wrap (a + b)) ∧ w' = w := by
  refine ret_E (n := 8) (S := [0, 1, 2, 3, 4]) 3 Try.func93 rfl rfl rfl rfl ?_
  refine WP.vseq rfl fun K hK => ?_
  refine WP.vregion rfl rfl fun U => ?_
  simp [go_sem]
  refine hK _ _ ?_; clear hK K
  refine WP.vseq rfl fun K hK => ?_
  refine WP.vregion rfl rfl fun U => ?_
  simp [go_sem]
  refine hK _ _ ?_; clear hK K
  refine WP.vret rfl ?_
  try simp only [thenE_ret, blockE_ret]
  refine ret_done (by simp [go_sem] <;> rfl) ?_
  exact ⟨rfl, rfl⟩

set_option maxRecDepth 4000 in
theorem vAdd_int (w : World) (a b : Val) (ha : a.k = 2) (hb : b.k = 2) : Ret Try.prog 51 #[a.v, b.v] w fun r w' => r = .tuple #[(vInt (IntKind.i64.wrap (a.n + b.n))).v, .int .i64 0] ∧ Ext w w' := by
  refine ret_E (n := 64) (S := [0, 1, 2, 3, 4, 5, 6, 7, 8, 9, 10]) 9 Try.func51 rfl rfl rfl rfl ?_
  refine WP.vseq rfl fun K hK => ?_
  refine WP.vregion rfl rfl fun U => ?_
  simp [go_sem]
  refine hK _ _ ?_; clear hK K
  have ha0 : Has (((w.alloc (vObj a)).alloc (vObj b)).alloc (vObj vNull)) w.heap.size (vObj a) := ((Has.new w _).alloc _).alloc _
  have hb0 : Has (((w.alloc (vObj a)).alloc (vObj b)).alloc (vObj vNull)) (w.heap.size + 1) (vObj b) := by simpa using (Has.new (w.alloc (vObj a)) (vObj b)).alloc _
  have hr0 : Has (((w.alloc (vObj a)).alloc (vObj b)).alloc (vObj vNull)) (w.heap.size + 1 + 1) (vObj vNull) := by simpa using Has.new ((w.alloc (vObj a)).alloc (vObj b)) (vObj vNull)
  have hx0 : Ext w (((w.alloc (vObj a)).alloc (vObj b)).alloc (vObj vNull)) := (((Ext.refl _).alloc _).alloc _).alloc _
  change WP _ _ _ _ _ _ (((w.alloc (vObj a)).alloc (vObj b)).alloc (vObj vNull))
  generalize (((w.alloc (vObj a)).alloc (vObj b)).alloc (vObj vNull)) = w1 at ha0 hb0 hr0 hx0
  have hac := ha0.cell
  have hbc := hb0.cell
  refine WP.vseq rfl fun K hK => ?_
  refine WP.vseq rfl fun K hK => ?_
  refine WP.vregion rfl rfl fun U => ?_
  simp [go_sem, hac, hbc, ha, hb]
  refine hK _ _ ?_; clear hK K
  refine WP.vcond_t rfl (by simp [go_sem]) ?_
  refine WP.vseq rfl fun K hK => ?_
  refine WP.vregion rfl rfl fun U => ?_
  simp [go_sem, hac, hbc]
  refine (nAdd_ok _ _ _).mono ?_
  rintro r w2 ⟨rfl, rfl⟩
  try simp [go_sem]
  refine (Int_ok _ _).mono ?_
  rintro r w3 ⟨rfl, hx3⟩
  have hr3 := hr0.ext hx3
  try simp [go_sem, hr3.frozen, hr3.cell]
  refine hK _ _ ?_; clear hK K
  refine WP.vret rfl ?_
  try simp only [thenE_ret, blockE_ret]
  refine ret_done (by simp [go_sem, (hr3.setCell 0 (.int .i64 2)).cell] <;> rfl) ?_
  exact ⟨rfl, (hx0.trans hx3).put3 (by omega)⟩

theorem nCompare_ok (w : World) (a b : Int) : Ret Try.prog 81 #[.int .i64 a, .int .i64 b] w fun r w' => r = .int .i64 (if a < b then -1 else if b < a then 1 else 0) ∧ w' = w := by
  refine ret_E (n := 13) (S := [0, 1, 2, 3, 4]) 3 Try.func81 rfl rfl rfl rfl ?_
  refine WP.vseq rfl fun K hK => ?_
  refine WP.vregion rfl rfl fun U => ?_
  simp [go_sem]
  refine hK _ _ ?_; clear hK K
  refine WP.vseq rfl fun K hK => ?_
  refine WP.vblock rfl ?_
  by_cases h1 : a < b
  · refine WP.vseq rfl fun K hK => ?_
    refine WP.vregion rfl rfl fun U => ?_
    simp [go_sem]
    refine hK _ _ ?_; clear hK K
    refine WP.vcond_t rfl (by simp [go_sem, h1]) ?_
    refine WP.vseq rfl fun K hK => ?_
    refine WP.vregion rfl rfl fun U => ?_
    simp [go_sem]
    refine hK _ _ ?_; clear hK K
    refine WP.vret rfl ?_
    try simp only [thenE_ret, blockE_ret]
    refine ret_done (by simp [go_sem] <;> rfl) ?_
    exact ⟨by rw [if_pos h1], rfl⟩
  refine WP.vseq rfl fun K hK => ?_
  refine WP.vregion rfl rfl fun U => ?_
  simp [go_sem]
  refine hK _ _ ?_; clear hK K
  refine WP.vcond_f rfl (by simp [go_sem, h1] <;> omega) ?_
  by_cases h2 : b < a
  · refine WP.vseq rfl fun K hK => ?_
    refine WP.vregion rfl rfl fun U => ?_
    simp [go_sem]
    refine hK _ _ ?_; clear hK K
    refine WP.vcond_t rfl (by simp [go_sem, h2]) ?_
    refine WP.vseq rfl fun K hK => ?_
    refine WP.vregion rfl rfl fun U => ?_
    simp [go_sem]
    refine hK _ _ ?_; clear hK K
    refine WP.vret rfl ?_
    try simp only [thenE_ret, blockE_ret]
    refine ret_done (by simp [go_sem] <;> rfl) ?_
    exact ⟨by rw [if_neg h1, if_pos h2], rfl⟩
  refine WP.vseq rfl fun K hK => ?_
  refine WP.vregion rfl rfl fun U => ?_
  simp [go_sem]
  refine hK _ _ ?_; clear hK K
  refine WP.vcond_f rfl (by simp [go_sem, h2] <;> omega) ?_
  refine WP.vskip rfl ?_
  simp only [go_sem]
  refine hK _ _ ?_; clear hK K
  refine WP.vseq rfl fun K hK => ?_
  refine WP.vregion rfl rfl fun U => ?_
  simp [go_sem]
  refine hK _ _ ?_; clear hK K
  refine WP.vret rfl ?_
  try simp only [thenE_ret, blockE_ret]
  refine ret_done (by simp [go_sem] <;> rfl) ?_
  exact ⟨by rw [if_neg h1, if_neg h2], rfl⟩

set_option maxRecDepth 4000 in
theorem vCompare_int (w : World) (a b : Val) (hab : a ≠ b) (ha : a.k = 2) (hb : b.k = 2) : Ret Try.prog 49 #[a.v, b.v] w fun r w' => r = .tuple #[.int .i64 (if a.n < b.n then -1 else if b.n < a.n then 1 else 0), .int .i64 0] ∧ Ext w w' := by
  refine ret_E (n := 54) (S := [0, 1, 2, 3, 4, 5]) 4 Try.func49 rfl rfl rfl rfl ?_
  refine WP.vseq rfl fun K hK => ?_
  refine WP.vregion rfl rfl fun U => ?_
  simp [go_sem]
  refine hK _ _ ?_; clear hK K
  have ha0 : Has ((w.alloc (vObj a)).alloc (vObj b)) w.heap.size (vObj a) := (Has.new w _).alloc _
  have hb0 : Has ((w.alloc (vObj a)).alloc (vObj b)) (w.heap.size + 1) (vObj b) := by simpa using Has.new (w.alloc (vObj a)) (vObj b)
  have hx0 : Ext w ((w.alloc (vObj a)).alloc (vObj b)) := ((Ext.refl _).alloc _).alloc _
  change WP _ _ _ _ _ _ ((w.alloc (vObj a)).alloc (vObj b))
  generalize ((w.alloc (vObj a)).alloc (vObj b)) = w1 at ha0 hb0 hx0
  have hac := ha0.cell
  have hbc := hb0.cell
  refine WP.vseq rfl fun K hK => ?_
  refine WP.vblock rfl ?_
  refine WP.vseq rfl fun K hK => ?_
  refine WP.vregion rfl rfl fun U => ?_
  simp [go_sem, hac, hbc]
  refine (Same_ok _ a b).mono ?_
  rintro r w2 ⟨rfl, hx2⟩
  replace ha0 := ha0.ext hx2
  replace hb0 := hb0.ext hx2
  replace hx0 := hx0.trans hx2
  clear hac hbc
  have hac := ha0.cell
  have hbc := hb0.cell
  try simp [go_sem]
  refine hK _ _ ?_; clear hK K
  refine WP.vcond_f rfl (by simp [go_sem, hab]) ?_
  refine WP.vseq rfl fun K hK => ?_
  refine WP.vregion rfl rfl fun U => ?_
  simp [go_sem, hac]
  refine hK _ _ ?_; clear hK K
  refine WP.vcond_f rfl (by simp [go_sem, ha]) ?_
  refine WP.vseq rfl fun K hK => ?_
  refine WP.vregion rfl rfl fun U => ?_
  simp [go_sem, hbc]
  refine hK _ _ ?_; clear hK K
  refine WP.vcond_f rfl (by simp [go_sem, hb]) ?_
  refine WP.vseq rfl fun K hK => ?_
  refine WP.vseq rfl fun K hK => ?_
  refine WP.vregion rfl rfl fun U => ?_
  simp [go_sem, hac, hbc, ha, hb]
  refine hK _ _ ?_; clear hK K
  refine WP.vcond_t rfl (by simp [go_sem]) ?_
  refine WP.vskip rfl ?_
  simp only [go_sem]
  refine hK _ _ ?_; clear hK K
  refine WP.vcond_t rfl (by simp [go_sem]) ?_
  refine WP.vseq rfl fun K hK => ?_
  refine WP.vregion rfl rfl fun U => ?_
  simp [go_sem, hac, hbc]
  refine (nCompare_ok _ _ _).mono ?_
  rintro r w3 ⟨rfl, rfl⟩
  try simp [go_sem]
  refine hK _ _ ?_; clear hK K
  refine WP.vret rfl ?_
  try simp only [thenE_ret, blockE_ret]
  refine ret_done (by simp [go_sem] <;> rfl) ?_
  exact ⟨rfl, hx0⟩

set_option maxRecDepth 4000 in
set_option maxHeartbeats 2000000 in
theorem mArith_ref {a b : Val} {op : Int} (h0 : HRep w h H F) (hw : HWf 100000000 H) (hl : HLen 1000000000 H) (hvs : (delegH H a).1.t.size ≤ 1000000000) (ha : a.k = 4) :
    Ret Try.prog 47 #[.pointer (some ⟨h, 0, none⟩), .int .i64 op, a.v, b.v] w fun r w' =>
      r = (if (findG H a (opG op)).2 && !(opG op).toList.isEmpty then .tuple #[vNull.v, (findG H a (opG op)).1.v, .int .i64 0] else .tuple #[vNull.v, vNull.v, .int .i64 30]) ∧ Ext w w' := by
  have hos : (opG op).size ≤ 1000000000 := by unfold opG; repeat (first | split | decide)
  refine ret_E (n := 54) (S := [0, 1, 2, 3, 4, 5, 6, 7, 8, 9, 10, 11, 12, 13, 14]) 11 Try.func47 rfl rfl rfl rfl ?_
  refine WP.vseq rfl fun K hK => ?_
  refine WP.vregion rfl rfl fun U => ?_
  simp [go_sem]
  refine hK _ _ ?_; clear hK K
  have ha0 : Has ((((w.alloc (vObj a)).alloc (vObj b)).alloc (vObj vNull)).alloc (vObj vNull)) w.heap.size (vObj a) := (((Has.new w _).alloc _).alloc _).alloc _
  have hp8 : Has ((((w.alloc (vObj a)).alloc (vObj b)).alloc (vObj vNull)).alloc (vObj vNull)) (w.heap.size + 1 + 1) (vObj vNull) := by simpa using (Has.new ((w.alloc (vObj a)).alloc (vObj b)) (vObj vNull)).alloc (vObj vNull)
  have hp9 : Has ((((w.alloc (vObj a)).alloc (vObj b)).alloc (vObj vNull)).alloc (vObj vNull)) (w.heap.size + 1 + 1 + 1) (vObj vNull) := by simpa using Has.new (((w.alloc (vObj a)).alloc (vObj b)).alloc (vObj vNull)) (vObj vNull)
  have hx0 : Ext w ((((w.alloc (vObj a)).alloc (vObj b)).alloc (vObj vNull)).alloc (vObj vNull)) := ((((Ext.refl _).alloc _).alloc _).alloc _).alloc _
  change WP _ _ _ _ _ _ ((((w.alloc (vObj a)).alloc (vObj b)).alloc (vObj vNull)).alloc (vObj vNull))
  generalize ((((w.alloc (vObj a)).alloc (vObj b)).alloc (vObj vNull)).alloc (vObj vNull)) = w1 at ha0 hp8 hp9 hx0
  have hac := ha0.cell
  replace h0 := h0.ext hx0
  refine WP.vseq rfl fun K hK => ?_
  refine WP.vseq rfl fun K hK => ?_
  refine WP.vregion rfl rfl fun U => ?_
  simp [go_sem, hac, ha]
  refine hK _ _ ?_; clear hK K
  refine WP.vcond_t rfl (by simp [go_sem]) ?_
  refine WP.vseq rfl fun KA hKA => ?_
  have JF : ∀ (T' : List (Nat × Value)) (U' : Nat → Value) (w' : World) (v11 v12 : Value), ((findG H a (opG op)).2 && !(opG op).toList.isEmpty) = false → Has w' (w.heap.size + 1 + 1) (vObj vNull) → Has w' (w.heap.size + 1 + 1 + 1) (vObj vNull) → Ext w w' →
      KA ⟨[.pointer (some ⟨h, 0, none⟩), .int .i64 op, a.v, b.v, undef, undef, .pointer (some ⟨w.heap.size, 0, none⟩), .pointer (some ⟨w.heap.size + 1, 0, none⟩), .pointer (some ⟨w.heap.size + 1 + 1, 0, none⟩), .pointer (some ⟨w.heap.size + 1 + 1 + 1, 0, none⟩), .int .i64 0,
        v11, v12, undef, undef], T', U'⟩ w' := by
    intro T' U' w3 v11 v12 hfin h8 h9 hx3
    refine hKA _ _ ?_
    clear hKA
    rw [hfin]
    refine WP.vseq rfl fun K hK => ?_
    refine WP.vregion rfl rfl fun U => ?_
    simp [go_sem]
    refine (Null_ok _).mono ?_
    rintro r w4 ⟨rfl, hx4⟩
    try simp [go_sem]
    refine (Null_ok _).mono ?_
    rintro r w5 ⟨rfl, hx5⟩
    have h85 := (h8.ext hx4).ext hx5
    have h95 := (h9.ext hx4).ext hx5
    have h95' := h95.far3 (rb := w.heap.size + 1 + 1) (q := 0) (x := .int .i64 0) (y := .int .i64 0) (z := .string ⟨#[]⟩) (by omega)
    replace hx3 := (hx3.trans hx4).trans hx5
    try simp [go_sem, h85.frozen, h85.cell, h95'.frozen, h95'.cell, h95.frozen, h95.cell]
    refine hK _ _ ?_; clear hK K
    have h85' := (h85.put3 vNull).far3 (rb := w.heap.size + 1 + 1 + 1) (q := 0) (x := .int .i64 0) (y := .int .i64 0) (z := .string ⟨#[]⟩) (by omega)
    have h95'' := h95'.put3 vNull
    refine WP.vret rfl ?_
    try simp only [thenE_ret, blockE_ret]
    refine ret_done (by simp [go_sem, h85'.cell, h95''.cell] <;> rfl) ?_
    exact ⟨rfl, (hx3.put3 (by omega)).put3 (by omega)⟩
  clear hKA
  refine WP.vseq rfl fun K hK => ?_
  have J : ∀ (T' : List (Nat × Value)) (U' : Nat → Value) (w' : World) (nb : Nat), Has w' nb (vObj (findG H a (opG op)).1) → w.heap.size + 1 + 1 + 1 < nb → Has w' (w.heap.size + 1 + 1) (vObj vNull) → Has w' (w.heap.size + 1 + 1 + 1) (vObj vNull) → Ext w w' →
      K ⟨[.pointer (some ⟨h, 0, none⟩), .int .i64 op, a.v, b.v, undef, undef, .pointer (some ⟨w.heap.size, 0, none⟩), .pointer (some ⟨w.heap.size + 1, 0, none⟩), .pointer (some ⟨w.heap.size + 1 + 1, 0, none⟩), .pointer (some ⟨w.heap.size + 1 + 1 + 1, 0, none⟩), .int .i64 0,
        .pointer (some ⟨nb, 0, none⟩), .bool (findG H a (opG op)).2, undef, undef], T', U'⟩ w' := by
    intro T' U' w3 nb hn hnb h8 h9 hx3
    refine hK _ _ ?_
    clear hK K
    rcases hf2 : (findG H a (opG op)).2 with _ | _
    · refine WP.vseq rfl fun K hK => ?_
      refine WP.vregion rfl rfl fun U => ?_
      simp [go_sem]
      refine hK _ _ ?_; clear hK K
      refine WP.vcond_f rfl (by simp [go_sem]) ?_
      refine WP.vskip rfl ?_
      simp only [go_sem]
      exact JF _ _ _ _ _ (by rw [hf2]; rfl) h8 h9 hx3
    · refine WP.vseq rfl fun K hK => ?_
      refine WP.vregion rfl rfl fun U => ?_
      simp [go_sem]
      refine (mOp_ok _ _).mono ?_
      rintro r w4 ⟨rfl, rfl⟩
      try simp [go_sem]
      refine hK _ _ ?_; clear hK K
      rcases he : (opG op).toList.isEmpty with _ | _
      · refine WP.vcond_t rfl (by simp [go_sem, he]) ?_
        have hfin : ((findG H a (opG op)).2 && !(opG op).toList.isEmpty) = true := by rw [hf2, he]; rfl
        haveI : Nonempty (SW (fun w' => Has w' nb (vObj (findG H a (opG op)).1))) := ⟨⟨_, hn⟩⟩
        have hwc : ∀ w' : SW (fun w' => Has w' nb (vObj (findG H a (opG op)).1)), ∀ i, w'.w.cell? ⟨nb, i, none⟩ = #[.int .i64 (findG H a (opG op)).1.k, .int .i64 (findG H a (opG op)).1.n, .string (findG H a (opG op)).1.t][i]? := fun w' => w'.h.cell
        refine WP.vseq rfl fun K hK => ?_
        refine WP.vdraw rfl (fun w' => Has w' nb (vObj (findG H a (opG op)).1)) 1000 [(1, true), (0, false), (2, false), (3, false), (4, true)] (by kernel_rfl) (by kernel_rfl) hn.drew fun U => ?_
        simp [go_sem, hwc]
        refine (Null_ok _).mono ?_
        rintro r w5 ⟨rfl, hx5⟩
        replace hx5 := ((Ext.refl _).drew).trans hx5
        have hn5 := hn.ext hx5
        have h85 := h8.ext hx5
        have h95 := h9.ext hx5
        have h95' := h95.far3 (rb := w.heap.size + 1 + 1) (q := 0) (x := .int .i64 0) (y := .int .i64 0) (z := .string ⟨#[]⟩) (by omega)
        try simp [go_sem, h85.frozen, h85.cell, h95'.frozen, h95'.cell, h95.frozen, h95.cell]
        refine ⟨hn5, hn5.far3 (q := 0) (by omega), ?_⟩
        try simp [go_sem, h85.frozen, h85.cell, h95'.frozen, h95'.cell, h95.frozen, h95.cell]
        refine ⟨(hn5.far3 (q := 0) (by omega)).far3 (q := 0) (by omega), ?_⟩
        refine hK _ _ ?_; clear hK K
        have h85' := (h85.put3 vNull).far3 (rb := w.heap.size + 1 + 1 + 1) (q := 0) (x := .int .i64 (findG H a (opG op)).1.k) (y := .int .i64 (findG H a (opG op)).1.n) (z := .string (findG H a (opG op)).1.t) (by omega)
        have h95'' := h95'.put3 (findG H a (opG op)).1
        refine WP.vret rfl ?_
        try simp only [thenE_ret, blockE_ret]
        refine ret_done (by simp [go_sem, h85'.cell, h95''.cell] <;> rfl) ?_
        exact ⟨rfl, ((hx3.trans hx5).put3 (by omega)).put3 (by omega)⟩
      · refine WP.vcond_f rfl (by simp [go_sem, he]) ?_
        refine WP.vskip rfl ?_
        simp only [go_sem]
        exact JF _ _ _ _ _ (by rw [hf2, he]; rfl) h8 h9 hx3
  clear hK JF
  have hwc : ∀ w' : SW (fun w' => Ext w1 w'), ∀ i, w'.w.cell? ⟨w.heap.size, i, none⟩ = #[.int .i64 a.k, .int .i64 a.n, .string a.t][i]? := fun w' => (ha0.ext w'.h).cell
  haveI : Nonempty (SW (fun w' => Ext w1 w')) := ⟨⟨_, Ext.refl _⟩⟩
  refine WP.vdrawT rfl (fun w' => Ext w1 w') 1000 (.frees [0, 1, 2] (.alt 3 (.alt 4 (.frees [5, 6, 7] (.eff 8 (.eff 9 (.frees [10] .done)))) 8 (.eff 4 (.frees [5, 6, 7] (.eff 9 (.frees [10] .done))))) 8 (.eff 3 (.eff 4 (.frees [5, 6, 7] (.eff 9 (.frees [10] .done))))))) (by kernel_rfl) (by kernel_rfl) ((Ext.refl w1).drew) fun U => ?_
  simp [go_sem, hwc]
  have hs1 : w.heap.size + 1 + 1 + 1 < w1.heap.size := hp9.lt
  refine ⟨(mOp_ok _ _).mono ?_, ((Ext.refl w1).alloc _).drew, (mOp_ok _ _).mono ?_⟩
  · rintro r w2 ⟨rfl, rfl⟩
    try simp [go_sem, hwc]
    refine ⟨(Ext.refl w1).drew, ?_, ?_⟩
    · refine (mFind_ok (h0.ext ((Ext.refl w1).drew)) hw hl a (opG op) hvs hos).mono ?_
      rintro r w3 ⟨rfl, hx3⟩
      replace hx3 := ((Ext.refl w1).drew).trans hx3
      try simp [go_sem]
      refine ⟨hx3, hx3.alloc _, hx3.alloc _, J _ _ _ _ (Has.new w3 (vObj (findG H a (opG op)).1)) ?_ ((hp8.ext hx3).alloc _) ((hp9.ext hx3).alloc _) ((hx0.trans hx3).alloc _)⟩
      have := hx3.size; omega
    · refine ⟨((Ext.refl w1).alloc _).drew, (mFind_ok (h0.ext (((Ext.refl w1).alloc _).drew)) hw hl a (opG op) hvs hos).mono ?_⟩
      have hn0 : Has (w1.alloc (vObj vNull)).drew w1.heap.size (vObj vNull) := (Has.new w1 _).drew
      change ∀ v w', (v = _ ∧ Ext (w1.alloc (vObj vNull)).drew w') → _
      rintro r w3 ⟨rfl, hx3⟩
      have hn3 := hn0.ext hx3
      replace hx3 := (((Ext.refl w1).alloc _).drew).trans hx3
      try simp [go_sem, hn3.frozen, hn3.cell]
      refine ⟨hx3, hx3.put3 (by omega), J _ _ _ _ (hn3.put3 _) hs1 ((hp8.ext hx3).far3 (q := 0) (by omega)) ((hp9.ext hx3).far3 (q := 0) (by omega)) ((hx0.trans hx3).put3 (by omega))⟩
  · rintro r w2 ⟨rfl, rfl⟩
    try simp [go_sem, hwc]
    refine ⟨((Ext.refl w1).alloc _).drew, (mFind_ok (h0.ext (((Ext.refl w1).alloc _).drew)) hw hl a (opG op) hvs hos).mono ?_⟩
    have hn0 : Has (w1.alloc (vObj vNull)).drew w1.heap.size (vObj vNull) := (Has.new w1 _).drew
    change ∀ v w', (v = _ ∧ Ext (w1.alloc (vObj vNull)).drew w') → _
    rintro r w3 ⟨rfl, hx3⟩
    have hn3 := hn0.ext hx3
    replace hx3 := (((Ext.refl w1).alloc _).drew).trans hx3
    try simp [go_sem, hn3.frozen, hn3.cell]
    refine ⟨hx3, hx3.put3 (by omega), J _ _ _ _ (hn3.put3 _) hs1 ((hp8.ext hx3).far3 (q := 0) (by omega)) ((hp9.ext hx3).far3 (q := 0) (by omega)) ((hx0.trans hx3).put3 (by omega))⟩
end
end Go.Proofs.Ytephkonhiaingaa
