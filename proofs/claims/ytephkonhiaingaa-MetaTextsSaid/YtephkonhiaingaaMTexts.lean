/- What is thrown for each error is one of a few texts: MetaTexts returns true. Conditions: none. -/
import Derived.Test.YtephkonhiaingaaRow
import Derived.Test.YtephkonhiaingaaAsks
set_option linter.unusedSimpArgs false
set_option linter.unusedVariables false
namespace Go.Proofs.Ytephkonhiaingaa.metaTexts
open Go Go.RowKit Go.WideShapes Go.ChangeShapes Go.ChangeAt

set_option maxHeartbeats 2000000 in
theorem walk (e : Int) (w : World) : Ret Try.prog 7 #[.int .i64 e] w fun r w' => r = .bool true ∧ Ext w w' := by
  refine ret_E (n := 21) (S := [0, 2, 3, 6, 13]) 4 Try.func7 rfl rfl rfl rfl ?_
  refine WP.vseq rfl fun K hK => ?_
  refine WP.vregion rfl rfl fun U => ?_
  simp [go_sem]
  refine hK _ _ ?_; clear hK K
  refine WP.vseq rfl fun K hK => ?_
  refine WP.vseq rfl fun K hK => ?_
  refine WP.vregion rfl rfl fun U => ?_
  simp [go_sem]
  refine (asks_ok w).mono ?_
  rintro r w1 ⟨rfl, hx⟩
  try simp [go_sem]
  refine hK _ _ ?_; clear hK K
  refine WP.vcond_f rfl (by simp [go_sem]) ?_
  refine WP.vskip rfl ?_
  simp only [go_sem]
  refine hK _ _ ?_; clear hK K
  refine WP.vseq rfl fun K hK => ?_
  refine WP.vregion rfl rfl fun U => ?_
  simp [go_sem]
  refine hK _ _ ?_; clear hK K
  refine WP.vseq rfl fun K hK => ?_
  have J : ∀ (T' : List (Nat × Value)) (U' : Nat → Value) (v6 v13 : Value), K ⟨[.int .i64 e, .bool false, .string (textG e), v6, v13], T', U'⟩ w1 := by
    intro T' U' v6 v13
    refine hK _ _ ?_
    clear hK K
    refine WP.vseq rfl fun K hK => ?_
    refine WP.vregion rfl rfl fun U => ?_
    simp [go_sem]
    refine (mText_ok _ e).mono ?_
    rintro r w2 ⟨rfl, rfl⟩
    try simp [go_sem]
    refine hK _ _ ?_; clear hK K
    refine WP.vret rfl ?_
    try simp only [thenE_ret, blockE_ret]
    refine ret_done (by simp [go_sem] <;> rfl) ?_
    exact ⟨rfl, hx⟩
  clear hK
  refine WP.vseq rfl fun K hK => ?_
  refine WP.vregion rfl rfl fun U => ?_
  simp [go_sem]
  refine hK _ _ ?_; clear hK K
  refine WP.vblock rfl ?_
  by_cases h3 : e = 3
  · refine WP.vseq rfl fun K hK => ?_
    refine WP.vregion rfl rfl fun U => ?_
    simp [go_sem]
    refine hK _ _ ?_; clear hK K
    refine WP.vcond_t rfl (by simp [go_sem, h3]) ?_
    refine WP.vregion rfl rfl fun U => ?_
    simp [go_sem]
    rw [show (⟨#[110, 111, 32, 115, 117, 99, 104, 32, 115, 108, 111, 116]⟩ : ByteArray) = textG e by simp [textG, *]]
    exact J _ _ _ _
  refine WP.vseq rfl fun K hK => ?_
  refine WP.vregion rfl rfl fun U => ?_
  simp [go_sem]
  refine hK _ _ ?_; clear hK K
  refine WP.vcond_f rfl (by simp [go_sem, h3]) ?_
  by_cases h1 : e = 1
  · refine WP.vseq rfl fun K hK => ?_
    refine WP.vregion rfl rfl fun U => ?_
    simp [go_sem]
    refine hK _ _ ?_; clear hK K
    refine WP.vcond_t rfl (by simp [go_sem, h1]) ?_
    refine WP.vregion rfl rfl fun U => ?_
    simp [go_sem]
    rw [show (⟨#[111, 117, 116, 32, 111, 102, 32, 114, 97, 110, 103, 101]⟩ : ByteArray) = textG e by simp [textG, *]]
    exact J _ _ _ _
  refine WP.vseq rfl fun K hK => ?_
  refine WP.vregion rfl rfl fun U => ?_
  simp [go_sem]
  refine hK _ _ ?_; clear hK K
  refine WP.vcond_f rfl (by simp [go_sem, h1]) ?_
  by_cases h10 : e = 10
  · refine WP.vseq rfl fun K hK => ?_
    refine WP.vregion rfl rfl fun U => ?_
    simp [go_sem]
    refine hK _ _ ?_; clear hK K
    refine WP.vcond_t rfl (by simp [go_sem, h10]) ?_
    refine WP.vregion rfl rfl fun U => ?_
    simp [go_sem]
    rw [show (⟨#[100, 105, 118, 105, 115, 105, 111, 110, 32, 98, 121, 32, 122, 101, 114, 111]⟩ : ByteArray) = textG e by simp [textG, *]]
    exact J _ _ _ _
  refine WP.vseq rfl fun K hK => ?_
  refine WP.vregion rfl rfl fun U => ?_
  simp [go_sem]
  refine hK _ _ ?_; clear hK K
  refine WP.vcond_f rfl (by simp [go_sem, h10]) ?_
  refine WP.vseq rfl fun K hK => ?_
  refine WP.vseq rfl fun K hK => ?_
  refine WP.vregion rfl rfl fun U => ?_
  simp [go_sem]
  refine hK _ _ ?_; clear hK K
  by_cases h2 : e = 2
  · refine WP.vcond_t rfl (by simp [go_sem, h2]) ?_
    refine WP.vskip rfl ?_
    simp only [go_sem]
    refine hK _ _ ?_; clear hK K
    refine WP.vcond_t rfl (by simp [go_sem, h2]) ?_
    refine WP.vregion rfl rfl fun U => ?_
    simp [go_sem]
    rw [show (⟨#[116, 111, 111, 32, 108, 111, 110, 103]⟩ : ByteArray) = textG e by simp [textG, *]]
    exact J _ _ _ _
  refine WP.vcond_f rfl (by simp [go_sem, h2]) ?_
  refine WP.vseq rfl fun K hK => ?_
  refine WP.vregion rfl rfl fun U => ?_
  simp [go_sem]
  refine hK _ _ ?_; clear hK K
  by_cases h6 : e = 6
  · refine WP.vcond_t rfl (by simp [go_sem, h6]) ?_
    refine WP.vskip rfl ?_
    simp only [go_sem]
    refine hK _ _ ?_; clear hK K
    refine WP.vcond_t rfl (by simp [go_sem, h6]) ?_
    refine WP.vregion rfl rfl fun U => ?_
    simp [go_sem]
    rw [show (⟨#[116, 111, 111, 32, 108, 111, 110, 103]⟩ : ByteArray) = textG e by simp [textG, *]]
    exact J _ _ _ _
  refine WP.vcond_f rfl (by simp [go_sem, h6]) ?_
  by_cases h4 : e = 4
  · subst h4
    refine WP.vregion rfl rfl fun U => ?_
    simp [go_sem]
    refine hK _ _ ?_; clear hK K
    refine WP.vcond_t rfl (by simp [go_sem]) ?_
    refine WP.vregion rfl rfl fun U => ?_
    simp [go_sem]
    exact J _ _ _ _
  refine WP.vregion rfl rfl fun U => ?_
  simp [go_sem, h4]
  refine hK _ _ ?_; clear hK K
  refine WP.vcond_f rfl (by simp [go_sem, h4]) ?_
  refine WP.vskip rfl ?_
  simp only [go_sem]
  rw [show (⟨#[119, 114, 111, 110, 103, 32, 116, 121, 112, 101]⟩ : ByteArray) = textG e by simp [textG, *]]
  exact J _ _ _ _

theorem own : ownKnob Try.prog.godebug = none := by kernel_rfl

set_option maxRecDepth 100000 in
theorem lifted (os : Os) (started : os.Started) (H : Type) (enc : TypeId × Value → H) :
    ReturnsInHanded {} Try.checked os 7 .any (Rows.metaTextsSpec.pre6 enc Try.prog Try.f7 Rows.metaTextsRow.domain false) (Rows.metaTextsSpec.post enc Try.prog Try.f7 false true false false) := by
  refine returnsInHanded_of_change (C := Try.checked) own started (by kernel_rfl) Try.func7
    (ChangeSpec.witness6 (enc := enc) (C := Try.checked) false ⟨#[], #[.int .i64 0], []⟩ 8 (by kernel_rfl) (by kernel_rfl) (by kernel_rfl) (by kernel_rfl)) ?_
  intro W base args ds gs before hval0 hW hcnd _
  have hval : ∀ (j : Nat) t v, Try.f7.params[j]? = some t → args[j]? = some v → Value.okWide Try.prog W .any base t v := hval0
  have hW' := hW
  obtain ⟨p, q, hA0, hV, rfl, hfz, hnd⟩ := hW
  have hA : DataW.TrodAll enc Try.prog W 0 (fun _ => true) true Try.f7.params.toList args.toList ds p := hA0
  rw [Try.params7] at hA hval
  obtain ⟨v0, vs0, d0, ds0, p0, q0, hargs, rfl, rfl, h0, r0⟩ := trodAll_cons hA
  obtain ⟨rfl, rfl, rfl⟩ := trodAll_nil r0
  obtain rfl : args = #[v0] := by cases args; simp_all
  obtain ⟨rfl, rfl⟩ := trodVars_none hV
  obtain ⟨a0, rfl, rfl, rfl, w0⟩ := open_int Try.underlying33 (hval 0 33 v0 rfl rfl) h0
  clear hA0 hval0
  simp only [List.append_nil] at hW'
  refine Calls.mono (walk a0 W).out fun e W' ⟨v, he, hr, hx⟩ => ?_
  subst hr
  subst he
  exact ⟨_, rfl, post_ext (pa := []) (pv := []) hW' (fun _ _ _ => (trodAll_cons_mk (shut_bool Try.underlying4 _) trodAll_mk0)) (fun sp _ => (trodAll_cons_mk (shut_int Try.underlying33 w0) trodAll_mk0)) (fun _ _ => rfl) rfl
    hx (ok_one (by kernel_rfl) rfl (okWide_bool_mk Try.underlying4 _))⟩

theorem over : Rows.metaTextsRow.holds Try.pinned (OpenSpec.ofChange Rows.metaTextsSpec) :=
  OpenClaim.holds_of_wide 7 Try.f7 rfl rfl rfl rfl rfl rfl rfl ⟨rfl, rfl, rfl, rfl, rfl⟩ rfl rfl rfl rfl rfl (by kernel_rfl) Try.func7 (by kernel_rfl)
    (of_decide_eq_true (by kernel_rfl)) (by unfold Func.isWrapper; first | (rw [if_pos (by decide +kernel)]; kernel_rfl) | (rw [if_neg (by decide +kernel)]; exact ⟨rfl, rfl⟩))
    (fun os started H enc _ => lifted os started H enc)

theorem proved : Rows.MetaTextsSaid := over
#print axioms proved
end Go.Proofs.Ytephkonhiaingaa.metaTexts
