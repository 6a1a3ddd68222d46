/- What a thing does in the place of an operator: MetaFinds returns true. Conditions: none. -/
import Derived.Test.YtephkonhiaingaaRow
import Derived.Test.YtephkonhiaingaaAsks
import Derived.Test.YtephkonhiaingaaMFindsB
import Derived.ProofKit
import Derived.OpenShut
import Derived.ShutString
set_option linter.unusedSimpArgs false
set_option linter.unusedVariables false
namespace Go.Proofs.Ytephkonhiaingaa.metaFinds
open Go Go.RowKit Go.WideShapes Go.ChangeShapes Go.ChangeAt
open Go.ChangeMaps (open_string shut_string)

set_option maxRecDepth 4000 in
set_option maxHeartbeats 8000000 in
theorem walk (name : ByteArray) (wh : Int) (called : Bool) (hname : name.size ≤ 9223372036854775807) (w : World) :
    Ret Try.prog 8 #[.string name, .int .i64 wh, .bool called] w fun r w' => r = .bool true ∧ Ext w w' := by
  refine ret_E (n := 187) (S := [0, 1, 2, 3, 4, 5, 6, 7, 8, 9, 10, 11, 12, 13, 14, 15, 16, 17, 18, 19, 20, 21, 22, 23, 24, 25, 26, 27, 28, 29, 80]) 28 Try.func8 rfl rfl rfl rfl ?_
  refine WP.vseq rfl fun K hK => ?_
  refine WP.vregion rfl rfl fun U => ?_
  simp [go_sem]
  refine hK _ _ ?_; clear hK K
  refine WP.vseq rfl fun K hK => ?_
  refine WP.vseq rfl fun K hK => ?_
  refine WP.vregion rfl rfl fun U => ?_
  simp [go_sem]
  refine (asks_ok w).mono ?_
  rintro r w1 ⟨rfl, hx⟩
  try simp [go_sem]
  refine hK _ _ ?_; clear hK K
  refine WP.vcond_f rfl (by simp [go_sem]) ?_
  refine WP.vskip rfl ?_
  simp only [go_sem]
  refine hK _ _ ?_; clear hK K
  by_cases hlen : 50 < name.size
  · refine WP.vseq rfl fun K hK => ?_
    refine WP.vseq rfl fun K hK => ?_
    refine WP.vregion rfl rfl fun U => ?_
    simp [go_sem]
    refine hK _ _ ?_; clear hK K
    refine WP.vcond_t rfl (by simp [go_sem] <;> omega) ?_
    refine WP.vseq rfl fun K hK => ?_
    refine WP.vregion rfl rfl fun U => ?_
    simp [go_sem]
    refine hK _ _ ?_; clear hK K
    refine WP.vret rfl ?_
    try simp only [thenE_ret, blockE_ret]
    refine ret_done (by simp [go_sem] <;> rfl) ?_
    exact ⟨rfl, hx⟩
  refine WP.vseq rfl fun K hK => ?_
  refine WP.vseq rfl fun K hK => ?_
  refine WP.vregion rfl rfl fun U => ?_
  simp [go_sem]
  refine hK _ _ ?_; clear hK K
  refine WP.vcond_f rfl (by simp [go_sem] <;> omega) ?_
  refine WP.vskip rfl ?_
  simp only [go_sem]
  refine hK _ _ ?_; clear hK K
  have hS := (St.start w (fun _ => False)).ext hx
  clear hx
  refine WP.vseq rfl fun K hK => ?_
  refine WP.vregion rfl rfl fun U => ?_
  simp [go_sem]
  refine (newS hS (n := 50) (by decide)).mono ?_
  rintro r w2 ⟨rfl, hS⟩
  try simp [go_sem]
  refine hK _ _ ?_; clear hK K
  generalize w1.heap.size = h at hS ⊢
  refine WP.vseq rfl fun K hK => ?_
  refine WP.vregion rfl rfl fun U => ?_
  simp [go_sem]
  refine ((Int_ok _ 5).keep hS).mono ?_
  rintro r w3 ⟨rfl, hS⟩
  try simp [go_sem]
  refine hK _ _ ?_; clear hK K
  replace hS := hS.alloc (vObj (vInt 5))
  change WP _ _ _ _ _ _ (World.alloc w3 (vObj (vInt 5)))
  generalize (World.heap w3).size = n8 at hS ⊢
  generalize World.alloc w3 (vObj (vInt 5)) = w4 at hS ⊢
  refine WP.vseq rfl fun K hK => ?_
  have J0 : ∀ (T' : List (Nat × Value)) (U' : Nat → Value) (w' : World) (v9 v10 : Value) (ad : Nat), St w (fun _ => False) [heapP h ⟨natPre called ad, [], (natPre called ad).length, 50, 0, 0⟩, box n8 (vObj (natVal called))] w' →
      K ⟨[.string name, .int .i64 wh, .bool called, undef, undef, undef, .bool false, .pointer (some ⟨h, 0, none⟩), .pointer (some ⟨n8, 0, none⟩), v9, v10, undef, undef, undef, undef, undef, undef, undef, undef, undef, undef, undef, undef, undef, undef, undef, undef, undef, undef, undef, undef], T', U'⟩ w' :=
    fun T' U' w' v9 v10 ad hS => hK _ _ (mFinds_b (by omega) hS)
  clear hK
  refine WP.vseq rfl fun K hK => ?_
  refine WP.vregion rfl rfl fun U => ?_
  simp [go_sem]
  refine hK _ _ ?_; clear hK K
  cases called with
  | false =>
    refine WP.vcond_f rfl (by simp [go_sem]) ?_
    refine WP.vskip rfl ?_
    simp only [go_sem]
    exact J0 _ _ _ _ _ 0 hS
  | true =>
    refine WP.vcond_t rfl (by simp [go_sem]) ?_
    refine WP.vseq rfl fun K hK => ?_
    refine WP.vregion rfl rfl fun U => ?_
    simp [go_sem]
    refine ((Null_ok _).keep (hS.alloc (.cells #[.int .i64 0] 2))).mono ?_
    rintro r w5 ⟨rfl, hS⟩
    try simp [go_sem]
    have hv : Rd (w5.alloc (vObj vNull)) (.slice (some ⟨w5.heap.size, 0, none⟩) 1 1) [vNull].length 3 (vcells [vNull]) := Rd.top rfl rfl
    have hn : Rd (w5.alloc (vObj vNull)) (.slice (some ⟨w4.heap.size, 0, none⟩) 1 1) [(0 : Int)].length 1 (ints [0]) := by
      refine ⟨rfl, _, 1, rfl, fun _ => ⟨_, 0, rfl, fun j u hu => ?_⟩⟩
      have := ((hS.has (k := 2) rfl).alloc (vObj vNull)).cell j
      rw [Nat.zero_add, this]
      simpa using hu
    refine (allocS (hS.alloc (vObj vNull)) (k := 0) rfl (by decide) (by decide) (by decide) hv hn (by simp) (by simp)).mono ?_
    rintro r w6 ⟨ad, rfl, hS⟩
    try simp [go_sem]
    refine hK _ _ ?_; clear hK K
    refine WP.vregion rfl rfl fun U => ?_
    simp [go_sem]
    refine ((Ref_ok _ 0).keep hS).mono ?_
    rintro r w7 ⟨rfl, hS⟩
    have h1f := hS.frozen (k := 1) rfl
    have h1c := hS.cell (k := 1) rfl
    try simp [go_sem, h1f, h1c]
    exact J0 _ _ _ _ _ ad ((hS.put3 (k := 1) rfl (vRef 0)).less 2)

theorem own : ownKnob Try.prog.godebug = none := by kernel_rfl

set_option maxRecDepth 100000 in
theorem lifted (os : Os) (started : os.Started) (H : Type) (enc : TypeId × Value → H) :
    ReturnsInHanded {} Try.checked os 8 .any (Rows.metaFindsSpec.pre6 enc Try.prog Try.f8 Rows.metaFindsRow.domain false) (Rows.metaFindsSpec.post enc Try.prog Try.f8 false true false false) := by
  refine returnsInHanded_of_change (C := Try.checked) own started (by kernel_rfl) Try.func8
    (ChangeSpec.witness6 (enc := enc) (C := Try.checked) false ⟨#[], #[.string ByteArray.empty, .int .i64 0, .bool false], []⟩ 8 (by kernel_rfl) (by kernel_rfl) (by kernel_rfl) (by kernel_rfl)) ?_
  intro W base args ds gs before hval0 hW hcnd _
  have hval : ∀ (j : Nat) t v, Try.f8.params[j]? = some t → args[j]? = some v → Value.okWide Try.prog W .any base t v := hval0
  have hW' := hW
  obtain ⟨p, q, hA0, hV, rfl, hfz, hnd⟩ := hW
  have hA : DataW.TrodAll enc Try.prog W 0 (fun _ => true) true Try.f8.params.toList args.toList ds p := hA0
  rw [Try.params8] at hA hval
  obtain ⟨v0, vs0, d0, ds0, p0, q0, hargs, rfl, rfl, h0, r0⟩ := trodAll_cons hA
  obtain ⟨v1, vs1, d1, ds1, p1, q1, rfl, rfl, rfl, h1, r1⟩ := trodAll_cons r0
  obtain ⟨v2, vs2, d2, ds2, p2, q2, rfl, rfl, rfl, h2, r2⟩ := trodAll_cons r1
  obtain ⟨rfl, rfl, rfl⟩ := trodAll_nil r2
  obtain rfl : args = #[v0, v1, v2] := by cases args; simp_all
  obtain ⟨rfl, rfl⟩ := trodVars_none hV
  obtain ⟨a0, rfl, rfl, rfl, w0⟩ := open_string Try.underlying9 (hval 0 9 v0 rfl rfl) h0
  obtain ⟨a1, rfl, rfl, rfl, w1⟩ := open_int Try.underlying3 (hval 1 3 v1 rfl rfl) h1
  obtain ⟨a2, rfl, rfl, rfl⟩ := open_bool Try.underlying4 (hval 2 4 v2 rfl rfl) h2
  clear hA0 hval0
  simp only [List.append_nil] at hW'
  refine Calls.mono (walk a0 a1 a2 (by unfold maxLen at w0; omega) W).out fun e W' ⟨v, he, hr, hx⟩ => ?_
  subst hr
  subst he
  exact ⟨_, rfl, post_ext (pa := []) (pv := []) hW' (fun _ _ _ => (trodAll_cons_mk (shut_bool Try.underlying4 _) trodAll_mk0)) (fun sp _ => (trodAll_cons_mk (shut_string Try.underlying9 w0) (trodAll_cons_mk (shut_int Try.underlying3 w1) (trodAll_cons_mk (shut_bool Try.underlying4 _) trodAll_mk0)))) (fun _ _ => rfl) rfl
    hx (ok_one (by kernel_rfl) rfl (okWide_bool_mk Try.underlying4 _))⟩

theorem over : Rows.metaFindsRow.holds Try.pinned (OpenSpec.ofChange Rows.metaFindsSpec) :=
  OpenClaim.holds_of_wide 8 Try.f8 rfl rfl rfl rfl rfl rfl rfl ⟨rfl, rfl, rfl, rfl, rfl⟩ rfl rfl rfl rfl rfl (by kernel_rfl) Try.func8 (by kernel_rfl)
    (of_decide_eq_true (by kernel_rfl)) (by unfold Func.isWrapper; first | (rw [if_pos (by decide +kernel)]; kernel_rfl) | (rw [if_neg (by decide +kernel)]; exact ⟨rfl, rfl⟩))
    (fun os started H enc _ => lifted os started H enc)

theorem proved : Rows.MetaFindsSaid := over
#print axioms proved
end Go.Proofs.Ytephkonhiaingaa.metaFinds
