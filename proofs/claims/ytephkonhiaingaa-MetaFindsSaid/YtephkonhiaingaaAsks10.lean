/- Region 10 of asks: two calls in a row and two new blocks, in any order. -/
import Derived.Test.YtephkonhiaingaaAsksL
import Derived.Test.YtephkonhiaingaaStH
import Derived.Test.YtephkonhiaingaaSet
set_option linter.unusedSimpArgs false
set_option linter.unusedVariables false
namespace Go.Proofs.Ytephkonhiaingaa
open Go Go.RowKit

/-- What holds in region 10 of asks, by which of its operations have come up. -/
def asksI (w0 : World) (h n4 n6 n8 n10 : Nat) (X : Nat → Bool) (E : Env) (w : World) : Prop :=
  ∃ (n12 n13 : Nat), E.L = [.bool false, .pointer (some ⟨h, 0, none⟩), .int .i64 0, .int .i64 0, .pointer (some ⟨n4, 0, none⟩), .int .i64 0, .pointer (some ⟨n6, 0, none⟩), .int .i64 0, .pointer (some ⟨n8, 0, none⟩), .bool true, .pointer (some ⟨n10, 0, none⟩), .bool false, (if X 8 then .pointer (some ⟨n12, 0, none⟩) else undef), (if X 9 then .pointer (some ⟨n13, 0, none⟩) else undef), (if X 12 then .int .i64 0 else undef), undef, undef, undef, undef, undef, undef] ∧
    Fct X E 0 62 (.pointer (some ⟨h, 0, none⟩)) ∧
    Fct X E 1 63 ((vRef 1).v) ∧
    Fct X E 2 64 ((vInt 1).v) ∧
    Fct X E 3 65 (.tuple #[vNull.v, (vRef 0).v, .int .i64 0]) ∧
    Fct X E 4 61 (.tuple #[vNull.v, (vRef 0).v, .int .i64 0]) ∧
    Fct X E 5 66 (vNull.v) ∧
    Fct X E 6 67 ((vRef 0).v) ∧
    Fct X E 7 68 (.int .i64 0) ∧
    (X 11 = true → X 9 = true) ∧ St w0 (fun _ => False) [if X 8 then box n12 (vObj vNull) else gone, if X 9 then box n13 (vObj (if X 11 then vRef 0 else vNull)) else gone] w

section
variable {w : World} {h n4 n6 n8 n10 : Nat} {F : Nat → Prop} {a1 a2 t2 a3 t3 : Nat}
set_option maxRecDepth 4000 in
set_option maxHeartbeats 4000000 in
theorem asks10 {K : Env → World → Prop} {Q : Exit → Env → World → Prop} {T : List (Nat × Value)} {U : Nat → Value} (h10 : HRep w h (aH5 a1 a2 t2 a3 t3) F) (hb4 : Has w n4 (vObj (vRef 1)))
    (J : ∀ (T' : List (Nat × Value)) (U' : Nat → Value) (w' : World) (n12 n13 : Nat), Has w' n13 (vObj (vRef 0)) → Ext w w' →
      K ⟨[.bool false, .pointer (some ⟨h, 0, none⟩), .int .i64 0, .int .i64 0, .pointer (some ⟨n4, 0, none⟩), .int .i64 0, .pointer (some ⟨n6, 0, none⟩), .int .i64 0, .pointer (some ⟨n8, 0, none⟩), .bool true, .pointer (some ⟨n10, 0, none⟩), .bool false, .pointer (some ⟨n12, 0, none⟩), .pointer (some ⟨n13, 0, none⟩), .int .i64 0, undef, undef, undef, undef, undef, undef], T', U'⟩ w') :
    WP Try.prog 130 (List.range 21) (Code.child (Code.child (Code.child (Code.child (Code.child (Code.child (Code.child (Code.child (Code.child (Code.child (Try.f42.body.getD .skip) 1) 1) 1) 1) 1) 1) 1) 1) 1) 0) (thenE K Q)
      ⟨[.bool false, .pointer (some ⟨h, 0, none⟩), .int .i64 0, .int .i64 0, .pointer (some ⟨n4, 0, none⟩), .int .i64 0, .pointer (some ⟨n6, 0, none⟩), .int .i64 0, .pointer (some ⟨n8, 0, none⟩), .bool true, .pointer (some ⟨n10, 0, none⟩), .bool false, undef, undef, undef, undef, undef, undef, undef, undef, undef], T, U⟩ w := by
  refine WP.vset (asksI w h n4 n6 n8 n10) rfl (by kernel_rfl) (by kernel_rfl) (fun U => ?_) ⟨?_, ?_, ?_, ?_, ?_, ?_, ?_, ?_, ?_, ?_, ?_, ?_, ?_, trivial⟩ ?_
  · refine ⟨0, 0, rfl, Fct.none, Fct.none, Fct.none, Fct.none, Fct.none, Fct.none, Fct.none, Fct.none, nofun, ?_⟩
    simp only [Bool.false_eq_true, if_false]
    exact (((St.start w (fun _ => False)).add (Ext.refl w) gone trivial).add (Ext.refl w) gone trivial).drew
  · rintro X ⟨L, T, U⟩ w1 hX hw ⟨n12, n13, rfl, f0, f1, f2, f3, f4, f5, f6, f7, g, hS⟩
    simp [go_sem]
    exact ⟨n12, n13, by simp [come], Fct.here, f1.keep 0 62 _ (by decide) (by decide), f2.keep 0 62 _ (by decide) (by decide), f3.keep 0 62 _ (by decide) (by decide), f4.keep 0 62 _ (by decide) (by decide), f5.keep 0 62 _ (by decide) (by decide), f6.keep 0 62 _ (by decide) (by decide), f7.keep 0 62 _ (by decide) (by decide), by simpa [come] using g, by simpa [come] using hS⟩
  · rintro X ⟨L, T, U⟩ w1 hX hw ⟨n12, n13, rfl, f0, f1, f2, f3, f4, f5, f6, f7, g, hS⟩
    have hc := (hb4.ext hS.chg).cell
    simp [go_sem, hc]
    exact ⟨n12, n13, by simp [come], f0.keep 1 63 _ (by decide) (by decide), Fct.here, f2.keep 1 63 _ (by decide) (by decide), f3.keep 1 63 _ (by decide) (by decide), f4.keep 1 63 _ (by decide) (by decide), f5.keep 1 63 _ (by decide) (by decide), f6.keep 1 63 _ (by decide) (by decide), f7.keep 1 63 _ (by decide) (by decide), by simpa [come] using g, by simpa [come] using hS⟩
  · rintro X ⟨L, T, U⟩ w1 hX hw ⟨n12, n13, rfl, f0, f1, f2, f3, f4, f5, f6, f7, g, hS⟩
    simp [go_sem]
    refine (Int_ok _ 1).mono ?_
    rintro r w2 ⟨rfl, hx⟩
    replace hS := hS.ext hx
    simp [go_sem]
    exact ⟨n12, n13, by simp [come], f0.keep 2 64 _ (by decide) (by decide), f1.keep 2 64 _ (by decide) (by decide), Fct.here, f3.keep 2 64 _ (by decide) (by decide), f4.keep 2 64 _ (by decide) (by decide), f5.keep 2 64 _ (by decide) (by decide), f6.keep 2 64 _ (by decide) (by decide), f7.keep 2 64 _ (by decide) (by decide), by simpa [come] using g, by simpa [come] using hS⟩
  · rintro X ⟨L, T, U⟩ w1 hX hw ⟨n12, n13, rfl, f0, f1, f2, f3, f4, f5, f6, f7, g, hS⟩
    simp [waitsOf, Region.binds] at hw
    simp [go_sem, f0.get hw.1, f1.get hw.2.1, f2.get hw.2.2]
    refine (mArith_ref (op := 10) (a := vRef 1) (b := vInt 1) (h10.ext hS.chg) a_wf5 a_len5 (by rw [a_deleg1]; decide) rfl).mono ?_
    rw [show opG 10 = addName from rfl, a_find1]
    rintro r w2 ⟨rfl, hx⟩
    replace hS := hS.ext hx
    simp [go_sem]
    exact ⟨n12, n13, by simp [come], f0.keep 3 65 _ (by decide) (by decide), f1.keep 3 65 _ (by decide) (by decide), f2.keep 3 65 _ (by decide) (by decide), Fct.here, f4.keep 3 65 _ (by decide) (by decide), f5.keep 3 65 _ (by decide) (by decide), f6.keep 3 65 _ (by decide) (by decide), f7.keep 3 65 _ (by decide) (by decide), by simpa [come] using g, by simpa [come] using hS⟩
  · rintro X ⟨L, T, U⟩ w1 hX hw ⟨n12, n13, rfl, f0, f1, f2, f3, f4, f5, f6, f7, g, hS⟩
    simp [waitsOf, Region.binds] at hw
    simp [go_sem, f3.get hw]
    exact ⟨n12, n13, by simp [come], f0.keep 4 61 _ (by decide) (by decide), f1.keep 4 61 _ (by decide) (by decide), f2.keep 4 61 _ (by decide) (by decide), f3.keep 4 61 _ (by decide) (by decide), Fct.here, f5.keep 4 61 _ (by decide) (by decide), f6.keep 4 61 _ (by decide) (by decide), f7.keep 4 61 _ (by decide) (by decide), by simpa [come] using g, by simpa [come] using hS⟩
  · rintro X ⟨L, T, U⟩ w1 hX hw ⟨n12, n13, rfl, f0, f1, f2, f3, f4, f5, f6, f7, g, hS⟩
    simp [waitsOf, Region.binds] at hw
    simp [go_sem, f4.get hw]
    exact ⟨n12, n13, by simp [come], f0.keep 5 66 _ (by decide) (by decide), f1.keep 5 66 _ (by decide) (by decide), f2.keep 5 66 _ (by decide) (by decide), f3.keep 5 66 _ (by decide) (by decide), f4.keep 5 66 _ (by decide) (by decide), Fct.here, f6.keep 5 66 _ (by decide) (by decide), f7.keep 5 66 _ (by decide) (by decide), by simpa [come] using g, by simpa [come] using hS⟩
  · rintro X ⟨L, T, U⟩ w1 hX hw ⟨n12, n13, rfl, f0, f1, f2, f3, f4, f5, f6, f7, g, hS⟩
    simp [waitsOf, Region.binds] at hw
    simp [go_sem, f4.get hw]
    exact ⟨n12, n13, by simp [come], f0.keep 6 67 _ (by decide) (by decide), f1.keep 6 67 _ (by decide) (by decide), f2.keep 6 67 _ (by decide) (by decide), f3.keep 6 67 _ (by decide) (by decide), f4.keep 6 67 _ (by decide) (by decide), f5.keep 6 67 _ (by decide) (by decide), Fct.here, f7.keep 6 67 _ (by decide) (by decide), by simpa [come] using g, by simpa [come] using hS⟩
  · rintro X ⟨L, T, U⟩ w1 hX hw ⟨n12, n13, rfl, f0, f1, f2, f3, f4, f5, f6, f7, g, hS⟩
    simp [waitsOf, Region.binds] at hw
    simp [go_sem, f4.get hw]
    exact ⟨n12, n13, by simp [come], f0.keep 7 68 _ (by decide) (by decide), f1.keep 7 68 _ (by decide) (by decide), f2.keep 7 68 _ (by decide) (by decide), f3.keep 7 68 _ (by decide) (by decide), f4.keep 7 68 _ (by decide) (by decide), f5.keep 7 68 _ (by decide) (by decide), f6.keep 7 68 _ (by decide) (by decide), Fct.here, by simpa [come] using g, by simpa [come] using hS⟩
  · rintro X ⟨L, T, U⟩ w1 hX hw ⟨n12, n13, rfl, f0, f1, f2, f3, f4, f5, f6, f7, g, hS⟩
    simp [go_sem]
    simp only [hX, Bool.false_eq_true, if_false] at hS
    replace hS := hS.comes (k := 0) rfl (vObj vNull)
    exact ⟨w1.heap.size, n13, by simp [come], f0.same 8 (by decide), f1.same 8 (by decide), f2.same 8 (by decide), f3.same 8 (by decide), f4.same 8 (by decide), f5.same 8 (by decide), f6.same 8 (by decide), f7.same 8 (by decide), by simpa [come] using g, by simpa [come] using hS⟩
  · rintro X ⟨L, T, U⟩ w1 hX hw ⟨n12, n13, rfl, f0, f1, f2, f3, f4, f5, f6, f7, g, hS⟩
    simp [go_sem]
    simp only [hX, Bool.false_eq_true, if_false] at hS
    replace hS := hS.comes (k := 1) rfl (vObj vNull)
    have h11 : X 11 = false := by cases h : X 11; rfl; have := g h; rw [hX] at this; cases this
    exact ⟨n12, w1.heap.size, by simp [come], f0.same 9 (by decide), f1.same 9 (by decide), f2.same 9 (by decide), f3.same 9 (by decide), f4.same 9 (by decide), f5.same 9 (by decide), f6.same 9 (by decide), f7.same 9 (by decide), by simp [come], by simpa [come, h11] using hS⟩
  · rintro X ⟨L, T, U⟩ w1 hX hw ⟨n12, n13, rfl, f0, f1, f2, f3, f4, f5, f6, f7, g, hS⟩
    simp [waitsOf, Region.binds] at hw
    simp only [hw.1, if_true] at hS
    have hf := hS.frozen (k := 0) rfl
    have hc := hS.cell (k := 0) rfl
    simp [go_sem, f5.get hw.2.1, hw.1, hf, hc]
    replace hS := hS.put3 (k := 0) rfl vNull
    exact ⟨n12, n13, by simp [come, hw.1], f0.same 10 (by decide), f1.same 10 (by decide), f2.same 10 (by decide), f3.same 10 (by decide), f4.same 10 (by decide), f5.same 10 (by decide), f6.same 10 (by decide), f7.same 10 (by decide), by simpa [come] using g, by simpa [come, hw.1] using hS⟩
  · rintro X ⟨L, T, U⟩ w1 hX hw ⟨n12, n13, rfl, f0, f1, f2, f3, f4, f5, f6, f7, g, hS⟩
    simp [waitsOf, Region.binds] at hw
    simp only [hw.1, if_true] at hS
    have hf := hS.frozen (k := 1) rfl
    have hc := hS.cell (k := 1) rfl
    have h11 : X 11 = false := by simpa using hX
    simp only [h11, Bool.false_eq_true, if_false] at hS hc hf
    simp [go_sem, f6.get hw.2.1, hw.1, hf, hc]
    replace hS := hS.put3 (k := 1) rfl (vRef 0)
    exact ⟨n12, n13, by simp [come, hw.1], f0.same 11 (by decide), f1.same 11 (by decide), f2.same 11 (by decide), f3.same 11 (by decide), f4.same 11 (by decide), f5.same 11 (by decide), f6.same 11 (by decide), f7.same 11 (by decide), fun _ => by simpa [come] using hw.1, by simpa [come, hw.1] using hS⟩
  · rintro X ⟨L, T, U⟩ w1 hX hw ⟨n12, n13, rfl, f0, f1, f2, f3, f4, f5, f6, f7, g, hS⟩
    simp [waitsOf, Region.binds] at hw
    simp [go_sem, f7.get hw.1]
    exact ⟨n12, n13, by simp [come], f0.same 12 (by decide), f1.same 12 (by decide), f2.same 12 (by decide), f3.same 12 (by decide), f4.same 12 (by decide), f5.same 12 (by decide), f6.same 12 (by decide), f7.same 12 (by decide), by simpa [come] using g, by simpa [come] using hS⟩
  · rintro X hX ⟨L, T, U⟩ w1 ⟨n12, n13, rfl, f0, f1, f2, f3, f4, f5, f6, f7, g, hS⟩
    have h8 := hX 8 (by decide)
    have h9 := hX 9 (by decide)
    have h11 := hX 11 (by decide)
    have h12 := hX 12 (by decide)
    simp only [h8, h9, h11, h12, if_true] at hS ⊢
    exact J _ _ _ _ _ (hS.has (k := 1) rfl) hS.chg
end
end Go.Proofs.Ytephkonhiaingaa
