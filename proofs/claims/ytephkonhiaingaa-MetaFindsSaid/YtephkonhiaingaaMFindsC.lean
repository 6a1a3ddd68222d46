/- MetaFinds' end: an instance is made, and looked. -/
import Derived.Test.YtephkonhiaingaaMFindsH
set_option linter.unusedSimpArgs false
set_option linter.unusedVariables false
namespace Go.Proofs.Ytephkonhiaingaa
open Go Go.RowKit

section
variable {w0 w : World} {name : ByteArray} {wh : Int} {called : Bool} {h ad a1 t1 a2 t2 a3 t3 a4 t4 : Nat}

set_option maxRecDepth 4000 in
set_option maxHeartbeats 8000000 in
theorem mFinds_c {o0 o1 o2 o3 n8 n11 n13 n15 n17 n19 : Nat} {v9 v10 v12 v14 v16 v18 v80 : Value} {T : List (Nat × Value)} {U : Nat → Value} (hlen : name.size ≤ 50)
    (ho0 : (natPre called ad).length = o0) (ho1 : (natPre called ad).length + 1 = o1) (ho2 : (natPre called ad).length + 2 = o2) (ho3 : (natPre called ad).length + 3 = o3)
    (hS : St w0 (fun _ => False) [heapP h (fH (natPre called ad) a1 t1 a2 t2 a3 t3 a4 t4 (fD wh name (natVal called)) (vRef o1) (vRef o2)), box n8 (vObj (natVal called)), box n11 (vObj (vRef o0)), box n13 (vObj (vRef o1)), box n15 (vObj (vRef o2)), box n17 (vObj (vRef o3)), box n19 (vObj (vStr name))] w) :
    WP Try.prog 187 (List.range 30 ++ [80]) (Code.child (Code.child (Code.child (Code.child (Code.child (Code.child (Code.child (Code.child (Code.child (Code.child (Code.child (Code.child (Code.child (Code.child (Try.f8.body.getD .skip) 1) 1) 1) 1) 1) 1) 1) 1) 1) 1) 1) 1) 1) 1) (bodyE Try.prog (List.range 30 ++ [80]) Try.f8.results fun e w' => ∃ v, e = .returned v ∧ v = .bool true ∧ Ext w0 w')
      ⟨[.string name, .int .i64 wh, .bool called, undef, undef, undef, .bool false, .pointer (some ⟨h, 0, none⟩), .pointer (some ⟨n8, 0, none⟩), v9, v10, .pointer (some ⟨n11, 0, none⟩), v12, .pointer (some ⟨n13, 0, none⟩), v14, .pointer (some ⟨n15, 0, none⟩), v16, .pointer (some ⟨n17, 0, none⟩), v18, .pointer (some ⟨n19, 0, none⟩),
        undef, undef, undef, undef, undef, undef, undef, undef, undef, undef, v80], T, U⟩ w := by
  have hlive : (fH (natPre called ad) a1 t1 a2 t2 a3 t3 a4 t4 (fD wh name (natVal called)) (vRef o1) (vRef o2)).live < 50 := by
    simp only [fH, natPre]
    split <;> simp
  have hc3 := f_get3 (pre := natPre called ad) (a1 := a1) (t1 := t1) (a2 := a2) (t2 := t2) (a3 := a3) (t3 := t3) (a4 := a4) (t4 := t4) (D := fD wh name (natVal called)) (dt := vRef o1) (dd := vRef o2)
  rw [ho3] at hc3
  have hser : (fD wh name (natVal called) 3).serial ≤ 100000000 := Int.le_trans fD_serial (by decide)
  have hitems := fD_items (wh := wh) (name := name) (v := natVal called) (j := 3)
  have h5c := hS.cell (k := 5) rfl
  refine WP.vseq rfl fun K hK => ?_
  refine WP.vregion rfl rfl fun U => ?_
  simp [go_sem, h5c]
  obtain ⟨F, hp, bk⟩ := hS.turn (k := 0) rfl
  refine (lMake_ok hp hlive hc3 rfl rfl hser (by rw [hitems]; split <;> simp) (fun x hx => ?_)).mono ?_
  · rw [hitems] at hx
    split at hx
    · simp at hx; subst hx; exact ⟨by simp, by simp; omega⟩
    · simp at hx
  rintro r w1 ⟨a5, t5, rfl, h1, h2⟩
  replace hS := bk (heapP h _) h1 h2
  clear bk hp h1 h2 h5c
  obtain ⟨o4, ho4⟩ : ∃ o4, (natPre called ad).length + 4 = o4 := ⟨_, rfl⟩
  have hf := f_finds (called := called) (ad := ad) (a1 := a1) (t1 := t1) (a2 := a2) (t2 := t2) (a3 := a3) (t3 := t3) (a4 := a4) (t4 := t4) (wh := wh) (name := name) (a5 := a5) (t5 := t5)
    (Di := fieldsH (fH (natPre called ad) a1 t1 a2 t2 a3 t3 a4 t4 (fD wh name (natVal called)) (vRef o1) (vRef o2)) (fD wh name (natVal called) 3).items)
  simp only [] at hf
  rw [ho1, ho2, ho3, ho4, ho0] at hf
  have hok := ok_alloc (H := fH (natPre called ad) a1 t1 a2 t2 a3 t3 a4 t4 (fD wh name (natVal called)) (vRef o1) (vRef o2)) rfl
    (fH_ok nat_ok (Nat.zero_le _) (Nat.zero_le _) fun j => Int.le_trans fD_serial (by decide))
    (x := instCell a5 t5 (fieldsH (fH (natPre called ad) a1 t1 a2 t2 a3 t3 a4 t4 (fD wh name (natVal called)) (vRef o1) (vRef o2)) (fD wh name (natVal called) 3).items) (vRef o3))
    ⟨rfl, by simp, fun d hd => by simp at hd; subst hd; exact Nat.zero_le _, fun _ => ⟨_, _, _, rfl, by
      have := fields_serial (fH (natPre called ad) a1 t1 a2 t2 a3 t3 a4 t4 (fD wh name (natVal called)) (vRef o1) (vRef o2)) (fD wh name (natVal called) 3).items
      rw [hitems] at this ⊢
      split at this <;> simp_all <;> omega, rfl⟩⟩
  have hidx : ((fH (natPre called ad) a1 t1 a2 t2 a3 t3 a4 t4 (fD wh name (natVal called)) (vRef o1) (vRef o2)).alloc (instCell a5 t5 (fieldsH (fH (natPre called ad) a1 t1 a2 t2 a3 t3 a4 t4 (fD wh name (natVal called)) (vRef o1) (vRef o2)) (fD wh name (natVal called) 3).items) (vRef o3))).2 = o4 := by
    rw [alloc_end _ _ rfl]
    simp [fH]; exact ho4
  rw [hidx]
  generalize ((fH (natPre called ad) a1 t1 a2 t2 a3 t3 a4 t4 (fD wh name (natVal called)) (vRef o1) (vRef o2)).alloc (instCell a5 t5 (fieldsH (fH (natPre called ad) a1 t1 a2 t2 a3 t3 a4 t4 (fD wh name (natVal called)) (vRef o1) (vRef o2)) (fD wh name (natVal called) 3).items) (vRef o3))).1 = H2 at hS hf hok
  obtain ⟨hf0, hf4, hf3, hfi⟩ := hf
  have hwf := wf_of hok
  have hln := len_of hok
  have hsz := deleg_size hok
  clear hok hidx hc3 hser hitems hlive
  try simp [go_sem]
  refine hK _ _ ?_; clear hK K
  replace hS := hS.alloc (vObj (vRef o4))
  change WP _ _ _ _ _ _ (World.alloc w1 (vObj (vRef o4)))
  generalize (World.heap w1).size = n20 at hS ⊢
  generalize World.alloc w1 (vObj (vRef o4)) = w2 at hS ⊢
  refine WP.vseq rfl fun K hK => ?_
  refine WP.vseq rfl fun K hK => ?_
  refine WP.vregion rfl rfl fun U => ?_
  simp [go_sem]
  refine hK _ _ ?_; clear hK K
  refine WP.vcond_f rfl (by simp [go_sem]) ?_
  refine WP.vskip rfl ?_
  simp only [go_sem]
  refine hK _ _ ?_; clear hK K
  have hc := hS.cell (k := 2) rfl
  refine WP.vseq rfl fun K hK => ?_
  refine WP.vregion rfl rfl fun U => ?_
  simp [go_sem, hc]
  refine ((mFind_ok (hS.part (k := 0) rfl) hwf hln (vRef o0) name (hsz _) (by omega)).keep hS).mono ?_
  rw [hf0]
  rintro r w3 ⟨rfl, hS⟩
  clear hc
  try simp [go_sem]
  refine hK _ _ ?_; clear hK K
  replace hS := hS.alloc (vObj (if wh = 1 ∨ wh = 2 then natVal called else vNull))
  change WP _ _ _ _ _ _ (World.alloc w3 (vObj (if wh = 1 ∨ wh = 2 then natVal called else vNull)))
  generalize (World.heap w3).size = n22 at hS ⊢
  generalize World.alloc w3 (vObj (if wh = 1 ∨ wh = 2 then natVal called else vNull)) = w4 at hS ⊢
  have hc := hS.cell (k := 7) rfl
  refine WP.vseq rfl fun K hK => ?_
  refine WP.vregion rfl rfl fun U => ?_
  simp [go_sem, hc]
  refine ((mFind_ok (hS.part (k := 0) rfl) hwf hln (vRef o4) name (hsz _) (by omega)).keep hS).mono ?_
  rw [hf4]
  rintro r w5 ⟨rfl, hS⟩
  clear hc
  try simp [go_sem]
  refine hK _ _ ?_; clear hK K
  replace hS := hS.alloc (vObj (if wh = 3 then natVal called else vNull))
  change WP _ _ _ _ _ _ (World.alloc w5 (vObj (if wh = 3 then natVal called else vNull)))
  generalize (World.heap w5).size = n24 at hS ⊢
  generalize World.alloc w5 (vObj (if wh = 3 then natVal called else vNull)) = w6 at hS ⊢
  have hc := hS.cell (k := 5) rfl
  refine WP.vseq rfl fun K hK => ?_
  refine WP.vregion rfl rfl fun U => ?_
  simp [go_sem, hc]
  refine ((mFind_ok (hS.part (k := 0) rfl) hwf hln (vRef o3) name (hsz _) (by omega)).keep hS).mono ?_
  rw [hf3]
  rintro r w7 ⟨rfl, hS⟩
  clear hc
  generalize (findG H2 (vRef o3) name).1 = x3
  try simp [go_sem]
  refine hK _ _ ?_; clear hK K
  replace hS := hS.alloc (vObj x3)
  change WP _ _ _ _ _ _ (World.alloc w7 (vObj x3))
  generalize (World.heap w7).size = n26 at hS ⊢
  generalize World.alloc w7 (vObj x3) = w8 at hS ⊢
  refine WP.vseq rfl fun K hK => ?_
  refine WP.vregion rfl rfl fun U => ?_
  simp [go_sem]
  refine ((Int_ok _ 1).keep hS).mono ?_
  rintro r w9 ⟨rfl, hS⟩
  try simp [go_sem]
  refine ((mFind_ok (hS.part (k := 0) rfl) hwf hln (vInt 1) name (hsz _) (by omega)).keep hS).mono ?_
  rw [hfi]
  rintro r w10 ⟨rfl, hS⟩
  generalize (findG H2 (vInt 1) name).1 = x4
  try simp [go_sem]
  refine hK _ _ ?_; clear hK K
  replace hS := hS.alloc (vObj x4)
  change WP _ _ _ _ _ _ (World.alloc w10 (vObj x4))
  generalize (World.heap w10).size = n28 at hS ⊢
  generalize World.alloc w10 (vObj x4) = w11 at hS ⊢
  refine WP.vseq rfl fun K hK => ?_
  refine WP.vseq rfl fun K hK => ?_
  refine WP.vregion rfl rfl fun U => ?_
  simp [go_sem]
  refine hK _ _ ?_; clear hK K
  refine WP.vcond_f rfl (by simp [go_sem]) ?_
  refine WP.vskip rfl ?_
  simp only [go_sem]
  refine hK _ _ ?_; clear hK K
  have h1 := hS.cell (k := 1) rfl
  have h8 := hS.cell (k := 8) rfl
  have h9 := hS.cell (k := 9) rfl
  have hcase : wh = 1 ∨ wh = 2 ∨ wh = 3 ∨ (wh ≠ 1 ∧ wh ≠ 2 ∧ wh ≠ 3) := by omega
  refine WP.vseq rfl fun K hK => ?_
  cases called <;> rcases hcase with hw | hw | hw | ⟨hw1, hw2, hw3⟩
  · subst hw
    refine WP.vregion rfl rfl fun U => ?_
    simp [go_sem, h1, h8, h9, run_eq_val, natVal]
    refine hK _ _ ?_; clear hK K
    refine WP.vret rfl ?_
    try simp only [thenE_ret, blockE_ret]
    refine ret_done (by simp [go_sem] <;> rfl) ?_
    exact ⟨rfl, hS.chg⟩
  · subst hw
    refine WP.vregion rfl rfl fun U => ?_
    simp [go_sem, h1, h8, h9, run_eq_val, natVal]
    refine hK _ _ ?_; clear hK K
    refine WP.vret rfl ?_
    try simp only [thenE_ret, blockE_ret]
    refine ret_done (by simp [go_sem] <;> rfl) ?_
    exact ⟨rfl, hS.chg⟩
  · subst hw
    refine WP.vregion rfl rfl fun U => ?_
    simp [go_sem, h1, h8, h9, run_eq_val, natVal]
    refine hK _ _ ?_; clear hK K
    refine WP.vret rfl ?_
    try simp only [thenE_ret, blockE_ret]
    refine ret_done (by simp [go_sem] <;> rfl) ?_
    exact ⟨rfl, hS.chg⟩
  · have hb1 : (wh == 1) = false := by simpa using hw1
    have hb2 : (wh == 2) = false := by simpa using hw2
    have hb3 : (wh == 3) = false := by simpa using hw3
    refine WP.vregion rfl rfl fun U => ?_
    simp [go_sem, h1, h8, h9, run_eq_val, natVal, hw1, hw2, hw3, hb1, hb2, hb3]
    refine hK _ _ ?_; clear hK K
    refine WP.vret rfl ?_
    try simp only [thenE_ret, blockE_ret]
    refine ret_done (by simp [go_sem, hb1, hb2, hb3] <;> rfl) ?_
    exact ⟨rfl, hS.chg⟩
  · subst hw
    refine WP.vregion rfl rfl fun U => ?_
    simp [go_sem, h1, h8, h9, run_eq_val, natVal]
    refine hK _ _ ?_; clear hK K
    refine WP.vret rfl ?_
    try simp only [thenE_ret, blockE_ret]
    refine ret_done (by simp [go_sem] <;> rfl) ?_
    exact ⟨rfl, hS.chg⟩
  · subst hw
    refine WP.vregion rfl rfl fun U => ?_
    simp [go_sem, h1, h8, h9, run_eq_val, natVal]
    refine hK _ _ ?_; clear hK K
    refine WP.vret rfl ?_
    try simp only [thenE_ret, blockE_ret]
    refine ret_done (by simp [go_sem] <;> rfl) ?_
    exact ⟨rfl, hS.chg⟩
  · subst hw
    refine WP.vregion rfl rfl fun U => ?_
    simp [go_sem, h1, h8, h9, run_eq_val, natVal]
    refine hK _ _ ?_; clear hK K
    refine WP.vret rfl ?_
    try simp only [thenE_ret, blockE_ret]
    refine ret_done (by simp [go_sem] <;> rfl) ?_
    exact ⟨rfl, hS.chg⟩
  · have hb1 : (wh == 1) = false := by simpa using hw1
    have hb2 : (wh == 2) = false := by simpa using hw2
    have hb3 : (wh == 3) = false := by simpa using hw3
    refine WP.vregion rfl rfl fun U => ?_
    simp [go_sem, h1, h8, h9, run_eq_val, natVal, hw1, hw2, hw3, hb1, hb2, hb3]
    refine hK _ _ ?_; clear hK K
    refine WP.vret rfl ?_
    try simp only [thenE_ret, blockE_ret]
    refine ret_done (by simp [go_sem, hb1, hb2, hb3] <;> rfl) ?_
    exact ⟨rfl, hS.chg⟩
end
end Go.Proofs.Ytephkonhiaingaa
