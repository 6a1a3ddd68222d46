/- MetaFinds' middle: three tables and a class are made, one of them is given the name. -/
import Derived.Test.YtephkonhiaingaaMFindsC
set_option linter.unusedSimpArgs false
set_option linter.unusedVariables false
namespace Go.Proofs.Ytephkonhiaingaa
open Go Go.RowKit

section
variable {w0 w : World} {name : ByteArray} {wh : Int} {called : Bool} {h ad : Nat}

theorem lMemberS {i k b : Nat} {l : List Part} {G : Nat → Prop} {H : HeapM} {c : CellM} {D : Dict} {key val : Val} (hS : St w0 G l w) (hk : l[k]? = some (heapP h H)) (hc : H.cells[i]? = some (some c)) (hkd : c.kind = 3) (ht : c.table = some (b, D)) (hser : D.serial < 1000000) (hkey : key.k ≠ 0) (hks : key.t.size ≤ 1000000000) :
    Ret Try.prog 40 #[.pointer (some ⟨h, 0, none⟩), (vRef i).v, key.v, val.v] w fun r w' =>
      r = .int .i64 0 ∧ St w0 G (l.set k (heapP h (H.setC i { c with table := some (b, D.put key val) }))) w' :=
  Ret.turns (heapP h _) hS hk fun F hp => lMember_ok hp hc hkd ht hser hkey hks

set_option maxRecDepth 4000 in
set_option maxHeartbeats 8000000 in
theorem mFinds_b {n8 : Nat} {v9 v10 : Value} {T : List (Nat × Value)} {U : Nat → Value} (hlen : name.size ≤ 50)
    (hS : St w0 (fun _ => False) [heapP h ⟨natPre called ad, [], (natPre called ad).length, 50, 0, 0⟩, box n8 (vObj (natVal called))] w) :
    WP Try.prog 187 (List.range 30 ++ [80]) (Code.child (Code.child (Code.child (Code.child (Code.child (Code.child (Try.f8.body.getD .skip) 1) 1) 1) 1) 1) 1) (bodyE Try.prog (List.range 30 ++ [80]) Try.f8.results fun e w' => ∃ v, e = .returned v ∧ v = .bool true ∧ Ext w0 w')
      ⟨[.string name, .int .i64 wh, .bool called, undef, undef, undef, .bool false, .pointer (some ⟨h, 0, none⟩), .pointer (some ⟨n8, 0, none⟩), v9, v10, undef, undef, undef, undef, undef, undef, undef, undef, undef,
        undef, undef, undef, undef, undef, undef, undef, undef, undef, undef, undef], T, U⟩ w := by
  have hpl : (natPre called ad).length ≤ 1 := by unfold natPre; split <;> simp
  obtain ⟨o0, ho0⟩ : ∃ o, (natPre called ad).length = o := ⟨_, rfl⟩
  obtain ⟨o1, ho1⟩ : ∃ o, (natPre called ad).length + 1 = o := ⟨_, rfl⟩
  obtain ⟨o2, ho2⟩ : ∃ o, (natPre called ad).length + 2 = o := ⟨_, rfl⟩
  obtain ⟨o3, ho3⟩ : ∃ o, (natPre called ad).length + 3 = o := ⟨_, rfl⟩
  refine WP.vseq rfl fun K hK => ?_
  refine WP.vregion rfl rfl fun U => ?_
  simp [go_sem]
  refine (newTableS hS (k := 0) rfl (by show (natPre called ad).length < 50; omega)).mono ?_
  rintro r w1 ⟨a1, t1, rfl, hS⟩
  rw [f_alloc1] at hS ⊢
  rw [ho0]
  try simp [go_sem]
  refine hK _ _ ?_; clear hK K
  replace hS := hS.alloc (vObj (vRef o0))
  change WP _ _ _ _ _ _ (World.alloc w1 (vObj (vRef o0)))
  generalize (World.heap w1).size = n11 at hS ⊢
  generalize World.alloc w1 (vObj (vRef o0)) = w2 at hS ⊢
  refine WP.vseq rfl fun K hK => ?_
  refine WP.vregion rfl rfl fun U => ?_
  simp [go_sem]
  refine (newTableS hS (k := 0) rfl (by show (natPre called ad).length + 1 < 50; omega)).mono ?_
  rintro r w3 ⟨a2, t2, rfl, hS⟩
  rw [f_alloc2] at hS ⊢
  rw [ho1]
  try simp [go_sem]
  refine hK _ _ ?_; clear hK K
  replace hS := hS.alloc (vObj (vRef o1))
  change WP _ _ _ _ _ _ (World.alloc w3 (vObj (vRef o1)))
  generalize (World.heap w3).size = n13 at hS ⊢
  generalize World.alloc w3 (vObj (vRef o1)) = w4 at hS ⊢
  refine WP.vseq rfl fun K hK => ?_
  refine WP.vregion rfl rfl fun U => ?_
  simp [go_sem]
  refine (newTableS hS (k := 0) rfl (by show (natPre called ad).length + 2 < 50; omega)).mono ?_
  rintro r w5 ⟨a3, t3, rfl, hS⟩
  rw [f_alloc3] at hS ⊢
  rw [ho2]
  try simp [go_sem]
  refine hK _ _ ?_; clear hK K
  replace hS := hS.alloc (vObj (vRef o2))
  change WP _ _ _ _ _ _ (World.alloc w5 (vObj (vRef o2)))
  generalize (World.heap w5).size = n15 at hS ⊢
  generalize World.alloc w5 (vObj (vRef o2)) = w6 at hS ⊢
  refine WP.vseq rfl fun K hK => ?_
  refine WP.vregion rfl rfl fun U => ?_
  simp [go_sem]
  refine ((Null_ok _).keep hS).mono ?_
  rintro r w7 ⟨rfl, hS⟩
  try simp [go_sem]
  refine (lNewS hS (k := 0) rfl (by show (natPre called ad).length + 3 < 50; omega)).mono ?_
  rintro r w8 ⟨a4, t4, rfl, hS⟩
  rw [f_alloc4] at hS ⊢
  rw [ho3]
  try simp [go_sem]
  refine hK _ _ ?_; clear hK K
  replace hS := hS.alloc (vObj (vRef o3))
  change WP _ _ _ _ _ _ (World.alloc w8 (vObj (vRef o3)))
  generalize (World.heap w8).size = n17 at hS ⊢
  generalize World.alloc w8 (vObj (vRef o3)) = w9 at hS ⊢
  have hok : ∀ dt dd, dt.t.size ≤ 1000000000 → dd.t.size ≤ 1000000000 → ∀ x, some x ∈ (fH (natPre called ad) a1 t1 a2 t2 a3 t3 a4 t4 (fun _ => Dict.empty) dt dd).cells → CellOk x := fun dt dd h1 h2 => fH_ok nat_ok h1 h2 fun j => by decide
  have hc2 := hS.cell (k := 2) rfl
  have hc3 := hS.cell (k := 3) rfl
  have g0 := f_get0 (pre := natPre called ad) (a1 := a1) (t1 := t1) (a2 := a2) (t2 := t2) (a3 := a3) (t3 := t3) (a4 := a4) (t4 := t4) (D := fun _ => Dict.empty) (dt := vNull) (dd := vNull)
  have g1 := f_get1 (pre := natPre called ad) (a1 := a1) (t1 := t1) (a2 := a2) (t2 := t2) (a3 := a3) (t3 := t3) (a4 := a4) (t4 := t4) (D := fun _ => Dict.empty) (dt := vNull) (dd := vNull)
  have d0 := f_del0 (pre := natPre called ad) (a1 := a1) (t1 := t1) (a2 := a2) (t2 := t2) (a3 := a3) (t3 := t3) (a4 := a4) (t4 := t4) (D := fun _ => Dict.empty) (dt := vNull) (dd := vNull) (vRef o1)
  rw [ho0] at g0 d0
  rw [ho1] at g1
  refine WP.vseq rfl fun K hK => ?_
  refine WP.vregion rfl rfl fun U => ?_
  simp [go_sem, hc2, hc3]
  refine (setDelS (n := 100000000) hS (k := 0) rfl (wf_of (hok vNull vNull (Nat.zero_le _) (Nat.zero_le _))) g0 rfl (fun _ => ⟨⟨_, by rw [of_at g1, if_neg (by simp)]⟩, walk_one g1 rfl rfl (by omega)⟩)).mono ?_
  rw [d0]
  rintro r w10 ⟨rfl, hS⟩
  clear hc2 hc3 g0 g1 d0
  try simp [go_sem]
  refine hK _ _ ?_; clear hK K
  have hc3 := hS.cell (k := 3) rfl
  have hc4 := hS.cell (k := 4) rfl
  have g1 := f_get1 (pre := natPre called ad) (a1 := a1) (t1 := t1) (a2 := a2) (t2 := t2) (a3 := a3) (t3 := t3) (a4 := a4) (t4 := t4) (D := fun _ => Dict.empty) (dt := vRef o1) (dd := vNull)
  have g2 := f_get2 (pre := natPre called ad) (a1 := a1) (t1 := t1) (a2 := a2) (t2 := t2) (a3 := a3) (t3 := t3) (a4 := a4) (t4 := t4) (D := fun _ => Dict.empty) (dt := vRef o1) (dd := vNull)
  have d1 := f_del1 (pre := natPre called ad) (a1 := a1) (t1 := t1) (a2 := a2) (t2 := t2) (a3 := a3) (t3 := t3) (a4 := a4) (t4 := t4) (D := fun _ => Dict.empty) (dt := vRef o1) (dd := vNull) (vRef o2)
  rw [ho1] at g1 d1
  rw [ho2] at g2
  refine WP.vseq rfl fun K hK => ?_
  refine WP.vregion rfl rfl fun U => ?_
  simp [go_sem, hc3, hc4]
  refine (setDelS (n := 100000000) hS (k := 0) rfl (wf_of (hok (vRef o1) vNull (Nat.zero_le _) (Nat.zero_le _))) g1 rfl (fun _ => ⟨⟨_, by rw [of_at g2, if_neg (by simp)]⟩, walk_one g2 rfl rfl (by omega)⟩)).mono ?_
  rw [d1]
  rintro r w11 ⟨rfl, hS⟩
  clear hc3 hc4 g1 g2 d1
  try simp [go_sem]
  refine hK _ _ ?_; clear hK K
  refine WP.vseq rfl fun K hK => ?_
  refine WP.vregion rfl rfl fun U => ?_
  simp [go_sem]
  refine ((Str_ok _ name).keep hS).mono ?_
  rintro r w12 ⟨rfl, hS⟩
  try simp [go_sem]
  refine hK _ _ ?_; clear hK K
  replace hS := hS.alloc (vObj (vStr name))
  change WP _ _ _ _ _ _ (World.alloc w12 (vObj (vStr name)))
  generalize (World.heap w12).size = n19 at hS ⊢
  generalize World.alloc w12 (vObj (vStr name)) = w13 at hS ⊢
  have J : ∀ (T' : List (Nat × Value)) (U' : Nat → Value) (w' : World), St w0 (fun _ => False) [heapP h (fH (natPre called ad) a1 t1 a2 t2 a3 t3 a4 t4 (fD wh name (natVal called)) (vRef o1) (vRef o2)), box n8 (vObj (natVal called)), box n11 (vObj (vRef o0)), box n13 (vObj (vRef o1)), box n15 (vObj (vRef o2)), box n17 (vObj (vRef o3)), box n19 (vObj (vStr name))] w' →
      WP Try.prog 187 (List.range 30 ++ [80]) (Code.child (Code.child (Code.child (Code.child (Code.child (Code.child (Code.child (Code.child (Code.child (Code.child (Code.child (Code.child (Code.child (Code.child (Try.f8.body.getD .skip) 1) 1) 1) 1) 1) 1) 1) 1) 1) 1) 1) 1) 1) 1) (bodyE Try.prog (List.range 30 ++ [80]) Try.f8.results fun e w' => ∃ v, e = .returned v ∧ v = .bool true ∧ Ext w0 w')
      ⟨[.string name, .int .i64 wh, .bool called, undef, undef, undef, .bool false, .pointer (some ⟨h, 0, none⟩), .pointer (some ⟨n8, 0, none⟩), v9, v10, .pointer (some ⟨n11, 0, none⟩), .int .i64 0, .pointer (some ⟨n13, 0, none⟩), .int .i64 0, .pointer (some ⟨n15, 0, none⟩), .int .i64 0, .pointer (some ⟨n17, 0, none⟩), .int .i64 0, .pointer (some ⟨n19, 0, none⟩),
        undef, undef, undef, undef, undef, undef, undef, undef, undef, undef, .int .i64 wh], T', U'⟩ w' := fun T' U' w' hS => mFinds_c hlen ho0 ho1 ho2 ho3 hS
  have hc1 := hS.cell (k := 1) rfl
  have hc2 := hS.cell (k := 2) rfl
  have hc3 := hS.cell (k := 3) rfl
  have hc4 := hS.cell (k := 4) rfl
  have hc5 := hS.cell (k := 5) rfl
  have hc6 := hS.cell (k := 6) rfl
  have hns : (vStr name).t.size ≤ 1000000000 := by show name.size ≤ _; omega
  refine WP.vseq rfl fun K hK => ?_
  refine WP.vseq rfl fun K hK => ?_
  refine WP.vregion rfl rfl fun U => ?_
  simp [go_sem]
  refine hK _ _ ?_; clear hK K
  refine WP.vblock rfl ?_
  by_cases hw0 : wh = 0
  · subst hw0
    have g := f_get0 (pre := natPre called ad) (a1 := a1) (t1 := t1) (a2 := a2) (t2 := t2) (a3 := a3) (t3 := t3) (a4 := a4) (t4 := t4) (D := fun _ => Dict.empty) (dt := vRef o1) (dd := vRef o2)
    have d := f_put0 (pre := natPre called ad) (a1 := a1) (t1 := t1) (a2 := a2) (t2 := t2) (a3 := a3) (t3 := t3) (a4 := a4) (t4 := t4) (name := name) (v := natVal called) (dt := vRef o1) (dd := vRef o2)
    rw [ho0] at g d
    refine WP.vseq rfl fun K hK => ?_
    refine WP.vregion rfl rfl fun U => ?_
    simp [go_sem]
    refine hK _ _ ?_; clear hK K
    refine WP.vcond_t rfl (by simp [go_sem]) ?_
    refine WP.vregion rfl rfl fun U => ?_
    simp [go_sem, hc1, hc2, hc6]
    refine (sNewS (key := vStr name) (val := natVal called) hS (k := 0) rfl g (.inl rfl) rfl (by decide) (by simp) hns).mono ?_
    rw [d]
    rintro r w14 ⟨rfl, hS⟩
    try simp [go_sem]
    exact hK _ _ (J _ _ _ hS)
  refine WP.vseq rfl fun K hK => ?_
  refine WP.vregion rfl rfl fun U => ?_
  simp [go_sem]
  refine hK _ _ ?_; clear hK K
  refine WP.vcond_f rfl (by simp [go_sem, hw0]) ?_
  by_cases hw1 : wh = 1
  · subst hw1
    have g := f_get1 (pre := natPre called ad) (a1 := a1) (t1 := t1) (a2 := a2) (t2 := t2) (a3 := a3) (t3 := t3) (a4 := a4) (t4 := t4) (D := fun _ => Dict.empty) (dt := vRef o1) (dd := vRef o2)
    have d := f_put1 (pre := natPre called ad) (a1 := a1) (t1 := t1) (a2 := a2) (t2 := t2) (a3 := a3) (t3 := t3) (a4 := a4) (t4 := t4) (name := name) (v := natVal called) (dt := vRef o1) (dd := vRef o2)
    rw [ho1] at g d
    refine WP.vseq rfl fun K hK => ?_
    refine WP.vregion rfl rfl fun U => ?_
    simp [go_sem]
    refine hK _ _ ?_; clear hK K
    refine WP.vcond_t rfl (by simp [go_sem]) ?_
    refine WP.vregion rfl rfl fun U => ?_
    simp [go_sem, hc1, hc3, hc6]
    refine (sNewS (key := vStr name) (val := natVal called) hS (k := 0) rfl g (.inl rfl) rfl (by decide) (by simp) hns).mono ?_
    rw [d]
    rintro r w14 ⟨rfl, hS⟩
    try simp [go_sem]
    exact hK _ _ (J _ _ _ hS)
  refine WP.vseq rfl fun K hK => ?_
  refine WP.vregion rfl rfl fun U => ?_
  simp [go_sem]
  refine hK _ _ ?_; clear hK K
  refine WP.vcond_f rfl (by simp [go_sem, hw1]) ?_
  by_cases hw2 : wh = 2
  · subst hw2
    have g := f_get2 (pre := natPre called ad) (a1 := a1) (t1 := t1) (a2 := a2) (t2 := t2) (a3 := a3) (t3 := t3) (a4 := a4) (t4 := t4) (D := fun _ => Dict.empty) (dt := vRef o1) (dd := vRef o2)
    have d := f_put2 (pre := natPre called ad) (a1 := a1) (t1 := t1) (a2 := a2) (t2 := t2) (a3 := a3) (t3 := t3) (a4 := a4) (t4 := t4) (name := name) (v := natVal called) (dt := vRef o1) (dd := vRef o2)
    rw [ho2] at g d
    refine WP.vseq rfl fun K hK => ?_
    refine WP.vregion rfl rfl fun U => ?_
    simp [go_sem]
    refine hK _ _ ?_; clear hK K
    refine WP.vcond_t rfl (by simp [go_sem]) ?_
    refine WP.vregion rfl rfl fun U => ?_
    simp [go_sem, hc1, hc4, hc6]
    refine (sNewS (key := vStr name) (val := natVal called) hS (k := 0) rfl g (.inl rfl) rfl (by decide) (by simp) hns).mono ?_
    rw [d]
    rintro r w14 ⟨rfl, hS⟩
    try simp [go_sem]
    exact hK _ _ (J _ _ _ hS)
  refine WP.vseq rfl fun K hK => ?_
  refine WP.vregion rfl rfl fun U => ?_
  simp [go_sem]
  refine hK _ _ ?_; clear hK K
  refine WP.vcond_f rfl (by simp [go_sem, hw2]) ?_
  by_cases hw3 : wh = 3
  · subst hw3
    have g := f_get3 (pre := natPre called ad) (a1 := a1) (t1 := t1) (a2 := a2) (t2 := t2) (a3 := a3) (t3 := t3) (a4 := a4) (t4 := t4) (D := fun _ => Dict.empty) (dt := vRef o1) (dd := vRef o2)
    have d := f_put3 (pre := natPre called ad) (a1 := a1) (t1 := t1) (a2 := a2) (t2 := t2) (a3 := a3) (t3 := t3) (a4 := a4) (t4 := t4) (name := name) (v := natVal called) (dt := vRef o1) (dd := vRef o2)
    rw [ho3] at g d
    refine WP.vseq rfl fun K hK => ?_
    refine WP.vregion rfl rfl fun U => ?_
    simp [go_sem]
    refine hK _ _ ?_; clear hK K
    refine WP.vcond_t rfl (by simp [go_sem]) ?_
    refine WP.vregion rfl rfl fun U => ?_
    simp [go_sem, hc1, hc5, hc6]
    refine (lMemberS (key := vStr name) (val := natVal called) hS (k := 0) rfl g rfl rfl (by decide) (by simp) hns).mono ?_
    rw [d]
    rintro r w14 ⟨rfl, hS⟩
    try simp [go_sem]
    exact hK _ _ (J _ _ _ hS)
  refine WP.vseq rfl fun K hK => ?_
  refine WP.vregion rfl rfl fun U => ?_
  simp [go_sem]
  refine hK _ _ ?_; clear hK K
  refine WP.vcond_f rfl (by simp [go_sem, hw3]) ?_
  refine WP.vskip rfl ?_
  simp only [go_sem]
  refine hK _ _ (J _ _ _ ?_)
  rw [← f_put_none hw0 hw1 hw2 hw3]
  exact hS
end
end Go.Proofs.Ytephkonhiaingaa
