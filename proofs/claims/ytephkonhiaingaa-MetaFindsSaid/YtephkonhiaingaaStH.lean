/- The contracts of the heap and of what stands on it, told of a walk's parts. -/
import Derived.Test.YtephkonhiaingaaSt
import Derived.Test.YtephkonhiaingaaMeta2
set_option linter.unusedSimpArgs false
set_option linter.unusedVariables false
namespace Go.Proofs.Ytephkonhiaingaa
open Go Go.RowKit

abbrev heapP (h : Nat) (H : HeapM) : Part := ⟨fun w F => HRep w h H F, fun h hx hd => h.chg hx hd, fun h hF => h.mono hF, fun h => h.inside⟩
abbrev listP (b : Nat) (xs : List Val) : Part := ⟨fun w F => LRep w b xs F, fun h hx hd => h.chg hx hd, fun h hF => h.mono hF, fun h => h.inside⟩
abbrev tableP (b : Nat) (D : Dict) : Part := ⟨fun w F => TRep w b D F, fun h hx hd => h.chg hx hd, fun h hF => h.mono hF, fun h => h.inside⟩

section
variable {P : Program} {w0 w w' : World} {G F F' L L' T T' : Nat → Prop} {l : List Part} {p q : Part} {k i j b h : Nat} {f : FuncId} {args : Array Value} {R : Value → Prop} {a x v key val : Val} {H H' : HeapM} {c : CellM} {D : Dict} {vv nv : Value}

/-- A call that turns nothing. -/
theorem Ret.keep (hr : Ret P f args w (fun r w' => R r ∧ Ext w w')) (hS : St w0 G l w) : Ret P f args w (fun r w' => R r ∧ St w0 G l w') :=
  hr.mono fun _ _ h => ⟨h.1, hS.ext h.2⟩
/-- A call that turns one part. -/
theorem Ret.turns (q : Part) (hS : St w0 G l w) (hk : l[k]? = some p) (hr : ∀ F, p.says w F → Ret P f args w (fun r w' => R r ∧ q.says w' (fun b => F b ∨ w.heap.size ≤ b) ∧ Chg F w w')) :
    Ret P f args w (fun r w' => R r ∧ St w0 G (l.set k q) w') := by
  obtain ⟨F, hp, bk⟩ := hS.turn hk
  exact (hr F hp).mono fun _ _ h => ⟨h.1, bk q h.2.1 h.2.2⟩
/-- A call that makes a part. -/
theorem Ret.makes (q : Part) (hS : St w0 G l w) (hr : Ret P f args w (fun r w' => R r ∧ q.says w' (fun b => w.heap.size ≤ b) ∧ Ext w w')) :
    Ret P f args w (fun r w' => R r ∧ St w0 G (l ++ [q]) w') := hr.mono fun _ _ h => ⟨h.1, hS.add h.2.2 q h.2.1⟩

/-- A value's block is written anew. -/
theorem St.put3 (hS : St w0 G l w) (hk : l[k]? = some (box b (vObj a))) (x : Val) :
    St w0 G (l.set k (box b (vObj x))) (((w.setCell ⟨b, 0, none⟩ (.int .i64 x.k)).setCell ⟨b, 1, none⟩ (.int .i64 x.n)).setCell ⟨b, 2, none⟩ (.string x.t)) := by
  obtain ⟨F, hp, bk⟩ := hS.turn hk
  exact bk (box b (vObj x)) ⟨.inl hp.1, hp.2.put3 x⟩ (((Chg.refl F w).put3 fun _ => hp.1))

theorem newS {n : Nat} (hS : St w0 G l w) (hn : n ≤ 1048576) : Ret Try.prog 11 #[.int .i64 n] w fun r w' => r = .pointer (some ⟨w.heap.size, 0, none⟩) ∧ St w0 G (l ++ [heapP w.heap.size (HeapM.anew n)]) w' :=
  (hNew_ok hn).makes (heapP _ _) hS

/-- A cell more, that has no list and no table. -/
theorem allocS {kind : Int} {vals : List Val} {nums : List Int} {text : ByteArray} (hS : St w0 G l w) (hk : l[k]? = some (heapP h H)) (hk1 : 1 ≤ kind) (hk2 : kind ≤ 10) (hlim : H.live < H.limit)
    (hv : Rd w vv vals.length 3 (vcells vals)) (hn : Rd w nv nums.length 1 (ints nums)) (hvl : vals.length ≤ 1000000000) (hnl : nums.length ≤ 1000000000) :
    Ret Try.prog 44 #[.pointer (some ⟨h, 0, none⟩), .agg #[.int .i64 kind, vv, .pointer none, .pointer none, nv, .string text]] w fun r w' =>
      ∃ ad, r = .tuple #[.int .i64 (H.alloc ⟨ad, kind, vals, none, none, nums, text⟩).2, .int .i64 0] ∧ St w0 G (l.set k (heapP h (H.alloc ⟨ad, kind, vals, none, none, nums, text⟩).1)) w' := by
  obtain ⟨F, hp, bk⟩ := hS.turn hk
  refine (hAlloc_ok (list := none) (table := none) (L := fun _ => False) (T := fun _ => False) hp hk1 hk2 hlim hv hn hvl hnl (fun b xs e => by cases e) (fun b D e => by cases e) (fun x h => h.elim) (fun x h => h.elim)).mono ?_
  rintro r w' ⟨ad, hr, h1, h2⟩
  exact ⟨ad, hr, bk (heapP h _) (h1.mono fun b hb => by
    rcases hb with h | h | h | h
    · exact .inl h
    · exact h.elim
    · exact h.elim
    · exact .inr h) h2⟩

/-- A cell more, that has a table. -/
theorem allocTS {kind : Int} {vals : List Val} {nums : List Int} {text : ByteArray} (hS : St w0 G l w) (hk : l[k]? = some (heapP h H)) (hj : l[j]? = some (tableP b D)) (hkj : k ≠ j) (hk1 : 1 ≤ kind) (hk2 : kind ≤ 10) (hlim : H.live < H.limit)
    (hv : Rd w vv vals.length 3 (vcells vals)) (hn : Rd w nv nums.length 1 (ints nums)) (hvl : vals.length ≤ 1000000000) (hnl : nums.length ≤ 1000000000) :
    Ret Try.prog 44 #[.pointer (some ⟨h, 0, none⟩), .agg #[.int .i64 kind, vv, .pointer none, .pointer (some ⟨b, 0, none⟩), nv, .string text]] w fun r w' =>
      ∃ ad, r = .tuple #[.int .i64 (H.alloc ⟨ad, kind, vals, none, some (b, D), nums, text⟩).2, .int .i64 0] ∧ St w0 G ((l.set k (heapP h (H.alloc ⟨ad, kind, vals, none, some (b, D), nums, text⟩).1)).set j gone) w' := by
  obtain ⟨F, F', hp, hq, hd, bk⟩ := hS.take hk hj hkj
  refine (hAlloc_ok (list := none) (table := some (b, D)) (L := fun _ => False) (T := F') hp hk1 hk2 hlim hv hn hvl hnl (fun b xs e => by cases e) (fun b' D' e => by
    injection e with e; injection e with e1 e2; subst e1; subst e2; exact hq) (fun x h => h.elim) (fun x h => ⟨fun h' => hd x h' h, fun h => h⟩)).mono ?_
  rintro r w' ⟨ad, hr, h1, h2⟩
  exact ⟨ad, hr, bk (heapP h _) (h1.mono fun b hb => by
    rcases hb with h | h | h | h
    · exact .inl h
    · exact h.elim
    · exact .inr (.inl h)
    · exact .inr (.inr h)) (h2.mono fun b _ h => .inl h)⟩

theorem newTableS (hS : St w0 G l w) (hk : l[k]? = some (heapP h H)) (hlim : H.live < H.limit) :
    Ret Try.prog 18 #[.pointer (some ⟨h, 0, none⟩), .pointer none] w fun r w' =>
      ∃ ad tb, r = .tuple #[(vRef (H.alloc (tableCell ad tb Dict.empty vNull)).2).v, .int .i64 0] ∧ St w0 G (l.set k (heapP h (H.alloc (tableCell ad tb Dict.empty vNull)).1)) w' := by
  obtain ⟨F, hp, bk⟩ := hS.turn hk
  refine (hNewTable_ok hp hlim).mono ?_
  rintro r w' ⟨ad, tb, hr, h1, h2⟩
  exact ⟨ad, tb, hr, bk (heapP h _) h1 h2⟩

theorem sNewS (hS : St w0 G l w) (hk : l[k]? = some (heapP h H)) (hc : H.cells[i]? = some (some c)) (hkd : c.kind = 2 ∨ c.kind = 3) (ht : c.table = some (b, D)) (hser : D.serial < 1000000) (hkey : key.k ≠ 0) (hks : key.t.size ≤ 1000000000) :
    Ret Try.prog 28 #[.pointer (some ⟨h, 0, none⟩), (vRef i).v, key.v, val.v] w fun r w' =>
      r = .int .i64 0 ∧ St w0 G (l.set k (heapP h (H.setC i { c with table := some (b, D.put key val) }))) w' :=
  Ret.turns (heapP h _) hS hk fun F hp => sNew_ok hp hc hkd ht hser hkey hks

theorem setDelS {n : Nat} {to : Val} (hS : St w0 G l w) (hk : l[k]? = some (heapP h H)) (hw : HWf n H) (hc : H.cells[i]? = some (some c)) (hkd : c.kind = 2) (hto : to.k ≠ 0 → (∃ c', ofH H to 2 = (some c', 0)) ∧ walkG H (vRef i) 64 to = 0) :
    Ret Try.prog 34 #[.pointer (some ⟨h, 0, none⟩), (vRef i).v, to.v] w fun r w' =>
      r = .int .i64 0 ∧ St w0 G (l.set k (heapP h (H.setC i { c with vals := [to] }))) w' :=
  Ret.turns (heapP h _) hS hk fun F hp => (sSetDel_ok hp hw hc hkd hto).mono fun _ _ h => ⟨h.1, h.2.1.mono fun b hb => .inl hb, h.2.2⟩
end
end Go.Proofs.Ytephkonhiaingaa
