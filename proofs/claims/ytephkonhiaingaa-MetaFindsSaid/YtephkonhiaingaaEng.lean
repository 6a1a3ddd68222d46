/- The walk's own engine: a frame is told by its named slots and the temporaries of one region alone. -/
import Derived.WalkKit
import Derived.WalkSpells
import Derived.WalkLawsBesides
import Derived.OrdersHeld
import Derived.StillTail
set_option linter.unusedSimpArgs false
set_option linter.unusedVariables false
namespace Go.Proofs.Ytephkonhiaingaa
open Go Go.RowKit

/-- What is known of a frame: the slots below m (L), the temporaries of the region at hand (T), and the rest as it is (U). -/
structure Env where
  L : List Value
  T : List (Nat × Value)
  U : Nat → Value

def lk : List (Nat × Value) → (Nat → Value) → Nat → Value
  | [], U, t => U t
  | (k, v) :: T, U, t => if t = k then v else lk T U t

def lkL : List Nat → List Value → Nat → Option Value
  | k :: S, v :: L, t => if t = k then some v else lkL S L t
  | _, _, _ => none

def setL : List Nat → List Value → Nat → Value → Option (List Value)
  | k :: S, u :: L, d, v => if d = k then some (v :: L) else (setL S L d v).map (u :: ·)
  | _, _, _, _ => none

def Env.get (S : List Nat) (E : Env) (t : Nat) : Value := match lkL S E.L t with
  | some v => v
  | none => lk E.T E.U t

def Env.put (n : Nat) (S : List Nat) (E : Env) (d : Nat) (v : Value) : Env := match setL S E.L d v with
  | some L => { E with L := L }
  | none => if d < n then { E with T := (d, v) :: E.T } else E

def Env.put? (n : Nat) (S : List Nat) (E : Env) (d : Option Nat) (v : Value) : Env := match d with | some d => E.put n S d v | none => E

def Env.ev (S : List Nat) (E : Env) : Operand → Value
  | .tmp t => E.get S t
  | .const v => v
  | .global g => .pointer (some ⟨g, 0, none⟩)
  | .func f => .func (.func f) #[] #[]

theorem lkL_none {S : List Nat} {L : List Value} {t : Nat} (hl : L.length = S.length) (h : t ∉ S) : lkL S L t = none := by
  induction S generalizing L with
  | nil => cases L <;> rfl
  | cons k S ih =>
    cases L with
    | nil => rfl
    | cons v L => rw [lkL, if_neg (fun e => h (by simp [e])), ih (by simpa using hl) (fun hm => h (by simp [hm]))]
theorem setL_none {S : List Nat} {L : List Value} {d : Nat} {v : Value} (hl : L.length = S.length) (h : d ∉ S) : setL S L d v = none := by
  induction S generalizing L with
  | nil => cases L <;> rfl
  | cons k S ih =>
    cases L with
    | nil => rfl
    | cons u L => rw [setL, if_neg (fun e => h (by simp [e])), ih (by simpa using hl) (fun hm => h (by simp [hm]))]; rfl
theorem setL_some {S : List Nat} {L : List Value} {d : Nat} {v : Value} (hl : L.length = S.length) (h : d ∈ S) :
    ∃ L', setL S L d v = some L' ∧ L'.length = S.length ∧ ∀ t, lkL S L' t = if t = d then some v else lkL S L t := by
  induction S generalizing L with
  | nil => cases h
  | cons k S ih =>
    cases L with
    | nil => simp at hl
    | cons u L =>
      by_cases hk : d = k
      · refine ⟨v :: L, by rw [setL, if_pos hk], by simpa using hl, fun t => ?_⟩
        rw [lkL, lkL, hk]
        by_cases ht : t = k <;> simp [ht]
      · obtain ⟨L', h1, h2, h3⟩ := ih (L := L) (by simpa using hl) (by simpa [hk] using h)
        refine ⟨u :: L', by rw [setL, if_neg hk, h1]; rfl, by simpa using h2, fun t => ?_⟩
        rw [lkL, lkL, h3]
        by_cases ht : t = k
        · rw [if_pos ht, if_neg (fun e => hk (e.symm.trans ht))]; simp [ht]
        · rw [if_neg ht, if_neg ht]

structure Kn (n : Nat) (S : List Nat) (E : Env) (a : Act) : Prop where
  size : a.tmps.size = n
  defers : a.defers = []
  len : E.L.length = S.length
  le : ∀ k ∈ S, k < n
  get : ∀ t, a.tmps.getD t undef = E.get S t

theorem Kn.eval {n : Nat} {S : List Nat} {E : Env} {a : Act} (h : Kn n S E a) : a.eval = E.ev S := by
  funext x
  cases x with
  | tmp t => exact h.get t
  | _ => rfl

theorem Kn.put {n : Nat} {S : List Nat} {E : Env} {a : Act} (h : Kn n S E a) (d : Option Nat) (v : Value) : Kn n S (E.put? n S d v) (a.put d v) := by
  cases d with
  | none => exact h
  | some d =>
    have hsz : (a.put (some d) v).tmps.size = n := by simp [Act.put, h.size]
    have hg : ∀ t, (a.put (some d) v).tmps.getD t undef = if d = t ∧ d < n then v else a.tmps.getD t undef := by
      intro t
      simp only [Act.put]
      rw [Array.getD_eq_getD_getElem?, Array.getD_eq_getD_getElem?, Array.getElem?_setIfInBounds]
      by_cases e : d = t
      · subst e
        by_cases hd : d < n
        · simp [h.size, hd]
        · simp [h.size, hd]
      · simp [e]
    simp only [Env.put?, Env.put]
    by_cases hm : d ∈ S
    · obtain ⟨L', h1, h2, h3⟩ := setL_some (v := v) h.len hm
      rw [h1]
      refine ⟨hsz, h.defers, h2, h.le, fun t => ?_⟩
      rw [hg t, h.get t]
      simp only [Env.get, h3]
      have hn := h.le d hm
      by_cases e : t = d
      · subst e; simp [hn]
      · rw [if_neg (fun hh => e hh.1.symm), if_neg e]
    · rw [setL_none h.len hm]
      by_cases hn : d < n
      · simp only [hn, if_true]
        refine ⟨hsz, h.defers, h.len, h.le, fun t => ?_⟩
        rw [hg t, h.get t]
        simp only [Env.get]
        by_cases e : d = t
        · subst e
          rw [lkL_none h.len hm]; simp [lk, hn]
        · rw [if_neg (fun hh => e hh.1)]
          cases lkL S E.L t with
          | some u => rfl
          | none => simp only [lk]; rw [if_neg (Ne.symm e)]
      · simp only [hn, if_false]
        refine ⟨hsz, h.defers, h.len, h.le, fun t => ?_⟩
        rw [hg t]
        simp [hn, h.get t]

/-- Forgetting the temporaries. -/
theorem Kn.drop {n : Nat} {S : List Nat} {E : Env} {a : Act} (h : Kn n S E a) : Kn n S ⟨E.L, [], lk E.T E.U⟩ a :=
  ⟨h.size, h.defers, h.len, h.le, fun t => by rw [h.get t]; simp [Env.get, lk]⟩

/-- The post of a piece of code, over what is known of the frame. -/
def lift (n : Nat) (S : List Nat) (Q : Exit → Env → World → Prop) : Exit → Act → World → Prop := fun e a w => ∃ E, Kn n S E a ∧ Q e E w

def WP (P : Program) (n : Nat) (S : List Nat) (c : Code) (Q : Exit → Env → World → Prop) (E : Env) (w : World) : Prop :=
  ∀ a, Kn n S E a → c.wp P (lift n S Q) a w

def thenE (K : Env → World → Prop) (Q : Exit → Env → World → Prop) : Exit → Env → World → Prop
  | .normal, E, w => K E w
  | e, E, w => Q e E w

def blockE (id : Nat) (Q : Exit → Env → World → Prop) : Exit → Env → World → Prop
  | .exit id', E, w => if id' = id then Q .normal E w else Q (.exit id') E w
  | e, E, w => Q e E w

section
variable {P : Program} {n : Nat} {S : List Nat} {Q Q' : Exit → Env → World → Prop} {E : Env} {w : World} {c x y : Code}

theorem WP.mono (h : WP P n S c Q E w) (hq : ∀ e E w, Q e E w → Q' e E w) : WP P n S c Q' E w :=
  fun a ha => Code.wp_mono (fun _ _ _ ⟨E, hE, q⟩ => ⟨E, hE, hq _ _ _ q⟩) (h a ha)

theorem WP.skip (h : Q .normal E w) : WP P n S .skip Q E w := fun _ ha => wp_skip ⟨E, ha, h⟩
theorem WP.ret (h : Q .ret E w) : WP P n S .ret Q E w := fun _ ha => wp_ret ⟨E, ha, h⟩
theorem WP.exit {id : Nat} (h : Q (.exit id) E w) : WP P n S (.exit id) Q E w := fun _ ha => wp_exit ⟨E, ha, h⟩

theorem WP.seq (h : WP P n S x (thenE (fun E w => WP P n S y Q E w) Q) E w) : WP P n S (.seq x y) Q E w := fun a ha =>
  wp_seq (Code.wp_mono (fun e a w ⟨E, hE, q⟩ => by
    cases e with
    | normal => exact q a hE
    | _ => exact ⟨E, hE, q⟩) (h a ha))

theorem WP.seqk (h : ∀ K : Env → World → Prop, (∀ E w, WP P n S y Q E w → K E w) → WP P n S x (thenE K Q) E w) : WP P n S (.seq x y) Q E w :=
  WP.seq (h _ fun _ _ h => h)

theorem WP.cond {p : Operand} {t : Bool} (hp : E.ev S p = .bool t) (h1 : t = true → WP P n S x Q E w) (h2 : t = false → WP P n S y Q E w) : WP P n S (.cond p x y) Q E w := fun a ha =>
  wp_cond_split (by rw [ha.eval]; exact hp) (fun e => h1 e a ha) (fun e => h2 e a ha)

theorem WP.cond_t {p : Operand} (hp : E.ev S p = .bool true) (h1 : WP P n S x Q E w) : WP P n S (.cond p x y) Q E w := fun a ha =>
  wp_cond_true (by rw [ha.eval]; exact hp) (h1 a ha)
theorem WP.cond_f {p : Operand} (hp : E.ev S p = .bool false) (h1 : WP P n S y Q E w) : WP P n S (.cond p x y) Q E w := fun a ha =>
  wp_cond_false (by rw [ha.eval]; exact hp) (h1 a ha)

theorem WP.block {id : Nat} (h : WP P n S c (blockE id Q) E w) : WP P n S (.block id c) Q E w := fun a ha =>
  wp_block (Code.wp_mono (fun e a w ⟨E, hE, q⟩ => by
    cases e with
    | exit id' =>
      simp only [blockE] at q
      simp only [Exit.inBlock]
      split
      · rename_i e; rw [if_pos e] at q; exact ⟨E, hE, q⟩
      · rename_i e; rw [if_neg e] at q; exact ⟨E, hE, q⟩
    | _ => exact ⟨E, hE, q⟩) (h a ha))

theorem least_ex (p : Nat → Prop) (h : ∃ n, p n) : ∃ n, p n ∧ ∀ m, p m → n ≤ m := by
  obtain ⟨n, hn⟩ := h
  induction n using Nat.strongRecOn with
  | _ n ih =>
    by_cases h : ∃ m, m < n ∧ p m
    · obtain ⟨m, hm, hp⟩ := h; exact ih m hm hp
    · exact ⟨n, hn, fun m hm => by
        rcases Nat.lt_or_ge m n with hl | hl
        · exact absurd ⟨m, hl, hm⟩ h
        · exact hl⟩

open Classical in
/-- The least number of which something holds; 0: there is none. -/
noncomputable def leastOf (p : Nat → Prop) : Nat := if h : ∃ n, p n then (least_ex p h).choose else 0
theorem leastOf_spec {p : Nat → Prop} (h : ∃ n, p n) : p (leastOf p) := by
  unfold leastOf; rw [dif_pos h]; exact (least_ex p h).choose_spec.1
theorem leastOf_le {p : Nat → Prop} {m : Nat} (h : p m) : leastOf p ≤ m := by
  have hx : ∃ n, p n := ⟨m, h⟩
  unfold leastOf; rw [dif_pos hx]; exact (least_ex p hx).choose_spec.2 m h

/-- A loop: the relation is over the named slots and the world, and over a number that goes down. -/
theorem WP.loop {d : Nat} (I : Nat → List Value → World → Prop) (h0 : I d E.L w)
    (round : ∀ d L T U w, I d L w → ∀ K : Env → World → Prop, (∀ d' E' w', d' < d → I d' E'.L w' → K E' w') → WP P n S c (thenE K Q) ⟨L, T, U⟩ w) : WP P n S (.loop c) Q E w := fun a ha => by
  refine wp_loop (fun a w => ∃ d, ∃ E : Env, Kn n S E a ∧ I d E.L w) (fun a w => leastOf fun d => ∃ E : Env, Kn n S E a ∧ I d E.L w) ⟨d, E, ha, h0⟩ ?_
  intro a w hI
  obtain ⟨E, ha, hI'⟩ := leastOf_spec hI
  have h := round _ E.L E.T E.U w hI' (fun E' w' => ∃ d', d' < leastOf (fun d => ∃ E : Env, Kn n S E a ∧ I d E.L w) ∧ I d' E'.L w') (fun d' E' w' hd h => ⟨d', hd, h⟩) a ha
  refine Code.wp_mono (fun e a' w' ⟨E', hE', q⟩ => ?_) h
  cases e with
  | normal =>
    obtain ⟨d', hd, q⟩ := q
    exact ⟨⟨d', E', hE', q⟩, Nat.lt_of_le_of_lt (leastOf_le ⟨E', hE', q⟩) hd⟩
  | _ => exact ⟨E', hE', q⟩

end

section
variable {P : Program} {n : Nat} {S : List Nat}

def wantedE (S : List Nat) (ops : List Oper) (o : Oper) (E : Env) : Bool :=
  match o.guard with
  | none => true
  | some (j, b) => match (ops[j]?).bind (·.dst) with
    | some d => (match E.get S d with | .bool c => c == b | _ => false)
    | none => false

/-- A call that returns. -/
structure Ret (P : Program) (f : FuncId) (args : Array Value) (w : World) (R : Value → World → Prop) : Prop where
  out : Calls P f args w fun e w' => ∃ v, e = .returned v ∧ R v w'

theorem Ret.mono {f : FuncId} {args : Array Value} {w : World} {R R' : Value → World → Prop} (h : Ret P f args w R) (hr : ∀ v w', R v w' → R' v w') : Ret P f args w R' :=
  ⟨Calls.mono h.out fun _ _ ⟨v, he, hv⟩ => ⟨v, he, hr _ _ hv⟩⟩

/-- One operation that is carried out. -/
def OPW (P : Program) (n : Nat) (S : List Nat) (o : Oper) (E : Env) (w : World) (k : Env → World → Prop) : Prop :=
  match (execOp (E.ev S) o).run P w with
  | .ok (.value v) w' => k (E.put? n S o.dst v) w'
  | .ok .skip w' => k (E.put? n S o.dst undef) w'
  | .ok (.enter f args) w' => Ret P f args w' fun v w'' => k (E.put? n S o.dst v) w''
  | _ => False

def STEP (P : Program) (n : Nat) (S : List Nat) (ops : List Oper) (o : Oper) (E : Env) (w : World) (k : Env → World → Prop) : Prop :=
  if wantedE S ops o E then OPW P n S o E w k else k (E.put? n S o.dst undef) w

def OPS (P : Program) (n : Nat) (S : List Nat) (ops : List Oper) (N : Env → World → Prop) : List Oper → Env → World → Prop
  | [], E, w => N E w
  | o :: rest, E, w => STEP P n S ops o E w (OPS P n S ops N rest)

theorem yielded_eq {ops : List Oper} {E : Env} {a : Act} (h : Kn n S E a) (o : Oper) (hu : ∀ j b, o.guard = some (j, b) → ∃ d, (ops[j]?).bind (·.dst) = some d ∧ d < n) :
    Region.wanted o (yielded ops.toArray a.tmps) = wantedE S ops o E := by
  unfold Region.wanted wantedE
  rcases hg : o.guard with _ | ⟨j, b⟩
  · rfl
  · obtain ⟨d, hd, hn⟩ := hu j b hg
    simp only [yielded, List.getElem?_toArray, hd, Option.bind_some]
    have hs : a.tmps[d]? = some (a.tmps.getD d undef) := by
      have : d < a.tmps.size := by rw [h.size]; exact hn
      simp [Array.getD_eq_getD_getElem?, this]
    rw [hs, h.get d]
    cases E.get S d <;> simp

/-- Each guard looks at an operation of the region that has a temporary. -/
def guardsOk (n : Nat) (ops : List Oper) : Bool :=
  ops.all fun o => match o.guard with
    | none => true
    | some (j, _) => match (ops[j]?).bind (·.dst) with
      | some d => decide (d < n)
      | none => false

theorem guardsOk_at {ops : List Oper} (h : guardsOk n ops = true) {o : Oper} (ho : o ∈ ops) : ∀ j b, o.guard = some (j, b) → ∃ d, (ops[j]?).bind (·.dst) = some d ∧ d < n := by
  intro j b hg
  have := List.all_eq_true.1 h o ho
  simp only [hg] at this
  split at this
  · rename_i d hd; exact ⟨d, hd, by simpa using this⟩
  · cases this

theorem OPW.sound {o : Oper} {E : Env} {w : World} {k : Env → World → Prop} {Q : Exit → Act → World → Prop} {K : Act → World → Prop} {a : Act} (ha : Kn n S E a)
    (hk : ∀ E a w, Kn n S E a → k E w → K a w) (h : OPW P n S o E w k) : o.wp P a w K Q := by
  unfold Oper.wp
  rw [ha.eval]
  unfold OPW at h
  generalize (execOp (E.ev S) o).run P w = r at h ⊢
  cases r with
  | ok x w' =>
    cases x with
    | value v => exact hk _ _ _ (ha.put _ _) h
    | skip => exact hk _ _ _ (ha.put _ _) h
    | enter f args => exact Calls.mono h.out fun e w'' ⟨v, he, hv⟩ => by subst he; exact hk _ _ _ (ha.put _ _) hv
    | _ => exact h.elim
  | halt x w' => exact h.elim

theorem OPS.sound {ops : List Oper} (hg : guardsOk n ops = true) {N : Env → World → Prop} {Q : Exit → Act → World → Prop} (hN : ∀ E a w, Kn n S E a → N E w → Q .normal a w) :
    ∀ (l : List Oper), (∀ o ∈ l, o ∈ ops) → ∀ (E : Env) (a : Act) (w : World), Kn n S E a → OPS P n S ops N l E w → wpList P ops.toArray Q l a w
  | [], _, E, a, w, ha, h => hN E a w ha h
  | o :: l, hl, E, a, w, ha, h => by
    unfold OPS STEP at h
    unfold wpList
    rw [yielded_eq ha o (guardsOk_at hg (hl o (by simp)))]
    split
    · rename_i hw
      rw [if_pos hw] at h
      exact .inl (OPW.sound ha (fun E a w ha h => OPS.sound hg hN l (fun o ho => hl o (by simp [ho])) E a w ha h) h)
    · rename_i hw
      rw [if_neg hw] at h
      exact OPS.sound hg hN l (fun o ho => hl o (by simp [ho])) _ _ _ (ha.put _ _) h

theorem WP.region {id : Nat} {l : List Oper} {Q : Exit → Env → World → Prop} {E : Env} {w : World} (hg : guardsOk n l = true)
    (h : ∀ U, OPS P n S l (Q .normal) l ⟨E.L, [], U⟩ w) : WP P n S (.region id l.toArray false) Q E w := fun a ha =>
  wp_region_lit (OPS.sound hg (N := Q .normal) (fun E _ _ hE h => ⟨E, hE, h⟩) l (fun _ h => h) _ a w ha.drop (h _))

end

section
variable {P : Program} {n : Nat} {S : List Nat}

/-- What a function hands back, off what is known of its frame. -/
def resE (S : List Nat) (E : Env) (rs : Array ResultVar) : Sem Value := do
  let vs ← rs.mapM fun
    | .tmp t => pure (E.get S t)
    | .cell a t => do loadVar t (← asAddr (E.get S a))
  pure (if h : vs.size = 1 then vs[0] else .tuple vs)

def bodyE (P : Program) (S : List Nat) (rs : Array ResultVar) (R : Ending → World → Prop) : Exit → Env → World → Prop
  | .normal, E, w | .ret, E, w => ∃ v, (resE S E rs).run P w = .ok v w ∧ R (.returned v) w
  | _, _, _ => False

theorem results_eq {fn : Func} {E : Env} {a : Act} (h : Kn n S E a) : results fn a.tmps = resE S E fn.results := by
  unfold results resE
  congr 1
  congr 1
  funext r
  cases r with
  | tmp t => simp only [h.get t]
  | cell b t => simp only [h.get b]

/-- The slots that are told: the parameters first. -/
def okSlots (n p : Nat) (S : List Nat) : Bool := S.take p == List.range' 0 p && S.all (· < n)

theorem lkL_args : ∀ (A : List Value) (o : Nat) (S2 : List Nat) (B : List Value) (t : Nat),
    lkL (List.range' o A.length ++ S2) (A ++ B) t = if o ≤ t ∧ t < o + A.length then some (A.getD (t - o) undef) else lkL S2 B t
  | [], o, S2, B, t => by simp; omega
  | v :: A, o, S2, B, t => by
    rw [List.length_cons, List.range'_succ, List.cons_append, List.cons_append, lkL, lkL_args A (o + 1) S2 B t]
    by_cases h : t = o
    · subst h; simp
    · rw [if_neg h]
      by_cases h1 : o + 1 ≤ t ∧ t < o + 1 + A.length
      · rw [if_pos h1, if_pos (by omega)]
        obtain ⟨q, hq⟩ : ∃ q, t - o = q + 1 := ⟨t - o - 1, by omega⟩
        rw [hq, show t - (o + 1) = q by omega]
        rfl
      · rw [if_neg h1, if_neg (by omega)]
theorem lkL_undef : ∀ (S : List Nat) (k t : Nat), lkL S (List.replicate k undef) t = none ∨ lkL S (List.replicate k undef) t = some undef
  | [], k, t => by cases k <;> exact .inl rfl
  | s :: S, 0, t => .inl rfl
  | s :: S, k + 1, t => by
    rw [List.replicate_succ, lkL]
    by_cases h : t = s
    · rw [if_pos h]; exact .inr rfl
    · rw [if_neg h]; exact lkL_undef S k t

theorem calls_E {f : FuncId} {fn : Func} {c : Code} {args : Array Value} {w : World} {R : Ending → World → Prop} (k : Nat)
    (hf : P.funcs[f]? = some fn) (hb : fn.body = some c) (hn : fn.ntmps = n) (hk : args.size + k = S.length) (hm : okSlots n args.size S = true)
    (h : WP P n S c (bodyE P S fn.results R) ⟨args.toList ++ List.replicate k undef, [], fun _ => undef⟩ w) : Calls P f args w R := by
  simp only [okSlots, Bool.and_eq_true, beq_iff_eq, List.all_eq_true, decide_eq_true_eq] at hm
  obtain ⟨hm1, hm2⟩ := hm
  have hpn : args.size ≤ n := by
    rcases Nat.eq_zero_or_pos args.size with h0 | h0
    · omega
    · have hmem : args.size - 1 ∈ S := by
        refine List.mem_of_mem_take (i := args.size) ?_
        rw [hm1, List.mem_range'_1]
        omega
      have := hm2 _ hmem
      omega
  refine calls_of_wp hf hb (Code.wp_mono ?_ (h { tmps := args ++ Array.replicate (fn.ntmps - args.size) undef, defers := [] } ⟨?_, rfl, ?_, hm2, ?_⟩))
  · rintro e a w ⟨E, hE, q⟩
    cases e with
    | normal => obtain ⟨v, hr, hR⟩ := q; exact ⟨hE.defers, v, by rw [results_eq hE]; exact hr, hR⟩
    | ret => obtain ⟨v, hr, hR⟩ := q; exact ⟨hE.defers, v, by rw [results_eq hE]; exact hr, hR⟩
    | _ => exact q.elim
  · simp; omega
  · simp; omega
  · intro t
    have hS : S = List.range' 0 args.toList.length ++ S.drop args.size := by
      rw [Array.length_toList, ← hm1, List.take_append_drop]
    simp only [Env.get, lk]
    have hl := lkL_args args.toList 0 (S.drop args.size) (List.replicate k undef) t
    rw [← hS] at hl
    rw [hl, Array.getD_eq_getD_getElem?, Array.getElem?_append]
    simp only [Nat.zero_le, true_and, Nat.zero_add, Array.length_toList, Nat.sub_zero]
    by_cases h1 : t < args.size
    · simp [h1]
    · rw [if_neg h1, if_neg h1, Array.getElem?_replicate]
      have hu : ((if t - args.size < fn.ntmps - args.size then some undef else none : Option Value).getD undef) = undef := by split <;> rfl
      rw [hu]
      rcases lkL_undef (S.drop args.size) k t with h2 | h2 <;> rw [h2]

/-- A world of which a condition holds. -/
structure SW (C : World → Prop) where
  w : World
  h : C w

/-- Whatever order is picked from here on; and the condition holds till number k has come up. -/
def wpAnyG (P : Program) (md : Region.Mode) (ops : Array Oper) (Q : Exit → Act → World → Prop) (C : World → Prop) (k : Nat) : Nat → Array Bool → Act → World → Prop
  | 0, listed, a, w => Region.ready md ops listed = [] ∧ Q .normal a w
  | fuel + 1, listed, a, w =>
    (Region.ready md ops listed = [] → Q .normal a w) ∧
    ∀ i ∈ Region.ready md ops listed, wpOp P ops Q i (fun a' w' => ((listed.setIfInBounds i true).getD k false = false → C w') ∧ wpAnyG P md ops Q C k fuel (listed.setIfInBounds i true) a' w') a w

section
variable {ops : Array Oper} {Q : Exit → Act → World → Prop} {md : Region.Mode} {C : World → Prop} {k : Nat}

theorem wpAny_of_G : ∀ (fuel : Nat) (listed : Array Bool) (a : Act) (w : World), wpAnyG P md ops Q C k fuel listed a w → wpAny P md ops Q fuel listed a w
  | 0, _, _, _, h => h
  | fuel + 1, _, _, _, h => ⟨h.1, fun i hi => wpOp_mono (fun a' w' h' => wpAny_of_G fuel _ a' w' h'.2) (h.2 i hi)⟩

/-- What has come up has all that it waits for behind it. -/
def Dc (md : Region.Mode) (ops : Array Oper) (listed : Array Bool) : Prop := ∀ (j : Nat) (oj : Oper), ops[j]? = some oj → listed.getD j false = true → ∀ e ∈ oj.after, Region.binds md e = true → listed.getD e.on false = true

theorem Dc.set {listed : Array Bool} (h : Dc md ops listed) {j : Nat} (hj : j ∈ Region.ready md ops listed) : Dc md ops (listed.setIfInBounds j true) := by
  intro q oq hq hl e he hb
  refine getD_set_true ?_
  by_cases hqj : j = q
  · subst hqj
    obtain ⟨_, o, ho, hall⟩ := mem_ready.1 hj
    rw [hq] at ho; injection ho with ho; subst ho
    exact hall e he hb
  · rw [getD_set_ne false hqj] at hl
    exact h q oq hq hl e he hb

/-- Waits for it, or for one that waits for it, and so on. -/
def waitsT (md : Region.Mode) (ops : Array Oper) : Nat → Nat → Nat → Bool
  | 0, k, i => Region.waitsFor md ops k i
  | n + 1, k, i => Region.waitsFor md ops k i || (List.range ops.size).any fun j => Region.waitsFor md ops k j && waitsT md ops n j i
def waits2 (md : Region.Mode) (ops : Array Oper) (k i : Nat) : Bool := waitsT md ops 5 k i

theorem waitsT_listed {listed : Array Bool} (hd : Dc md ops listed) : ∀ (n k i : Nat), waitsT md ops n k i = true → (∀ j, Region.waitsFor md ops k j = true → listed.getD j false = true) → listed.getD i false = true
  | 0, k, i, h, hk => hk i h
  | n + 1, k, i, h, hk => by
    unfold waitsT at h
    rw [Bool.or_eq_true] at h
    rcases h with h | h
    · exact hk i h
    · obtain ⟨j, _, hj⟩ := List.any_eq_true.1 h
      rw [Bool.and_eq_true] at hj
      have h1 := hk j hj.1
      refine waitsT_listed hd n j i hj.2 fun m hm => ?_
      obtain ⟨oj, hoj, e, he, hb, heq⟩ := Region.waitsFor_spec hm
      rw [← heq]
      exact hd j oj hoj h1 e he hb

theorem waits2_not {k i : Nat} {listed : Array Bool} (h : waits2 md ops k i = true) (hd : Dc md ops listed) (hi : listed.getD i false = false) : k ∉ Region.ready md ops listed := by
  intro hk
  obtain ⟨_, ok, hok, hall⟩ := mem_ready.1 hk
  have := waitsT_listed hd 5 k i h fun j hj => by
    obtain ⟨oj', hoj', e, he, hb, heq⟩ := Region.waitsFor_spec hj
    rw [hok] at hoj'; injection hoj' with hoj'; subst hoj'
    rw [← heq]; exact hall e he hb
  rw [hi] at this
  cases this

theorem wpAnyG_first {i : Nat} {oi : Oper} {v : Value} (hi : ops[i]? = some oi) (hik : i ≠ k) (hsel : ∀ (j : Nat) (o : Oper) cs b, ops[j]? = some o → o.op ≠ .select cs b)
    (hQ : ∀ c a w, Q (.panic c) (a.put oi.dst v) w → Q (.panic c) a w) (Ci : World → Prop) (hC : (Ci = fun _ => True) ∨ (Ci = C ∧ (decide (ops.size ≤ k) || waits2 md ops k i) = true)) :
    ∀ (fuel : Nat) (listed : Array Bool) (a : Act) (w : World),
      (∀ j oj, ops[j]? = some oj → j ≠ i → listed.getD j true = false → (∀ e ∈ oj.after, Region.binds md e = true → e.on ≠ i) → oi.apart ops oj = true) →
      i ∈ Region.ready md ops listed → Dc md ops listed → YieldsIf P ops Ci oi v a → (listed.getD k false = false → C w) → ((Ci = fun _ => True) ∨ listed.getD k false = false) →
      wpAnyG P md ops Q C k fuel (listed.setIfInBounds i true) (a.put oi.dst v) w → wpAnyG P md ops Q C k (fuel + 1) listed a w := by
  have hCi : ∀ (listed : Array Bool) (w : World), (listed.getD k false = false → C w) → ((Ci = fun _ => True) ∨ listed.getD k false = false) → Ci w := by
    intro listed w hS hK
    rcases hC with rfl | ⟨rfl, _⟩
    · trivial
    · rcases hK with h | h
      · rw [h]; trivial
      · exact hS h
  intro fuel
  induction fuel with
  | zero =>
    intro listed a w _ hr hdc hy hS hK H
    refine ⟨fun h => (by rw [h] at hr; cases hr), fun j hj => ?_⟩
    by_cases hji : j = i
    · subst hji; exact hy.wpOp hi (hCi listed w hS hK) ⟨fun h => hS (by rw [getD_set_ne false hik] at h; exact h), H⟩
    · have := ready_mono hj hji
      rw [H.1] at this
      cases this
  | succ fuel ih =>
    intro listed a w hfree hr hdc hy hS hK H
    refine ⟨fun h => (by rw [h] at hr; cases hr), fun j hj => ?_⟩
    by_cases hji : j = i
    · subst hji; exact hy.wpOp hi (hCi listed w hS hK) ⟨fun h => hS (by rw [getD_set_ne false hik] at h; exact h), H⟩
    · have h1 := H.2 j (ready_mono hj hji)
      obtain ⟨hjun, oj, hoj, hall⟩ := mem_ready.1 hj
      have hnot : ∀ e ∈ oj.after, Region.binds md e = true → e.on ≠ i := fun e he hb heq => by
        have h1 := hall e he hb
        have h0 := (mem_ready.1 hr).1
        rw [heq] at h1
        rcases Nat.lt_or_ge i listed.size with h' | h'
        · simp [h'] at h0 h1; rw [h0] at h1; cases h1
        · simp [Array.getElem?_eq_none h'] at h1
      have h2 := wpOp_putIf hoj (hfree j oj hoj hji hjun hnot) (fun cs b => hsel i oi cs b hi) (fun cs b => hsel j oj cs b hoj) hQ hy h1
      have hfree' : ∀ k ok, ops[k]? = some ok → k ≠ i → (listed.setIfInBounds j true).getD k true = false →
          (∀ e ∈ ok.after, Region.binds md e = true → e.on ≠ i) → oi.apart ops ok = true := fun k ok hk hki hun hno => by
        refine hfree k ok hk hki ?_ hno
        by_cases hjk : j = k
        · subst hjk; exact hjun
        · rw [getD_set_ne true hjk] at hun; exact hun
      have hK' : (Ci = fun _ => True) ∨ (listed.setIfInBounds j true).getD k false = false := by
        rcases hK with h | h
        · exact .inl h
        · rcases hC with h' | ⟨_, hw⟩
          · exact .inl h'
          · right
            have hjk : j ≠ k := by
              rintro rfl
              have hjs : j < ops.size := (Array.getElem?_eq_some_iff.1 hoj).1
              have hw : waits2 md ops j i = true := by
                rw [Bool.or_eq_true] at hw
                rcases hw with h | h
                · have := of_decide_eq_true h; omega
                · exact h
              have hi0 : listed.getD i false = false := by
                have h0 := (mem_ready.1 hr).1
                rcases Nat.lt_or_ge i listed.size with h' | h'
                · simp [h'] at h0 ⊢; exact h0
                · simp [Array.getElem?_eq_none h']
              exact waits2_not hw hdc hi0 hj
            rw [getD_set_ne false hjk]; exact h
      refine wpOp_mono (fun a' w' h3 => ?_) h2
      obtain ⟨hy3, hS3, h4⟩ := h3
      have hS3' : (listed.setIfInBounds j true).getD k false = false → C w' := fun h => hS3 (by
        rw [Array.setIfInBounds_comm _ _ (Ne.symm hji), getD_set_ne false hik]; exact h)
      refine ⟨hS3', ih (listed.setIfInBounds j true) a' w' hfree' (ready_mono hr (Ne.symm hji)) (hdc.set hj) hy3 hS3' hK' ?_⟩
      rw [Array.setIfInBounds_comm _ _ hji]
      exact h4
end

/-- A region whose order is drawn, in one order: (i, true): number i only reads what the condition tells; (i, false): it is the only one that may come up. Behind number k the condition isn't wanted. -/
def HOPS (P : Program) (n : Nat) (S : List Nat) (k : Nat) (ops : List Oper) (N : Env → World → Prop) : (World → Prop) → List (Nat × Bool) → Env → World → Prop
  | _, [], E, w => N E w
  | C, (i, b) :: rest, E, w => match ops[i]? with
    | none => False
    | some o => if b then (if wantedE S ops o E then ∃ v, (∀ w' : SW C, (execOp (E.ev S) o).run P w'.w = .ok (.value v) w'.w) ∧ HOPS P n S k ops N C rest (E.put? n S o.dst v) w
        else HOPS P n S k ops N C rest (E.put? n S o.dst undef) w)
      else STEP P n S ops o E w fun E w => if i = k then HOPS P n S k ops N (fun _ => True) rest E w else C w ∧ HOPS P n S k ops N C rest E w

/-- The order's own conditions. -/
def ordOk (ops : Array Oper) (k : Nat) : Bool → List (Nat × Bool) → Array Bool → Bool
  | _, [], listed => (Region.ready .any ops listed).isEmpty
  | d, (i, b) :: rest, listed => (if b then Region.free .any ops listed i && (Region.ready .any ops listed).contains i && i != k && (d || (decide (ops.size ≤ k) || waits2 .any ops k i)) else Region.ready .any ops listed == [i]) &&
      ordOk ops k (d || (i == k)) rest (listed.setIfInBounds i true)

theorem HOPS.sound {ops : List Oper} {k : Nat} (hg : guardsOk n ops = true) (hs : Region.noSelect ops.toArray = true) {N : Env → World → Prop} {Q : Exit → Act → World → Prop}
    (hN : ∀ E a w, Kn n S E a → N E w → Q .normal a w) (hQ : ∀ c a w, ¬ Q (.panic c) a w) (C0 : World → Prop) :
    ∀ (ord : List (Nat × Bool)) (listed : Array Bool) (fuel : Nat) (d : Bool) (C : World → Prop), ord.length ≤ fuel → ordOk ops.toArray k d ord listed = true → listed.size = ops.length → Dc .any ops.toArray listed →
      (d = true → C = (fun _ => True) ∧ listed.getD k false = true) → (d = false → C = C0 ∧ listed.getD k false = false) →
      ∀ (E : Env) (a : Act) (w : World), Kn n S E a → (listed.getD k false = false → C0 w) → HOPS P n S k ops N C ord E w → wpAnyG P .any ops.toArray Q C0 k fuel listed a w
  | [], listed, fuel, d, C, hf, hok, _, _, _, _, E, a, w, ha, hS, h => by
    have hr : Region.ready .any ops.toArray listed = [] := by simpa [ordOk] using hok
    cases fuel with
    | zero => exact ⟨hr, hN E a w ha h⟩
    | succ f => exact ⟨fun _ => hN E a w ha h, fun i hi => by rw [hr] at hi; cases hi⟩
  | (i, b) :: rest, listed, 0, _, _, hf, _, _, _, _, _, _, _, _, _, _, _ => by simp at hf
  | (i, b) :: rest, listed, fuel + 1, d, C, hf, hok, hsz, hdc, hd1, hd2, E, a, w, ha, hS, h => by
    have hf' : rest.length ≤ fuel := by simpa using hf
    unfold HOPS at h
    simp only [ordOk, Bool.and_eq_true] at hok
    obtain ⟨hb, hok'⟩ := hok
    rcases ho : ops[i]? with _ | o
    · rw [ho] at h; exact h.elim
    have hmem : o ∈ ops := List.mem_of_getElem? ho
    have hi : ops.toArray[i]? = some o := by simpa using ho
    have hil : i < listed.size := by rw [hsz]; exact (List.getElem?_eq_some_iff.1 ho).1
    have hsz' : (listed.setIfInBounds i true).size = ops.length := by simpa using hsz
    have hset : (listed.setIfInBounds i true).getD i false = true := by
      simp [hil]
    rw [ho] at h
    cases b with
    | true =>
      simp only [if_true] at hb h
      rw [Bool.and_eq_true, Bool.and_eq_true, Bool.and_eq_true, bne_iff_ne] at hb
      obtain ⟨⟨⟨hb1, hb2⟩, hik⟩, hb4⟩ := hb
      have hki : (listed.setIfInBounds i true).getD k false = listed.getD k false := getD_set_ne false hik
      have hok2 : ordOk ops.toArray k d rest (listed.setIfInBounds i true) = true := by
        rw [show (d || i == k) = d by simp [hik]] at hok'; exact hok'
      have hd2' : d = false → C = C0 ∧ (listed.setIfInBounds i true).getD k false = false := fun h => ⟨(hd2 h).1, by rw [hki]; exact (hd2 h).2⟩
      have hS' : (listed.setIfInBounds i true).getD k false = false → C0 w := fun h => hS (by rw [← hki]; exact h)
      obtain ⟨Ci, hCi, hKi, hsub⟩ : ∃ Ci : World → Prop, ((Ci = fun _ => True) ∨ (Ci = C0 ∧ (decide (ops.toArray.size ≤ k) || waits2 .any ops.toArray k i) = true)) ∧ ((Ci = fun _ => True) ∨ listed.getD k false = false) ∧ ∀ w', Ci w' → C w' := by
        cases d with
        | true => exact ⟨fun _ => True, .inl rfl, .inl rfl, fun w' _ => by rw [(hd1 rfl).1]; trivial⟩
        | false =>
          obtain ⟨h1, h2⟩ := hd2 rfl
          exact ⟨C0, .inr ⟨rfl, by simpa using hb4⟩, .inr h2, fun w' hw' => by rw [h1]; exact hw'⟩
      by_cases hw : wantedE S ops o E = true
      · rw [if_pos hw] at h
        obtain ⟨v, hv, hr⟩ := h
        refine wpAnyG_first (v := v) hi hik (Region.noSelect_spec hs) (fun c a w h => (hQ _ _ _ h).elim) Ci hCi fuel listed a w (Region.free_spec hi hb1) (by simpa using hb2) hdc
          (.inl ⟨by rw [yielded_eq ha o (guardsOk_at hg hmem)]; exact hw, fun w' hw' => ?_⟩) hS hKi
          (HOPS.sound hg hs hN hQ C0 rest _ fuel d C hf' hok2 hsz' (hdc.set (by simpa using hb2)) (fun h => ⟨(hd1 h).1, by rw [hki]; exact (hd1 h).2⟩) hd2' _ _ w (ha.put _ _) hS' hr)
        rw [ha.eval]
        exact hv ⟨w', hsub w' hw'⟩
      · rw [if_neg hw] at h
        exact wpAnyG_first (v := undef) hi hik (Region.noSelect_spec hs) (fun c a w h => (hQ _ _ _ h).elim) Ci hCi fuel listed a w (Region.free_spec hi hb1) (by simpa using hb2) hdc
          (.inr ⟨by rw [yielded_eq ha o (guardsOk_at hg hmem)]; simpa using hw, rfl⟩) hS hKi
          (HOPS.sound hg hs hN hQ C0 rest _ fuel d C hf' hok2 hsz' (hdc.set (by simpa using hb2)) (fun h => ⟨(hd1 h).1, by rw [hki]; exact (hd1 h).2⟩) hd2' _ _ w (ha.put _ _) hS' h)
    | false =>
      simp only [Bool.false_eq_true, if_false] at hb h
      have hb' : Region.ready .any ops.toArray listed = [i] := by simpa using hb
      refine ⟨fun h0 => (by rw [hb'] at h0; cases h0), fun j hj => ?_⟩
      have hjr := hj
      rw [hb'] at hj
      obtain rfl : j = i := by simpa using hj
      -- what comes behind it
      have hnext : ∀ (E : Env) (a : Act) (w : World), Kn n S E a → (if j = k then HOPS P n S k ops N (fun _ => True) rest E w else C w ∧ HOPS P n S k ops N C rest E w) →
          ((listed.setIfInBounds j true).getD k false = false → C0 w) ∧ wpAnyG P .any ops.toArray Q C0 k fuel (listed.setIfInBounds j true) a w := by
        intro E a w ha h
        by_cases hjk : j = k
        · rw [if_pos hjk] at h
          have hc : (listed.setIfInBounds j true).getD k false = false → C0 w := fun h' => by rw [← hjk, hset] at h'; cases h'
          have hok2 : ordOk ops.toArray k true rest (listed.setIfInBounds j true) = true := by
            rw [show (d || j == k) = true by simp [hjk]] at hok'; exact hok'
          exact ⟨hc, HOPS.sound hg hs hN hQ C0 rest _ fuel true (fun _ => True) hf' hok2 hsz' (hdc.set hjr) (fun _ => ⟨rfl, by rw [← hjk]; exact hset⟩) (fun h => by cases h) E a w ha hc h⟩
        · rw [if_neg hjk] at h
          have hki : (listed.setIfInBounds j true).getD k false = listed.getD k false := getD_set_ne false hjk
          have hok2 : ordOk ops.toArray k d rest (listed.setIfInBounds j true) = true := by
            rw [show (d || j == k) = d by simp [hjk]] at hok'; exact hok'
          have hc : (listed.setIfInBounds j true).getD k false = false → C0 w := fun h' => by
            cases d with
            | true => rw [hki, (hd1 rfl).2] at h'; cases h'
            | false => have := (hd2 rfl).1; rw [← this]; exact h.1
          exact ⟨hc, HOPS.sound hg hs hN hQ C0 rest _ fuel d C hf' hok2 hsz' (hdc.set hjr) (fun h => ⟨(hd1 h).1, by rw [hki]; exact (hd1 h).2⟩) (fun h' => ⟨(hd2 h').1, by rw [hki]; exact (hd2 h').2⟩) E a w ha hc h.2⟩
      unfold wpOp
      simp only [hi]
      rw [yielded_eq ha o (guardsOk_at hg hmem)]
      unfold STEP at h
      split
      · rename_i hw
        rw [if_pos hw] at h
        exact .inl (OPW.sound ha (fun E a w ha h => hnext E a w ha h) h)
      · rename_i hw
        rw [if_neg hw] at h
        exact hnext _ _ _ (ha.put _ _) h

/-- No post of ours takes a panic. -/
theorem WP.draw {id : Nat} {l : List Oper} {Q : Exit → Env → World → Prop} {E : Env} {w : World} (C : World → Prop) (k : Nat) (ord : List (Nat × Bool)) (hm : P.follows .mixedOrders = true)
    (hok : (guardsOk n l && Region.noSelect l.toArray && decide (ord.length ≤ l.length) && ordOk l.toArray k false ord (Array.replicate l.length false)) = true)
    (hS : C { w with drawn := w.drawn + 1 }) (h : ∀ U, HOPS P n S k l (Q .normal) C ord ⟨E.L, [], U⟩ { w with drawn := w.drawn + 1 }) : WP P n S (.region id l.toArray true) Q E w := by
  simp only [Bool.and_eq_true, decide_eq_true_eq] at hok
  obtain ⟨⟨⟨hg, hs⟩, hl⟩, ho⟩ := hok
  have h0 : WP P n S (.region id l.toArray true) (thenE (Q .normal) fun _ _ _ => False) E w := fun a ha => by
    refine wp_region_any hm (wpAny_of_G (C := C) (k := k) _ _ _ _ ?_)
    have hsz : l.toArray.size = l.length := by simp
    rw [hsz]
    refine HOPS.sound hg hs (N := Q .normal) (fun E a w hE h => ⟨E, hE, h⟩) ?_ C ord _ _ false C hl ho (by simp) (fun j oj _ h => by rw [getD_replicate_false] at h; cases h) (fun h => by cases h) (fun _ => ⟨rfl, getD_replicate_false _ _⟩) _ a _ ha.drop (fun _ => hS) (h _)
    rintro c a w ⟨E, _, q⟩
    exact q
  exact h0.mono fun e E w q => by
    cases e with
    | normal => exact q
    | _ => exact q.elim
end

/-! ### Code told by its place -/

def Code.child : Code → Nat → Code
  | .seq a b, i => if i = 0 then a else b
  | .cond _ a b, i => if i = 0 then a else b
  | .block _ a, _ => a
  | .loop a, _ => a
  | .scope a, _ => a
  | c, _ => c

def vSeq : Code → Bool | .seq _ _ => true | _ => false
def vCond : Code → Option Operand | .cond p _ _ => some p | _ => none
def vBlock : Code → Option Nat | .block i _ => some i | _ => none
def vExit : Code → Option Nat | .exit i => some i | _ => none
def vLoop : Code → Bool | .loop _ => true | _ => false
def vRet : Code → Bool | .ret => true | _ => false
def vSkip : Code → Bool | .skip => true | _ => false
def vRegion : Code → Option (List Oper × Bool) | .region _ ops d => some (ops.toList, d) | _ => none

section
variable {P : Program} {n : Nat} {S : List Nat} {Q : Exit → Env → World → Prop} {E : Env} {w : World} {c : Code}

theorem WP.vseq (hs : vSeq c = true) (h : ∀ K : Env → World → Prop, (∀ E w, WP P n S (Code.child c 1) Q E w → K E w) → WP P n S (Code.child c 0) (thenE K Q) E w) : WP P n S c Q E w := by
  cases c <;> simp [vSeq] at hs
  exact WP.seqk h

theorem WP.vcond {p : Operand} {t : Bool} (hs : vCond c = some p) (hp : E.ev S p = .bool t) (h1 : t = true → WP P n S (Code.child c 0) Q E w) (h2 : t = false → WP P n S (Code.child c 1) Q E w) : WP P n S c Q E w := by
  cases c <;> simp [vCond] at hs
  subst hs
  exact WP.cond hp h1 h2

theorem WP.vcond_t {p : Operand} (hs : vCond c = some p) (hp : E.ev S p = .bool true) (h1 : WP P n S (Code.child c 0) Q E w) : WP P n S c Q E w :=
  WP.vcond hs hp (fun _ => h1) (fun h => by cases h)
theorem WP.vcond_f {p : Operand} (hs : vCond c = some p) (hp : E.ev S p = .bool false) (h1 : WP P n S (Code.child c 1) Q E w) : WP P n S c Q E w :=
  WP.vcond hs hp (fun h => by cases h) (fun _ => h1)

theorem WP.vblock {i : Nat} (hs : vBlock c = some i) (h : WP P n S (Code.child c 0) (blockE i Q) E w) : WP P n S c Q E w := by
  cases c <;> simp [vBlock] at hs
  subst hs
  exact WP.block h

theorem WP.vexit {i : Nat} (hs : vExit c = some i) (h : Q (.exit i) E w) : WP P n S c Q E w := by
  cases c <;> simp [vExit] at hs
  subst hs
  exact WP.exit h

theorem WP.vret (hs : vRet c = true) (h : Q .ret E w) : WP P n S c Q E w := by
  cases c <;> simp [vRet] at hs
  exact WP.ret h

theorem WP.vskip (hs : vSkip c = true) (h : Q .normal E w) : WP P n S c Q E w := by
  cases c <;> simp [vSkip] at hs
  exact WP.skip h

theorem WP.vloop (hs : vLoop c = true) {d : Nat} (I : Nat → List Value → World → Prop) (h0 : I d E.L w)
    (round : ∀ d L T U w, I d L w → ∀ K : Env → World → Prop, (∀ d' E' w', d' < d → I d' E'.L w' → K E' w') → WP P n S (Code.child c 0) (thenE K Q) ⟨L, T, U⟩ w) : WP P n S c Q E w := by
  cases c <;> simp [vLoop] at hs
  exact WP.loop I h0 round

theorem WP.vregion {l : List Oper} (hs : vRegion c = some (l, false)) (hg : guardsOk n l = true) (h : ∀ U, OPS P n S l (Q .normal) l ⟨E.L, [], U⟩ w) : WP P n S c Q E w := by
  cases c <;> simp [vRegion] at hs
  obtain ⟨rfl, rfl⟩ := hs
  exact WP.region hg h

theorem WP.vdraw {l : List Oper} (hs : vRegion c = some (l, true)) (C : World → Prop) (k : Nat) (ord : List (Nat × Bool)) (hm : P.follows .mixedOrders = true)
    (hok : (guardsOk n l && Region.noSelect l.toArray && decide (ord.length ≤ l.length) && ordOk l.toArray k false ord (Array.replicate l.length false)) = true)
    (hS : C w.drew) (h : ∀ U, HOPS P n S k l (Q .normal) C ord ⟨E.L, [], U⟩ w.drew) : WP P n S c Q E w := by
  cases c <;> simp [vRegion] at hs
  obtain ⟨rfl, rfl⟩ := hs
  exact WP.draw C k ord hm hok hS h


theorem ret_E {f : FuncId} {fn : Func} {args : Array Value} {w : World} {R : Value → World → Prop} (k : Nat)
    (hf : P.funcs[f]? = some fn) (hb : fn.body.isSome = true) (hn : fn.ntmps = n) (hk : args.size + k = S.length) (hm : okSlots n args.size S = true)
    (h : WP P n S (fn.body.getD .skip) (bodyE P S fn.results fun e w' => ∃ v, e = .returned v ∧ R v w') ⟨args.toList ++ List.replicate k undef, [], fun _ => undef⟩ w) : Ret P f args w R := by
  obtain ⟨c, hc⟩ := Option.isSome_iff_exists.1 hb
  rw [hc] at h
  exact ⟨calls_E k hf hc hn hk hm h⟩

end

section
variable {P : Program} {n : Nat} {S : List Nat} {ops : List Oper} {N : Env → World → Prop} {E : Env} {w : World} {o : Oper} {rest : List Oper} {k : Env → World → Prop}

/-- What comes behind: hidden from simp till it is reached. -/
class Kont where
  go : Env → World → Prop
class Vont where
  go : Value → World → Prop
theorem Kont.go_mk {f : Env → World → Prop} : @Kont.go ⟨f⟩ E w = f E w := rfl
theorem Vont.go_mk {f : Value → World → Prop} {v : Value} : @Vont.go ⟨f⟩ v w = f v w := rfl

def RetI (P : Program) (f : FuncId) (args : Array Value) (w : World) [R : Vont] : Prop := Ret P f args w R.go

/-- One step's outcome. -/
def UPON (P : Program) (n : Nat) (S : List Nat) (d : Option Tmp) (E : Env) [k : Kont] : Result Next → Prop
  | .ok (.value v) w' => k.go (E.put? n S d v) w'
  | .ok .skip w' => k.go (E.put? n S d undef) w'
  | .ok (.enter f args) w' => @RetI P f args w' ⟨fun v w'' => k.go (E.put? n S d v) w''⟩
  | _ => False

theorem OPW_eq : OPW P n S o E w k = @UPON P n S o.dst E ⟨k⟩ ((execOp (E.ev S) o).run P w) := rfl
theorem UPON_value {d : Option Tmp} {v : Value} {k : Kont} : @UPON P n S d E k (.ok (.value v) w) = k.go (E.put? n S d v) w := rfl
theorem UPON_skip {d : Option Tmp} {k : Kont} : @UPON P n S d E k (.ok .skip w) = k.go (E.put? n S d undef) w := rfl
theorem UPON_enter {d : Option Tmp} {f : FuncId} {args : Array Value} {k : Kont} : @UPON P n S d E k (.ok (.enter f args) w) = @RetI P f args w ⟨fun v w'' => k.go (E.put? n S d v) w''⟩ := rfl

/-- An operation, given that it is to be carried out, or not. -/
def DO (P : Program) (n : Nat) (S : List Nat) (ops : List Oper) (x : Option Oper) (E : Env) (w : World) [k : Kont] : Prop :=
  match x with
  | none => False
  | some o => STEP P n S ops o E w k.go
theorem DO_some {k : Kont} : @DO P n S ops (some o) E w k = if wantedE S ops o E then @UPON P n S o.dst E k ((execOp (E.ev S) o).run P w) else k.go (E.put? n S o.dst undef) w := rfl

/-- What an operation yields in each world of a condition. -/
def LOOK (P : Program) (n : Nat) (S : List Nat) (C : World → Prop) (d : Option Tmp) (E : Env) (w : World) [k : Kont] (f : SW C → Result Next) : Prop :=
  ∃ v, (∀ w', f w' = .ok (.value v) w'.w) ∧ k.go (E.put? n S d v) w
theorem LOOK_value {C : World → Prop} {d : Option Tmp} {u : Value} {k : Kont} [hn : Nonempty (SW C)] : @LOOK P n S C d E w k (fun w' => .ok (.value u) w'.w) = k.go (E.put? n S d u) w := by
  refine propext ⟨fun ⟨v, hv, hk⟩ => ?_, fun h => ⟨u, fun _ => rfl, h⟩⟩
  obtain ⟨w'⟩ := hn
  have := hv w'
  injection this with h1
  injection h1 with h1
  rw [h1]; exact hk
theorem LOOK_same {W : World} {d : Option Tmp} {u : Value} {k : Kont} : @LOOK P n S (fun w' => w' = W) d E w k (fun _ => .ok (.value u) W) = k.go (E.put? n S d u) w := by
  refine propext ⟨fun ⟨v, hv, hk⟩ => ?_, fun h => ⟨u, fun w' => by rw [w'.h], h⟩⟩
  have := hv ⟨W, rfl⟩
  injection this with h1
  injection h1 with h1
  rw [h1]; exact hk
def LOOKAT (P : Program) (n : Nat) (S : List Nat) (ops : List Oper) (C : World → Prop) (x : Option Oper) (E : Env) (w : World) [k : Kont] : Prop :=
  match x with
  | none => False
  | some o => if wantedE S ops o E then @LOOK P n S C o.dst E w k (fun w' => (execOp (E.ev S) o).run P w'.w) else k.go (E.put? n S o.dst undef) w
theorem LOOKAT_some {C : World → Prop} {k : Kont} : @LOOKAT P n S ops C (some o) E w k = if wantedE S ops o E then @LOOK P n S C o.dst E w k (fun w' => (execOp (E.ev S) o).run P w'.w) else k.go (E.put? n S o.dst undef) w := rfl

theorem HOPS_nil {C : World → Prop} {q : Nat} : HOPS P n S q ops N C [] E w = N E w := rfl
theorem HOPS_look {C : World → Prop} {q : Nat} {i : Nat} {r : List (Nat × Bool)} : HOPS P n S q ops N C ((i, true) :: r) E w = @LOOKAT P n S ops C ops[i]? E w ⟨HOPS P n S q ops N C r⟩ := by
  simp only [HOPS, LOOKAT]
  cases ops[i]? <;> simp [LOOK]
theorem HOPS_do {C : World → Prop} {q : Nat} {i : Nat} {r : List (Nat × Bool)} : HOPS P n S q ops N C ((i, false) :: r) E w =
    @DO P n S ops ops[i]? E w ⟨fun E w => if i = q then HOPS P n S q ops N (fun _ => True) r E w else C w ∧ HOPS P n S q ops N C r E w⟩ := by
  simp only [HOPS, DO]
  cases ops[i]? <;> simp
instance : Nonempty (SW fun _ => True) := ⟨⟨default, trivial⟩⟩
theorem thenE_normal {K : Env → World → Prop} {Q : Exit → Env → World → Prop} : thenE K Q .normal = K := rfl
theorem thenE_exit {K : Env → World → Prop} {Q : Exit → Env → World → Prop} {i : Nat} : thenE K Q (.exit i) = Q (.exit i) := rfl
theorem thenE_ret {K : Env → World → Prop} {Q : Exit → Env → World → Prop} : thenE K Q .ret = Q .ret := rfl
theorem blockE_normal {Q : Exit → Env → World → Prop} {i : Nat} : blockE i Q .normal = Q .normal := rfl
theorem blockE_ret {Q : Exit → Env → World → Prop} {i : Nat} : blockE i Q .ret = Q .ret := rfl
theorem blockE_exit {Q : Exit → Env → World → Prop} {i j : Nat} : blockE i Q (.exit j) E w = if j = i then Q .normal E w else Q (.exit j) E w := rfl
theorem ret_done {rs : Array ResultVar} {R : Value → World → Prop} {v : Value} (hr : (resE S E rs).run P w = .ok v w) (hR : R v w) :
    bodyE P S rs (fun e w' => ∃ v, e = .returned v ∧ R v w') .ret E w := ⟨v, hr, v, rfl, hR⟩
theorem end_done {rs : Array ResultVar} {R : Value → World → Prop} {v : Value} (hr : (resE S E rs).run P w = .ok v w) (hR : R v w) :
    bodyE P S rs (fun e w' => ∃ v, e = .returned v ∧ R v w') .normal E w := ⟨v, hr, v, rfl, hR⟩
theorem OPS_nil : OPS P n S ops N [] E w = N E w := rfl
theorem OPS_cons : OPS P n S ops N (o :: rest) E w = if wantedE S ops o E then @UPON P n S o.dst E ⟨OPS P n S ops N rest⟩ ((execOp (E.ev S) o).run P w) else OPS P n S ops N rest (E.put? n S o.dst undef) w := rfl
end

/-- append, as an operation of its own: the walk stands there. -/
structure APPEND (P : Program) (t u ty : TypeId) (s x : Value) (w : World) (k : Value → World → Prop) : Prop where
  out : match (Builtin.append_ #[t, u] ty #[s, x]).run P w with
    | .ok v w' => k v w'
    | _ => False

def APPENDI (P : Program) (t u ty : TypeId) (s x : Value) (w : World) [k : Vont] : Prop := APPEND P t u ty s x w k.go

theorem OPS_append {P : Program} {n : Nat} {S : List Nat} {ops : List Oper} {N : Env → World → Prop} {E : Env} {w : World} {rest : List Oper} {d : Option Tmp} {ty t u : TypeId} {pos : String} {after : Array Edge} {s x : Operand} :
    OPS P n S ops N (⟨d, .call { callee := .builtin .append, args := #[s, x], argTypes := #[t, u] }, ty, pos, after, none⟩ :: rest) E w =
      @APPENDI P t u ty (E.ev S s) (E.ev S x) w ⟨fun v w' => OPS P n S ops N rest (E.put? n S d v) w'⟩ := by
  unfold APPENDI
  rw [OPS]
  refine propext ⟨fun h => ⟨?_⟩, fun h => ?_⟩
  · revert h
    simp only [STEP, wantedE, if_true, OPW, execOp, resolve, invoke, builtin, Sem.run_bind, Sem.run_pure, Result.andThen_ok, List.map_toArray, List.map_cons, List.map_nil]
    cases (Builtin.append_ #[t, u] ty #[E.ev S s, E.ev S x]).run P w <;> exact fun h => h
  · have h := h.out
    revert h
    simp only [STEP, wantedE, if_true, OPW, execOp, resolve, invoke, builtin, Sem.run_bind, Sem.run_pure, Result.andThen_ok, List.map_toArray, List.map_cons, List.map_nil]
    cases (Builtin.append_ #[t, u] ty #[E.ev S s, E.ev S x]).run P w <;> exact fun h => h

theorem DO_append {P : Program} {n : Nat} {S : List Nat} {ops : List Oper} {E : Env} {w : World} {k : Kont} {d : Option Tmp} {ty t u : TypeId} {pos : String} {after : Array Edge} {s x : Operand} :
    @DO P n S ops (some ⟨d, .call { callee := .builtin .append, args := #[s, x], argTypes := #[t, u] }, ty, pos, after, none⟩) E w k =
      @APPENDI P t u ty (E.ev S s) (E.ev S x) w ⟨fun v w' => k.go (E.put? n S d v) w'⟩ := by
  unfold APPENDI DO
  refine propext ⟨fun h => ⟨?_⟩, fun h => ?_⟩
  · revert h
    simp only [STEP, wantedE, if_true, OPW, execOp, resolve, invoke, builtin, Sem.run_bind, Sem.run_pure, Result.andThen_ok, List.map_toArray, List.map_cons, List.map_nil]
    cases (Builtin.append_ #[t, u] ty #[E.ev S s, E.ev S x]).run P w <;> exact fun h => h
  · have h := h.out
    revert h
    simp only [STEP, wantedE, if_true, OPW, execOp, resolve, invoke, builtin, Sem.run_bind, Sem.run_pure, Result.andThen_ok, List.map_toArray, List.map_cons, List.map_nil]
    cases (Builtin.append_ #[t, u] ty #[E.ev S s, E.ev S x]).run P w <;> exact fun h => h

attribute [go_sem high] OPS_append DO_append

attribute [go_sem] OPS_nil OPS_cons UPON_value UPON_skip UPON_enter DO_some LOOK_value LOOK_same LOOKAT_some Kont.go_mk Vont.go_mk wantedE Env.put? Env.put Env.get Env.ev lk lkL setL HOPS_nil HOPS_look HOPS_do thenE_normal thenE_exit thenE_ret blockE_normal blockE_ret blockE_exit resE
end Go.Proofs.Ytephkonhiaingaa
