/- Regions: the operations of one, in the order of the text. -/
import Derived.Test.YtfacghikjnjjmaaSx9
namespace Go.SX
open Go Go.Lib
set_option linter.unusedSectionVars false
variable [Env]

/-- what a step does to the world, but for numbers from n on -/
structure ExtN (n : Nat) (ρ : Nat → Loc) (σ : St) (w : World) (ρ' : Nat → Loc) (σ' : St) (w' : World) : Prop where
  len : n ≤ σ'.length
  same : Same n ρ ρ'
  os : w'.os = w.os
  tape : w'.tape = w.tape
  output : w'.output = w.output
  size : w.heap.size ≤ w'.heap.size
  keep : ∀ b, b < w.heap.size → (∀ i, owned ρ σ i → ¬ foot w (ρ i) (σ.at i) b) → w'.heap[b]? = w.heap[b]?
  own : ∀ i, owned ρ' σ' i → ∀ b, foot w' (ρ' i) (σ'.at i) b → (∃ j, owned ρ σ j ∧ foot w (ρ j) (σ.at j) b) ∨ w.heap.size ≤ b

theorem ExtN.refl {n : Nat} (ρ : Nat → Loc) (σ : St) (w : World) (h : n ≤ σ.length) : ExtN n ρ σ w ρ σ w :=
  ⟨h, fun _ _ => rfl, rfl, rfl, rfl, Nat.le_refl _, fun _ _ _ => rfl, fun i h _ hf => .inl ⟨i, h, hf⟩⟩
theorem Ext.toN {ρ ρ' : Nat → Loc} {σ σ' : St} {w w' : World} (h : Ext ρ σ w ρ' σ' w') {n : Nat} (hn : n ≤ σ.length) : ExtN n ρ σ w ρ' σ' w' :=
  ⟨Nat.le_trans hn h.len, fun i hi => h.same i (by omega), h.os, h.tape, h.output, h.size, h.keep, h.own⟩
theorem ExtN.trans {n : Nat} {ρ ρ1 ρ2 : Nat → Loc} {σ σ1 σ2 : St} {w w1 w2 : World} (h : ExtN n ρ σ w ρ1 σ1 w1) (k : ExtN n ρ1 σ1 w1 ρ2 σ2 w2) : ExtN n ρ σ w ρ2 σ2 w2 where
  len := k.len
  same i hi := (k.same i hi).trans (h.same i hi)
  os := k.os.trans h.os
  tape := k.tape.trans h.tape
  output := k.output.trans h.output
  size := Nat.le_trans h.size k.size
  keep b hb hn := by
    rw [k.keep b (Nat.lt_of_lt_of_le hb h.size), h.keep b hb hn]
    intro i hi hf
    rcases h.own i hi b hf with ⟨j, hj, ej⟩ | hge
    · exact hn j hj ej
    · omega
  own i hi b hf := by
    rcases k.own i hi b hf with ⟨j, hj, ej⟩ | hge
    · exact h.own j hj b ej
    · right; have := h.size; omega

def NamesOk (P : Program) : Prop := ∀ (g : FuncId) (fn : Func), P.funcs[g]? = some fn → (fn.name == "runtime.NumGoroutine") = false

def VRel (ρ : Nat → Loc) (n : Nat) (l : List AV) (vs : Array Value) : Prop :=
  l.length = vs.size ∧ ∀ (i : Nat) a x, l[i]? = some a → vs[i]? = some x → ARel ρ n a x

/-- how a call ends -/
def EndIs (v : AV) (val : Value) (e : Ending) : Prop :=
  if v.panB then e = .panicked [{ v := val, recovered := false }] else e = .returned val

/-- what a call must come to -/
def Den (P : Program) (g : FuncId) (args : List AV) (σ : St) (v : AV) (σ' : St) : Prop :=
  (∃ fn, P.funcs[g]? = some fn ∧ fn.body.isSome = true) ∧
  ∀ (ρ : Nat → Loc) (w : World) (vals : Array Value), Rel ρ σ w → GlOk ρ σ.length → VRel ρ σ.length args vals →
    Calls P g vals w fun e w' => ∃ val ρ', EndIs v val e ∧ ARel ρ' σ'.length v val ∧ Rel ρ' σ' w' ∧ Ext ρ σ w ρ' σ' w'

def CallSound (P : Program) (call : FuncId → List AV → St → Out (AV × St)) : Prop :=
  ∀ g args σ v σ', (call g args σ).run = some (v, σ') → Den P g args σ v σ'

section
variable {P : Program} {call : FuncId → List AV → St → Out (AV × St)}

/-- where a run stands -/
structure At (ρ : Nat → Loc) (f : Fr) (σ : St) (a : Act) (w : World) : Prop where
  fr : FRel ρ σ.length f a.tmps
  rel : Rel ρ σ w

theorem named_run {α : Type} (o : Out α) (s : String) : (o.named s).run = o.run := by cases o <;> rfl

/-- what follows code that ended so -/
def ExPost (Q : Exit → Act → World → Prop) (e : Ex) (ρ : Nat → Loc) (n : Nat) (a : Act) (w : World) : Prop :=
  match e with
  | .normal => Q .normal a w
  | .exit i => Q (.exit i) a w
  | .ret => Q .ret a w
  | .pan t p => ∀ val, ARel ρ n (.pan t p) val → Q (.panic [{ v := val, recovered := false }]) a w

/-- an operation, and what follows it -/
theorem operE0_wp (hc : CallSound P call) (hn : NamesOk P) {o : Oper} {f : Fr} {σ σ' : St} {v : AV} {ρ : Nat → Loc} {a : Act} {w : World} {next : Act → World → Prop} {Q : Exit → Act → World → Prop}
    (hat : At ρ f σ a w) (h : (operE0 P call o f σ).run = some (v, σ'))
    (hnext : v.panB = false → ∀ ρ' val w', ARel ρ' σ'.length v val → Rel ρ' σ' w' → Ext ρ σ w ρ' σ' w' → next (a.put o.dst val) w')
    (hpan : v.panB = true → ∀ ρ' val w', ARel ρ' σ'.length v val → Rel ρ' σ' w' → Ext ρ σ w ρ' σ' w' → Q (.panic [{ v := val, recovered := false }]) a w') : o.wp P a w next Q := by
  unfold operE0 at h
  split at h
  · rename_i g args ats hop
    have hgl := hat.fr.2.2
    obtain ⟨⟨fn, hfn, hb⟩, hden⟩ := hc _ _ _ _ _ h
    have hv : VRel ρ σ.length (args.toList.map (opd f)) (args.map a.eval) := by
      refine ⟨by simp, fun i x y h1 h2 => ?_⟩
      rw [List.getElem?_map] at h1
      rw [Array.getElem?_map] at h2
      rw [Array.getElem?_toList] at h1
      cases hx : args[i]? with
      | none => rw [hx] at h1; cases h1
      | some z => rw [hx] at h1 h2; cases h1; cases h2; exact opd_rel hat.fr z
    have hcalls := hden ρ w (args.map a.eval) hat.rel hgl hv
    have hrun : (execOp a.eval o).run P w = .ok (.enter g (args.map a.eval)) w := by
      have hbn : fn.body.isNone = false := by cases hfb : fn.body <;> simp [hfb] at hb ⊢
      have hnm : (fn.name == "runtime.NumGoroutine") = false := hn g fn hfn
      simp only [execOp, hop, resolve, Act.eval, Deferred.ofValue, Sem.run_bind, Sem.run_pure, Result.andThen_ok, invoke, callFunc, run_program]
      simp [hfn, hnm, hbn]
    show o.upon P a next Q ((execOp a.eval o).run P w)
    rw [hrun]
    refine hcalls.mono ?_
    rintro e w' ⟨val, ρ', he, q1, q2, q3⟩
    unfold EndIs at he
    cases hp : v.panB with
    | false => rw [hp] at he; simp only [Bool.false_eq_true, if_false] at he; subst he; exact hnext hp ρ' val w' q1 q2 q3
    | true => rw [hp] at he; simp only [if_true] at he; subst he; exact hpan hp ρ' val w' q1 q2 q3
  · obtain ⟨ρ', w', val, h3, h4, h5, h1, h2⟩ := opE_sound (P := P) (a := a) hat.rel hat.fr (by rw [← named_run _ o.pos]; exact h)
    cases hp : v.panB with
    | false =>
      obtain ⟨nx, h6, h7⟩ := h1 hp
      rcases h7 with rfl | ⟨rfl, rfl⟩
      · show o.upon P a next Q ((execOp a.eval o).run P w)
        rw [h6]
        exact hnext hp ρ' val w' h3 h4 h5
      · show o.upon P a next Q ((execOp a.eval o).run P w)
        rw [h6]
        exact hnext hp ρ' undef w' h3 h4 h5
    | true =>
      show o.upon P a next Q ((execOp a.eval o).run P w)
      rw [h2 hp]
      exact hpan hp ρ' val w' h3 h4 h5

theorem onE_some {o : Oper} {f : Fr} {v : AV} {σ : St} {k : Fr → St → Out (Ex × Fr × St)} {x : Ex × Fr × St} (h : (onE o f v σ k).run = some x) :
    (v.panB = false ∧ (k (putF f o.dst v) σ).run = some x) ∨ (∃ t p, v = .pan t p ∧ x = (.pan t p, f, σ)) := by
  unfold onE at h
  split at h
  · cases h; exact .inr ⟨_, _, rfl, rfl⟩
  · rename_i hv
    refine .inl ⟨?_, h⟩
    cases v <;> first | rfl | exact absurd rfl (hv _ _)

theorem put_rel {ρ : Nat → Loc} {n : Nat} {f : Fr} {a : Act} {d : Option Tmp} {v : AV} {val : Value} (h : FRel ρ n f a.tmps) (hv : ARel ρ n v val) : FRel ρ n (putF f d v) (a.put d val).tmps := by
  cases d with
  | none => exact h
  | some t => exact h.set hv
/-- slots but these stay, and what is deferred -/
def Stay (D : Nat → Bool) (a a' : Act) : Prop := a'.defers = a.defers ∧ (a'.tmps.size = a.tmps.size) ∧ ∀ t, D t = false → a'.tmps.getD t undef = a.tmps.getD t undef
theorem Stay.refl (D : Nat → Bool) (a : Act) : Stay D a a := ⟨rfl, rfl, fun _ _ => rfl⟩
theorem Stay.trans {D : Nat → Bool} {a b c : Act} (h : Stay D a b) (k : Stay D b c) : Stay D a c := ⟨k.1.trans h.1, k.2.1.trans h.2.1, fun t ht => (k.2.2 t ht).trans (h.2.2 t ht)⟩
def opD (D : Nat → Bool) (o : Oper) : Bool :=
  match o.dst with
  | some d => D d
  | none => true
def codeD (D : Nat → Bool) : Code → Bool
  | .region _ ops _ => ops.toList.all (opD D)
  | .seq a b => codeD D a && codeD D b
  | .cond _ a b => codeD D a && codeD D b
  | .block _ b => codeD D b
  | .loop b => codeD D b
  | _ => true
theorem Stay.put {D : Nat → Bool} {o : Oper} (h : opD D o = true) (a : Act) (v : Value) : Stay D a (a.put o.dst v) := by
  unfold opD at h
  cases hd : o.dst with
  | none => exact .refl _ _
  | some d =>
    rw [hd] at h
    have h : D d = true := h
    refine ⟨rfl, by show (a.tmps.setIfInBounds d v).size = _; simp, fun t ht => ?_⟩
    show (a.tmps.setIfInBounds d v).getD t undef = _
    have hne : d ≠ t := fun e => by rw [e] at h; rw [h] at ht; cases ht
    rw [Array.getD_eq_getD_getElem?, Array.getD_eq_getD_getElem?, Array.getElem?_setIfInBounds_ne hne]
theorem put_defers (a : Act) (d : Option Tmp) (v : Value) : (a.put d v).defers = a.defers := by cases d <;> rfl

/-! Frames that are alike but at some slots. -/
theorem Fr.get_set_ne (f : Fr) {i j : Nat} (x : AV) (h : j ≠ i) : (f.set i x).get j = f.get j := by
  rcases Fr.get_set f i j x with e | ⟨e, _⟩
  · exact e
  · exact absurd e h
theorem Fr.get_set_eq (f : Fr) (i : Nat) (x : AV) : (f.set i x).get i = x ∨ (f.set i x).get i = .one .any := by
  by_cases hx : (f.set i x).get i = x
  · exact .inl hx
  · right
    rcases Fr.get_set f i i x with e | ⟨_, _, e⟩
    · rw [e]
      rw [Fr.set_eq] at hx
      rw [Fr.get_eq] at hx ⊢
      by_cases hi : i < f.n
      · simp only [hi, if_true] at hx ⊢
        exact FRel.set.F.out f.t i x hx
      · simp only [hi, if_false]
    · exact absurd e hx

/-! Quiet operations. -/
def Out.All {α : Type} (p : α → Prop) (o : Out α) : Prop := ∀ x, o.run = some x → p x
theorem Out.All.fail {α : Type} {p : α → Prop} {w : String} : (Out.fail w).All p := fun x h => by cases h
theorem Out.All.ok {α : Type} {p : α → Prop} {a : α} (h : p a) : (Out.ok a).All p := fun x e => by cases e; exact h
theorem Out.All.guard {α : Type} {p : α → Prop} {g : B} {o : Out α} (h : o.All p) : (Out.guard g o).All p := fun x e => h x (guard_some e).2
theorem Out.All.ite {α : Type} {p : α → Prop} {g : B} {t e : Unit → Out α} (h : (t ()).All p) (h' : (e ()).All p) : (Out.ite g t e).All p := fun x hx => by
  rcases ite_some hx with ⟨_, hx⟩ | ⟨_, hx⟩
  · exact h x hx
  · exact h' x hx
theorem Out.All.num {α : Type} {p : α → Prop} {s : Sc} {k : X → Out α} (h : ∀ n, (k n).All p) : (Out.numX s k).All p := fun x e => by
  obtain ⟨_, _, _, e⟩ := num_some e
  exact h _ x e
theorem Out.All.bind {α β : Type} {p : β → Prop} {o : Out α} {k : α → Out β} (h : ∀ a, (k a).All p) : (o.bind k).All p := fun x e => by
  obtain ⟨a, _, e⟩ := bind_some e
  exact h a x e

theorem Out.All.bounds {α : Type} {p : α → Prop} {len : X} {lo hi : Option Sc} {k : X → X → Out α} (h : ∀ a b, (k a b).All p) : (boundsE len lo hi k).All p := by
  unfold boundsE
  cases hi <;> cases lo <;> simp only [boundE] <;> repeat (first
    | exact h _ _
    | (refine .guard ?_)
    | (refine .num fun _ => ?_))
theorem silent_opE {o : Oper} {f : Fr} {σ : St} (hs : silentO o = true) : (opE P o f σ).All (fun x => x.2 = σ) := by
  unfold silentO at hs
  unfold opE
  generalize o.op = op at hs ⊢
  cases op <;> try (cases hs; done)
  case call c =>
    obtain ⟨callee, args, ats⟩ := c
    cases callee <;> try (cases hs; done)
    rename_i b
    cases b <;> try (cases hs; done)
    all_goals
      dsimp only
      repeat (first
        | exact .fail
        | exact .ok rfl
        | (refine .guard ?_)
        | (refine .ite ?_ ?_)
        | (refine .num fun _ => ?_)
        | (refine .bind fun _ => ?_)
        | split)
  case slice t x lo hi mx =>
    cases mx <;> try (cases hs; done)
    all_goals
      try dsimp only
      repeat (first
        | exact .fail
        | exact .ok rfl
        | (refine .guard ?_)
        | (refine .ite ?_ ?_)
        | (refine .num fun _ => ?_)
        | (refine .bind fun _ => ?_)
        | (refine .bounds fun _ _ => ?_)
        | split)
  all_goals
    dsimp only
    repeat (first
      | exact .fail
      | exact .ok rfl
      | (refine .guard ?_)
      | (refine .ite ?_ ?_)
      | (refine .num fun _ => ?_)
      | (refine .bind fun _ => ?_)
      | split)

theorem splitV_run {x : AV × St} {v : AV} {σ' : St} (h : (splitV x).run = some (v, σ')) : σ' = x.2 ∧ v.panB = x.1.panB ∧ ∀ ρ n val, ARel ρ n x.1 val → ARel ρ n v val := by
  obtain ⟨y, s⟩ := x
  unfold splitV at h
  split at h
  · rename_i b he
    simp only at he
    subst he
    cases h
    exact ⟨rfl, rfl, fun _ _ _ h => h⟩
  · rename_i b _ he
    simp only at he
    subst he
    simp only [Out.run] at h
    cases hb : b.den with
    | true =>
      rw [hb] at h; cases h
      refine ⟨rfl, rfl, fun ρ n val h => ?_⟩
      have h : val = .bool b.den := h
      rw [hb] at h; exact h
    | false =>
      rw [hb] at h; cases h
      refine ⟨rfl, rfl, fun ρ n val h => ?_⟩
      have h : val = .bool b.den := h
      rw [hb] at h; exact h
  · cases h; exact ⟨rfl, rfl, fun _ _ _ h => h⟩
theorem splitO_run {o : Oper} {x : AV × St} {v : AV} {σ' : St} (h : (splitO o x).run = some (v, σ')) : σ' = x.2 ∧ v.panB = x.1.panB ∧ ∀ ρ n val, ARel ρ n x.1 val → ARel ρ n v val := by
  unfold splitO at h
  cases hc : isCallO o with
  | true => rw [hc] at h; cases h; exact ⟨rfl, rfl, fun _ _ _ h => h⟩
  | false => rw [hc] at h; exact splitV_run h
theorem operE_wp (hc : CallSound P call) (hn : NamesOk P) {o : Oper} {f : Fr} {σ σ' : St} {v : AV} {ρ : Nat → Loc} {a : Act} {w : World} {next : Act → World → Prop} {Q : Exit → Act → World → Prop}
    (hat : At ρ f σ a w) (h : (operE P call o f σ).run = some (v, σ'))
    (hnext : v.panB = false → ∀ ρ' val w', ARel ρ' σ'.length v val → Rel ρ' σ' w' → Ext ρ σ w ρ' σ' w' → next (a.put o.dst val) w')
    (hpan : v.panB = true → ∀ ρ' val w', ARel ρ' σ'.length v val → Rel ρ' σ' w' → Ext ρ σ w ρ' σ' w' → Q (.panic [{ v := val, recovered := false }]) a w') : o.wp P a w next Q := by
  obtain ⟨⟨v0, σ0⟩, h1, h2⟩ := bind_some h
  obtain ⟨e1, e2, e3⟩ := splitO_run h2
  subst e1
  exact operE0_wp hc hn hat h1 (fun hp ρ' val w' a b c => hnext (e2.trans hp) ρ' val w' (e3 _ _ _ a) b c) (fun hp ρ' val w' a b c => hpan (e2.trans hp) ρ' val w' (e3 _ _ _ a) b c)
theorem silent_op {o : Oper} {f : Fr} {σ σ' : St} {v : AV} (hs : silentO o = true) (h : (operE P call o f σ).run = some (v, σ')) : σ' = σ := by
  obtain ⟨⟨v0, σ0⟩, h, h2⟩ := bind_some h
  obtain ⟨rfl, _⟩ := splitO_run h2
  unfold operE0 at h
  split at h
  · rename_i g args ats hop
    unfold silentO at hs
    rw [hop] at hs
    cases hs
  · rw [named_run] at h
    exact silent_opE hs _ h

theorem arel_undef {ρ : Nat → Loc} {n : Nat} : ARel ρ n (.tup []) undef := ⟨#[], rfl, rfl, fun i p x h => by simp at h⟩
theorem slot_undef {ρ : Nat → Loc} {n : Nat} {tmps : Array Value} {d : Nat} (h : ARel ρ n (.tup []) (tmps.getD d undef)) {ops : Array Oper} {j : Nat} (hd : (ops[j]?).bind (·.dst) = some d) : yielded ops tmps j = none := by
  obtain ⟨vs, hv, hl, _⟩ := h
  have hv' : tmps.getD d undef = .tuple #[] := by
    rw [hv]
    have : vs = #[] := Array.eq_empty_of_size_eq_zero hl.symm
    rw [this]
  unfold yielded
  rw [hd]
  rw [Array.getD_eq_getD_getElem?] at hv'
  simp only [Option.bind_some]
  cases ht : tmps[d]? with
  | none => rfl
  | some x =>
    rw [ht] at hv'
    have : x = .tuple #[] := hv'
    subst this; rfl
theorem slot_bool {ρ : Nat → Loc} {n : Nat} {f : Fr} {tmps : Array Value} (h : FRel ρ n f tmps) {d : Nat} {b : B} (e : f.get d = .one (.bool b)) : tmps[d]? = some (.bool b.den) := by
  have hr := h.2.1 d
  have hv : tmps.getD d undef = .bool b.den := by rw [e] at hr; exact hr
  rw [Array.getD_eq_getD_getElem?] at hv
  cases ht : tmps[d]? with
  | none => rw [ht] at hv; cases hv
  | some x => rw [ht] at hv; exact congrArg some hv

/-- the operations of a region, in the order that they are given in -/
theorem opsE_wp (hc : CallSound P call) (hn : NamesOk P) {ops : Array Oper} {D : Nat → Bool} (hD : ops.toList.all (opD D) = true) {Q : Exit → Act → World → Prop} : ∀ (l : List Nat) (e : Ex) (f f' : Fr) (σ σ' : St) (ρ : Nat → Loc) (a : Act) (w : World), At ρ f σ a w → (opsE P call ops l f σ).run = some (e, f', σ') →
    (∀ ρ' a' w', At ρ' f' σ' a' w' → Ext ρ σ w ρ' σ' w' → Stay D a a' → ExPost Q e ρ' σ'.length a' w') → wpOps P ops Q l a w
  | [], e, f, f', σ, σ', ρ, a, w, hat, h, hq => by cases h; exact hq ρ a w hat (Ext.refl _ _ _) (.refl _ _)
  | i :: r, e, f, f', σ, σ', ρ, a, w, hat, h, hq => by
    simp only [opsE] at h
    simp only [wpOps]
    cases ho : ops[i]? with
    | none =>
      rw [ho] at h
      exact opsE_wp hc hn hD r e f f' σ σ' ρ a w hat h hq
    | some o =>
      rw [ho] at h
      simp only at h ⊢
      have hDo : opD D o = true := List.all_eq_true.1 hD o (List.mem_of_getElem? (by rw [Array.getElem?_toList]; exact ho))
      have exec : ((operE P call o f σ).bind fun x => onE o f x.1 x.2 (opsE P call ops r)).run = some (e, f', σ') → o.wp P a w (wpOps P ops Q r) Q := by
        intro h
        obtain ⟨⟨v, σ2⟩, h1, h2⟩ := bind_some h
        rcases onE_some h2 with ⟨hv, h2⟩ | ⟨t, p, hv, h2⟩
        · refine operE_wp hc hn hat h1 (fun _ ρ' val w' q1 q2 q3 => ?_) (fun h => by simp only at hv; rw [hv] at h; cases h)
          refine opsE_wp hc hn hD r e _ f' σ2 σ' ρ' _ w' ⟨put_rel (hat.fr.mono q3.same q3.len) q1, q2⟩ h2 fun ρ2 a2 w2 p1 p2 p3 => ?_
          exact hq ρ2 a2 w2 p1 (q3.trans p2) ((Stay.put hDo _ _).trans p3)
        · simp only at hv
          subst hv
          cases h2
          refine operE_wp hc hn hat h1 (fun h => by cases h) (fun _ ρ' val w' q1 q2 q3 => ?_)
          exact hq ρ' a w' ⟨hat.fr.mono q3.same q3.len, q2⟩ q3 (.refl _ _) val q1
      have skip : (opsE P call ops r (putF f o.dst (.tup [])) σ).run = some (e, f', σ') → wpOps P ops Q r (a.put o.dst undef) w := by
        intro h
        refine opsE_wp hc hn hD r e _ f' σ σ' ρ _ w ⟨put_rel hat.fr arel_undef, hat.rel⟩ h fun ρ2 a2 w2 p1 p2 p3 => ?_
        exact hq ρ2 a2 w2 p1 p2 ((Stay.put hDo _ _).trans p3)
      cases hg : o.guard with
      | none =>
        rw [hg] at h
        have hw : Region.wanted o (yielded ops a.tmps) = true := by simp [Region.wanted, hg]
        rw [if_pos hw]
        exact .inl (exec h)
      | some p =>
        obtain ⟨j, want⟩ := p
        rw [hg] at h
        simp only at h
        cases hd : (ops[j]?).bind (·.dst) with
        | none => rw [hd] at h; cases h
        | some d =>
          rw [hd] at h
          simp only at h
          split at h
          · rename_i b hgd
            have hb := slot_bool hat.fr hgd
            have hy : Region.wanted o (yielded ops a.tmps) = (b.den == want) := by
              simp [Region.wanted, hg, yielded, hd, hb]
            rw [hy]
            rcases ite_some h with ⟨hbw, h⟩ | ⟨hbw, h⟩
            · rw [mkIff_den] at hbw
              rw [if_pos (show (b.den == want) = true from hbw)]
              exact .inl (exec h)
            · rw [mkIff_den] at hbw
              rw [if_neg (by rw [show (b.den == want) = false from hbw]; decide)]
              exact skip h
          · rename_i hgd
            have hu := hat.fr.2.1 d
            rw [hgd] at hu
            have hy : Region.wanted o (yielded ops a.tmps) = false := by
              simp [Region.wanted, hg, slot_undef hu hd]
            rw [if_neg (by rw [hy]; decide)]
            exact skip h
          · cases h
end
end Go.SX
