/- Rounds of a loop that are shown one by one: a function's run with them as they are told is the run. -/
import Derived.Test.YtfacghikjnjjmaaSx17
namespace Go.SX
open Go
set_option linter.unusedSectionVars false
/-- loops within code, by their first regions -/
def loopsC : Code → List (Nat × Code)
  | .seq a b => loopsC a ++ loopsC b
  | .cond _ a b => loopsC a ++ loopsC b
  | .block _ b => loopsC b
  | .loop b => (firstRegion b, b) :: loopsC b
  | _ => []
theorem LoopsOk.ofF [Env] {P : Program} {cf : Cfg} {n0 : Nat} (hf : Holds cf.fs) : ∀ {c : Code}, (∀ p ∈ loopsC c, ∀ g, cf.lc p.1 = some g → LoopOk P n0 p.2 g) → LoopsOk P cf n0 c
  | .seq a b, h => ⟨LoopsOk.ofF hf fun p hp => h p (List.mem_append_left _ hp), LoopsOk.ofF hf fun p hp => h p (List.mem_append_right _ hp)⟩
  | .cond _ a b, h => ⟨LoopsOk.ofF hf fun p hp => h p (List.mem_append_left _ hp), LoopsOk.ofF hf fun p hp => h p (List.mem_append_right _ hp)⟩
  | .block _ b, h => LoopsOk.ofF hf (c := b) h
  | .loop b, h => ⟨LoopsOk.ofF hf fun p hp => h p (List.mem_cons_of_mem _ hp), fun g hg => h (firstRegion b, b) (List.mem_cons_self ..) g hg, hf⟩
  | .skip, _ => True.intro
  | .region .., _ => True.intro
  | .rangeFunc .., _ => True.intro
  | .exit _, _ => True.intro
  | .scope _, _ => True.intro
  | .label _, _ => True.intro
  | .goto _, _ => True.intro
  | .ret, _ => True.intro
  | .refuse _, _ => True.intro
theorem LoopsOk.of [Env] {P : Program} {cf : Cfg} {n0 : Nat} {c : Code} (h : ∀ p ∈ loopsC c, ∀ g, cf.lc p.1 = some g → LoopOk P n0 p.2 g) (hf : Holds cf.fs := by intro f h; cases h) : LoopsOk P cf n0 c := LoopsOk.ofF hf h
/-- the i-th loop of a function -/
def loopOf (P : Program) (g i : Nat) : Code :=
  match (P.funcs[g]?).bind (·.body) with
  | some c => ((loopsC c).getD i (0, .skip)).2
  | none => .skip
variable [Env]
section
variable (P : Program) (call : FuncId → List AV → St → Out (AV × St)) (cf : Cfg) (n0 : Nat) (id : Nat) (rd : Fr → St → Option (Ex × Fr × St))
def loopR (m : Option (List Fk)) (td : Fr → St → Option (Fr × St)) (g : Fr → St → Out (Ex × Fr × St)) : Nat → Fr → St → Out (Ex × Fr × St)
  | 0, _, _ => .fail "rounds"
  | n + 1, f, σ => (match rd f σ with
    | some r => Out.ok r
    | none => roundM m td (g f σ)).bind fun (e, f1, σ1) => match e with
    | .normal => loopR m td g n f1 σ1
    | e => .ok (e, f1, σ1)
def codeR : Code → Fr → St → Out (Ex × Fr × St)
  | .seq a b, f, σ => (codeR a f σ).bind fun (e, f', σ') => match e with
    | .normal => codeR b f' σ'
    | e => .ok (e, f', σ')
  | .cond c a b, f, σ =>
    match opds f c with
    | .bool t => .ite t (fun _ => codeR a f σ) (fun _ => codeR b f σ)
    | _ => .fail "cond"
  | .block id b, f, σ => (codeR b f σ).bind fun (e, f', σ') => match e with
    | .exit i => .ok (if i = id then .normal else .exit i, f', σ')
    | e => .ok (e, f', σ')
  | .loop b, f, σ => bif Nat.beq (firstRegion b) id then
      match tidy cf n0 (firstRegion b) f σ with
      | none => .fail "tidy"
      | some (f1, σ1) => match cf.lc (firstRegion b) with
        | some c => c f1 σ1
        | none => loopR rd (bif cf.lm (firstRegion b) then some cf.fs else none) (tidy cf n0 (firstRegion b)) (codeE P call cf n0 b) cf.fuel f1 σ1
    else codeE P call cf n0 (.loop b) f σ
  | c, f, σ => codeE P call cf n0 c f σ
def fnR (fn : Func) (args : List AV) (σ : St) : Out (AV × St) :=
  match fn.body with
  | none => .fail "body"
  | some c =>
    (codeR P call cf σ.length id rd c (Fr.put ⟨args.length + (fn.ntmps - args.length), F.fresh (depthFor (args.length + (fn.ntmps - args.length)))⟩ args 0) σ).bind fun (e, f, σ') =>
      match e with
      | .exit _ => .fail "exit"
      | .pan t p => .ok (.pan t p, forget σ.length (.pan t p) σ')
      | _ => (resE P f σ' fn.results.toList).bind fun ps =>
        match ps with
        | [p] => .ok (AV.ofPart p, forget σ.length (AV.ofPart p) σ')
        | ps => .ok (.tup ps, forget σ.length (.tup ps) σ')
end
variable {P : Program} {call : FuncId → List AV → St → Out (AV × St)} {cf : Cfg} {n0 id : Nat} {rd : Fr → St → Option (Ex × Fr × St)}
theorem loopR_eq {m : Option (List Fk)} {td : Fr → St → Option (Fr × St)} {g : Fr → St → Out (Ex × Fr × St)} (h : ∀ f σ r, rd f σ = some r → roundM m td (g f σ) = .ok r) : ∀ n f σ, loopR rd m td g n f σ = loopN m td g n f σ
  | 0, f, σ => rfl
  | n + 1, f, σ => by
    have h1 : (match rd f σ with | some r => Out.ok r | none => roundM m td (g f σ)) = roundM m td (g f σ) := by
      cases hr : rd f σ with
      | none => rfl
      | some r => exact (h f σ r hr).symm
    simp only [loopR, loopN]
    rw [h1]
    congr 1
    funext ⟨e, f1, σ1⟩
    cases e with
    | normal => exact loopR_eq h n f1 σ1
    | _ => rfl
def RdOk (P : Program) (call : FuncId → List AV → St → Out (AV × St)) (cf : Cfg) (n0 id : Nat) (rd : Fr → St → Option (Ex × Fr × St)) (b : Code) : Prop :=
  ∀ f σ r, rd f σ = some r → roundM (bif cf.lm id then some cf.fs else none) (tidy cf n0 id) (codeE P call cf n0 b f σ) = .ok r
theorem codeR_eq : ∀ (c : Code), (∀ p ∈ loopsC c, p.1 = id → RdOk P call cf n0 id rd p.2) → ∀ f σ, codeR P call cf n0 id rd c f σ = codeE P call cf n0 c f σ
  | .seq a b, h, f, σ => by
    have ha := codeR_eq a fun p hp => h p (List.mem_append_left _ hp)
    have hb := codeR_eq b fun p hp => h p (List.mem_append_right _ hp)
    simp only [codeR, codeE]
    rw [ha]
    congr 1
    funext ⟨e, f1, σ1⟩
    cases e with
    | normal => exact hb f1 σ1
    | _ => rfl
  | .cond c a b, h, f, σ => by
    have ha := codeR_eq a fun p hp => h p (List.mem_append_left _ hp)
    have hb := codeR_eq b fun p hp => h p (List.mem_append_right _ hp)
    simp only [codeR, codeE, ha, hb]
    rfl
  | .block i b, h, f, σ => by
    have hb := codeR_eq b h
    simp only [codeR, codeE, hb]
    rfl
  | .loop b, h, f, σ => by
    simp only [codeR]
    cases hi : Nat.beq (firstRegion b) id with
    | false => rfl
    | true =>
      have hi : firstRegion b = id := Nat.eq_of_beq_eq_true hi
      simp only [cond_true, codeE]
      cases tidy cf n0 (firstRegion b) f σ with
      | none => rfl
      | some x =>
        simp only
        cases cf.lc (firstRegion b) with
        | some c => rfl
        | none =>
          simp only
          rw [loopR_eq]
          have := h (firstRegion b, b) (List.mem_cons_self ..) hi
          rw [hi]
          exact this
  | .skip, _, _, _ => rfl
  | .region .., _, _, _ => rfl
  | .rangeFunc .., _, _, _ => rfl
  | .exit _, _, _, _ => rfl
  | .scope _, _, _, _ => rfl
  | .label _, _, _, _ => rfl
  | .goto _, _, _, _ => rfl
  | .ret, _, _, _ => rfl
  | .refuse _, _, _, _ => rfl
/-- a call by a run with rounds as told -/
theorem callE_rounds {env : FuncId → Option (List AV → St → Out (AV × St))} {cfg : FuncId → Cfg} {d : Nat} {g : FuncId} {fn : Func} {c : Code} {args : List AV} {σ : St} (he : env g = none) (hf : P.funcs[g]? = some fn) (hb : fn.body = some c) (hm : (cfg g).mg = false)
    (h : ∀ p ∈ loopsC c, p.1 = id → RdOk P (callE P env cfg d) (cfg g) σ.length id rd p.2) (hob : obOk (cfg g) σ = true := by rfl) : callE P env cfg (d + 1) g args σ = fnR P (callE P env cfg d) (cfg g) id rd fn args σ := by
  simp only [callE, he, hf, hm, hob, cond_true, cond_false, fnE, fnR, hb]
  rw [codeR_eq c h]
  rfl
def fsBeq (f : Fr) (σ : St) (p : Fr × St) : Bool := f.beq p.1 && lbeq AO.beq σ p.2
theorem fsBeq_eq {f : Fr} {σ : St} {p : Fr × St} (h : fsBeq f σ p = true) : (f, σ) = p := by
  simp only [fsBeq, Bool.and_eq_true] at h
  exact Prod.ext (Fr.beq_eq h.1) (lbeq_eq (fun _ _ => AO.beq_eq) h.2)
/-- is it this state, on one way? -/
def isOk (o : Out (Ex × Fr × St)) (q : Fr × St) : Bool :=
  match o with
  | .ok (.normal, f, σ) => fsBeq f σ q
  | _ => false
theorem isOk_eq {o : Out (Ex × Fr × St)} {q : Fr × St} (h : isOk o q = true) : o = .ok (.normal, q.1, q.2) := by
  unfold isOk at h
  split at h
  · have := fsBeq_eq h
    cases this; rfl
  · cases h
/-- rounds told by a list of states, one behind another -/
def rdsOf : List (Fr × St) → Fr → St → Option (Ex × Fr × St)
  | p :: q :: r, f, σ => bif fsBeq f σ p then some (.normal, q.1, q.2) else rdsOf (q :: r) f σ
  | _, _, _ => none
theorem rdsOf_ok {b : Code} : ∀ (l : List (Fr × St)), (∀ i p q, l[i]? = some p → l[i + 1]? = some q → roundM (bif cf.lm id then some cf.fs else none) (tidy cf n0 id) (codeE P call cf n0 b p.1 p.2) = .ok (.normal, q.1, q.2)) → RdOk P call cf n0 id (rdsOf l) b
  | [], _ => fun f σ r h => by cases h
  | [_], _ => fun f σ r h => by cases h
  | p :: q :: r, hh => fun f σ x h => by
    simp only [rdsOf] at h
    cases hb : fsBeq f σ p with
    | true =>
      rw [hb] at h
      cases h
      have := fsBeq_eq hb
      cases this
      exact hh 0 _ _ rfl rfl
    | false =>
      rw [hb] at h
      exact rdsOf_ok (q :: r) (fun i p' q' h1 h2 => hh (i + 1) p' q' (by simpa using h1) (by simpa using h2)) f σ x h
end Go.SX
