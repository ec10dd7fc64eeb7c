/- Both readers' sums as one function: for ImageBack, ImageReads. -/
import Derived.Test.YtkbghbkfaloblaaImgA
namespace Go.SX.Img
open Go Go.SX Go.Proofs
set_option maxRecDepth 1000000
set_option linter.unusedSectionVars false
def wtS : List E → WT := fun l => .br (.lt (l.getD 2 n0) (.ln (l.getD 3 n0))) (
    let x := E.op .rem .u32 (.op .add .u32 (l.getD 0 n0) (.sel (.pl (l.getD 2 n0) n0) (l.getD 3 n0))) (.num 65521)
    .go [x, .op .rem .u32 (.op .add .u32 (l.getD 1 n0) x) (.num 65521), .pl (l.getD 2 n0) (.num 1)]) (.stop 0 [l.getD 0 n0, l.getD 1 n0])
/-- image.Sum's -/
def wP : WSig where
  ins := [(3, u3), (4, u3), (9, i6), (7, .lst [.int .u8]), (8, i6)]
  np := 3
  outs := [(3, u3), (4, u3)]
  obs := [(0, 65520), (0, 65520)]
  ex := fun _ => .exit 0
  nk := 1
  fn := 27
  kill := [10, 11, 12, 6, 13, 14, 15, 16, 17, 3, 18, 19, 20, 21, 4, 22, 9]
  wt := wtS
  inv := fun l => [.eq (l.getD 4 n0) (.ln (l.getD 3 n0))]
  mea := fun l => .mi (.ln (l.getD 3 n0)) (l.getD 2 n0)
  rb := [(0, 65520), (0, 65520), (0, 1099511627776), (0, 1099511627775), (0, 1099511627776)]
/-- the document's -/
def wR : WSig where
  ins := [(3, u3), (4, u3), (5, i6), (0, .lst [.int .u8])]
  np := 3
  outs := [(3, u3), (4, u3)]
  obs := [(0, 65520), (0, 65520)]
  ex := fun _ => .exit 0
  nk := 1
  fn := 28
  kill := [6, 7, 8, 9, 12, 13, 14, 15, 16, 17, 18, 19, 3, 20, 21, 22, 23, 4, 10, 11, 5]
  wt := wtS
  inv := fun _ => []
  mea := fun l => .mi (.ln (l.getD 3 n0)) (l.getD 2 n0)
  rb := [(0, 65520), (0, 65520), (0, 1099511627776), (0, 1099511627775)]
theorem resp_wP : RespW wP := by
  intro e1 e2 l1 l2 h1 h2 h
  match l1, h1, l2, h2 with
  | [a, b, c, e, d], _, [a', b', c', e', d'], _ =>
    have h : [(@E.den e1 a, ([] : List Int)), (@E.den e1 b, []), (@E.den e1 c, []), (0, @E.dens e1 e), (@E.den e1 d, [])] = [(@E.den e2 a', ([] : List Int)), (@E.den e2 b', []), (@E.den e2 c', []), (0, @E.dens e2 e'), (@E.den e2 d', [])] := h
    simp only [List.cons.injEq, Prod.mk.injEq, and_true, true_and] at h
    obtain ⟨_, _, hc, he, hd⟩ := h
    have hlen : @E.den e1 (.ln e) = @E.den e2 (.ln e') := by show (((@E.dens e1 e).length : Nat) : Int) = ((@E.dens e2 e').length : Nat); rw [he]
    refine ⟨?_, ?_⟩
    · show [decide (@E.den e1 d = @E.den e1 (.ln e))] = [decide (@E.den e2 d' = @E.den e2 (.ln e'))]
      rw [hlen, hd]
    · show @E.den e1 (.ln e) - @E.den e1 c = @E.den e2 (.ln e') - @E.den e2 c'
      rw [hc, hlen]
theorem resp_wR : RespW wR := by
  intro e1 e2 l1 l2 h1 h2 h
  match l1, h1, l2, h2 with
  | [a, b, c, e], _, [a', b', c', e'], _ =>
    have h : [(@E.den e1 a, ([] : List Int)), (@E.den e1 b, []), (@E.den e1 c, []), (0, @E.dens e1 e)] = [(@E.den e2 a', ([] : List Int)), (@E.den e2 b', []), (@E.den e2 c', []), (0, @E.dens e2 e')] := h
    simp only [List.cons.injEq, Prod.mk.injEq, and_true, true_and] at h
    obtain ⟨_, _, hc, he⟩ := h
    have hlen : @E.den e1 (.ln e) = @E.den e2 (.ln e') := by show (((@E.dens e1 e).length : Nat) : Int) = ((@E.dens e2 e').length : Nat); rw [he]
    refine ⟨rfl, ?_⟩
    show @E.den e1 (.ln e) - @E.den e1 c = @E.den e2 (.ln e') - @E.den e2 c'
    rw [hc, hlen]
section
variable [Env]
theorem roundP : roundB Try.prog (callE Try.prog env0 cfg0 12) {} wP (loopOf Try.prog 17 0) = true := by kernel_rfl
theorem roundR : roundB Try.prog (callE Try.prog env0 cfg0 12) {} wR (loopOf Try.prog 15 0) = true := by kernel_rfl
end
theorem okP : WOk Try.prog base (fun e => @callE e Try.prog (@env0) cfg0 12) {} wP (loopOf Try.prog 17 0) where
  sound cvs := @sound0 (envC base cvs) 12
  names := names
  mixed := mixed
  loops cvs n := @LoopsOk.none (envC base cvs) _ _ _ (fun _ => rfl) _ (fun f h => by cases h)
  plain := rfl
  few := by decide
  np := by decide
  bnds := rfl
  sets := by kernel_rfl
  only := by kernel_rfl
  stays := by kernel_rfl
  ends := fun k => .inl ⟨0, rfl⟩
  resp := resp_wP
  round := fun cvs => @roundP (envC base cvs)
theorem okR : WOk Try.prog base (fun e => @callE e Try.prog (@env0) cfg0 12) {} wR (loopOf Try.prog 15 0) where
  sound cvs := @sound0 (envC base cvs) 12
  names := names
  mixed := mixed
  loops cvs n := @LoopsOk.none (envC base cvs) _ _ _ (fun _ => rfl) _ (fun f h => by cases h)
  plain := rfl
  few := by decide
  np := by decide
  bnds := rfl
  sets := by kernel_rfl
  only := by kernel_rfl
  stays := by kernel_rfl
  ends := fun k => .inl ⟨0, rfl⟩
  resp := resp_wR
  round := fun cvs => @roundR (envC base cvs)
/-! The one goes as the other. -/
theorem step_eq (x y i d : Int) (xs : List Int) : wstep base wP [.n x, .n y, .n i, .l xs, .n d] = wstep base wR [.n x, .n y, .n i, .l xs] := rfl
theorem step_or (cvs : List CV) : (∃ a b c, wstep base wR cvs = .inl [a, b, c]) ∨ ∃ r, wstep base wR cvs = .inr r := by
  letI : Env := envC base cvs
  show (∃ a b c, (WT.den (wtS wR.cur)) = .inl [a, b, c]) ∨ ∃ r, (WT.den (wtS wR.cur)) = .inr r
  unfold wtS
  simp only [WT.den]
  cases (EB.den _) with
  | true => exact .inl ⟨_, _, _, rfl⟩
  | false => exact .inr ⟨_, rfl⟩
theorem sim (d : Int) (xs : List Int) : ∀ (n : Nat) (x y i : Int), whileN base wP n [.n x, .n y, .n i, .l xs, .n d] = whileN base wR n [.n x, .n y, .n i, .l xs]
  | 0, _, _, _ => rfl
  | n + 1, x, y, i => by
    simp only [whileN, step_eq]
    rcases step_or [.n x, .n y, .n i, .l xs] with ⟨a, b, c, e⟩ | ⟨r, e⟩
    · rw [e]
      exact sim d xs n a b c
    · rw [e]
theorem resP (amb : Env) (happ : ∀ i l, i < 64 → amb.app (64 * 200 + i) l = (Wh base wR l).getD i 0) : ∀ cvs n k outs, (∃ w vs, AllV w wP.ts cvs vs) → WInv base wP cvs → whileN base wP n cvs = some (k, outs) →
    ∀ i, i < 64 → amb.app (64 * 200 + i) (encs (cvs.take 4)) = ((k : Int) :: outs).getD i 0 := by
  intro cvs n k outs ⟨w, vs, h⟩ _ hn i hi
  obtain ⟨x, r, vr, rfl, hx, h⟩ := AllV.int (ts := [u3, i6, .lst [.int .u8], i6]) h
  obtain ⟨y, r, vr, rfl, hy, h⟩ := AllV.int (ts := [i6, .lst [.int .u8], i6]) h
  obtain ⟨z, r, vr, rfl, hz, h⟩ := AllV.int (ts := [.lst [.int .u8], i6]) h
  obtain ⟨xs, r, vr, rfl, hl, hxs, h⟩ := AllV.list (ts := [i6]) h
  obtain ⟨d, r, vr, rfl, hd, h⟩ := AllV.int (ts := []) h
  obtain rfl := AllV.nil h
  rw [sim] at hn
  rw [happ i _ hi]
  have hdec : decs wR.ts (encs [.n x, .n y, .n z, .l xs]) = [.n x, .n y, .n z, .l xs] := by
    simp [wR, WSig.ts, encs, enc, decs, u3, i6]
  show (Wh base wR (encs [.n x, .n y, .n z, .l xs])).getD i 0 = _
  rw [Wh_eq (r := (k, outs)) (by rw [hdec]; exact hn)]
end Go.SX.Img
