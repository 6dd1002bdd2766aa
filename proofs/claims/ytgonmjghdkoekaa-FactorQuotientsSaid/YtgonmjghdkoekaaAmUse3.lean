/-
  The abstract machine, twenty-first part: accumulators handed on as data.
-/
import Derived.Test.YtgonmjghdkoekaaAmUse2
namespace Go.AM
open Go
set_option linter.unusedSimpArgs false
set_option linter.unusedVariables false

variable {P : Program}

/-- What an accumulator is to a callee: data. -/
def AV.asD1 : AV → AV
  | .osl sz es _ => .d (.sl sz es)
  | x => x
def AV.asD : AV → AV
  | .osl sz es _ => .d (.sl sz es)
  | .agg cs => .agg (cs.map AV.asD1)
  | x => x

theorem RV.asD1 {G : Gh} {w : World} {x : AV} {v : Value} (h : RV G w x v) : RV G w x.asD1 v := by
  cases h with
  | osl h1 h2 => exact .d h1
  | bot => exact .bot
  | d h1 => exact .d h1
  | ptr h1 => exact .ptr h1
  | cptr a u hc hr => exact .cptr a u hc hr
  | msl h1 h2 h3 => exact .msl h1 h2 h3
  | fn hl h => exact .fn hl h
  | agg hl h h1 => exact .agg hl h h1
  | tup hl h => exact .tup hl h

theorem RV.asD {G : Gh} {w : World} {x : AV} {v : Value} (h : RV G w x v) : RV G w x.asD v := by
  cases h with
  | osl h1 h2 => exact .d h1
  | bot => exact .bot
  | d h1 => exact .d h1
  | ptr h1 => exact .ptr h1
  | cptr a u hc hr => exact .cptr a u hc hr
  | msl h1 h2 h3 => exact .msl h1 h2 h3
  | fn hl h => exact .fn hl h
  | agg hl h h1 => exact .agg (by simp [hl]) (fun i g1 g2 => by simp only [List.getElem_map]; exact (h i (by simpa using g1) g2).asD1) h1
  | tup hl h => exact .tup hl h

theorem RVs.asD {G : Gh} {w : World} {xs : List AV} {vs : List Value} (h : RVs G w xs vs) : RVs G w (xs.map AV.asD) vs :=
  ⟨by simp [h.1], fun i g1 g2 => by simp only [List.getElem_map]; exact (h.2 i (by simpa using g1) g2).asD⟩

theorem ACalls.asD {f : FuncId} {args : List AV} {m : AMem} {Q : AV → AMem → Prop} (h : ACalls P f (args.map AV.asD) m Q) : ACalls P f args m Q :=
  ⟨h.1, fun G w vals hm hr => h.2 G w vals hm hr.asD⟩

theorem Stop.data {cx : Cx} {dr : Bool} {fid : FuncId} {args : List AV} {S : AState} {dst : Option Tmp} {K : AState → Prop} (h : Stop P cx dr fid (args.map AV.asD) S dst K) : Stop P cx dr fid args S dst K := by
  cases dr with
  | true =>
    obtain ⟨v, tok', nt', h1, h2⟩ := h
    exact ⟨v, tok', nt', fun box nb => (h1 box nb).asD, h2⟩
  | false => exact ACalls.asD h

/-- One slot read as another. -/
def Sub (x y : AV) : Prop := ∀ G w v, RV G w x v → RV G w y v
theorem Sub.refl (x : AV) : Sub x x := fun _ _ _ h => h
theorem Sub.data (sz : Nat) (es : List (List D)) (o : Own) : Sub (.osl sz es o) (.d (.sl sz es)) := fun _ _ _ h => h.asD
theorem Sub.nil (sz sz' : Nat) (o : Own) : Sub (.osl sz [] o) (.d (.sl sz' [])) := fun G w v h => by
  cases h with
  | osl h ho =>
    cases h with
    | sl u hcap hmax hsz hA hc hr => exact .d (.sl (es := []) (fun _ _ => default) hcap hmax (by simp) (by simp) (fun a _ i j hi _ => by simp at hi) (fun i j hi _ => by simp at hi))
def SubL : List AV → List AV → Prop
  | [], [] => True
  | x :: xs, y :: ys => Sub x y ∧ SubL xs ys
  | _, _ => False
theorem SubL.rvs {G : Gh} {w : World} : ∀ {xs ys : List AV} {vs : List Value}, SubL xs ys → RVs G w xs vs → RVs G w ys vs
  | [], [], vs, _, h => h
  | x :: xs, y :: ys, [], _, h => by have := h.1; simp at this
  | x :: xs, y :: ys, v :: vs, hs, h => RVs.cons (hs.1 _ _ _ (h.2 0 (by simp) (by simp))) (hs.2.rvs ⟨by simpa using h.1, fun i h1 h2 => h.2 (i + 1) (by simpa using h1) (by simpa using h2)⟩)
theorem ACalls.sub {f : FuncId} {args args' : List AV} {m : AMem} {Q : AV → AMem → Prop} (hs : SubL args args') (h : ACalls P f args' m Q) : ACalls P f args m Q :=
  ⟨h.1, fun G w vals hm hr => h.2 G w vals hm (hs.rvs hr)⟩
theorem Stop.sub {cx : Cx} {dr : Bool} {fid : FuncId} {args args' : List AV} {S : AState} {dst : Option Tmp} {K : AState → Prop} (hs : SubL args args') (h : Stop P cx dr fid args' S dst K) : Stop P cx dr fid args S dst K := by
  cases dr with
  | true =>
    obtain ⟨v, tok', nt', h1, h2⟩ := h
    exact ⟨v, tok', nt', fun box nb => (h1 box nb).sub hs, h2⟩
  | false => exact ACalls.sub hs h

theorem Stop.of_a {cx : Cx} {fid : FuncId} {args : List AV} {S : AState} {dst : Option Tmp} {K : AState → Prop} {Q : AV → AMem → Prop} (h : ACalls P fid args ⟨S.box, cx.nb, S.tok, S.nt⟩ Q)
    (hk : ∀ v m', Q v m' → K ⟨putT S.tmps dst v, m'.box, m'.tok, m'.nt⟩) : Stop P cx false fid args S dst K := h.mono hk

theorem rI_snoc (es : List Int) (v : Int) : rI es ++ [[D.raw (.int .i64 v)]] = rI (es ++ [v]) := by simp [rI]

end Go.AM
