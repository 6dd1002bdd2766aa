/-
 Parts of the proof, as merged from many texts: a machine over data, what the functions compute, plain laws.
-/
import Derived.Test.YtainalmfffjnjaaGreatDoorPKS3
set_option linter.unusedSimpArgs false
set_option linter.unusedVariables false
namespace Go.AM
open Go
variable {P : Program}
def fR (P : Program) (T : TypeId) (x : AV) (box : Bxs) : Option AV := match aggT P T, szOf P T, x with
 | some ag, some n, .cptr cs off => loadD ag n cs off
 | some ag, some n, .ptr k i off => match box k with
  | some rows => match rows[i]? with
   | some r => loadA ag n r off
   | none => none
  | none => none
 | _, _, _ => none
theorem fR_sound {o : Oper} {T : TypeId} {p : Operand} {ρ : Operand → AV} {box : Bxs} {v : AV} (ho : o.op = .load T p) (h : fR P T (ρ p) box = some v) : EffR P o ρ box v := by
 unfold fR at h
 unfold EffR
 simp only [ho]
 cases h1 : aggT P T with
 | none => rw [h1] at h; simp at h
 | some ag =>
  cases h2 : szOf P T with
  | none => rw [h1, h2] at h; simp at h
  | some n =>
   rw [h1, h2] at h
   simp only
   cases hx : ρ p with
   | cptr cs off => rw [hx] at h; exact h
   | ptr k i off =>
    rw [hx] at h
    simp only at h ⊢
    cases h4 : box k with
    | none => rw [h4] at h; simp at h
    | some rows =>
     rw [h4] at h
     simp only at h ⊢
     cases h5 : rows[i]? with
     | none => rw [h5] at h; simp at h
     | some r => rw [h5] at h; exact h
   | _ => rw [hx] at h; simp at h
def fW (P : Program) (base : Nat) (o : Oper) (ρ : Operand → AV) (box : Bxs) : Option (Prop × AV × (Bxs)) := match o.op with
 | .store T p x => match szOf P T, (ρ x).cells?, ρ p with
  | some n, some cs, .ptr k i off => match box k with
   | some rows => match rows[i]? with
    | some r => some (cs.length = n ∧ off + n ≤ r.length, .bot, upd box k (some (rows.set i (setCells r off cs))))
    | none => none
   | none => none
  | _, _, _ => none
 | .box _ x => match o.dst, (ρ x).cells? with
  | some s, some cs => match box (base + s) with
   | none => some (True, .ptr (base + s) 0 0, upd box (base + s) (some [cs]))
   | some _ => none
  | _, _ => none
 | .makeSlice T l c => match makeT P T, o.dst, ρ l, ρ c with
  | some (sz, by', zs), some s, .d (.raw (.int _ n)), .d (.raw (.int _ n')) => match box (base + s) with
   | none => some (n' = n ∧ 0 ≤ n ∧ n.toNat * by' ≤ 281474976710656, .msl (base + s) 0 n.toNat sz, upd box (base + s) (some (List.replicate n.toNat (zs.map ofVal1))))
   | some _ => none
  | _, _, _, _ => none
 | .call c => match c.callee, c.args.toList.map ρ, c.argTypes.toList with
  | .builtin .copy, [.msl k off n sz, y], [T, _] => match elemT P T with
   | some E => match szOf P E, box k, copySrc y box with
    | some 1, some rows, some (φ, src) => some (φ ∧ sz = 1 ∧ off + n ≤ rows.length, .d (.raw (.int .i64 ((min src.length n : Nat) : Int))), upd box k (some (rows.take off ++ src.take (min src.length n) ++ rows.drop (off + min src.length n))))
    | _, _, _ => none
   | none => none
  | .builtin .clear, [.msl k off n sz], [T] => match makeT P T, box k with
   | some (sz', _, zs), some rows => some (sz' = sz ∧ off + n ≤ rows.length, .tup [], upd box k (some (rows.take off ++ List.replicate n (zs.map ofVal1) ++ rows.drop (off + n))))
   | _, _ => none
  | _, _, _ => none
 | _ => none
theorem fW_sound {base : Nat} {o : Oper} {ρ : Operand → AV} {box box' : Bxs} {v : AV} {φ : Prop} (h : fW P base o ρ box = some (φ, v, box')) (hφ : φ) : EffW P base o ρ box v box' := by
 unfold fW at h
 unfold EffW
 split at h
 ·rename_i T p x ho
  split at h
  ·rename_i n cs k i off h1 h2 h3
   split at h
   ·rename_i rows h4
    split at h
    ·rename_i r h5
     simp only [Option.some.injEq, Prod.mk.injEq] at h
     obtain ⟨rfl, rfl, rfl⟩ := h
     simp only [ho, h1, h2, h3, h4, h5]
     exact ⟨hφ.1, hφ.2, by first | rfl | trivial, by first | rfl | trivial⟩
    ·cases h
   ·cases h
  ·cases h
 ·rename_i T x ho
  split at h
  ·rename_i s cs h1 h2
   split at h
   ·rename_i h3
    simp only [Option.some.injEq, Prod.mk.injEq] at h
    obtain ⟨rfl, rfl, rfl⟩ := h
    simp only [ho, h1, h2]
    exact ⟨h3, by first | rfl | trivial, by first | rfl | trivial⟩
   ·cases h
  ·cases h
 ·rename_i T l c ho
  split at h
  ·rename_i sz by' zs s k1 n k2 n' h1 h2 h4 h5
   split at h
   ·rename_i h3
    simp only [Option.some.injEq, Prod.mk.injEq] at h
    obtain ⟨rfl, rfl, rfl⟩ := h
    simp only [ho, h1, h2, h4, h5]
    exact ⟨hφ.1, hφ.2.1, hφ.2.2, h3, by first | rfl | trivial, by first | rfl | trivial⟩
   ·cases h
  ·cases h
 ·rename_i c ho
  split at h
  ·rename_i k off n sz y T T' h1 h2 h3
   split at h
   ·rename_i E hE
    split at h
    ·rename_i rows ψ src g1 g2 g3
     simp only [Option.some.injEq, Prod.mk.injEq] at h
     obtain ⟨rfl, rfl, rfl⟩ := h
     simp only [ho, h1, h2, h3, hE, Option.bind_some, g1, g2, g3]
     exact ⟨hφ.1, hφ.2.1, hφ.2.2, by first | rfl | trivial, by first | rfl | trivial⟩
    ·cases h
   ·cases h
  ·rename_i k off n sz T h1 h2 h3
   split at h
   ·rename_i sz' by' zs rows g1 g2
    simp only [Option.some.injEq, Prod.mk.injEq] at h
    obtain ⟨rfl, rfl, rfl⟩ := h
    simp only [ho, h1, h2, h3, g1, g2]
    exact ⟨hφ.1, hφ.2, by first | rfl | trivial, by first | rfl | trivial⟩
   ·cases h
  ·cases h
 ·cases h
def Own.liveP (tok : Tks) : Own → Prop
 | .full => True
 | .tok t => tok t = true
theorem Own.live_of {tok : Nat → Bool} {o : Own} (h : o.liveP tok) : o.live tok = true := by
 cases o with
 | full => rfl
 | tok t => exact h
def fA (P : Program) (c : Call) (ρ : Operand → AV) (tok : Tks) (nt : Nat) : Option (Prop × AV × (Nat → Bool)) := match c.args.toList, c.argTypes.toList with
 | [s, x], [T, T'] => match rowT P T, ρ s, (ρ x).elems? with
  | some (_, sz, by'), .osl sz0 es own, some (sz1, news) =>
   some (T' = T ∧ (sz0 = sz ∨ es = [] ∧ own = .full) ∧ (sz1 = sz ∨ news = []) ∧ (es.length + news.length) * by' ≤ 140737488355328 ∧ own.liveP tok, .osl sz (es ++ news) (.tok nt), upd (own.kill tok) nt true)
  | _, _, _ => strA P T T' (ρ s) (ρ x) tok nt
 | _, _ => none
theorem fA_sound {o : Oper} {c : Call} {ρ : Operand → AV} {tok tok' : Nat → Bool} {nt : Nat} {v : AV} {φ : Prop} (ho : o.op = .call c) (hc : c.callee = .builtin .append) (h : fA P c ρ tok nt = some (φ, v, tok')) (hφ : φ) : EffA P o ρ tok nt v tok' (nt + 1) := by
 unfold fA at h
 unfold EffA
 split at h
 ·rename_i s x T T' h1 h2
  split at h
  ·rename_i E sz by' sz0 es own sz1 news h3 h4 h5
   simp only [Option.some.injEq, Prod.mk.injEq] at h
   obtain ⟨rfl, rfl, rfl⟩ := h
   refine .inl ?_
   unfold EffA0
   simp only [ho, hc, h1, h2, h3, h4, h5]
   obtain ⟨g1, g2, g3, g4, g5⟩ := hφ
   exact ⟨g1, g2, g3, g4, Own.live_of g5, by first | rfl | trivial, by first | rfl | trivial, by first | rfl | trivial⟩
  ·refine .inr ?_
   unfold EffS
   simp only [ho, hc, h1, h2]
   exact ⟨φ, h, hφ, by first | rfl | trivial⟩
 ·cases h
def Stop (P : Program) (cx : Cx) (dr : Bool) (fid : FuncId) (args : List AV) (S : AState) (dst : Option Tmp) (K : AState → Prop) : Prop := match dr with
 | true => ∃ v tok' nt', RCall P fid args S.box S.tok S.nt v tok' nt' ∧ K ⟨putT S.tmps dst v, S.box, tok', nt'⟩
 | false => ACalls P fid args ⟨S.box, cx.nb, S.tok, S.nt⟩ fun v m' => K ⟨putT S.tmps dst v, m'.box, m'.tok, m'.nt⟩
theorem Stop.of_r {cx : Cx} {dr : Bool} {fid : FuncId} {args : List AV} {S : AState} {dst : Option Tmp} {K : AState → Prop} {v : AV} {tok' : Nat → Bool} {nt' : Nat} (h : RCall P fid args S.box S.tok S.nt v tok' nt') (hk : K ⟨putT S.tmps dst v, S.box, tok', nt'⟩) : Stop P cx dr fid args S dst K := by
 cases dr with
 | true => exact ⟨v, tok', nt', h, hk⟩
 | false =>
  refine (h S.box cx.nb (Ext.refl _)).mono ?_
  rintro v' m' ⟨rfl, rfl⟩
  exact hk
theorem Stop.of_d {cx : Cx} {dr : Bool} {fid : FuncId} {args : List AV} {S : AState} {dst : Option Tmp} {K : AState → Prop} {v : AV} {tok' : Nat → Bool} {nt' : Nat} (h : DCall P fid args S.tok S.nt v tok' nt') (hk : K ⟨putT S.tmps dst v, S.box, tok', nt'⟩) : Stop P cx dr fid args S dst K :=
 Stop.of_r (h.r _) hk
def FOne (P : Program) (cx : Cx) (dr : Bool) (o : Oper) (K : AState → Prop) (S : AState) : Prop := match o.op with
 | .load T p => match fR P T (S.ev p) S.box with
  | some v => K ⟨putT S.tmps o.dst v, S.box, S.tok, S.nt⟩
  | none => False
 | .store T p x => match fW P cx.base o S.ev S.box with
  | some (φ, v, b) => φ ∧ K ⟨putT S.tmps o.dst v, b, S.tok, S.nt⟩
  | none => False
 | .box T x => match fW P cx.base o S.ev S.box with
  | some (φ, v, b) => φ ∧ K ⟨putT S.tmps o.dst v, b, S.tok, S.nt⟩
  | none => False
 | .makeSlice T l c => match fW P cx.base o S.ev S.box with
  | some (φ, v, b) => φ ∧ K ⟨putT S.tmps o.dst v, b, S.tok, S.nt⟩
  | none => False
 | .binOp op T x y T' => match nilCmp P o S.ev with
  | some (t, es) => match dr with
   | true => False
   | false => ∀ b, (es ≠ [] → b = !t) → K ⟨putT S.tmps o.dst (.d (.raw (.bool b))), S.box, S.tok, S.nt⟩
  | none => match fN P cx.base o S.ev with
   | some (φ, v) => φ ∧ K ⟨putT S.tmps o.dst v, S.box, S.tok, S.nt⟩
   | none => False
 | .call c => match c.callee with
  | .builtin .append => match fA P c S.ev S.tok S.nt with
   | some (φ, v, tok') => φ ∧ K ⟨putT S.tmps o.dst v, S.box, tok', S.nt + 1⟩
   | none => False
  | .builtin .copy => match fW P cx.base o S.ev S.box with
   | some (φ, v, b) => φ ∧ K ⟨putT S.tmps o.dst v, b, S.tok, S.nt⟩
   | none => False
  | .builtin .clear => match fW P cx.base o S.ev S.box with
   | some (φ, v, b) => φ ∧ K ⟨putT S.tmps o.dst v, b, S.tok, S.nt⟩
   | none => False
  | .value f => match S.ev f with
   | .fn (.func fid) caps => Stop P cx dr fid (c.args.toList.map S.ev ++ caps) S o.dst K
   | _ => False
  | _ => match fN P cx.base o S.ev with
   | some (φ, v) => φ ∧ K ⟨putT S.tmps o.dst v, S.box, S.tok, S.nt⟩
   | none => False
 | _ => match fN P cx.base o S.ev with
  | some (φ, v) => φ ∧ K ⟨putT S.tmps o.dst v, S.box, S.tok, S.nt⟩
  | none => False
def Gd (b want : Bool) (A B : AState → Prop) (S : AState) : Prop := (b = want → A S) ∧ (b = !want → B S)
theorem Gd.tt {A B : AState → Prop} {S : AState} : Gd true true A B S = A S := by simp [Gd]
theorem Gd.tf {A B : AState → Prop} {S : AState} : Gd true false A B S = B S := by simp [Gd]
theorem Gd.ft {A B : AState → Prop} {S : AState} : Gd false true A B S = B S := by simp [Gd]
theorem Gd.ff {A B : AState → Prop} {S : AState} : Gd false false A B S = A S := by simp [Gd]
theorem Gd.t {b : Bool} {A B : AState → Prop} {S : AState} (h1 : b = true → A S) (h2 : b = false → B S) : Gd b true A B S := ⟨h1, h2⟩
theorem Gd.f {b : Bool} {A B : AState → Prop} {S : AState} (h1 : b = true → B S) (h2 : b = false → A S) : Gd b false A B S := ⟨h2, h1⟩
theorem Gd.dt {p : Prop} {_ : Decidable p} {A B : AState → Prop} {S : AState} (h1 : p → A S) (h2 : ¬ p → B S) : Gd (decide p) true A B S := ⟨fun h => h1 (by simpa using h), fun h => h2 (by simpa using h)⟩
theorem Gd.df {p : Prop} {_ : Decidable p} {A B : AState → Prop} {S : AState} (h1 : p → B S) (h2 : ¬ p → A S) : Gd (decide p) false A B S := ⟨fun h => h2 (by simpa using h), fun h => h1 (by simpa using h)⟩
def FSkip (dst : Option Tmp) (K : AState → Prop) (S : AState) : Prop := K ⟨putT S.tmps dst (.tup []), S.box, S.tok, S.nt⟩
def FOps (P : Program) (cx : Cx) (ops : Array Oper) (dr : Bool) : List Oper → (AState → Prop) → AState → Prop
 | [], K, S => K S
 | o :: r, K, S => match o.guard with
  | none => FOne P cx dr o (FOps P cx ops dr r K) S
  | some (j, want) => match yieldA ops S j with
   | some (some b) => Gd b want (FOne P cx dr o (FOps P cx ops dr r K)) (FSkip o.dst (FOps P cx ops dr r K)) S
   | some none => FSkip o.dst (FOps P cx ops dr r K) S
   | none => False
theorem step_n {base : Nat} {o : Oper} {S : AState} {v : AV} (hc : cls o.op = .n) (h : EffN P base o S.ev v) : Step P false base o S ⟨putT S.tmps o.dst v, S.box, S.tok, S.nt⟩ :=
 ⟨v, S.box, S.tok, S.nt, by unfold Eff; rw [hc]; exact ⟨h, rfl, rfl, rfl⟩, rfl⟩
theorem fOne_cases {cx : Cx} {dr : Bool} {o : Oper} {S : AState} {K : AState → Prop} (h : FOne P cx dr o K S) : (callFn o S.ev = none ∧ ∃ S1, Step P false cx.base o S S1 ∧ K S1) ∨
  (dr = false ∧ callFn o S.ev = none ∧ ∃ t es, nilCmp P o S.ev = some (t, es) ∧ ∀ b, (es ≠ [] → b = !t) → K ⟨putT S.tmps o.dst (.d (.raw (.bool b))), S.box, S.tok, S.nt⟩) ∨
  ∃ fid args, callFn o S.ev = some (fid, args) ∧ Stop P cx dr fid args S o.dst K := by
 have viaN : ∀ (hc : cls o.op = .n) (hcf : callFn o S.ev = none), (match fN P cx.base o S.ev with
   | some (φ, v) => φ ∧ K ⟨putT S.tmps o.dst v, S.box, S.tok, S.nt⟩
   | none => False) → (callFn o S.ev = none ∧ ∃ S1, Step P false cx.base o S S1 ∧ K S1) := by
  intro hc hcf h
  split at h
  ·rename_i φ v hv
   exact ⟨hcf, _, step_n hc (fN_sound hv h.1), h.2⟩
  ·exact h.elim
 unfold FOne at h
 split at h
 ·rename_i T p ho
  split at h
  ·rename_i v hv
   exact .inl ⟨by simp [callFn, ho], _, ⟨v, S.box, S.tok, S.nt, by unfold Eff; rw [show cls o.op = .r from by rw [ho]; rfl]; exact ⟨fR_sound ho hv, rfl, rfl, rfl⟩, rfl⟩, h⟩
  ·exact h.elim
 ·rename_i T p x ho
  split at h
  ·rename_i φ v b hv
   exact .inl ⟨by simp [callFn, ho], _, ⟨v, b, S.tok, S.nt, by unfold Eff; rw [show cls o.op = .w from by rw [ho]; rfl]; exact ⟨fW_sound hv h.1, rfl, rfl⟩, rfl⟩, h.2⟩
  ·exact h.elim
 ·rename_i T x ho
  split at h
  ·rename_i φ v b hv
   exact .inl ⟨by simp [callFn, ho], _, ⟨v, b, S.tok, S.nt, by unfold Eff; rw [show cls o.op = .w from by rw [ho]; rfl]; exact ⟨fW_sound hv h.1, rfl, rfl⟩, rfl⟩, h.2⟩
  ·exact h.elim
 ·rename_i T l c ho
  split at h
  ·rename_i φ v b hv
   exact .inl ⟨by simp [callFn, ho], _, ⟨v, b, S.tok, S.nt, by unfold Eff; rw [show cls o.op = .w from by rw [ho]; rfl]; exact ⟨fW_sound hv h.1, rfl, rfl⟩, rfl⟩, h.2⟩
  ·exact h.elim
 ·rename_i op T x y T' ho
  split at h
  ·rename_i t es hn
   cases dr with
   | true => exact h.elim
   | false => exact .inr (.inl ⟨rfl, by simp only [callFn, ho], t, es, hn, h⟩)
  ·exact .inl (viaN (by rw [ho]; rfl) (by simp only [callFn, ho]) h)
 ·rename_i c ho
  split at h
  ·rename_i hcal
   split at h
   ·rename_i φ v tok' hv
    exact .inl ⟨by simp [callFn, ho, hcal], _, ⟨v, S.box, tok', S.nt + 1, by
     unfold Eff
     have : cls o.op = .t := by
      rw [ho]
      obtain ⟨cal, args, tys⟩ := c
      simp only at hcal
      subst hcal
      rfl
     rw [this]
     exact .inl ⟨.inl (fA_sound ho hcal hv h.1), rfl⟩, rfl⟩, h.2⟩
   ·exact h.elim
  ·rename_i hcal
   split at h
   ·rename_i φ v b hv
    exact .inl ⟨by simp [callFn, ho, hcal], _, ⟨v, b, S.tok, S.nt, by
     unfold Eff
     have : cls o.op = .w := by
      rw [ho]
      obtain ⟨cal, args, tys⟩ := c
      simp only at hcal
      subst hcal
      rfl
     rw [this]
     exact ⟨fW_sound hv h.1, rfl, rfl⟩, rfl⟩, h.2⟩
   ·exact h.elim
  ·rename_i hcal
   split at h
   ·rename_i φ v b hv
    exact .inl ⟨by simp [callFn, ho, hcal], _, ⟨v, b, S.tok, S.nt, by
     unfold Eff
     have : cls o.op = .w := by
      rw [ho]
      obtain ⟨cal, args, tys⟩ := c
      simp only at hcal
      subst hcal
      rfl
     rw [this]
     exact ⟨fW_sound hv h.1, rfl, rfl⟩, rfl⟩, h.2⟩
   ·exact h.elim
  ·rename_i f hcal
   split at h
   ·rename_i fid caps hf
    exact .inr (.inr ⟨fid, _, by simp [callFn, ho, hcal, hf], h⟩)
   ·exact h.elim
  ·rename_i h1 h3 h4 h2
   refine .inl (viaN ?_ ?_ h)
   ·rw [ho]
    obtain ⟨cal, args, tys⟩ := c
    simp only at h1 h2 h3 h4
    cases cal with
    | value f => exact absurd rfl (h2 f)
    | invoke r m => rfl
    | builtin b => cases b <;> first | rfl | exact absurd rfl h1 | exact absurd rfl h3 | exact absurd rfl h4
   ·simp only [callFn, ho]
 ·rename_i h1 h2 h3 h5 h6 h4
  refine .inl (viaN ?_ ?_ h)
  ·cases hop : o.op <;> first | rfl | exact absurd hop (h1 _ _) | exact absurd hop (h2 _ _ _) | exact absurd hop (h3 _ _) | exact absurd hop (h5 _ _ _) | exact absurd hop (h4 _)
  ·simp only [callFn]
theorem fOps_false {cx : Cx} {ops : Array Oper} {K : AState → Prop} : ∀ (l : List Oper) (S : AState), FOps P cx ops false l K S → AOps P cx ops l S K
 | [], S, h => h
 | o :: r, S, h => by
  have one : FOne P cx false o (FOps P cx ops false r K) S → Op1 P cx o S fun S1 => AOps P cx ops r S1 K := by
   intro h1
   unfold Op1
   rcases fOne_cases h1 with ⟨hc, S1, hs, hk⟩ | ⟨_, hc, t, es, hn, hk⟩ | ⟨fid, args, hc, hk⟩
   ·rw [hc]
    exact .inl ⟨S1, hs, fOps_false r S1 hk⟩
   ·rw [hc]
    exact .inr ⟨t, es, hn, fun b hb => fOps_false r _ (hk b hb)⟩
   ·rw [hc]
    exact ACalls.mono hk fun v m' hk' => fOps_false r _ hk'
  unfold FOps at h
  unfold AOps
  split at h
  ·rename_i hg
   rw [hg]
   exact one h
  ·rename_i j want hg
   rw [hg]
   simp only
   split at h
   ·rename_i b hy
    rw [hy]
    exact ⟨fun e => one (h.1 (by simpa using e)), fun e => fOps_false r _ (h.2 (by cases b <;> cases want <;> simp_all))⟩
   ·rename_i hy
    rw [hy]
    exact ⟨fun e => (by cases e), fun e => fOps_false r _ h⟩
   ·exact h.elim
theorem fOps_true {cx : Cx} {ops : Array Oper} {K : AState → Prop} : ∀ (l : List Oper) (S : AState), FOps P cx ops true l K S → ∃ S', ARun P false cx.base ops l S S' ∧ K S'
 | [], S, h => ⟨S, rfl, h⟩
 | o :: r, S, h => by
  have one : FOne P cx true o (FOps P cx ops true r K) S → ∃ S1 S', Step P false cx.base o S S1 ∧ ARun P false cx.base ops r S1 S' ∧ K S' := by
   intro h1
   rcases fOne_cases h1 with ⟨hc, S1, hs, hk⟩ | ⟨hdr, _⟩ | ⟨fid, args, hc, hk⟩
   ·obtain ⟨S', h2, h3⟩ := fOps_true r S1 hk
    exact ⟨S1, S', hs, h2, h3⟩
   ·cases hdr
   ·obtain ⟨v, tok', nt', hd, hk'⟩ := hk
    obtain ⟨S', h2, h3⟩ := fOps_true r _ hk'
    refine ⟨_, S', ⟨v, S.box, tok', nt', ?_, rfl⟩, h2, h3⟩
    unfold callFn at hc
    split at hc
    ·rename_i c ho
     split at hc
     ·rename_i f hcal
      split at hc
      ·rename_i fid' caps hf
       simp only [Option.some.injEq, Prod.mk.injEq] at hc
       obtain ⟨rfl, rfl⟩ := hc
       unfold Eff
       have : cls o.op = .t := by
        rw [ho]
        obtain ⟨cal, args, tys⟩ := c
        simp only at hcal
        subst hcal
        rfl
       rw [this]
       refine .inl ⟨.inr ?_, rfl⟩
       unfold EffC
       simp only [ho, hcal, hf]
       exact hd
      ·cases hc
     ·cases hc
    ·cases hc
  unfold FOps at h
  unfold ARun
  split at h
  ·rename_i hg
   obtain ⟨S1, S', h1, h2, h3⟩ := one h
   exact ⟨S', ⟨S1, by unfold GStep; rw [hg]; exact h1, h2⟩, h3⟩
  ·rename_i j want hg
   split at h
   ·rename_i b hy
    by_cases e : b = want
    ·obtain ⟨S1, S', h1, h2, h3⟩ := one (h.1 e)
     exact ⟨S', ⟨S1, by unfold GStep; rw [hg]; simp only [hy, e, ↓reduceIte]; exact h1, h2⟩, h3⟩
    ·obtain ⟨S', h2, h3⟩ := fOps_true r _ (h.2 (by cases b <;> cases want <;> simp_all))
     exact ⟨S', ⟨_, by unfold GStep; rw [hg]; simp only [hy, Option.some.injEq, e, ↓reduceIte], h2⟩, h3⟩
   ·rename_i hy
    obtain ⟨S', h2, h3⟩ := fOps_true r _ h
    exact ⟨S', ⟨_, by unfold GStep; rw [hg]; simp only [hy, reduceCtorEq, ↓reduceIte], h2⟩, h3⟩
   ·exact h.elim
def preF (P : Program) (base : Nat) : List Oper → (Bxs) → Option (Bxs)
 | [], b => some b
 | o :: r, b => match o.op, o.dst with
  | .alloc T, some s => match zeroT P T, b (base + s) with
   | some zs, none => preF P base r (upd b (base + s) (some [zrow (base + s) T zs]))
   | _, _ => none
  | _, _ => preF P base r b
theorem preF_sound {base : Nat} {K : (Bxs) → Prop} : ∀ (l : List Oper) (b b' : Bxs), preF P base l b = some b' → K b' → PreB P base l b K
 | [], b, b', h, hk => by simp only [preF, Option.some.injEq] at h; subst h; exact hk
 | o :: l, b, b', h, hk => by
  unfold preF at h
  unfold PreB
  split at h
  ·rename_i T s h1 h2
   split at h
   ·rename_i zs h3 h4
    simp only [h1, h2, h3]
    exact ⟨h4, preF_sound l _ b' h hk⟩
   ·cases h
  ·rename_i hno
   split
   ·rename_i T s h1 h2
    exact absurd h2 (fun e => hno T s h1 e)
   ·exact preF_sound l b b' h hk
def FReg (P : Program) (cx : Cx) (ops : Array Oper) (draw : Bool) (K : AState → Prop) (S : AState) : Prop := match preF P cx.base ops.toList S.box with
 | some b => FOps P cx ops draw ops.toList K ⟨S.tmps, b, S.tok, S.nt⟩
 | none => False
theorem fReg_sound {cx : Cx} {ops : Array Oper} {draw : Bool} {S : AState} {K : AState → Prop} (h : FReg P cx ops draw K S) : ARegion P cx ops draw S K := by
 unfold FReg at h
 unfold ARegion
 split at h
 ·rename_i b hb
  refine preF_sound _ _ b hb ?_
  cases draw with
  | true => exact fOps_true _ _ h
  | false => exact fOps_false _ _ h
 ·exact h.elim
inductive CI where
 | c (x : Code)
 | blk (id : Nat)
mutual
def AL (P : Program) (cx : Cx) (nt0 : Nat) (K : Exit → AState → Prop) : List CI → AState → Prop
 | [], S => K .normal S
 | .c x :: r, S => AT P cx nt0 x S fun e S' => match e with
  | .normal => AL P cx nt0 K r S'
  | e => AU P cx nt0 K r e S'
 | .blk _ :: r, S => AL P cx nt0 K r S
def AU (P : Program) (cx : Cx) (nt0 : Nat) (K : Exit → AState → Prop) : List CI → Exit → AState → Prop
 | [], e, S => K e S
 | .c _ :: r, e, S => AU P cx nt0 K r e S
 | .blk id :: r, e, S => match e with
  | .exit j => if j = id then AL P cx nt0 K r S else AU P cx nt0 K r (.exit j) S
  | e => AU P cx nt0 K r e S
end
theorem AU.normal {cx : Cx} {nt0 : Nat} {K : Exit → AState → Prop} : ∀ (r : List CI) (S : AState), AU P cx nt0 K r .ret S → K .ret S
 | [], S, h => by simpa only [AU] using h
 | .c x :: r, S, h => AU.normal r S (by simpa only [AU] using h)
 | .blk id :: r, S, h => AU.normal r S (by simpa only [AU] using h)
theorem AU.of_ret {cx : Cx} {nt0 : Nat} {K : Exit → AState → Prop} : ∀ (r : List CI) (S : AState), K .ret S → AU P cx nt0 K r .ret S
 | [], S, h => by simpa only [AU] using h
 | .c x :: r, S, h => by simp only [AU]; exact AU.of_ret r S h
 | .blk id :: r, S, h => by simp only [AU]; exact AU.of_ret r S h
section rules
variable {cx : Cx} {nt0 : Nat} {K : Exit → AState → Prop} {r : List CI} {S : AState}
theorem AL.start {c : Code} (h : AL P cx nt0 K [.c c] S) : AT P cx nt0 c S K := by
 simp only [AL] at h
 refine AT.mono h fun e S' h' => ?_
 cases e <;> simp only [AU] at h' <;> exact h'
theorem AL.nil (h : K .normal S) : AL P cx nt0 K [] S := by simpa only [AL] using h
theorem AL.blk {id : Nat} (h : AL P cx nt0 K r S) : AL P cx nt0 K (.blk id :: r) S := by simpa only [AL] using h
theorem AL.seq {a b : Code} (h : AL P cx nt0 K (.c a :: .c b :: r) S) : AL P cx nt0 K (.c (.seq a b) :: r) S := by
 simp only [AL] at h ⊢
 intro G0 w0 he hn G act w hr hl
 refine wp_seq (wp_mono (h G0 w0 he hn G act w hr hl) ?_)
 rintro e a' w' ⟨S', G', h1, h2, h3⟩
 cases e with
 | normal =>
  refine wp_mono (h1 G0 w0 he hn G' a' w' h2 h3) ?_
  rintro e a'' w'' ⟨S'', G'', k1, k2, k3⟩
  exact ⟨S'', G'', k1, k2, k3⟩
 | _ => exact ⟨S', G', by simpa only [AU] using h1, h2, h3⟩
theorem AL.block {id : Nat} {c : Code} (h : AL P cx nt0 K (.c c :: .blk id :: r) S) : AL P cx nt0 K (.c (.block id c) :: r) S := by
 simp only [AL] at h ⊢
 intro G0 w0 he hn G act w hr hl
 refine wp_block (wp_mono (h G0 w0 he hn G act w hr hl) ?_)
 rintro e a' w' ⟨S', G', h1, h2, h3⟩
 cases e with
 | exit j =>
  simp only [Exit.inBlock]
  simp only [AU] at h1
  split
  ·rename_i e
   rw [if_pos e] at h1
   exact ⟨S', G', h1, h2, h3⟩
  ·rename_i e
   rw [if_neg e] at h1
   exact ⟨S', G', h1, h2, h3⟩
 | _ => exact ⟨S', G', by simpa only [AU, AL] using h1, h2, h3⟩
theorem AL.skip (h : AL P cx nt0 K r S) : AL P cx nt0 K (.c .skip :: r) S := by
 simp only [AL]
 intro G0 w0 he hn G a w hr hl
 exact wp_skip ⟨S, G, h, hr, hl⟩
theorem AL.exit {id : Nat} (h : AU P cx nt0 K r (.exit id) S) : AL P cx nt0 K (.c (.exit id) :: r) S := by
 simp only [AL]
 intro G0 w0 he hn G a w hr hl
 exact wp_exit ⟨S, G, h, hr, hl⟩
theorem AL.ret (h : K .ret S) : AL P cx nt0 K (.c .ret :: r) S := by
 simp only [AL]
 intro G0 w0 he hn G a w hr hl
 exact wp_ret ⟨S, G, AU.of_ret r S h, hr, hl⟩
theorem AU.c {x : Code} {e : Exit} (h : AU P cx nt0 K r e S) : AU P cx nt0 K (.c x :: r) e S := by simpa only [AU] using h
theorem AL.region {id : Nat} {ops : Array Oper} {draw : Bool} (hf : P.follows .mixedOrders = true) (hnb : cx.base + cx.n ≤ cx.nb) (hok : regionOk cx.n ops draw = true) (h : FReg P cx ops draw (AL P cx nt0 K r) S) : AL P cx nt0 K (.c (.region id ops draw) :: r) S := by
 simp only [AL]
 exact AT.region hf hnb hok (fReg_sound h)
theorem AL.region2 {id : Nat} {ops : Array Oper} (hf : P.follows .mixedOrders = true) (hnb : cx.base + cx.n ≤ cx.nb) (hok : (allocOk ops && dstOk cx.n ops && regOk2 ops) = true) (hs : Side ops S) (h : FReg P cx ops true (fun S' => Far S' (ptrs ops.toList) ∧ AL P cx nt0 K r S') S) : AL P cx nt0 K (.c (.region id ops true) :: r) S := by
 simp only [AL]
 exact AT.region2 hf hnb hok hs (fReg_sound h)
def FCond (P : Program) (cx : Cx) (nt0 : Nat) (K : Exit → AState → Prop) (r : List CI) (a b : Code) (S : AState) (x : AV) : Prop := match x with
 | .d (.raw (.bool t)) => (t = true → AL P cx nt0 K (.c a :: r) S) ∧ (t = false → AL P cx nt0 K (.c b :: r) S)
 | _ => False
theorem AL.cond {x : Operand} {a b : Code} (h : FCond P cx nt0 K r a b S (S.ev x)) : AL P cx nt0 K (.c (.cond x a b) :: r) S := by
 unfold FCond at h
 split at h
 ·rename_i t hc
  simp only [AL] at h ⊢
  intro G0 w0 he hn G act w hr hl
  have h1 := hr.ev x
  rw [hc] at h1
  have h2 : act.eval x = .bool t := rawOf_spec rfl h1
  exact wp_cond_split h2 (fun ht => h.1 ht G0 w0 he hn G act w hr hl) (fun ht => h.2 ht G0 w0 he hn G act w hr hl)
 ·exact h.elim
theorem AL.weak {S' : AState} {x : Code} (hw : Weaks cx nt0 S S') (h : AL P cx nt0 K (.c x :: r) S') : AL P cx nt0 K (.c x :: r) S := by
 simp only [AL] at h ⊢
 exact AT.weaks hw h
theorem AL.loop {c : Code} (I : Nat → AState → Prop) (h0 : ∃ n S0, Weaks cx nt0 S S0 ∧ I n S0)
  (hstep : ∀ n S, I n S → AL P cx nt0 (fun e S' => match e with
   | .normal => ∃ m S'', m < n ∧ Weaks cx nt0 S' S'' ∧ I m S''
   | e => AU P cx nt0 K r e S') [.c c] S) : AL P cx nt0 K (.c (.loop c) :: r) S := by
 simp only [AL]
 refine AT.loop I h0 fun n S hI => ?_
 refine (AL.start (hstep n S hI)).mono fun e S' h => ?_
 cases e <;> exact h
end rules
end Go.AM
namespace Go.AM
open Go
variable {P : Program}
attribute [simp] buildT zrow strA stkA Own.live nilCmp FReg preF FOne FSkip Gd.tt Gd.tf Gd.ft Gd.ff fN fR fW fA AState.ev putT_tl putT_none tlArgs tl_cons tl_nil ofVal ofVal1 lenF idxF sliceF boundF rawOf rawsOf binF unF loadD loadA lb_at lk_cons lk_nil upd_lb yieldA AV.cells? AV.elems? toDs AV.toD rowsOf fillA setCells FCond copySrc
@[simp] theorem FOps_nil {cx : Cx} {ops : Array Oper} {dr : Bool} {K : AState → Prop} {t : Nat → AV} {b : Bxs} {k : Nat → Bool} {n : Nat} : FOps P cx ops dr [] K ⟨t, b, k, n⟩ = K ⟨t, b, k, n⟩ := by simp only [FOps]
@[simp] theorem FOps_cons {cx : Cx} {ops : Array Oper} {dr : Bool} {o : Oper} {r : List Oper} {K : AState → Prop} {t : Nat → AV} {b : Bxs} {k : Nat → Bool} {n : Nat} : FOps P cx ops dr (o :: r) K ⟨t, b, k, n⟩ = match o.guard with
  | none => FOne P cx dr o (FOps P cx ops dr r K) ⟨t, b, k, n⟩
  | some (j, want) => match yieldA ops ⟨t, b, k, n⟩ j with
   | some (some c) => Gd c want (FOne P cx dr o (FOps P cx ops dr r K)) (FSkip o.dst (FOps P cx ops dr r K)) ⟨t, b, k, n⟩
   | some none => FSkip o.dst (FOps P cx ops dr r K) ⟨t, b, k, n⟩
   | none => False := by
 simp only [FOps]
 all_goals rfl
@[simp] theorem live_full {tok : Nat → Bool} : Own.full.liveP tok = True := rfl
@[simp] theorem kill_full {tok : Nat → Bool} : Own.full.kill tok = tok := rfl
@[simp] theorem live_tok {tok : Nat → Bool} {t : Nat} : (Own.tok t).liveP tok = (tok t = true) := rfl
@[simp] theorem kill_tok {tok : Nat → Bool} {t : Nat} : (Own.tok t).kill tok = upd tok t false := rfl
def ToL (p q : Nat → Prop) (fz : Option (Nat × Nat × List (List D))) (l : List (Nat × AV)) : List (Nat × AV) → Prop
 | [] => True
 | (i, v) :: r => To p q fz (tl l i) v ∧ ToL p q fz l r
theorem ToL.all {p q : Nat → Prop} {fz : Option (Nat × Nat × List (List D))} {l : List (Nat × AV)} : ∀ {l' : List (Nat × AV)}, ToL p q fz l l' → ∀ t, To p q fz (tl l t) (tl l' t)
 | [], _, t => .bot
 | (i, v) :: r, h, t => by
  rw [tl_cons]
  split
  ·rename_i e; subst e; exact h.1
  ·exact ToL.all h.2 t
def BoxL (p q : Nat → Prop) (fz : Option (Nat × Nat × List (List D))) (loc : List (Nat × List (List AV))) : List (Nat × List (List AV)) → Prop
 | [] => True
 | (s, rows') :: r => (∃ rows, lk loc s = some rows ∧ RowsTo p q fz rows rows') ∧ BoxL p q fz loc r
theorem BoxL.all {p q : Nat → Prop} {fz : Option (Nat × Nat × List (List D))} {loc : List (Nat × List (List AV))} : ∀ {loc' : List (Nat × List (List AV))}, BoxL p q fz loc loc' → ∀ s rows', lk loc' s = some rows' → ∃ rows, lk loc s = some rows ∧ RowsTo p q fz rows rows'
 | [], _, s, rows', h => by simp [lk] at h
 | (i, v) :: r, h, s, rows', hs => by
  rw [lk_cons] at hs
  split at hs
  ·rename_i e; subst e; cases hs; exact h.1
  ·exact BoxL.all h.2 s rows' hs
theorem Weaks.mk' {cx : Cx} {nt0 nt : Nat} {l l' : List (Nat × AV)} {out : Bxs} {loc loc' : List (Nat × List (List AV))} {tok : Nat → Bool} (hnt : nt0 ≤ nt)
  (hl : ToL (fun k => lb cx.base out loc' k ≠ none) (fun _ => True) none l l') (hb : BoxL (fun k => lb cx.base out loc' k ≠ none) (fun _ => True) none loc loc')
  (ho : ∀ k rows, k < cx.base → out k = some rows → cx.B0 k = some rows ∨ ∀ r ∈ rows, ∀ x ∈ r, OkIn (fun k => lb cx.base out loc' k ≠ none) (fun _ => True) x) :
  Weaks cx nt0 ⟨tl l, lb cx.base out loc, tok, nt⟩ ⟨tl l', lb cx.base out loc', tok, nt⟩ := by
 refine ⟨out, loc, loc', none, rfl, rfl, Nat.le_refl _, hnt, fun t h => ⟨h, .inl rfl⟩, ?_, ?_, (fun _ _ _ h => by cases h), ?_⟩
 ·simp only [true_or, Option.map_none]; exact hl.all
 ·simp only [true_or, Option.map_none]; exact hb.all
 ·simp only [true_or]; exact ho
theorem Weaks.mk {cx : Cx} {nt0 nt : Nat} {l l' : List (Nat × AV)} {out : Bxs} {loc loc' : List (Nat × List (List AV))} {tok : Nat → Bool} (hnt : nt0 ≤ nt) (ho : out = cx.B0)
  (hl : ToL (fun k => lb cx.base out loc' k ≠ none) (fun _ => True) none l l') (hb : BoxL (fun k => lb cx.base out loc' k ≠ none) (fun _ => True) none loc loc') :
  Weaks cx nt0 ⟨tl l, lb cx.base out loc, tok, nt⟩ ⟨tl l', lb cx.base out loc', tok, nt⟩ :=
 Weaks.mk' hnt hl hb fun k rows _ h => .inl (by rw [← ho]; exact h)
theorem Fin.data {cx : Cx} {nt0 nt : Nat} {rs : List ResultVar} {l : List (Nat × AV)} {out : Bxs} {loc : List (Nat × List (List AV))} {tok mtok : Nat → Bool} {vs : List AV} {av : AV}
  (hres : resAs P ⟨tl l, lb cx.base out loc, tok, nt⟩ rs = some vs) (hbox : lb cx.base out [] = out) (ho : out = cx.B0) (hm : ∀ t, mtok t = true → t < nt0) (htok : ∀ t, mtok t = true → tok t = true) (hnt : nt0 ≤ nt)
  (hto : To (fun k => lb cx.base out [] k ≠ none) (fun t => nt0 = nt ∨ t < nt0) none (packA vs) av) : Fin P cx nt0 rs (fun v' m' => v' = av ∧ m' = ⟨out, cx.base, mtok, nt0⟩) ⟨tl l, lb cx.base out loc, tok, nt⟩ :=
 ⟨vs, out, loc, none, av, ⟨out, cx.base, mtok, nt0⟩, hres, ⟨rfl, rfl, hnt, Nat.le_refl _, fun t h => ⟨htok t h, .inr (hm t h)⟩, fun _ => .bot, fun s rows' h => by simp [lk] at h, (fun _ _ _ h => by cases h),
  fun k rows _ h => .inl (by rw [← ho]; exact h)⟩, hbox.symm, rfl, by simpa using hto, rfl, rfl⟩
section
variable {p q : Nat → Prop} {fz : Option (Nat × Nat × List (List D))}
@[simp] theorem to_bot (x : AV) : To p q fz x .bot := .bot
@[simp] theorem to_d (x : D) : To p q fz (.d x) (.d x) := .same .d
@[simp] theorem to_data (sz : Nat) (es : List (List D)) (o : Own) : To p q fz (.osl sz es o) (.d (.sl sz es)) := .data
@[simp] theorem to_osl (sz : Nat) (es : List (List D)) (o : Own) : To p (fun _ => True) fz (.osl sz es o) (.osl sz es o) := .same (.osl fun _ _ => trivial)
theorem to_snoc {sz : Nat} {es : List (List D)} {r r' : List D} (h : DS1 r r') (o : Own) : To p (fun _ => True) fz (.osl sz (es ++ [r]) o) (.osl sz (es ++ [r']) o) := .otok ((DSs.snoc h).sub sz) fun _ _ => trivial
theorem dsub_one {sz : Nat} {r r' : List D} (h : DS1 r r') : DSub (.sl sz [r]) (.sl sz [r']) := (DSs.one h).sub sz
@[simp] theorem to_full (sz : Nat) (es : List (List D)) : To p q fz (.osl sz es .full) (.osl sz es .full) := .same (.osl fun _ h => by cases h)
@[simp] theorem to_nil0 (sz sz' : Nat) (h : sz' = 0 → sz = 0) : To p q fz (.osl sz [] .full) (.osl sz' [] .full) := .nil h rfl
@[simp] theorem to_emp0 (sz sz' : Nat) (o : Own) : To p q fz (.osl sz [] o) (.d (.sl sz' [])) := .odsub .emp
@[simp] theorem to_emp1 (sz sz' : Nat) : To p q fz (.d (.sl sz [])) (.d (.sl sz' [])) := .dsub .emp
@[simp] theorem to_emp2 (sz sz' : Nat) : To p q fz (.osl 1 [[.sl sz []]] .full) (.osl 1 [[.sl sz' []]] .full) :=
 .osub (fun e => by cases e) (.sl rfl (fun i h1 h2 => by simp at h1; subst h1; rfl) (fun i h1 h2 j g1 g2 => by simp at h1; subst h1; simp at g1; subst g1; exact .emp))
@[simp] theorem to_emp3 (sz sz' : Nat) (o : Own) : To p q fz (.osl 1 [[.sl sz []]] o) (.d (.sl 1 [[.sl sz' []]])) :=
 .odsub (.sl rfl (fun i h1 h2 => by simp at h1; subst h1; rfl) (fun i h1 h2 j g1 g2 => by simp at h1; subst h1; simp at g1; subst g1; exact .emp))
@[simp] theorem to_cptr (cs : List D) (off : Nat) : To p q fz (.cptr cs off) (.cptr cs off) := .same .cptr
theorem to_ptr {k i off : Nat} (h : p k) : To p q fz (.ptr k i off) (.ptr k i off) := .same (.ptr h)
@[simp] theorem to_ptr_lb {base s i off : Nat} {out : Bxs} {loc : List (Nat × List (List AV))} : To (fun k => lb base out loc k ≠ none) q fz (.ptr (base + s) i off) (.ptr (base + s) i off) ↔ lk loc s ≠ none := by
 constructor
 ·intro h
  cases h with
  | same h => cases h with | ptr h => rw [lb_at] at h; exact h
 ·intro h
  exact to_ptr (by rw [lb_at]; exact h)
@[simp] theorem to_buf (E : TypeId) (t : Nat) (es : List (List D)) : To p (fun _ => True) fz (.buf E t es) (.buf E t es) := .same (.buf trivial)
@[simp] theorem to_here_lb {base s : Nat} {T : TypeId} {out : Bxs} {loc : List (Nat × List (List AV))} : To (fun k => lb base out loc k ≠ none) q fz (.here (base + s) T) (.here (base + s) T) ↔ lk loc s ≠ none := by
 constructor
 ·intro h
  cases h with
  | same h => cases h with | here h => rw [lb_at] at h; exact h
 ·intro h
  exact .same (.here (by rw [lb_at]; exact h))
@[simp] theorem to_msl_lb {base s off n sz : Nat} {out : Bxs} {loc : List (Nat × List (List AV))} : To (fun k => lb base out loc k ≠ none) q fz (.msl (base + s) off n sz) (.msl (base + s) off n sz) ↔ lk loc s ≠ none := by
 constructor
 ·intro h
  cases h with
  | same h => cases h with | msl h => rw [lb_at] at h; exact h
 ·intro h
  exact .same (.msl (by rw [lb_at]; exact h))
@[simp] theorem okIn_d (x : D) : OkIn p q (.d x) := .d
@[simp] theorem okIn_bot : OkIn p q .bot := .bot
@[simp] theorem okIn_osl (sz : Nat) (es : List (List D)) (o : Own) : OkIn p (fun _ => True) (.osl sz es o) := .osl fun _ _ => trivial
@[simp] theorem okIn_ptr {k i off : Nat} : OkIn p q (.ptr k i off) ↔ p k := ⟨fun h => by cases h; assumption, .ptr⟩
@[simp] theorem okIn_agg {cs : List AV} : OkIn p q (.agg cs) ↔ ∀ c ∈ cs, OkIn p q c := ⟨fun h => by cases h; assumption, .agg⟩
@[simp] theorem okIn_fn {f : Fn} {cs : List AV} : OkIn p q (.fn f cs) ↔ ∀ c ∈ cs, OkIn p q c := ⟨fun h => by cases h; assumption, .fn⟩
@[simp] theorem to_tup_nil : To p q fz (.tup []) (.tup []) := .tup rfl fun i h => by simp at h
theorem to_cons_agg {a b : AV} {as1 bs : List AV} (h : To p q fz a b) (k : To p q fz (.agg as1) (.agg bs)) : To p q fz (.agg (a :: as1)) (.agg (b :: bs)) := by
 cases k with
 | same k =>
  refine .agg rfl fun i h1 h2 => ?_
  cases i with
  | zero => exact h
  | succ i => exact .same ((okIn_agg.1 k) _ (List.getElem_mem _))
 | agg hl k =>
  refine .agg (by simp [hl]) fun i h1 h2 => ?_
  cases i with
  | zero => exact h
  | succ i => exact k i (by simpa using h1) (by simpa using h2)
theorem to_cons_tup {a b : AV} {as1 bs : List AV} (h : To p q fz a b) (k : To p q fz (.tup as1) (.tup bs)) : To p q fz (.tup (a :: as1)) (.tup (b :: bs)) := by
 cases k with
 | same k =>
  refine .tup rfl fun i h1 h2 => ?_
  cases i with
  | zero => exact h
  | succ i => cases k with | tup k => exact .same (k _ (List.getElem_mem _))
 | tup hl k =>
  refine .tup (by simp [hl]) fun i h1 h2 => ?_
  cases i with
  | zero => exact h
  | succ i => exact k i (by simpa using h1) (by simpa using h2)
@[simp] theorem to_cons_agg_iff {a b : AV} {as1 bs : List AV} : To p q fz (.agg (a :: as1)) (.agg (b :: bs)) ↔ To p q fz a b ∧ To p q fz (.agg as1) (.agg bs) := by
 constructor
 ·intro h
  cases h with
  | same h => have := okIn_agg.1 h; exact ⟨.same (this _ (by simp)), .same (okIn_agg.2 fun c hc => this c (by simp [hc]))⟩
  | agg hl h => exact ⟨h 0 (by simp) (by simp), .agg (by simpa using hl) fun i h1 h2 => h (i + 1) (by simpa using h1) (by simpa using h2)⟩
 ·exact fun ⟨h, k⟩ => to_cons_agg h k
@[simp] theorem to_cons_tup_iff {a b : AV} {as1 bs : List AV} : To p q fz (.tup (a :: as1)) (.tup (b :: bs)) ↔ To p q fz a b ∧ To p q fz (.tup as1) (.tup bs) := by
 constructor
 ·intro h
  cases h with
  | same h =>
   cases h with
   | tup this => exact ⟨.same (this _ (by simp)), .same (.tup fun c hc => this c (by simp [hc]))⟩
  | tup hl h => exact ⟨h 0 (by simp) (by simp), .tup (by simpa using hl) fun i h1 h2 => h (i + 1) (by simpa using h1) (by simpa using h2)⟩
 ·exact fun ⟨h, k⟩ => to_cons_tup h k
@[simp] theorem to_nil_agg : To p q fz (.agg []) (.agg []) := .agg rfl fun i h => by simp at h
end
def SideD (t : List (Nat × AV)) : List Oper → Prop
 | [] => True
 | o :: r => (match o.dst with | some d => NP (tl t d) | none => True) ∧ SideD t r
theorem SideD.all {t : List (Nat × AV)} {l : List Oper} (h : SideD t l) : ∀ o ∈ l, ∀ d, o.dst = some d → NP (tl t d) := by
 induction l with
 | nil => intro o ho; simp at ho
 | cons o r ih =>
  intro x hx d hd
  unfold SideD at h
  rcases List.mem_cons.1 hx with e | hx
  ·subst e
   have := h.1
   rw [hd] at this
   exact this
  ·exact ih h.2 x hx d hd
theorem Side.of {ops : Array Oper} {l : List (Nat × AV)} {b : Bxs} {k : Nat → Bool} {n : Nat} (h : SideD l ops.toList) : Side ops ⟨tl l, b, k, n⟩ :=
 fun o ho d hd => h.all o ho d hd
attribute [simp] SideD NP NK ptrs Far Far1
theorem AL.loopT {cx : Cx} {nt0 : Nat} {K : Exit → AState → Prop} {r : List CI} {S : AState} {c : Code} {α : Type} (T : α → AState) (inv : α → Prop) (μ : α → Nat) (a0 : α) (h0 : inv a0) (hw : Weaks cx nt0 S (T a0))
  (hstep : ∀ a S, inv a → S = T a → AL P cx nt0 (fun e S' => match e with
   | .normal => ∃ a', inv a' ∧ μ a' < μ a ∧ Weaks cx nt0 S' (T a')
   | e => AU P cx nt0 K r e S') [.c c] S) : AL P cx nt0 K (.c (.loop c) :: r) S := by
 refine AL.loop (fun n S => ∃ a, inv a ∧ n = μ a ∧ S = T a) ⟨_, _, hw, a0, h0, rfl, rfl⟩ ?_
 rintro n S ⟨a, ha, rfl, hS⟩
 have := AL.start (hstep a S ha hS)
 simp only [AL]
 refine this.mono fun e S' h => ?_
 cases e with
 | normal =>
  obtain ⟨a', h1, h2, h3⟩ := h
  exact ⟨μ a', T a', h2, h3, a', h1, rfl, rfl⟩
 | _ => simpa only [AU] using h
structure TK (mtok : Tks) (nt0 : Nat) (tok : Tks) (nt : Nat) (os : List Own) : Prop where
 old : ∀ t, mtok t = true → tok t = true
 lt : ∀ t, mtok t = true → t < nt0
 le : nt0 ≤ nt
 own : ∀ o ∈ os, ∀ t, o = .tok t → tok t = true ∧ nt0 ≤ t ∧ t < nt
 ne : os.Pairwise fun a b => ∀ t, a = .tok t → b ≠ .tok t
theorem TK.start {mtok : Nat → Bool} {nt0 : Nat} (h : ∀ t, mtok t = true → t < nt0) : TK mtok nt0 mtok nt0 [] := ⟨fun _ h => h, h, Nat.le_refl _, by simp, .nil⟩
theorem TK.full {mtok : Nat → Bool} {nt0 : Nat} {tok : Nat → Bool} {nt : Nat} {os : List Own} (h : TK mtok nt0 tok nt os) : TK mtok nt0 tok nt (.full :: os) :=
 ⟨h.old, h.lt, h.le, fun o ho t e => by
  rcases List.mem_cons.1 ho with rfl | ho
  ·cases e
  ·exact h.own o ho t e, .cons (fun b _ t e => by cases e) h.ne⟩
theorem TK.live {mtok : Nat → Bool} {nt0 : Nat} {tok : Nat → Bool} {nt : Nat} {o : Own} {os : List Own} (h : TK mtok nt0 tok nt (o :: os)) : o.liveP tok := by
 cases o with
 | full => trivial
 | tok t => exact (h.own _ (by simp) t rfl).1
theorem TK.tail {mtok : Nat → Bool} {nt0 : Nat} {tok : Nat → Bool} {nt : Nat} {o : Own} {os : List Own} (h : TK mtok nt0 tok nt (o :: os)) : TK mtok nt0 tok nt os :=
 ⟨h.old, h.lt, h.le, fun o' ho => h.own o' (by simp [ho]), (List.pairwise_cons.1 h.ne).2⟩
theorem TK.swap {mtok : Nat → Bool} {nt0 : Nat} {tok : Nat → Bool} {nt : Nat} {a b : Own} {os : List Own} (h : TK mtok nt0 tok nt (a :: b :: os)) : TK mtok nt0 tok nt (b :: a :: os) := by
 have h1 := List.pairwise_cons.1 h.ne
 have h2 := List.pairwise_cons.1 h1.2
 refine ⟨h.old, h.lt, h.le, fun o' ho => h.own o' (by simp at ho ⊢; rcases ho with h | h | h <;> simp [h]), ?_⟩
 refine List.pairwise_cons.2 ⟨fun c hc t e => ?_, List.pairwise_cons.2 ⟨fun c hc => h1.1 c (by simp [hc]), h2.2⟩⟩
 rcases List.mem_cons.1 hc with rfl | hc
 ·intro e'
  exact h1.1 b (by simp) t e' e
 ·exact h2.1 c hc t e
theorem TK.app {mtok : Nat → Bool} {nt0 : Nat} {tok : Nat → Bool} {nt : Nat} {o : Own} {os : List Own} (h : TK mtok nt0 tok nt (o :: os)) : TK mtok nt0 (upd (o.kill tok) nt true) (nt + 1) (.tok nt :: os) := by
 have hp := List.pairwise_cons.1 h.ne
 have key : ∀ t, t < nt → (∀ t', o = .tok t' → t ≠ t') → (upd (o.kill tok) nt true) t = tok t := by
  intro t ht hne
  rw [upd_other _ _ (by omega)]
  cases o with
  | full => rfl
  | tok t' => simp only [Own.kill]; rw [upd_other _ _ (hne t' rfl)]
 have hle := h.le
 refine ⟨fun t ht => ?_, h.lt, by omega, fun o' ho t e => ?_, ?_⟩
 ·have hlt := h.lt t ht
  rw [key t (by omega) (fun t' e => by have := (h.own o (by simp) t' e).2.1; omega)]
  exact h.old t ht
 ·rcases List.mem_cons.1 ho with rfl | ho
  ·cases e
   exact ⟨by rw [upd_same], hle, by omega⟩
  ·obtain ⟨h1, h2, h3⟩ := h.own o' (by simp [ho]) t e
   refine ⟨?_, h2, by omega⟩
   rw [key t h3 (fun t' e' => fun e2 => by subst e2; exact hp.1 o' ho t e' e)]
   exact h1
 ·refine List.pairwise_cons.2 ⟨fun b hb t e e' => ?_, hp.2⟩
  cases e
  have := (h.own b (by simp [hb]) _ e').2.2
  omega
theorem Stop.of_b {cx : Cx} {fid : FuncId} {args : List AV} {S : AState} {dst : Option Tmp} {K : AState → Prop} {v : AV} {tok' : Nat → Bool} {nt' : Nat} (h : ACalls P fid args ⟨S.box, cx.nb, S.tok, S.nt⟩ fun v' m' => v' = v ∧ m' = ⟨S.box, cx.nb, tok', nt'⟩)
  (hk : K ⟨putT S.tmps dst v, S.box, tok', nt'⟩) : Stop P cx false fid args S dst K := by
 refine h.mono ?_
 rintro v' m' ⟨rfl, rfl⟩
 exact hk
theorem key_lt {nb k : Nat} {box : Bxs} {r : List (List AV)} (hbox : lb nb box [] = box) (h : box k = some r) : k < nb := by
 rcases Nat.lt_or_ge k nb with h1 | h1
 ·exact h1
 ·rw [← hbox] at h
  have : ¬ k < nb := by omega
  simp [lb, lk, this] at h
abbrev ints (xs : List Int) : D := .sl 1 (xs.map fun n => [D.raw (.int .i64 n)])
abbrev I (n : Int) : AV := .d (.raw (.int .i64 n))
abbrev B (b : Bool) : AV := .d (.raw (.bool b))
structure E where
 ty : Int
 fr : Int
 to : Int
 deriving DecidableEq, Inhabited
abbrev E.cells (e : E) : List D := [.raw (.int .i64 e.ty), .raw (.int .i64 e.fr), .raw (.int .i64 e.to)]
abbrev edges (es : List E) : D := .sl 3 (es.map E.cells)
structure Gr where
 nodes : List Int
 edges : List E
 deriving DecidableEq, Inhabited
structure Mo where
 nodes : List Int
 edges : List Int
 deriving DecidableEq, Inhabited
abbrev Gr.av (g : Gr) : AV := .agg [.d (ints g.nodes), .d (AM.edges g.edges)]
abbrev Mo.av (m : Mo) : AV := .agg [.d (ints m.nodes), .d (ints m.edges)]
@[simp] theorem map_at {α β : Type} (f : α → β) (l : List α) (i : Nat) (d : β) (h : i < l.length) : ((l.map f)[i]?).getD d = f l[i] := by simp [h]
end Go.AM
namespace Go.AM
open Go
variable {P : Program}
def RowTo (p q : Nat → Prop) (fz : Option (Nat × Nat × List (List D))) (r r' : List AV) : Prop :=
 r.length = r'.length ∧ ∀ j (g1 : j < r.length) (g2 : j < r'.length), To p q fz r[j] r'[j]
section
variable {p q : Nat → Prop} {fz : Option (Nat × Nat × List (List D))}
@[simp] theorem rowTo_nil : RowTo p q fz [] [] := ⟨rfl, fun j h => by simp at h⟩
@[simp] theorem rowTo_cons {x y : AV} {xs ys : List AV} : RowTo p q fz (x :: xs) (y :: ys) ↔ To p q fz x y ∧ RowTo p q fz xs ys := by
 constructor
 ·rintro ⟨h1, h2⟩
  refine ⟨h2 0 (by simp) (by simp), by simpa using h1, fun j g1 g2 => ?_⟩
  exact h2 (j + 1) (by simpa using g1) (by simpa using g2)
 ·rintro ⟨h1, h2, h3⟩
  refine ⟨by simp [h2], fun j g1 g2 => ?_⟩
  cases j with
  | zero => exact h1
  | succ j => exact h3 j (by simpa using g1) (by simpa using g2)
@[simp] theorem rowsTo_nil : RowsTo p q fz [] [] := ⟨rfl, fun j h => by simp at h⟩
@[simp] theorem rowsTo_cons {x y : List AV} {xs ys : List (List AV)} : RowsTo p q fz (x :: xs) (y :: ys) ↔ RowTo p q fz x y ∧ RowsTo p q fz xs ys := by
 constructor
 ·rintro ⟨h1, h2⟩
  refine ⟨h2 0 (by simp) (by simp), by simpa using h1, fun j g1 g2 => ?_⟩
  exact h2 (j + 1) (by simpa using g1) (by simpa using g2)
 ·rintro ⟨h1, h2, h3⟩
  refine ⟨by simp [h2], fun j g1 g2 => ?_⟩
  cases j with
  | zero => exact h1
  | succ j => exact h3 j (by simpa using g1) (by simpa using g2)
theorem rowsTo_same {rows : List (List AV)} (h : ∀ r ∈ rows, ∀ x ∈ r, OkIn p q x) : RowsTo p q fz rows rows :=
 ⟨rfl, fun i h1 h2 => ⟨rfl, fun j g1 g2 => .same (h _ (List.getElem_mem _) _ (List.getElem_mem _))⟩⟩
end
def rowsD (es : List (List D)) : List (List AV) := es.map fun e => e.map AV.d
@[simp] theorem rowsD_length (es : List (List D)) : (rowsD es).length = es.length := by simp [rowsD]
@[simp] theorem rowsD_get {es : List (List D)} {i : Nat} (h : i < es.length) : (rowsD es)[i]? = some ((es[i]).map AV.d) := by simp [rowsD, h]
@[simp] theorem rowsTo_D {p q : Nat → Prop} {fz : Option (Nat × Nat × List (List D))} (es : List (List D)) : RowsTo p q fz (rowsD es) (rowsD es) := by
 refine rowsTo_same fun r hr x hx => ?_
 obtain ⟨e, _, rfl⟩ := List.mem_map.1 hr
 obtain ⟨d, _, rfl⟩ := List.mem_map.1 hx
 exact .d
abbrev rI (xs : List Int) : List (List D) := xs.map fun n => [D.raw (.int .i64 n)]
abbrev rE (es : List E) : List (List D) := es.map E.cells
def rowsI (xs : List Int) : List (List AV) := xs.map fun n => [AV.d (.raw (.int .i64 n))]
def rowsE (xs : List E) : List (List AV) := xs.map fun e => [AV.d (.raw (.int .i64 e.ty)), AV.d (.raw (.int .i64 e.fr)), AV.d (.raw (.int .i64 e.to))]
theorem rowsI_eq (xs : List Int) : rowsI xs = rowsD (rI xs) := by simp [rowsI, rowsD, rI]
theorem rowsE_eq (xs : List E) : rowsE xs = rowsD (rE xs) := by simp [rowsE, rowsD, rE, E.cells]
@[simp] theorem rep_rI (n : Nat) : List.replicate n [AV.d (.raw (.int .i64 0))] = rowsI (List.replicate n 0) := by simp [rowsI]
@[simp] theorem rep_rE (n : Nat) : List.replicate n [AV.d (.raw (.int .i64 0)), AV.d (.raw (.int .i64 0)), AV.d (.raw (.int .i64 0))] = rowsE (List.replicate n ⟨0, 0, 0⟩) := by simp [rowsE]
@[simp] theorem set_rI (xs : List Int) (i : Nat) (v : Int) : (rowsI xs).set i [AV.d (.raw (.int .i64 v))] = rowsI (xs.set i v) := by simp [rowsI, List.map_set]
@[simp] theorem set_rE (xs : List E) (i : Nat) (a b c : Int) : (rowsE xs).set i [AV.d (.raw (.int .i64 a)), AV.d (.raw (.int .i64 b)), AV.d (.raw (.int .i64 c))] = rowsE (xs.set i ⟨a, b, c⟩) := by simp [rowsE, List.map_set]
@[simp] theorem rowsI_length (xs : List Int) : (rowsI xs).length = xs.length := by simp [rowsI]
@[simp] theorem rowsE_length (xs : List E) : (rowsE xs).length = xs.length := by simp [rowsE]
@[simp high] theorem rowsI_get {xs : List Int} {i : Nat} (h : i < xs.length) : (rowsI xs)[i]? = some [AV.d (.raw (.int .i64 xs[i]))] := by simp [rowsI, h]
@[simp high] theorem rowsE_get {xs : List E} {i : Nat} (h : i < xs.length) : (rowsE xs)[i]? = some [AV.d (.raw (.int .i64 xs[i].ty)), AV.d (.raw (.int .i64 xs[i].fr)), AV.d (.raw (.int .i64 xs[i].to))] := by simp [rowsE, h]
@[simp] theorem rowsTo_I {p q : Nat → Prop} {fz : Option (Nat × Nat × List (List D))} (xs : List Int) : RowsTo p q fz (rowsI xs) (rowsI xs) := by rw [rowsI_eq]; simp
@[simp] theorem rowsTo_E {p q : Nat → Prop} {fz : Option (Nat × Nat × List (List D))} (xs : List E) : RowsTo p q fz (rowsE xs) (rowsE xs) := by rw [rowsE_eq]; simp
theorem toDs_map : ∀ (e : List D), toDs (e.map AV.d) = some e
 | [] => rfl
 | d :: e => by simp [toDs, AV.toD, toDs_map e]
theorem Weaks.frz {cx : Cx} {nt0 nt : Nat} {l l' : List (Nat × AV)} {out : Bxs} {loc loc' : List (Nat × List (List AV))} {tok : Nat → Bool} (s sz : Nat) (es : List (List D)) (hnt : nt0 ≤ nt) (ho : out = cx.B0)
  (hs : lk loc s = some (rowsD es)) (hs' : lk loc' s = none) (hsz : ∀ e ∈ es, e.length = sz)
  (hl : ToL (fun k => lb cx.base out loc' k ≠ none) (fun _ => True) (some (cx.base + s, sz, es)) l l') (hb : BoxL (fun k => lb cx.base out loc' k ≠ none) (fun _ => True) (some (cx.base + s, sz, es)) loc loc') :
  Weaks cx nt0 ⟨tl l, lb cx.base out loc, tok, nt⟩ ⟨tl l', lb cx.base out loc', tok, nt⟩ := by
 refine ⟨out, loc, loc', some (s, sz, es), rfl, rfl, Nat.le_refl _, hnt, fun t h => ⟨h, .inl rfl⟩, ?_, ?_, ?_, ?_⟩
 ·simp only [true_or, Option.map_some]; exact hl.all
 ·simp only [true_or, Option.map_some]; exact hb.all
 ·rintro s' sz' es' h
  cases h
  refine ⟨hs', rowsD es, hs, by simp, ?_, ?_⟩
  ·intro r hr
   obtain ⟨e, he, rfl⟩ := List.mem_map.1 hr
   simpa using hsz e he
  ·intro i h1 h2
   have : (rowsD es)[i] = (es[i]).map AV.d := by simp [rowsD]
   rw [this]
   exact toDs_map _
 ·intro k rows _ h
  exact .inl (by rw [← ho]; exact h)
@[simp] theorem to_frz {p q : Nat → Prop} {k n sz : Nat} {es : List (List D)} (h : n = es.length) : To p q (some (k, sz, es)) (.msl k 0 n sz) (.d (.sl sz es)) := by
 subst h
 exact .frz rfl
theorem Fin.gen {cx : Cx} {nt0 nt nt' : Nat} {rs : List ResultVar} {l : List (Nat × AV)} {out : Bxs} {loc : List (Nat × List (List AV))} {tok tok' : Nat → Bool} {vs : List AV} {av : AV}
  (hres : resAs P ⟨tl l, lb cx.base out loc, tok, nt⟩ rs = some vs) (hbox : lb cx.base out [] = out) (h0 : nt0 ≤ nt') (hnt : nt' ≤ nt) (htok : ∀ t, tok' t = true → tok t = true ∧ (nt' = nt ∨ t < nt'))
  (ho : ∀ k rows, k < cx.base → out k = some rows → cx.B0 k = some rows ∨ ∀ r ∈ rows, ∀ x ∈ r, OkIn (fun k => lb cx.base out [] k ≠ none) (fun t => nt' = nt ∨ t < nt') x)
  (hto : To (fun k => lb cx.base out [] k ≠ none) (fun t => nt' = nt ∨ t < nt') none (packA vs) av) : Fin P cx nt0 rs (fun v' m' => v' = av ∧ m' = ⟨out, cx.base, tok', nt'⟩) ⟨tl l, lb cx.base out loc, tok, nt⟩ :=
 ⟨vs, out, loc, none, av, ⟨out, cx.base, tok', nt'⟩, hres, ⟨rfl, rfl, hnt, h0, htok, fun _ => .bot, fun s rows' h => by simp [lk] at h, (fun _ _ _ h => by cases h),
  ho⟩, hbox.symm, rfl, by simpa using hto, rfl, rfl⟩
theorem Fin.own {cx : Cx} {nt0 nt : Nat} {rs : List ResultVar} {l : List (Nat × AV)} {out : Bxs} {loc : List (Nat × List (List AV))} {tok : Nat → Bool} {vs : List AV} {av : AV}
  (hres : resAs P ⟨tl l, lb cx.base out loc, tok, nt⟩ rs = some vs) (hbox : lb cx.base out [] = out) (ho : out = cx.B0) (hnt : nt0 ≤ nt)
  (hto : To (fun k => lb cx.base out [] k ≠ none) (fun _ => True) none (packA vs) av) : Fin P cx nt0 rs (fun v' m' => v' = av ∧ m' = ⟨out, cx.base, tok, nt⟩) ⟨tl l, lb cx.base out loc, tok, nt⟩ :=
 Fin.gen hres hbox hnt (Nat.le_refl _) (fun t h => ⟨h, .inl rfl⟩) (fun k rows _ h => .inl (by rw [← ho]; exact h)) (by simpa using hto)
theorem Ext.lb {box box' : Bxs} {nb : Nat} (h : Ext box box') (hb : lb nb box' [] = box') (loc : List (Nat × List (List AV))) : Ext box (AM.lb nb box' loc) := fun k r hk => by
 have h1 := h k r hk
 rw [lb_out (key_lt hb h1)]
 exact h1
theorem OkIn.mono {p p' q q' : Nat → Prop} (hp : ∀ k, p k → p' k) (hq : ∀ k, q k → q' k) {x : AV} (h : OkIn p q x) : OkIn p' q' x := by
 induction h with
 | bot => exact .bot
 | d => exact .d
 | osl h => exact .osl fun t e => hq _ (h t e)
 | cptr => exact .cptr
 | ptr h => exact .ptr (hp _ h)
 | here h => exact .here (hp _ h)
 | buf h => exact .buf (hq _ h)
 | msl h => exact .msl (hp _ h)
 | fn h ih => exact .fn ih
 | agg h ih => exact .agg ih
 | tup h ih => exact .tup ih
 | ex h => exact .ex (hq _ h)
 | stk h => exact .stk (hq _ h)
theorem okFn {box : Bxs} {nb : Nat} {caps : List AV} (h : ∀ c ∈ caps, OkIn (fun k => box k ≠ none) (fun _ => True) c) (hb : lb nb box [] = box) (loc : List (Nat × List (List AV))) {p q : Nat → Prop}
  (hp : p = fun k => lb nb box loc k ≠ none) (hq : q = fun _ => True) (f : Fn) : OkIn p q (.fn f caps) := by
 subst hp; subst hq
 refine .fn fun c hc => (h c hc).mono (fun k hk => ?_) fun _ h => h
 obtain ⟨r, hr⟩ := Option.ne_none_iff_exists'.1 hk
 rw [lb_out (key_lt hb hr), hr]
 simp
theorem Fin.mono {cx : Cx} {nt0 : Nat} {rs : List ResultVar} {Q Q' : AV → AMem → Prop} {S : AState} (h : Fin P cx nt0 rs Q S) (hq : ∀ v m, Q v m → Q' v m) : Fin P cx nt0 rs Q' S := by
 obtain ⟨vs, out, loc, fz, av, m', h1, h2, h3, h4, h5, h6⟩ := h
 exact ⟨vs, out, loc, fz, av, m', h1, h2, h3, h4, h5, hq _ _ h6⟩
def Conv (v : AV) (m : AMem) (v' : AV) (m' : AMem) : Prop := m'.nb = m.nb ∧ m'.box = m.box ∧ ∀ G w u, RelM G m w → RV G w v u → ∃ G', RelM G' m' w ∧ RV G' w v' u ∧ Le G w G' w ∧ ∀ k, G.bx k = none → G'.bx k = none
theorem Conv.refl (v : AV) (m : AMem) : Conv v m v m := ⟨rfl, rfl, fun G w u h1 h2 => ⟨G, h1, h2, Le.refl G w, fun _ h => h⟩⟩
theorem Conv.newtok (sz sz' : Nat) (box : Bxs) (nb : Nat) (tok : Tks) (nt : Nat) : Conv (.osl sz [] .full) ⟨box, nb, tok, nt⟩ (.osl sz' [] (.tok nt)) ⟨box, nb, upd tok nt true, nt + 1⟩ := by
 refine ⟨rfl, rfl, fun G w u hm hv => ⟨G.newtok none, hm.newtok none (fun g h => by cases h), ?_, Le.newtok none, fun k h => h⟩⟩
 have hnt : G.nt = nt := hm.nt
 cases hv with
 | osl h ho =>
  cases h with
  | sl u hcap hmax hsz hA hc hr =>
   refine .osl (.sl (fun _ _ => default) hcap hmax (by simp) (by simp) (fun a _ i j hi _ => by simp at hi) (fun i j hi _ => by simp at hi)) ⟨by simp [Gh.newtok, hnt], fun x hx => ?_⟩
   simp only [Gh.newtok, hnt, upd_same, Option.some.injEq] at hx
   subst hx
   exact ho.imp fun _ h => h.1
theorem ACalls.conv {f : FuncId} {args : List AV} {m : AMem} {Q Q' : AV → AMem → Prop} (h : ACalls P f args m Q) (hq : ∀ v m1, Q v m1 → ∃ v' m', Conv v m1 v' m' ∧ Q' v' m') : ACalls P f args m Q' :=
 ⟨h.1, fun G w vals hm hr => (h.2 G w vals hm hr).mono fun e w' ⟨v, av, m1, G1, h1, h2, h3, h4, h5, h6, h7⟩ => by
  obtain ⟨v', m', ⟨c1, c2, c3⟩, hq'⟩ := hq _ _ h2
  obtain ⟨G2, k1, k2, k3, k4⟩ := c3 G1 w' v h4 h5
  exact ⟨v, v', m', G2, h1, hq', c1.trans h3, k1, k2, h6.trans k3, fun k hk => ⟨k4 k (h7 k hk).1, by rw [c2]; exact (h7 k hk).2⟩⟩⟩
theorem TK.perm {mtok : Nat → Bool} {nt0 : Nat} {tok : Nat → Bool} {nt : Nat} {os os' : List Own} (h : TK mtok nt0 tok nt os) (hp : os.Perm os') : TK mtok nt0 tok nt os' :=
 ⟨h.old, h.lt, h.le, fun o ho => h.own o (hp.mem_iff.2 ho), (List.Perm.pairwise_iff (fun {a b} hab t e e' => hab t e' e) hp).1 h.ne⟩
theorem TK.pick3 {mtok : Nat → Bool} {nt0 : Nat} {tok : Nat → Bool} {nt : Nat} {a b c : Own} {os : List Own} (h : TK mtok nt0 tok nt (a :: b :: c :: os)) : TK mtok nt0 tok nt (c :: a :: b :: os) :=
 h.perm (((List.Perm.swap c b os).cons a).trans (List.Perm.swap c a (b :: os)))
theorem TK.put3 {mtok : Nat → Bool} {nt0 : Nat} {tok : Nat → Bool} {nt : Nat} {a b c : Own} {os : List Own} (h : TK mtok nt0 tok nt (c :: a :: b :: os)) : TK mtok nt0 tok nt (a :: b :: c :: os) :=
 h.perm (((List.Perm.swap c b os).cons a).trans (List.Perm.swap c a (b :: os))).symm
attribute [simp] intsOf convF
end Go.AM
namespace Go.AM
open Go
variable {P : Program}
def AV.asD1 : AV → AV
 | .osl sz es _ => .d (.sl sz es)
 | x => x
def AV.asD : AV → AV
 | .osl sz es _ => .d (.sl sz es)
 | .agg cs => .agg (cs.map AV.asD1)
 | x => x
theorem RV.asD1 {G : Gh} {w : World} {x : AV} {v : Value} (h : RV G w x v) : RV G w x.asD1 v := by
 cases h with
 | osl h1 h2 => exact .d h1
 | bot => exact .bot
 | d h1 => exact .d h1
 | ptr h1 => exact .ptr h1
 | here h1 h2 => exact .here h1 h2
 | buf h1 h2 h3 h4 => exact .buf h1 h2 h3 h4
 | cptr a u hc hr => exact .cptr a u hc hr
 | msl h1 h2 h3 => exact .msl h1 h2 h3
 | fn hl h => exact .fn hl h
 | agg hl h h1 => exact .agg hl h h1
 | tup hl h => exact .tup hl h
 | ex h => exact .ex h
 | stk h => exact .stk h
theorem RV.asD {G : Gh} {w : World} {x : AV} {v : Value} (h : RV G w x v) : RV G w x.asD v := by
 cases h with
 | osl h1 h2 => exact .d h1
 | bot => exact .bot
 | d h1 => exact .d h1
 | ptr h1 => exact .ptr h1
 | here h1 h2 => exact .here h1 h2
 | buf h1 h2 h3 h4 => exact .buf h1 h2 h3 h4
 | cptr a u hc hr => exact .cptr a u hc hr
 | msl h1 h2 h3 => exact .msl h1 h2 h3
 | fn hl h => exact .fn hl h
 | agg hl h h1 => exact .agg (by simp [hl]) (fun i g1 g2 => by simp only [List.getElem_map]; exact (h i (by simpa using g1) g2).asD1) h1
 | tup hl h => exact .tup hl h
 | ex h => exact .ex h
 | stk h => exact .stk h
theorem RVs.asD {G : Gh} {w : World} {xs : List AV} {vs : List Value} (h : RVs G w xs vs) : RVs G w (xs.map AV.asD) vs :=
 ⟨by simp [h.1], fun i g1 g2 => by simp only [List.getElem_map]; exact (h.2 i (by simpa using g1) g2).asD⟩
theorem ACalls.asD {f : FuncId} {args : List AV} {m : AMem} {Q : AV → AMem → Prop} (h : ACalls P f (args.map AV.asD) m Q) : ACalls P f args m Q :=
 ⟨h.1, fun G w vals hm hr => h.2 G w vals hm hr.asD⟩
theorem Stop.data {cx : Cx} {dr : Bool} {fid : FuncId} {args : List AV} {S : AState} {dst : Option Tmp} {K : AState → Prop} (h : Stop P cx dr fid (args.map AV.asD) S dst K) : Stop P cx dr fid args S dst K := by
 cases dr with
 | true =>
  obtain ⟨v, tok', nt', h1, h2⟩ := h
  exact ⟨v, tok', nt', fun box nb he => (h1 box nb he).asD, h2⟩
 | false => exact ACalls.asD h
def Sub (x y : AV) : Prop := ∀ G w v, RV G w x v → RV G w y v
theorem Sub.refl (x : AV) : Sub x x := fun _ _ _ h => h
theorem Sub.data (sz : Nat) (es : List (List D)) (o : Own) : Sub (.osl sz es o) (.d (.sl sz es)) := fun _ _ _ h => h.asD
abbrev nilV : Value := .slice none 0 0
theorem Sub.nilv : Sub (.osl 0 [] .full) (.d (.raw nilV)) := fun G w v h => by
 cases h with
 | osl h ho =>
  obtain ⟨A, rfl, hA⟩ := ho
  rw [hA rfl]
  exact .d (.raw rfl)
theorem Sub.nil (sz sz' : Nat) (o : Own) : Sub (.osl sz [] o) (.d (.sl sz' [])) := fun G w v h => by
 cases h with
 | osl h ho =>
  cases h with
  | sl u hcap hmax hsz hA hc hr => exact .d (.sl (es := []) (fun _ _ => default) hcap hmax (by simp) (by simp) (fun a _ i j hi _ => by simp at hi) (fun i j hi _ => by simp at hi))
def SubL : List AV → List AV → Prop
 | [], [] => True
 | x :: xs, y :: ys => Sub x y ∧ SubL xs ys
 | _, _ => False
theorem SubL.rvs {G : Gh} {w : World} : ∀ {xs ys : List AV} {vs : List Value}, SubL xs ys → RVs G w xs vs → RVs G w ys vs
 | [], [], vs, _, h => h
 | x :: xs, y :: ys, [], _, h => by have := h.1; simp at this
 | x :: xs, y :: ys, v :: vs, hs, h => RVs.cons (hs.1 _ _ _ (h.2 0 (by simp) (by simp))) (hs.2.rvs ⟨by simpa using h.1, fun i h1 h2 => h.2 (i + 1) (by simpa using h1) (by simpa using h2)⟩)
theorem ACalls.sub {f : FuncId} {args args' : List AV} {m : AMem} {Q : AV → AMem → Prop} (hs : SubL args args') (h : ACalls P f args' m Q) : ACalls P f args m Q :=
 ⟨h.1, fun G w vals hm hr => h.2 G w vals hm (hs.rvs hr)⟩
theorem Stop.sub {cx : Cx} {dr : Bool} {fid : FuncId} {args args' : List AV} {S : AState} {dst : Option Tmp} {K : AState → Prop} (hs : SubL args args') (h : Stop P cx dr fid args' S dst K) : Stop P cx dr fid args S dst K := by
 cases dr with
 | true =>
  obtain ⟨v, tok', nt', h1, h2⟩ := h
  exact ⟨v, tok', nt', fun box nb he => (h1 box nb he).sub hs, h2⟩
 | false => exact ACalls.sub hs h
theorem Stop.of_a {cx : Cx} {fid : FuncId} {args : List AV} {S : AState} {dst : Option Tmp} {K : AState → Prop} {Q : AV → AMem → Prop} (h : ACalls P fid args ⟨S.box, cx.nb, S.tok, S.nt⟩ Q)
  (hk : ∀ v m', Q v m' → K ⟨putT S.tmps dst v, m'.box, m'.tok, m'.nt⟩) : Stop P cx false fid args S dst K := h.mono hk
theorem rI_snoc (es : List Int) (v : Int) : rI es ++ [[D.raw (.int .i64 v)]] = rI (es ++ [v]) := by simp [rI]
end Go.AM
namespace Go.AM
open Go
variable {P : Program}
def Trans (cx : Cx) (nt0 : Nat) (S S' : AState) : Prop := ∀ G0 w0 G a w, Entry cx nt0 G0 → G0.nt ≤ nt0 → RelS cx.n cx.nb G S a w → LeC cx G0 w0 G w S → ∃ G', RelS cx.n cx.nb G' S' a w ∧ LeC cx G0 w0 G' w S'
theorem AT.trans {cx : Cx} {nt0 : Nat} {c : Code} {S S' : AState} {K : Exit → AState → Prop} (h : Trans cx nt0 S S') (k : AT P cx nt0 c S' K) : AT P cx nt0 c S K := by
 intro G0 w0 he hn G a w hr hl
 obtain ⟨G', hr', hl'⟩ := h G0 w0 G a w he hn hr hl
 exact k G0 w0 he hn G' a w hr' hl'
theorem AL.trans {cx : Cx} {nt0 : Nat} {K : Exit → AState → Prop} {r : List CI} {S S' : AState} {x : Code} (hw : Trans cx nt0 S S') (h : AL P cx nt0 K (.c x :: r) S') : AL P cx nt0 K (.c x :: r) S := by
 simp only [AL] at h ⊢
 exact AT.trans hw h
inductive ThTo (t k sz : Nat) (es : List (List D)) : AV → AV → Prop
 | bot {x} : ThTo t k sz es x .bot
 | same {x} : ThTo t k sz es x x
 | ex : ThTo t k sz es (.ex t sz es) (.msl k 0 es.length sz)
 | agg {cs ds : List AV} (hl : cs.length = ds.length) (h : ∀ i (h1 : i < cs.length) (h2 : i < ds.length), ThTo t k sz es cs[i] ds[i]) : ThTo t k sz es (.agg cs) (.agg ds)
def ThR (t k sz : Nat) (es : List (List D)) (r r' : List AV) : Prop := r.length = r'.length ∧ ∀ i (h1 : i < r.length) (h2 : i < r'.length), ThTo t k sz es r[i] r'[i]
def ThRs (t k sz : Nat) (es : List (List D)) (r r' : List (List AV)) : Prop := r.length = r'.length ∧ ∀ i (h1 : i < r.length) (h2 : i < r'.length), ThR t k sz es r[i] r'[i]
def ThL (t k sz : Nat) (es : List (List D)) : List (Nat × AV) → List (Nat × AV) → Prop
 | [], [] => True
 | (i, x) :: a, (j, y) :: b => i = j ∧ ThTo t k sz es x y ∧ ThL t k sz es a b
 | _, _ => False
def ThB (t k sz : Nat) (es : List (List D)) : List (Nat × List (List AV)) → List (Nat × List (List AV)) → Prop
 | [], [] => True
 | (i, x) :: a, (j, y) :: b => i = j ∧ ThRs t k sz es x y ∧ ThB t k sz es a b
 | _, _ => False
theorem ThL.at {t k sz : Nat} {es : List (List D)} : ∀ {l l' : List (Nat × AV)}, ThL t k sz es l l' → ∀ i, ThTo t k sz es (tl l i) (tl l' i)
 | [], [], _, i => .same
 | (i, x) :: a, (j, y) :: b, h, q => by
  obtain ⟨rfl, h1, h2⟩ := h
  rw [tl_cons, tl_cons]
  split
  ·exact h1
  ·exact ThL.at h2 q
 | [], _ :: _, h, _ => h.elim
 | _ :: _, [], h, _ => h.elim
theorem ThB.at {t k sz : Nat} {es : List (List D)} : ∀ {l l' : List (Nat × List (List AV))}, ThB t k sz es l l' → ∀ i, (lk l i = none ∧ lk l' i = none) ∨ ∃ r r', lk l i = some r ∧ lk l' i = some r' ∧ ThRs t k sz es r r'
 | [], [], _, i => .inl ⟨rfl, rfl⟩
 | (i, x) :: a, (j, y) :: b, h, q => by
  obtain ⟨rfl, h1, h2⟩ := h
  rw [lk_cons, lk_cons]
  split
  ·exact .inr ⟨x, y, rfl, rfl, h1⟩
  ·exact ThB.at h2 q
 | [], _ :: _, h, _ => h.elim
 | _ :: _, [], h, _ => h.elim
theorem ThRs.flat {t k sz : Nat} {es : List (List D)} : ∀ {r r' : List (List AV)}, ThRs t k sz es r r' → ThR t k sz es r.flatten r'.flatten
 | [], [], _ => ⟨rfl, fun i h => by simp at h⟩
 | x :: a, y :: b, h => by
  have h0 := h.2 0 (by simp) (by simp)
  have ih : ThR t k sz es a.flatten b.flatten := ThRs.flat ⟨by simpa using h.1, fun i h1 h2 => h.2 (i + 1) (by simpa using h1) (by simpa using h2)⟩
  simp only [List.getElem_cons_zero] at h0
  refine ⟨by simp [h0.1, ih.1], fun i h1 h2 => ?_⟩
  have hl := h0.1
  have hi2 := ih.1
  simp only [List.flatten_cons] at h1 h2 ⊢
  rw [List.length_append] at h1 h2
  by_cases hi : i < x.length
  ·have e1 : (x ++ a.flatten)[i]'(by rw [List.length_append]; omega) = x[i] := List.getElem_append_left hi
   have e2 : (y ++ b.flatten)[i]'(by rw [List.length_append]; omega) = y[i]'(by omega) := List.getElem_append_left (by omega)
   rw [e1, e2]
   exact h0.2 i hi _
  ·have e1 : (x ++ a.flatten)[i]'(by rw [List.length_append]; omega) = a.flatten[i - x.length]'(by omega) := List.getElem_append_right (by omega)
   have e2 : (y ++ b.flatten)[i]'(by rw [List.length_append]; omega) = b.flatten[i - y.length]'(by omega) := List.getElem_append_right (by omega)
   rw [e1, e2]
   have := ih.2 (i - x.length) (by omega) (by omega)
   simp only [hl] at this ⊢
   exact this
 | [], _ :: _, h => by have := h.1; simp at this
 | _ :: _, [], h => by have := h.1; simp at this
theorem rowsD_flat (es : List (List D)) : (rowsD es).flatten = es.flatten.map AV.d := by
 induction es with
 | nil => rfl
 | cons e es ih => simp only [rowsD, List.map_cons, List.flatten_cons, List.map_append] at ih ⊢; rw [ih]
inductive SeTo (t k sz : Nat) (es : List (List D)) : AV → AV → Prop
 | bot {x} : SeTo t k sz es x .bot
 | same {x} (h : OkIn (· ≠ k) (fun _ => True) x) : SeTo t k sz es x x
 | msl : SeTo t k sz es (.msl k 0 es.length sz) (.ex t sz es)
 | agg {cs ds : List AV} (hl : cs.length = ds.length) (h : ∀ i (h1 : i < cs.length) (h2 : i < ds.length), SeTo t k sz es cs[i] ds[i]) : SeTo t k sz es (.agg cs) (.agg ds)
def SeR (t k sz : Nat) (es : List (List D)) (r r' : List AV) : Prop := r.length = r'.length ∧ ∀ i (h1 : i < r.length) (h2 : i < r'.length), SeTo t k sz es r[i] r'[i]
def SeRs (t k sz : Nat) (es : List (List D)) (r r' : List (List AV)) : Prop := r.length = r'.length ∧ ∀ i (h1 : i < r.length) (h2 : i < r'.length), SeR t k sz es r[i] r'[i]
def SeL (t k sz : Nat) (es : List (List D)) : List (Nat × AV) → List (Nat × AV) → Prop
 | [], [] => True
 | (i, x) :: a, (j, y) :: b => i = j ∧ SeTo t k sz es x y ∧ SeL t k sz es a b
 | _, _ => False
def SeB (t k sz : Nat) (es : List (List D)) : List (Nat × List (List AV)) → List (Nat × List (List AV)) → Prop
 | [], [] => True
 | (i, x) :: a, (j, y) :: b => i = j ∧ SeRs t k sz es x y ∧ SeB t k sz es a b
 | _, _ => False
theorem SeL.at {t k sz : Nat} {es : List (List D)} : ∀ {l l' : List (Nat × AV)}, SeL t k sz es l l' → ∀ i, SeTo t k sz es (tl l i) (tl l' i)
 | [], [], _, i => .bot
 | (i, x) :: a, (j, y) :: b, h, q => by
  obtain ⟨rfl, h1, h2⟩ := h
  rw [tl_cons, tl_cons]
  split
  ·exact h1
  ·exact SeL.at h2 q
 | [], _ :: _, h, _ => h.elim
 | _ :: _, [], h, _ => h.elim
theorem SeB.at {t k sz : Nat} {es : List (List D)} : ∀ {l l' : List (Nat × List (List AV))}, SeB t k sz es l l' → ∀ i, (lk l i = none ∧ lk l' i = none) ∨ ∃ r r', lk l i = some r ∧ lk l' i = some r' ∧ SeRs t k sz es r r'
 | [], [], _, i => .inl ⟨rfl, rfl⟩
 | (i, x) :: a, (j, y) :: b, h, q => by
  obtain ⟨rfl, h1, h2⟩ := h
  rw [lk_cons, lk_cons]
  split
  ·exact .inr ⟨x, y, rfl, rfl, h1⟩
  ·exact SeB.at h2 q
 | [], _ :: _, h, _ => h.elim
 | _ :: _, [], h, _ => h.elim
theorem SeRs.flat {t k sz : Nat} {es : List (List D)} : ∀ {r r' : List (List AV)}, SeRs t k sz es r r' → SeR t k sz es r.flatten r'.flatten
 | [], [], _ => ⟨rfl, fun i h => by simp at h⟩
 | x :: a, y :: b, h => by
  have h0 := h.2 0 (by simp) (by simp)
  have ih : SeR t k sz es a.flatten b.flatten := SeRs.flat ⟨by simpa using h.1, fun i h1 h2 => h.2 (i + 1) (by simpa using h1) (by simpa using h2)⟩
  simp only [List.getElem_cons_zero] at h0
  refine ⟨by simp [h0.1, ih.1], fun i h1 h2 => ?_⟩
  have hl := h0.1
  have hi2 := ih.1
  simp only [List.flatten_cons] at h1 h2 ⊢
  rw [List.length_append] at h1 h2
  by_cases hi : i < x.length
  ·have e1 : (x ++ a.flatten)[i]'(by rw [List.length_append]; omega) = x[i] := List.getElem_append_left hi
   have e2 : (y ++ b.flatten)[i]'(by rw [List.length_append]; omega) = y[i]'(by omega) := List.getElem_append_left (by omega)
   rw [e1, e2]
   exact h0.2 i hi _
  ·have e1 : (x ++ a.flatten)[i]'(by rw [List.length_append]; omega) = a.flatten[i - x.length]'(by omega) := List.getElem_append_right (by omega)
   have e2 : (y ++ b.flatten)[i]'(by rw [List.length_append]; omega) = b.flatten[i - y.length]'(by omega) := List.getElem_append_right (by omega)
   rw [e1, e2]
   have := ih.2 (i - x.length) (by omega) (by omega)
   simp only [hl] at this ⊢
   exact this
 | [], _ :: _, h => by have := h.1; simp at this
 | _ :: _, [], h => by have := h.1; simp at this
section
variable {t k sz : Nat} {es : List (List D)}
@[simp] theorem thTo_bot (x : AV) : ThTo t k sz es x .bot := .bot
@[simp] theorem thTo_same (x : AV) : ThTo t k sz es x x := .same
@[simp] theorem thTo_ex {n : Nat} : ThTo t k sz es (.ex t sz es) (.msl k 0 n sz) ↔ n = es.length := ⟨fun h => by cases h; rfl, fun h => by subst h; exact .ex⟩
@[simp] theorem seTo_bot (x : AV) : SeTo t k sz es x .bot := .bot
@[simp] theorem seTo_d (x : D) : SeTo t k sz es (.d x) (.d x) := .same .d
@[simp] theorem seTo_osl (n : Nat) (xs : List (List D)) (o : Own) : SeTo t k sz es (.osl n xs o) (.osl n xs o) := .same (.osl fun _ _ => trivial)
@[simp] theorem seTo_msl : SeTo t k sz es (.msl k 0 es.length sz) (.ex t sz es) := .msl
end
@[simp] theorem to_ex {p : Nat → Prop} {fz : Option (Nat × Nat × List (List D))} (t sz : Nat) (es : List (List D)) : To p (fun _ => True) fz (.ex t sz es) (.ex t sz es) := .same (.ex trivial)
@[simp] theorem okIn_ex {p q : Nat → Prop} {t sz : Nat} {es : List (List D)} : OkIn p q (.ex t sz es) ↔ q t := ⟨fun h => by cases h; assumption, .ex⟩
theorem TK.more {mtok : Nat → Bool} {nt0 : Nat} {tok : Nat → Bool} {nt : Nat} {os : List Own} (h : TK mtok nt0 tok nt os) (q : Nat) : TK mtok nt0 (upd tok (nt + q) true) (nt + q + 1) (.tok (nt + q) :: os) := by
 have hle := h.le
 refine ⟨fun t ht => ?_, h.lt, by omega, fun o ho t e => ?_, List.pairwise_cons.2 ⟨fun o ho t e e' => ?_, h.ne⟩⟩
 ·have := h.lt t ht
  rw [upd_other _ _ (by omega)]
  exact h.old t ht
 ·rcases List.mem_cons.1 ho with rfl | ho
  ·cases e
   exact ⟨upd_same _ _ _, by omega, by omega⟩
  ·obtain ⟨h1, h2, h3⟩ := h.own o ho t e
   exact ⟨by rw [upd_other _ _ (by omega)]; exact h1, h2, by omega⟩
 ·cases e
  have := (h.own o ho _ e').2.2
  omega
theorem TK.spend {mtok : Nat → Bool} {nt0 : Nat} {tok : Nat → Bool} {nt t : Nat} {os : List Own} (h : TK mtok nt0 tok nt (.tok t :: os)) : TK mtok nt0 (upd tok t false) nt os := by
 have hp := List.pairwise_cons.1 h.ne
 obtain ⟨_, t1, t2⟩ := h.own _ (by simp) t rfl
 refine ⟨fun q hq => ?_, h.lt, h.le, fun o ho q e => ?_, hp.2⟩
 ·have := h.lt q hq
  rw [upd_other _ _ (by omega)]
  exact h.old q hq
 ·obtain ⟨h1, h2, h3⟩ := h.own o (by simp [ho]) q e
  refine ⟨?_, h2, h3⟩
  rw [upd_other _ _ (fun e2 => by subst e2; exact hp.1 o ho q rfl e)]
  exact h1
end Go.AM
namespace Go.AM
open Go
variable {P : Program}
inductive Bo (box : Bxs) : AV → AV → Prop
 | same {x} (h : OkIn (fun _ => False) (fun _ => True) x) : Bo box x x
 | msl {k sz : Nat} {es : List (List D)} (hk : box k = some (rowsD es)) : Bo box (.msl k 0 es.length sz) (.d (.sl sz es))
def BoL (box : Bxs) : List AV → List AV → Prop
 | [], [] => True
 | x :: a, y :: b => Bo box x y ∧ BoL box a b
 | _, _ => False
theorem Bo.ext {box box' : Bxs} (he : Ext box box') {x y : AV} (h : Bo box x y) : Bo box' x y := by
 cases h with
 | same h => exact .same h
 | msl h => exact .msl (he _ _ h)
theorem BoL.ext {box box' : Bxs} (he : Ext box box') : ∀ {a b : List AV}, BoL box a b → BoL box' a b
 | [], [], _ => trivial
 | x :: a, y :: b, h => ⟨h.1.ext he, BoL.ext he h.2⟩
 | [], _ :: _, h => h.elim
 | _ :: _, [], h => h.elim
def Gh.lend (G : Gh) (p : Nat → Prop) [DecidablePred p] : Gh := { bx := fun _ => none, kind := fun b => if p b then .whole else G.kind b, tk := G.tk, nt := G.nt }
theorem lend_ps {G : Gh} {p : Nat → Prop} [DecidablePred p] {a : Addr} (h : G.ps a) : (G.lend p).ps a := by
 unfold Gh.ps at h ⊢
 simp only [Gh.lend]
 by_cases e : p a.block
 ·simp [e]
 ·simp only [e, ↓reduceIte]; exact h
theorem RV.lend {G : Gh} {w : World} {p : Nat → Prop} [DecidablePred p] (hp : ∀ b, p b → G.kind b = .box) {x : AV} {v : Value} (h : RV G w x v) (ho : OkIn (fun _ => False) (fun _ => True) x) : RV (G.lend p) w x v := by
 have hc : ∀ (a : Addr) (u : Value), G.ps a → w.cell? a = some u → (G.lend p).ps a ∧ w.cell? a = some u := fun a u h1 h2 => ⟨lend_ps h1, h2⟩
 have hk : ∀ g, G.kind g ≠ .box → (G.lend p).kind g = G.kind g := fun g hg => by
  simp only [Gh.lend]
  rw [if_neg fun e => hg (hp g e)]
 induction h with
 | bot => exact .bot
 | d h1 => exact .d (h1.mono hc)
 | osl h1 h2 =>
  refine .osl (h1.mono hc) ?_
  rename_i o _
  cases o with
  | full => exact h2
  | tok t =>
   refine ⟨h2.1, fun y hy => ?_⟩
   have := h2.2 y hy
   cases y with
   | none => exact this
   | some g =>
    obtain ⟨cap, hv, hg⟩ := this
    exact ⟨cap, hv, (hk g (by rw [hg]; intro e; cases e)).trans hg⟩
 | ptr h1 => cases ho with | ptr h => exact h.elim
 | here h1 h2 => cases ho with | here h => exact h.elim
 | buf h1 h2 h3 h4 =>
  refine .buf (h1.mono hc) ⟨h2.1, fun y hy => ?_⟩ h3 h4
  have := h2.2 y hy
  cases y with
  | none => exact this
  | some g =>
   obtain ⟨cap, hv, hg⟩ := this
   exact ⟨cap, hv, (hk g (by rw [hg]; intro e; cases e)).trans hg⟩
 | cptr a u h1 h2 => exact .cptr a u (fun j hj => hc _ _ (h1 j hj).1 (h1 j hj).2) fun j hj => (h2 j hj).mono hc
 | msl h1 => cases ho with | msl h => exact h.elim
 | fn hl _ ih => cases ho with | fn h => exact .fn hl fun i h1 h2 => ih i h1 h2 (h _ (List.getElem_mem h1))
 | agg hl _ hone ih => cases ho with | agg h => exact .agg hl (fun i h1 h2 => ih i h1 h2 (h _ (List.getElem_mem h1))) hone
 | tup hl _ ih => cases ho with | tup h => exact .tup hl fun i h1 h2 => ih i h1 h2 (h _ (List.getElem_mem h1))
 | ex h1 =>
  obtain ⟨r1, r0, r2⟩ := h1
  refine .ex ⟨r1, r0, fun y hy => ?_⟩
  obtain ⟨g, cap, cs, e, rfl, h2, h3, h4, h5, h6, h7, h8, h9, h10⟩ := r2 y hy
  exact ⟨g, cap, cs, e, rfl, h2, h3, h4, (hk g (by rw [h5]; intro e; cases e)).trans h5, h6, h7, h8, fun i g1 g2 => (h9 i g1 g2).mono hc, h10⟩
 | stk h1 =>
  obtain ⟨r1, A, cap, hv, hc1, hm, r2⟩ := h1
  refine .stk ⟨r1, A, cap, hv, hc1, hm, fun y hy => ?_⟩
  have h0 := r2 y hy
  cases y with
  | none => exact h0
  | some g =>
   obtain ⟨hA, vs, sp, e, h5, h6, h7, h8, h9⟩ := h0
   exact ⟨hA, vs, sp, e, (hk g (by rw [h5]; intro e; cases e)).trans h5, h6, h7, h8.mono hc, h9⟩
theorem Bo.lend {G : Gh} {m : AMem} {w : World} {p : Nat → Prop} [DecidablePred p] (hm : RelM G m w) (hp : ∀ b, p b ↔ ∃ k sz, G.bx k = some (b, sz)) {x y : AV} {v : Value} (hb : Bo m.box x y) (h : RV G w x v) : RV (G.lend p) w y v := by
 have hpb : ∀ b, p b → G.kind b = .box := fun b hb => by
  obtain ⟨k, sz, h⟩ := (hp b).1 hb
  exact (hm.blt h).2
 cases hb with
 | same ho => exact h.lend hpb ho
 | @msl k sz es hk =>
  letI : DecidablePred (fun _ : Nat => False) := fun _ => Classical.propDecidable _
  generalize hx : (AV.msl k 0 es.length sz) = x at h
  have h' := h
  cases h with
  | @msl k' off n b sz' cap h1 h2 h3 =>
   cases hx
   have hw : RV (G.weak (fun _ => False) (some b) G.nt) w (.d (.sl sz es)) (.slice (some ⟨b, 0 * sz, none⟩) es.length cap) := by
    refine RV.to (q := fun _ => True) (fz := some (k, sz, es)) hm (fun j hj => by cases hj; exact (hm.blt h1).2) ?_ ?_ h' (.frz rfl) (fun t _ ht => ht)
    ·intro k2 sz2 es2 e
     cases e
     obtain ⟨_, cs, e', _, hs, _⟩ := hm.box k (rowsD es) b sz hk h1
     refine ⟨rowsD es, hk, by simp, hs, fun i g1 g2 => ?_⟩
     have : (rowsD es)[i] = (es[i]).map AV.d := by simp [rowsD]
     rw [this]
     exact toDs_map _
    ·intro k2 sz2 es2 e j s hj
     cases e
     rw [h1] at hj
     cases hj
     rfl
   cases hw with
   | d hd =>
    refine .d (hd.mono fun a u h4 h5 => ⟨?_, h5⟩)
    unfold Gh.ps at h4 ⊢
    simp only [Gh.weak, Gh.lend] at h4 ⊢
    by_cases e : p a.block
    ·simp [e]
    ·simp only [e, ↓reduceIte]
     have hne : ¬ (some b = some a.block) := fun e2 => e ((hp _).2 ⟨k, sz, by cases e2; exact h1⟩)
     simp only [hne, ↓reduceIte] at h4
     exact h4
  | _ => cases hx
theorem BoL.lend {G : Gh} {m : AMem} {w : World} {p : Nat → Prop} [DecidablePred p] (hm : RelM G m w) (hp : ∀ b, p b ↔ ∃ k sz, G.bx k = some (b, sz)) : ∀ {xs ys : List AV} {vs : List Value}, BoL m.box xs ys → RVs G w xs vs → RVs (G.lend p) w ys vs
 | [], [], vs, _, h => ⟨by have := h.1; simpa using this, fun i h => by simp at h⟩
 | x :: a, y :: b, vs, hb, h => by
  obtain ⟨v, us, rfl, h1, h2⟩ := h.uncons
  exact RVs.cons (hb.1.lend hm hp h1) (BoL.lend hm hp hb.2 h2)
 | [], _ :: _, _, h, _ => h.elim
 | _ :: _, [], _, h, _ => h.elim
theorem RCall.lent {f : FuncId} {args args' : List AV} {box : Bxs} {tok : Nat → Bool} {nt : Nat} {u : Value} {tok' : Nat → Bool} {nt' : Nat} (hu : u.oneCell' = true)
  (h : DCall P f args' tok nt (.d (.raw u)) tok' nt') (hb : BoL box args args') : RCall P f args box tok nt (.d (.raw u)) tok' nt' := by
 classical
 intro box' nb hext
 have hb' := hb.ext hext
 obtain ⟨hen, hc⟩ := h (fun _ => none) nb
 refine ⟨hen, fun G w vals hm hr => ?_⟩
 let p : Nat → Prop := fun b => ∃ k sz, G.bx k = some (b, sz)
 have hp : ∀ b, p b ↔ ∃ k sz, G.bx k = some (b, sz) := fun b => Iff.rfl
 have hpb : ∀ b, p b → b < w.heap.size ∧ G.kind b = .box := fun b ⟨k, sz, hk⟩ => hm.blt hk
 have htk : ∀ t g, G.tk t = some (some g) → ¬ p g := fun t g ht hpg => by
  obtain ⟨f', cur, e, h1, _⟩ := hm.tokb t g ht
  rw [(hpb g hpg).2] at h1
  rcases h1 with h1 | h1 <;> cases h1
 have hm1 : RelM (G.lend p) ⟨fun _ => none, nb, tok, nt⟩ w := by
  constructor
  case box => intro k rows b sz h1; cases h1
  case nobox => intro k _; rfl
  case inj => intro k k' b sz sz' h1; cases h1
  case nb => intro k _; rfl
  case nt => exact hm.nt
  case toks => exact hm.toks
  case tokb =>
   intro t g ht
   obtain ⟨f', cur, e, h1, h2⟩ := hm.tokb t g ht
   refine ⟨f', cur, e, ?_, h2⟩
   simp only [Gh.lend]
   rw [if_neg (htk t g ht)]
   exact h1
  case tinj => exact hm.tinj
  case tnt => exact hm.tnt
  case fresh =>
   intro b hb1
   simp only [Gh.lend]
   split
   ·rfl
   ·exact hm.fresh b hb1
 refine Calls.mono (hc (G.lend p) w vals hm1 (hb'.lend hm hp hr)) ?_
 rintro e w' ⟨v, av, m', G1, rfl, ⟨rfl, rfl⟩, h3, h4, h5, h6, h7⟩
 have hv : v = u := by cases h5 with | d h => cases h; rfl
 subst hv
 have hkeep : ∀ b, p b → G1.kind b = .whole ∧ w'.heap[b]? = w.heap[b]? := fun b hb1 => h6.whole b (hpb b hb1).1 (by simp [Gh.lend, hb1])
 let G2 : Gh := { bx := G.bx, kind := fun b => if p b then .box else G1.kind b, tk := G1.tk, nt := G1.nt }
 have hle : Le G w G2 w' := by
  refine ⟨h6.os, h6.tape, h6.output, h6.size, fun b hb1 hk => ?_, fun b f' c hk => ?_, fun _ _ h => h, h6.nt, fun t ht => ?_, ?_⟩
  ·have hn : ¬ p b := fun e => by rw [(hpb b e).2] at hk; cases hk
   obtain ⟨a1, a2⟩ := h6.whole b hb1 (by simp only [Gh.lend]; rw [if_neg hn]; exact hk)
   exact ⟨by simp only [G2]; rw [if_neg hn]; exact a1, a2⟩
  ·have hn : ¬ p b := fun e => by rw [(hpb b e).2] at hk; cases hk
   obtain ⟨⟨f2, a1, a2⟩, a3⟩ := h6.part b f' c (by simp only [Gh.lend]; rw [if_neg hn]; exact hk)
   exact ⟨⟨f2, a1, by simp only [G2]; rw [if_neg hn]; exact a2⟩, a3⟩
  ·rcases h6.tk t ht with a1 | ⟨a1, a2⟩
   ·exact .inl a1
   ·refine .inr ⟨a1, fun g hg => ?_⟩
    have hn := htk t g hg
    obtain ⟨b1, b2⟩ := a2 g hg
    simp only [Gh.lend] at b1 b2
    rw [if_neg hn] at b1 b2
    exact ⟨by simp only [G2]; rw [if_neg hn]; exact b1, b2⟩
  ·exact h6.ty
 refine ⟨v, _, _, G2, rfl, ⟨rfl, rfl⟩, rfl, ?_, .d (.raw hu), hle, fun k hk => ⟨hk, rfl⟩⟩
 constructor
 case box =>
  intro k rows b sz hk hb1
  obtain ⟨g1, cs, e, g2, g3, g4, g5⟩ := hm.box k rows b sz hk hb1
  have hpk : p b := ⟨k, sz, hb1⟩
  exact ⟨by simp [G2, hpk], cs, e, (hkeep b hpk).2.trans g2, g3, g4.mono hle, g5⟩
 case nobox => exact hm.nobox
 case inj => exact hm.inj
 case nb => exact hm.nb
 case nt => exact h4.nt
 case toks => exact h4.toks
 case tokb =>
  intro t g ht
  obtain ⟨f', cur, e, g1, g2⟩ := h4.tokb t g ht
  refine ⟨f', cur, e, ?_, g2⟩
  have hn : ¬ p g := fun hpg => by
   rw [(hkeep g hpg).1] at g1
   rcases g1 with g1 | g1 <;> cases g1
  simp only [G2]
  rw [if_neg hn]
  exact g1
 case tinj => exact h4.tinj
 case tnt => exact h4.tnt
 case fresh =>
  intro b hb1
  have := h6.size
  have hn : ¬ p b := fun hpb1 => by have := (hpb b hpb1).1; omega
  simp only [G2]
  rw [if_neg hn]
  exact h4.fresh b hb1
end Go.AM
namespace Go.AM
open Go
variable {P : Program}
section
variable (R : AV → AV → Prop)
def CvR (r r' : List AV) : Prop := r.length = r'.length ∧ ∀ i (h1 : i < r.length) (h2 : i < r'.length), R r[i] r'[i]
def CvRs (r r' : List (List AV)) : Prop := r.length = r'.length ∧ ∀ i (h1 : i < r.length) (h2 : i < r'.length), CvR R r[i] r'[i]
def CvL : List (Nat × AV) → List (Nat × AV) → Prop
 | [], [] => True
 | (i, x) :: a, (j, y) :: b => i = j ∧ R x y ∧ CvL a b
 | _, _ => False
def CvB : List (Nat × List (List AV)) → List (Nat × List (List AV)) → Prop
 | [], [] => True
 | (i, x) :: a, (j, y) :: b => i = j ∧ CvRs R x y ∧ CvB a b
 | _, _ => False
end
section
variable {R : AV → AV → Prop}
theorem CvL.at (h0 : R .bot .bot) : ∀ {l l' : List (Nat × AV)}, CvL R l l' → ∀ i, R (tl l i) (tl l' i)
 | [], [], _, i => h0
 | (i, x) :: a, (j, y) :: b, h, q => by
  obtain ⟨rfl, h1, h2⟩ := h
  rw [tl_cons, tl_cons]
  split
  ·exact h1
  ·exact CvL.at h0 h2 q
 | [], _ :: _, h, _ => h.elim
 | _ :: _, [], h, _ => h.elim
theorem CvB.at : ∀ {l l' : List (Nat × List (List AV))}, CvB R l l' → ∀ i, (lk l i = none ∧ lk l' i = none) ∨ ∃ r r', lk l i = some r ∧ lk l' i = some r' ∧ CvRs R r r'
 | [], [], _, i => .inl ⟨rfl, rfl⟩
 | (i, x) :: a, (j, y) :: b, h, q => by
  obtain ⟨rfl, h1, h2⟩ := h
  rw [lk_cons, lk_cons]
  split
  ·exact .inr ⟨x, y, rfl, rfl, h1⟩
  ·exact CvB.at h2 q
 | [], _ :: _, h, _ => h.elim
 | _ :: _, [], h, _ => h.elim
theorem CvRs.flat : ∀ {r r' : List (List AV)}, CvRs R r r' → CvR R r.flatten r'.flatten
 | [], [], _ => ⟨rfl, fun i h => by simp at h⟩
 | x :: a, y :: b, h => by
  have h0 := h.2 0 (by simp) (by simp)
  have ih : CvR R a.flatten b.flatten := CvRs.flat ⟨by simpa using h.1, fun i h1 h2 => h.2 (i + 1) (by simpa using h1) (by simpa using h2)⟩
  simp only [List.getElem_cons_zero] at h0
  refine ⟨by simp [h0.1, ih.1], fun i h1 h2 => ?_⟩
  have hl := h0.1
  have hi2 := ih.1
  simp only [List.flatten_cons] at h1 h2 ⊢
  rw [List.length_append] at h1 h2
  by_cases hi : i < x.length
  ·have e1 : (x ++ a.flatten)[i]'(by rw [List.length_append]; omega) = x[i] := List.getElem_append_left hi
   have e2 : (y ++ b.flatten)[i]'(by rw [List.length_append]; omega) = y[i]'(by omega) := List.getElem_append_left (by omega)
   rw [e1, e2]
   exact h0.2 i hi _
  ·have e1 : (x ++ a.flatten)[i]'(by rw [List.length_append]; omega) = a.flatten[i - x.length]'(by omega) := List.getElem_append_right (by omega)
   have e2 : (y ++ b.flatten)[i]'(by rw [List.length_append]; omega) = b.flatten[i - y.length]'(by omega) := List.getElem_append_right (by omega)
   rw [e1, e2]
   have := ih.2 (i - x.length) (by omega) (by omega)
   simp only [hl] at this ⊢
   exact this
 | [], _ :: _, h => by have := h.1; simp at this
 | _ :: _, [], h => by have := h.1; simp at this
theorem CvR.vs {G : Gh} {w : World} (hto : ∀ x y v, R x y → RV G w x v → RV G w y v) {xs ys : List AV} {vs : List Value} (h : CvR R xs ys) (hr : RVs G w xs vs) : RVs G w ys vs :=
 ⟨h.1.symm.trans hr.1, fun i h1 h2 => hto _ _ _ (h.2 i (by rw [h.1]; exact h1) h1) (hr.2 i _ h2)⟩
theorem RelM.rows {G : Gh} {w : World} {base nb nt : Nat} {out : Bxs} {loc loc' : List (Nat × List (List AV))} {tok : Nat → Bool} (hto : ∀ x y v, R x y → RV G w x v → RV G w y v) (hb : CvB R loc loc')
  (hm : RelM G ⟨lb base out loc, nb, tok, nt⟩ w) : RelM G ⟨lb base out loc', nb, tok, nt⟩ w := by
 constructor
 case box =>
  intro k rows b z hk hbx
  simp only at hk
  by_cases hkb : k < base
  ·rw [lb_out hkb] at hk
   exact hm.box k rows b z (by simp only; rw [lb_out hkb]; exact hk) hbx
  ·have hkk : k = base + (k - base) := by omega
   rw [hkk, lb_at] at hk
   rcases hb.at (k - base) with ⟨_, h2⟩ | ⟨r0, r', h1, h2, h3⟩
   ·rw [h2] at hk; cases hk
   ·rw [h2] at hk
    cases hk
    obtain ⟨g1, cs, e, g2, g3, g4, g5⟩ := hm.box k r0 b z (by simp only; rw [hkk, lb_at]; exact h1) hbx
    refine ⟨g1, cs, e, g2, fun q hq => ?_, h3.flat.vs hto g4, g5⟩
    obtain ⟨i, hi, rfl⟩ := List.getElem_of_mem hq
    have hi0 : i < r0.length := by rw [h3.1]; exact hi
    rw [← (h3.2 i hi0 hi).1]
    exact g3 _ (List.getElem_mem _)
 case nobox =>
  intro k hk
  refine hm.nobox k ?_
  simp only at hk ⊢
  by_cases hkb : k < base
  ·rw [lb_out hkb] at hk ⊢; exact hk
  ·have hkk : k = base + (k - base) := by omega
   rw [hkk, lb_at] at hk ⊢
   rcases hb.at (k - base) with ⟨h1, _⟩ | ⟨r0, r', _, h2, _⟩
   ·exact h1
   ·rw [h2] at hk; cases hk
 case inj => exact hm.inj
 case nb =>
  intro k hk
  have h0 := hm.nb k hk
  simp only at h0 ⊢
  by_cases hkb : k < base
  ·rw [lb_out hkb] at h0 ⊢; exact h0
  ·have hkk : k = base + (k - base) := by omega
   rw [hkk, lb_at] at h0 ⊢
   rcases hb.at (k - base) with ⟨_, h2⟩ | ⟨r0, r', h1, _, _⟩
   ·exact h2
   ·rw [h1] at h0; cases h0
 case nt => exact hm.nt
 case toks => exact hm.toks
 case tokb => exact hm.tokb
 case tinj => exact hm.tinj
 case tnt => exact hm.tnt
 case fresh => exact hm.fresh
end
inductive OpTo (t sz : Nat) : AV → AV → Prop
 | bot {x} : OpTo t sz x .bot
 | same {x} : OpTo t sz x x
 | nil {n} : OpTo t sz (.osl n [] .full) (.stk t sz [])
theorem OpTo.rv {G : Gh} {w : World} {t sz : Nat} (ht : t < G.nt) (hk : G.tk t = some none) {x y : AV} {v : Value} (h : OpTo t sz x y) (hr : RV G w x v) : RV G w y v := by
 cases h with
 | bot => exact .bot
 | same => exact hr
 | nil =>
  cases hr with
  | osl _ ho =>
   obtain ⟨A, rfl, _⟩ := ho
   refine .stk ⟨ht, A, 0, rfl, Nat.le_refl _, Nat.zero_le _, fun x hx => ?_⟩
   rw [hk] at hx
   cases hx
   rfl
theorem Trans.opn {cx : Cx} {nt0 nt : Nat} {l l' : List (Nat × AV)} {out : Bxs} {loc loc' : List (Nat × List (List AV))} {tok : Nat → Bool} (sz : Nat)
  (hl : CvL (OpTo nt sz) l l') (hb : CvB (OpTo nt sz) loc loc') :
  Trans cx nt0 ⟨tl l, lb cx.base out loc, tok, nt⟩ ⟨tl l', lb cx.base out loc', upd tok nt true, nt + 1⟩ := by
 intro G0 w0 G a w he hn0 hS hL
 have hm := hS.mem
 have hgnt : G.nt = nt := hm.nt
 have hle := Le.newtok (G := G) (w := w) none
 have hm' := hm.newtok none (fun g h => by cases h)
 have h1 : nt < (G.newtok none).nt := by simp only [Gh.newtok]; omega
 have h2 : (G.newtok none).tk nt = some none := by simp only [Gh.newtok]; rw [← hgnt, upd_same]
 refine ⟨G.newtok none, ⟨hS.defers, hS.size, fun i => (hl.at .bot i).rv h1 h2 ((hS.tmps i).mono hle), hm'.rows (fun x y v h hr => h.rv h1 h2 hr) hb⟩, ?_⟩
 refine hL.step ⟨hle, fun k hkb hg => ⟨hg, ?_⟩⟩
 simp only
 rw [lb_out hkb, lb_out hkb]
section
variable {t sz : Nat}
@[simp] theorem opTo_bot (x : AV) : OpTo t sz x .bot := .bot
@[simp] theorem opTo_same (x : AV) : OpTo t sz x x := .same
@[simp] theorem opTo_nil (n : Nat) : OpTo t sz (.osl n [] .full) (.stk t sz []) := .nil
end
@[simp] theorem to_stk {p : Nat → Prop} {fz : Option (Nat × Nat × List (List D))} (t sz : Nat) (es : List (List D)) : To p (fun _ => True) fz (.stk t sz es) (.stk t sz es) := .same (.stk trivial)
@[simp] theorem okIn_stk {p q : Nat → Prop} {t sz : Nat} {es : List (List D)} : OkIn p q (.stk t sz es) ↔ q t := ⟨fun h => by cases h; assumption, .stk⟩
theorem cvR_nil {R : AV → AV → Prop} : CvR R [] [] := ⟨rfl, fun i h => by simp at h⟩
theorem cvR_cons {R : AV → AV → Prop} {x y : AV} {a b : List AV} (h : R x y) (r : CvR R a b) : CvR R (x :: a) (y :: b) := ⟨by simp [r.1], fun i h1 h2 => by
 cases i with
 | zero => exact h
 | succ i => exact r.2 i (by simpa using h1) (by simpa using h2)⟩
theorem cvRs_one {R : AV → AV → Prop} {r r' : List AV} (h : CvR R r r') : CvRs R [r] [r'] := ⟨rfl, fun i h1 h2 => by
 have : i = 0 := by simp at h1; omega
 subst this
 exact h⟩
theorem cvRs_same {R : AV → AV → Prop} (hr : ∀ x, R x x) (r : List (List AV)) : CvRs R r r := ⟨rfl, fun i _ _ => ⟨rfl, fun j _ _ => hr _⟩⟩
end Go.AM
namespace Go.AM
open Go
variable {P : Program}
inductive CellD (tok : Tks) : AV → D → Prop
 | d {x} : CellD tok (.d x) x
 | osl {sz es o} : CellD tok (.osl sz es o) (.sl sz es)
 | stk {t sz es} (h : tok t = true) : CellD tok (.stk t sz es) (.sl sz es)
def CellDs (tok : Tks) : List AV → List D → Prop
 | [], [] => True
 | x :: a, y :: b => CellD tok x y ∧ CellDs tok a b
 | _, _ => False
theorem CellDs.at {tok : Nat → Bool} : ∀ {a : List AV} {b : List D}, CellDs tok a b → a.length = b.length ∧ ∀ i (h1 : i < a.length) (h2 : i < b.length), CellD tok a[i] b[i]
 | [], [], _ => ⟨rfl, fun i h => by simp at h⟩
 | x :: a, y :: b, h => by
  obtain ⟨h1, h2⟩ := CellDs.at h.2
  refine ⟨by simp [h1], fun i g1 g2 => ?_⟩
  cases i with
  | zero => exact h.1
  | succ i => exact h2 i (by simpa using g1) (by simpa using g2)
 | [], _ :: _, h => h.elim
 | _ :: _, [], h => h.elim
inductive Lent (box : Bxs) (tok : Tks) : AV → AV → Prop
 | same {x} (h : OkIn (fun _ => False) (fun _ => True) x) : Lent box tok x x
 | stk {t sz es} (h : tok t = true) : Lent box tok (.stk t sz es) (.d (.sl sz es))
 | ptr {k row ds} (hk : box k = some [row]) (h : CellDs tok row ds) : Lent box tok (.ptr k 0 0) (.cptr ds 0)
 | fn {f} {caps caps' : List AV} (hl : caps.length = caps'.length) (h : ∀ i (h1 : i < caps.length) (h2 : i < caps'.length), Lent box tok caps[i] caps'[i]) : Lent box tok (.fn f caps) (.fn f caps')
def LentL (box : Bxs) (tok : Tks) : List AV → List AV → Prop
 | [], [] => True
 | x :: a, y :: b => Lent box tok x y ∧ LentL box tok a b
 | _, _ => False
theorem Lent.ext {box box' : Bxs} {tok : Nat → Bool} (he : Ext box box') {x y : AV} (h : Lent box tok x y) : Lent box' tok x y := by
 induction h with
 | same h => exact .same h
 | stk h => exact .stk h
 | ptr hk h => exact .ptr (he _ _ hk) h
 | fn hl _ ih => exact .fn hl ih
theorem LentL.ext {box box' : Bxs} {tok : Nat → Bool} (he : Ext box box') : ∀ {a b : List AV}, LentL box tok a b → LentL box' tok a b
 | [], [], _ => trivial
 | x :: a, y :: b, h => ⟨h.1.ext he, LentL.ext he h.2⟩
 | [], _ :: _, h => h.elim
 | _ :: _, [], h => h.elim
def Gh.lb (G : Gh) (b : Nat) : Prop := (∃ k sz, G.bx k = some (b, sz)) ∨ ∃ t, G.tk t = some (some b) ∧ G.kind b = .ex
def Gh.lt (G : Gh) (t : Nat) : Prop := ∃ g, G.tk t = some (some g) ∧ G.kind g = .ex
open Classical in
noncomputable def Gh.lent (G : Gh) : Gh := { bx := fun _ => none, kind := fun b => if G.lb b then .whole else G.kind b, tk := fun t => if G.lt t then none else G.tk t, nt := G.nt }
open Classical in
noncomputable def Gh.back (G G1 : Gh) : Gh := { bx := G.bx, kind := fun b => if G.lb b then G.kind b else G1.kind b, tk := fun t => if G.lt t then G.tk t else G1.tk t, nt := G1.nt }
theorem lent_ps {G : Gh} {a : Addr} (h : G.ps a) : G.lent.ps a := by
 unfold Gh.ps at h ⊢
 simp only [Gh.lent]
 by_cases e : G.lb a.block
 ·simp [e]
 ·simp only [e, ↓reduceIte]; exact h
theorem lent_tk {G : Gh} {t : Nat} {x : Option Nat} (h : G.lent.tk t = some x) : G.tk t = some x ∧ ¬ G.lt t := by
 simp only [Gh.lent] at h
 split at h
 ·cases h
 ·rename_i hn; exact ⟨h, hn⟩
theorem lent_cell {G : Gh} {m : AMem} {w : World} (hm : RelM G m w) {x : AV} {y : D} {v : Value} (hc : CellD m.tok x y) (h : RV G w x v) : RVd w.cell? G.lent.ps y v := by
 have hcm : ∀ (a : Addr) (u : Value), G.ps a → w.cell? a = some u → G.lent.ps a ∧ w.cell? a = some u := fun a u h1 h2 => ⟨lent_ps h1, h2⟩
 cases hc with
 | d => cases h with | d h1 => exact h1.mono hcm
 | osl => cases h with | osl h1 _ => exact h1.mono hcm
 | @stk t sz es ht =>
  cases h with
  | stk hs =>
   obtain ⟨_, A, cap, rfl, hcap, hmax, hst⟩ := hs
   obtain ⟨_, y, hy⟩ := hm.toks t ht
   have hst := hst y hy
   cases y with
   | none =>
    have hes : es = [] := List.eq_nil_of_length_eq_zero (by have : cap = 0 := hst; omega)
    subst hes
    exact .sl (es := []) (fun _ _ => default) (Nat.zero_le _) hmax (by simp) (by simp) (fun a _ i j hi _ => by simp at hi) (fun i j hi _ => by simp at hi)
   | some g =>
    obtain ⟨hA, vs, sp, e, h1, h2, h3, h4, h5⟩ := hst
    refine RVd.of_flat hcap hmax ⟨h4.len, fun a ha q u hq => ?_, h4.one, fun _ => ⟨_, hA⟩, h4.each, fun i j hi hj => ?_⟩
    ·rw [hA] at ha
     cases ha
     rw [add_none]
     refine ⟨?_, ?_⟩
     ·have hl : G.lb g := .inr ⟨t, hy, h1⟩
      simp [Gh.ps, Gh.lent, hl]
     ·rw [cell_of_row w g _ _ e (0, 0) h2, Nat.zero_add]
      simp only [List.getElem?_toArray]
      rw [List.getElem?_append_left (List.getElem?_eq_some_iff.1 hq).1]
      exact hq
    ·obtain ⟨u, hu, hr⟩ := h4.read i j hi hj
     exact ⟨u, hu, hr.mono hcm⟩
theorem lb_kind {G : Gh} {m : AMem} {w : World} (hm : RelM G m w) {b : Nat} (h : G.lb b) : b < w.heap.size ∧ (G.kind b = .box ∨ G.kind b = .ex) := by
 rcases h with ⟨k, sz, h⟩ | ⟨t, h1, h2⟩
 ·have := hm.blt h
  exact ⟨this.1, .inl this.2⟩
 ·obtain ⟨f, cur, e, _, h3⟩ := hm.tokb t b h1
  exact ⟨heap_lt h3, .inr h2⟩
theorem RV.lent {G : Gh} {m : AMem} {w : World} (hm : RelM G m w) {x : AV} {v : Value} (h : RV G w x v) (ho : OkIn (fun _ => False) (fun _ => True) x) : RV G.lent w x v := by
 have hc : ∀ (a : Addr) (u : Value), G.ps a → w.cell? a = some u → G.lent.ps a ∧ w.cell? a = some u := fun a u h1 h2 => ⟨lent_ps h1, h2⟩
 have hk : ∀ g f c, G.kind g = .part f c → G.lent.kind g = G.kind g := fun g f c hg => by
  simp only [Gh.lent]
  rw [if_neg fun e => by rcases (lb_kind hm e).2 with h | h <;> rw [hg] at h <;> cases h]
 have hown : ∀ {sz n : Nat} {o : Own} {v : Value}, OwnR G sz n o v → OwnR G.lent sz n o v := by
  intro sz n o v h2
  cases o with
  | full => exact h2
  | tok t =>
   refine ⟨h2.1, fun y hy => ?_⟩
   have := h2.2 y (lent_tk hy).1
   cases y with
   | none => exact this
   | some g =>
    obtain ⟨cap, hv, hg⟩ := this
    exact ⟨cap, hv, (hk g _ _ hg).trans hg⟩
 induction h with
 | bot => exact .bot
 | d h1 => exact .d (h1.mono hc)
 | osl h1 h2 => exact .osl (h1.mono hc) (hown h2)
 | ptr h1 => cases ho with | ptr h => exact h.elim
 | here h1 h2 => cases ho with | here h => exact h.elim
 | buf h1 h2 h3 h4 => exact .buf (h1.mono hc) (hown h2) (fun e => h3 (lent_tk e).1) (fun g hg => h4 g (lent_tk hg).1)
 | cptr a u h1 h2 => exact .cptr a u (fun j hj => hc _ _ (h1 j hj).1 (h1 j hj).2) fun j hj => (h2 j hj).mono hc
 | msl h1 => cases ho with | msl h => exact h.elim
 | fn hl _ ih => cases ho with | fn h => exact .fn hl fun i h1 h2 => ih i h1 h2 (h _ (List.getElem_mem h1))
 | agg hl _ hone ih => cases ho with | agg h => exact .agg hl (fun i h1 h2 => ih i h1 h2 (h _ (List.getElem_mem h1))) hone
 | tup hl _ ih => cases ho with | tup h => exact .tup hl fun i h1 h2 => ih i h1 h2 (h _ (List.getElem_mem h1))
 | ex h1 =>
  obtain ⟨r1, r0, r2⟩ := h1
  refine .ex ⟨r1, r0, fun y hy => ?_⟩
  obtain ⟨hy1, hn⟩ := lent_tk hy
  obtain ⟨g, cap, cs, e, rfl, h2, h3, h4, h5, _⟩ := r2 y hy1
  exact absurd ⟨g, hy1, h5⟩ hn
 | stk h1 =>
  obtain ⟨r1, A, cap, hv, hc1, hmx, r2⟩ := h1
  refine .stk ⟨r1, A, cap, hv, hc1, hmx, fun y hy => ?_⟩
  obtain ⟨hy1, hn⟩ := lent_tk hy
  have h0 := r2 y hy1
  cases y with
  | none => exact h0
  | some g =>
   obtain ⟨hA, vs, sp, e, h5, _⟩ := h0
   exact absurd ⟨g, hy1, h5⟩ hn
theorem Lent.rv {G : Gh} {m : AMem} {w : World} (hm : RelM G m w) {x y : AV} {v : Value} (hb : Lent m.box m.tok x y) (h : RV G w x v) : RV G.lent w y v := by
 induction hb generalizing v with
 | fn hl _ ih =>
  cases h with
  | fn hl' hh => exact .fn (hl.symm.trans hl') fun i h1 h2 => ih i (by omega) h1 (hh i (by omega) h2)
 | same ho => exact h.lent hm ho
 | stk ht => exact .d (lent_cell hm (.stk ht) h)
 | @ptr k row ds hk hd =>
  generalize hx : AV.ptr k 0 0 = x at h
  cases h with
  | @ptr k' i off b sz hbx =>
   cases hx
   obtain ⟨hkind, cs, e, hheap, hrows, hR, hone⟩ := hm.box k [row] b sz hk hbx
   have hR : RVs G w row cs.toList := by simpa using hR
   obtain ⟨hl, hat⟩ := hd.at
   have hlb : G.lb b := .inl ⟨k, sz, hbx⟩
   have := RV.cptr (G := G.lent) (w := w) (cs := ds) (off := 0) ⟨b, 0, none⟩ (fun j => cs.getD j default) (fun j hj => ?_) (fun j hj => ?_)
   ·rw [add_none] at this
    simpa using this
   ·rw [add_none]
    refine ⟨by simp [Gh.ps, Gh.lent, hlb], ?_⟩
    rw [cell_of_row w b _ _ e (0, 0) hheap, Nat.zero_add]
    have hjl : j < cs.size := by have := hR.1; simp at this; omega
    simp [hjl]
   ·have hjl : j < cs.size := by have := hR.1; simp at this; omega
    have h1 := lent_cell hm (hat j (by omega) hj) (hR.2 j (by omega) (by simpa using hjl))
    simpa [hjl] using h1
  | _ => cases hx
theorem LentL.rvs {G : Gh} {m : AMem} {w : World} (hm : RelM G m w) : ∀ {xs ys : List AV} {vs : List Value}, LentL m.box m.tok xs ys → RVs G w xs vs → RVs G.lent w ys vs
 | [], [], vs, _, h => ⟨by have := h.1; simpa using this, fun i h => by simp at h⟩
 | x :: a, y :: b, vs, hb, h => by
  obtain ⟨v, us, rfl, h1, h2⟩ := h.uncons
  exact RVs.cons (hb.1.rv hm h1) (LentL.rvs hm hb.2 h2)
 | [], _ :: _, _, h, _ => h.elim
 | _ :: _, [], _, h, _ => h.elim
theorem RCall.lends {f : FuncId} {args args' : List AV} {box : Bxs} {tok : Nat → Bool} {nt : Nat} {u : Value} (hu : u.oneCell' = true)
  (h : ∀ tok, DCall P f args' tok nt (.d (.raw u)) tok nt) (hb : LentL box tok args args') : RCall P f args box tok nt (.d (.raw u)) tok nt := by
 classical
 intro box' nb hext
 have hb' := hb.ext hext
 refine ⟨(h tok (fun _ => none) nb).1, fun G w vals hm hr => ?_⟩
 obtain ⟨_, hc⟩ := h (fun t => tok t && decide (¬ G.lt t)) (fun _ => none) nb
 have hlbk := fun {b} (hb : G.lb b) => lb_kind hm hb
 have hnl : ∀ t g, G.tk t = some (some g) → ¬ G.lt t → ¬ G.lb g := fun t g ht hn hl => by
  rcases hl with ⟨k, sz, hk⟩ | ⟨t2, h1, h2⟩
  ·obtain ⟨f', cur, e, h1, _⟩ := hm.tokb t g ht
   rw [(hm.blt hk).2] at h1
   rcases h1 with h1 | h1 <;> cases h1
  ·exact hn ⟨g, ht, h2⟩
 have hm1 : RelM G.lent ⟨fun _ => none, nb, fun t => tok t && decide (¬ G.lt t), nt⟩ w := by
  constructor
  case box => intro k rows b sz h1; cases h1
  case nobox => intro k _; rfl
  case inj => intro k k' b sz sz' h1; cases h1
  case nb => intro k _; rfl
  case nt => exact hm.nt
  case toks =>
   intro t ht
   simp only [Bool.and_eq_true, decide_eq_true_eq] at ht
   obtain ⟨h1, x, h2⟩ := hm.toks t ht.1
   exact ⟨h1, x, by simp only [Gh.lent]; rw [if_neg ht.2]; exact h2⟩
  case tokb =>
   intro t g ht
   obtain ⟨h1, h2⟩ := lent_tk ht
   obtain ⟨f', cur, e, h3, h4⟩ := hm.tokb t g h1
   refine ⟨f', cur, e, ?_, h4⟩
   simp only [Gh.lent]
   rw [if_neg (hnl t g h1 h2)]
   exact h3
  case tinj => exact fun t t' g h1 h2 => hm.tinj t t' g (lent_tk h1).1 (lent_tk h2).1
  case tnt => exact fun t x h1 => hm.tnt t x (lent_tk h1).1
  case fresh =>
   intro b hb1
   simp only [Gh.lent]
   split
   ·rfl
   ·exact hm.fresh b hb1
 refine Calls.mono (hc G.lent w vals hm1 (hb'.rvs hm hr)) ?_
 rintro e w' ⟨v, av, m', G1, rfl, ⟨rfl, rfl⟩, h3, h4, h5, h6, h7⟩
 have hv : v = u := by cases h5 with | d h => cases h; rfl
 subst hv
 have hkeep : ∀ b, G.lb b → G1.kind b = .whole ∧ w'.heap[b]? = w.heap[b]? := fun b hb1 => h6.whole b (hlbk hb1).1 (by simp [Gh.lent, hb1])
 have hltb : ∀ t, G.lt t → ∃ g, G.tk t = some (some g) ∧ G.kind g = .ex ∧ G.lb g := fun t ⟨g, h1, h2⟩ => ⟨g, h1, h2, .inr ⟨t, h1, h2⟩⟩
 have hle : Le G w (G.back G1) w' := by
  refine ⟨h6.os, h6.tape, h6.output, h6.size, fun b hb1 hk => ?_, fun b f' c hk => ?_, fun _ _ h => h, h6.nt, fun t ht => ?_, ?_⟩
  ·have hn : ¬ G.lb b := fun e => by rcases (hlbk e).2 with h | h <;> rw [hk] at h <;> cases h
   obtain ⟨a1, a2⟩ := h6.whole b hb1 (by simp only [Gh.lent]; rw [if_neg hn]; exact hk)
   exact ⟨by simp only [Gh.back]; rw [if_neg hn]; exact a1, a2⟩
  ·have hn : ¬ G.lb b := fun e => by rcases (hlbk e).2 with h | h <;> rw [hk] at h <;> cases h
   obtain ⟨⟨f2, a1, a2⟩, a3⟩ := h6.part b f' c (by simp only [Gh.lent]; rw [if_neg hn]; exact hk)
   exact ⟨⟨f2, a1, by simp only [Gh.back]; rw [if_neg hn]; exact a2⟩, a3⟩
  ·by_cases hl : G.lt t
   ·refine .inr ⟨by simp only [Gh.back]; rw [if_pos hl], fun g hg => ?_⟩
    obtain ⟨g', h1, h2, h3⟩ := hltb t hl
    rw [hg] at h1
    cases h1
    exact ⟨by simp only [Gh.back]; rw [if_pos h3], fun _ => (hkeep g h3).2⟩
   ·have e1 : (G.back G1).tk t = G1.tk t := by simp only [Gh.back]; rw [if_neg hl]
    have e2 : G.lent.tk t = G.tk t := by simp only [Gh.lent]; rw [if_neg hl]
    rcases h6.tk t ht with a1 | ⟨a1, a2⟩
    ·exact .inl (e1.trans a1)
    ·refine .inr ⟨(e1.trans a1).trans e2, fun g hg => ?_⟩
     have hn := hnl t g hg hl
     obtain ⟨b1, b2⟩ := a2 g (e2.trans hg)
     simp only [Gh.lent] at b1 b2
     rw [if_neg hn] at b1 b2
     exact ⟨by simp only [Gh.back]; rw [if_neg hn]; exact b1, b2⟩
  ·exact h6.ty
 refine ⟨v, _, _, G.back G1, rfl, ⟨rfl, rfl⟩, rfl, ?_, .d (.raw hu), hle, fun k hk => ⟨hk, rfl⟩⟩
 have hG1 : ∀ t g, ¬ G.lt t → (G.back G1).tk t = some (some g) → G1.tk t = some (some g) ∧ ¬ G.lb g := fun t g hl ht => by
  have e1 : G1.tk t = some (some g) := by simp only [Gh.back] at ht; rw [if_neg hl] at ht; exact ht
  refine ⟨e1, fun hpg => ?_⟩
  obtain ⟨f', cur, e, g1, _⟩ := h4.tokb t g e1
  rw [(hkeep g hpg).1] at g1
  rcases g1 with g1 | g1 <;> cases g1
 have hG0 : ∀ t, G.lt t → (G.back G1).tk t = G.tk t := fun t hl => by simp only [Gh.back]; rw [if_pos hl]
 constructor
 case box =>
  intro k rows b sz hk hb1
  obtain ⟨g1, cs, e, g2, g3, g4, g5⟩ := hm.box k rows b sz hk hb1
  have hpk : G.lb b := .inl ⟨k, sz, hb1⟩
  exact ⟨by simp only [Gh.back]; rw [if_pos hpk]; exact g1, cs, e, (hkeep b hpk).2.trans g2, g3, g4.mono hle, g5⟩
 case nobox => exact hm.nobox
 case inj => exact hm.inj
 case nb => exact hm.nb
 case nt => exact h4.nt
 case toks =>
  intro t ht
  obtain ⟨h1, x, h2⟩ := hm.toks t ht
  refine ⟨h1, ?_⟩
  by_cases hl : G.lt t
  ·exact ⟨x, (hG0 t hl).trans h2⟩
  ·obtain ⟨_, y, h3⟩ := h4.toks t (by simp only [Bool.and_eq_true, decide_eq_true_eq]; exact ⟨ht, hl⟩)
   exact ⟨y, by simp only [Gh.back]; rw [if_neg hl]; exact h3⟩
 case tokb =>
  intro t g ht
  by_cases hl : G.lt t
  ·rw [hG0 t hl] at ht
   obtain ⟨g', h1, h2, h3⟩ := hltb t hl
   rw [ht] at h1
   cases h1
   obtain ⟨f', cur, e, g1, g2⟩ := hm.tokb t g ht
   exact ⟨f', cur, e, by simp only [Gh.back]; rw [if_pos h3]; exact g1, (hkeep g h3).2.trans g2⟩
  ·obtain ⟨h1, hn⟩ := hG1 t g hl ht
   obtain ⟨f', cur, e, g1, g2⟩ := h4.tokb t g h1
   exact ⟨f', cur, e, by simp only [Gh.back]; rw [if_neg hn]; exact g1, g2⟩
 case tinj =>
  intro t t' g ht ht'
  by_cases hl : G.lt t <;> by_cases hl' : G.lt t'
  ·rw [hG0 t hl] at ht; rw [hG0 t' hl'] at ht'
   exact hm.tinj t t' g ht ht'
  ·rw [hG0 t hl] at ht
   obtain ⟨g', h1, _, h3⟩ := hltb t hl
   rw [ht] at h1
   cases h1
   exact absurd h3 (hG1 t' g hl' ht').2
  ·rw [hG0 t' hl'] at ht'
   obtain ⟨g', h1, _, h3⟩ := hltb t' hl'
   rw [ht'] at h1
   cases h1
   exact absurd h3 (hG1 t g hl ht).2
  ·exact h4.tinj t t' g (hG1 t g hl ht).1 (hG1 t' g hl' ht').1
 case tnt =>
  intro t x ht
  by_cases hl : G.lt t
  ·rw [hG0 t hl] at ht
   have := hm.tnt t x ht
   have e1 := hm.nt; have e2 := h4.nt
   simp only [Gh.back]
   simp only at e1 e2
   omega
  ·simp only [Gh.back] at ht
   rw [if_neg hl] at ht
   exact h4.tnt t x ht
 case fresh =>
  intro b hb1
  have := h6.size
  have hn : ¬ G.lb b := fun hpb1 => by have := (hlbk hpb1).1; omega
  simp only [Gh.back]
  rw [if_neg hn]
  exact h4.fresh b hb1
end Go.AM
namespace Go.AM
open Go
variable {P : Program}
theorem Le.reKind {G : Gh} {w : World} {g : Nat} (k : BK) (hk : G.kind g = .ex) (ht : ∀ t, G.tk t ≠ some (some g)) : Le G w (G.setKind g k) w where
 os := rfl
 tape := rfl
 output := rfl
 size := Nat.le_refl _
 whole b _ h := ⟨by simp only [Gh.setKind]; rw [upd_other _ _ (fun e => by subst e; rw [hk] at h; cases h)]; exact h, rfl⟩
 part b f c h := ⟨⟨f, Nat.le_refl _, by simp only [Gh.setKind]; rw [upd_other _ _ (fun e => by subst e; rw [hk] at h; cases h)]; exact h⟩, fun _ _ _ => rfl⟩
 bx _ _ h := h
 nt := Nat.le_refl _
 tk t _ := .inr ⟨rfl, fun j hj => ⟨by simp only [Gh.setKind]; exact upd_other _ _ (fun e => by subst e; exact ht t hj), fun _ => rfl⟩⟩
 ty _ cs T f h := ⟨cs, f, h⟩
theorem RelM.reKind {G : Gh} {m : AMem} {w : World} (h : RelM G m w) {g : Nat} (k : BK) (hk : G.kind g = .ex) (ht : ∀ t, G.tk t ≠ some (some g)) (hg : g < w.heap.size) : RelM (G.setKind g k) m w := by
 have hle := Le.reKind (w := w) k hk ht
 constructor
 case box =>
  intro q rows b sz hq hb
  obtain ⟨h1, cs, e, h2, h3, h4, h5⟩ := h.box q rows b sz hq hb
  refine ⟨?_, cs, e, h2, h3, h4.mono hle, h5⟩
  simp only [Gh.setKind]
  rw [upd_other _ _ (fun e => by subst e; rw [hk] at h1; cases h1)]
  exact h1
 case nobox => exact h.nobox
 case inj => exact h.inj
 case nb => exact h.nb
 case nt => exact h.nt
 case toks => exact h.toks
 case tokb =>
  intro t j hj
  obtain ⟨f0, cur0, e0, h1, h2⟩ := h.tokb t j hj
  refine ⟨f0, cur0, e0, ?_, h2⟩
  simp only [Gh.setKind]
  rw [upd_other _ _ (fun e => by subst e; exact ht t hj)]
  exact h1
 case tinj => exact h.tinj
 case tnt => exact h.tnt
 case fresh =>
  intro b hb
  simp only [Gh.setKind]
  rw [upd_other _ _ (by omega)]
  exact h.fresh b hb
theorem kill_not {G : Gh} {m : AMem} {w : World} (hm : RelM G m w) {t g : Nat} (hx : G.tk t = some (some g)) : ∀ q, (G.kill (.tok t)).tk q ≠ some (some g) := by
 intro q hq
 simp only [Gh.kill] at hq
 by_cases e : q = t
 ·subst e; simp [upd_same] at hq
 ·rw [upd_other _ _ e] at hq
  exact e (hm.tinj q t g hq hx)
inductive SdTo (t : Nat) : AV → AV → Prop
 | bot {x} : SdTo t x .bot
 | same {x} : SdTo t x x
 | stk {sz es} : SdTo t (.stk t sz es) (.d (.sl sz es))
theorem Trans.stkD {cx : Cx} {nt0 nt : Nat} {l l' : List (Nat × AV)} {out : Bxs} {loc loc' : List (Nat × List (List AV))} {tok : Nat → Bool} (t : Nat) (ht : tok t = true)
  (hl : CvL (SdTo t) l l') (hb : CvB (SdTo t) loc loc') :
  Trans cx nt0 ⟨tl l, lb cx.base out loc, tok, nt⟩ ⟨tl l', lb cx.base out loc', upd tok t false, nt⟩ := by
 intro G0 w0 G a w he hn0 hS hL
 have hm := hS.mem
 obtain ⟨hlt, x, hx⟩ := hm.toks t ht
 have hmk := hm.kill (.tok t)
 have hlk := Le.kill (G := G) (w := w) (.tok t)
 have hstk : ∀ {sz : Nat} {es : List (List D)} {v : Value}, RV G w (.stk t sz es) v → StkR G w t sz es v := fun h => by cases h with | stk h => exact h
 have fin : ∀ G', Le G w G' w → G'.bx = G.bx → RelM G' ⟨lb cx.base out loc, cx.nb, upd tok t false, nt⟩ w → (∀ sz es v, StkR G w t sz es v → RVd w.cell? G'.ps (.sl sz es) v) →
   ∃ G', RelS cx.n cx.nb G' ⟨tl l', lb cx.base out loc', upd tok t false, nt⟩ a w ∧ LeC cx G0 w0 G' w ⟨tl l', lb cx.base out loc', upd tok t false, nt⟩ := by
  intro G' hle hbx hm' hd
  have hto : ∀ x y v, SdTo t x y → RV G w x v → RV G' w y v := fun x y v h hr => by
   cases h with
   | bot => exact .bot
   | same => exact hr.mono hle
   | stk => exact .d (hd _ _ v (hstk hr))
  refine ⟨G', ⟨hS.defers, hS.size, fun i => hto _ _ _ (hl.at .bot i) (hS.tmps i), ?_⟩, ?_⟩
  ·constructor
   case box =>
    intro k rows b z hk hbk
    simp only at hk
    by_cases hkb : k < cx.base
    ·rw [lb_out hkb] at hk
     exact hm'.box k rows b z (by simp only; rw [lb_out hkb]; exact hk) hbk
    ·have hkk : k = cx.base + (k - cx.base) := by omega
     rw [hkk, lb_at] at hk
     rcases hb.at (k - cx.base) with ⟨_, h2⟩ | ⟨r0, r', h1, h2, h3⟩
     ·rw [h2] at hk; cases hk
     ·rw [h2] at hk
      cases hk
      obtain ⟨_, cs, e, g2, g3, g4, g5⟩ := hm.box k r0 b z (by simp only; rw [hkk, lb_at]; exact h1) (by rw [← hbx]; exact hbk)
      obtain ⟨g1, _⟩ := hm'.box k r0 b z (by simp only; rw [hkk, lb_at]; exact h1) hbk
      refine ⟨g1, cs, e, g2, fun q hq => ?_, ⟨h3.flat.1.symm.trans g4.1, fun i h1 h2 => hto _ _ _ (h3.flat.2 i (by rw [h3.flat.1]; exact h1) h1) (g4.2 i _ h2)⟩, g5⟩
      obtain ⟨i, hi, rfl⟩ := List.getElem_of_mem hq
      have hi0 : i < r0.length := by rw [h3.1]; exact hi
      rw [← (h3.2 i hi0 hi).1]
      exact g3 _ (List.getElem_mem _)
   case nobox =>
    intro k hk
    refine hm'.nobox k ?_
    simp only at hk ⊢
    by_cases hkb : k < cx.base
    ·rw [lb_out hkb] at hk ⊢; exact hk
    ·have hkk : k = cx.base + (k - cx.base) := by omega
     rw [hkk, lb_at] at hk ⊢
     rcases hb.at (k - cx.base) with ⟨h1, _⟩ | ⟨r0, r', _, h2, _⟩
     ·exact h1
     ·rw [h2] at hk; cases hk
   case inj => exact hm'.inj
   case nb =>
    intro k hk
    have h0 := hm'.nb k hk
    simp only at h0 ⊢
    by_cases hkb : k < cx.base
    ·rw [lb_out hkb] at h0 ⊢; exact h0
    ·have hkk : k = cx.base + (k - cx.base) := by omega
     rw [hkk, lb_at] at h0 ⊢
     rcases hb.at (k - cx.base) with ⟨_, h2⟩ | ⟨r0, r', h1, _, _⟩
     ·exact h2
     ·rw [h1] at h0; cases h0
   case nt => exact hm'.nt
   case toks => exact hm'.toks
   case tokb => exact hm'.tokb
   case tinj => exact hm'.tinj
   case tnt => exact hm'.tnt
   case fresh => exact hm'.fresh
  ·refine hL.step ⟨hle, fun k hkb hg => ⟨by rw [hbx]; exact hg, ?_⟩⟩
   simp only
   rw [lb_out hkb, lb_out hkb]
 cases x with
 | none =>
  refine fin (G.kill (.tok t)) hlk rfl hmk fun sz es v hv => ?_
  obtain ⟨_, A, cap, rfl, hcap, hmax, hst⟩ := hv
  have hc0 : cap = 0 := hst _ hx
  have hes : es = [] := List.eq_nil_of_length_eq_zero (by omega)
  subst hes
  exact .sl (es := []) (fun _ _ => default) (Nat.zero_le _) hmax (by simp) (by simp) (fun a _ i j hi _ => by simp at hi) (fun i j hi _ => by simp at hi)
 | some g =>
  obtain ⟨f, cur, e, hkg, hg⟩ := hm.tokb t g hx
  by_cases hex : G.kind g = .ex
  ·have hnot := kill_not hm hx
   have hlr := Le.reKind (G := G.kill (.tok t)) (w := w) .whole hex hnot
   refine fin ((G.kill (.tok t)).setKind g .whole) (hlk.trans hlr) rfl (hmk.reKind .whole hex hnot (heap_lt hg)) fun sz es v hv => ?_
   obtain ⟨_, A, cap, rfl, hcap, hmax, hst⟩ := hv
   obtain ⟨hA, vs, sp, e, h1, h2, h3, h4, h5⟩ := hst _ hx
   refine RVd.of_flat hcap hmax ⟨h4.len, fun a ha q u hq => ?_, h4.one, fun _ => ⟨_, hA⟩, h4.each, fun i j hi hj => ?_⟩
   ·rw [hA] at ha
    cases ha
    rw [add_none]
    refine ⟨by simp [Gh.ps, Gh.setKind, upd_same], ?_⟩
    rw [cell_of_row w g _ _ e (0, 0) h2, Nat.zero_add]
    simp only [List.getElem?_toArray]
    rw [List.getElem?_append_left (List.getElem?_eq_some_iff.1 hq).1]
    exact hq
   ·obtain ⟨u, hu, hr⟩ := h4.read i j hi hj
    exact ⟨u, hu, hr.mono (hlk.trans hlr).cells⟩
  ·refine fin (G.kill (.tok t)) hlk rfl hmk fun sz es v hv => ?_
   obtain ⟨_, A, cap, rfl, hcap, hmax, hst⟩ := hv
   obtain ⟨_, vs, sp, e, h1, _⟩ := hst _ hx
   exact absurd h1 hex
def AV.sdT (t : Nat) : AV → AV
 | .stk t' sz es => if t' = t then .d (.sl sz es) else .stk t' sz es
 | x => x
theorem sdT_to (t : Nat) (x : AV) : SdTo t x (x.sdT t) := by
 cases x with
 | stk t' sz es =>
  simp only [AV.sdT]
  split
  ·rename_i h; subst h; exact .stk
  ·exact .same
 | _ => exact .same
theorem cvL_map {R : AV → AV → Prop} {f : AV → AV} (h : ∀ x, R x (f x)) : ∀ l : List (Nat × AV), CvL R l (l.map fun q => (q.1, f q.2))
 | [] => trivial
 | (i, x) :: l => ⟨rfl, h x, cvL_map h l⟩
theorem cvB_map {R : AV → AV → Prop} {f : AV → AV} (h : ∀ x, R x (f x)) : ∀ l : List (Nat × List (List AV)), CvB R l (l.map fun q => (q.1, q.2.map fun r => r.map f))
 | [] => trivial
 | (i, x) :: l => ⟨rfl, ⟨by simp, fun i h1 h2 => ⟨by simp, fun j g1 g2 => by simp only [List.getElem_map]; exact h _⟩⟩, cvB_map h l⟩
theorem AL.stkD {cx : Cx} {nt0 nt : Nat} {K : Exit → AState → Prop} {q : List CI} {x : Code} {l : List (Nat × AV)} {out : Bxs} {loc : List (Nat × List (List AV))} {tok : Nat → Bool} (t : Nat) (ht : tok t = true)
  (h : AL P cx nt0 K (.c x :: q) ⟨tl (l.map fun q => (q.1, q.2.sdT t)), lb cx.base out (loc.map fun q => (q.1, q.2.map fun r => r.map (AV.sdT t))), upd tok t false, nt⟩) : AL P cx nt0 K (.c x :: q) ⟨tl l, lb cx.base out loc, tok, nt⟩ :=
 AL.trans (Trans.stkD t ht (cvL_map (sdT_to t) l) (cvB_map (sdT_to t) loc)) h
end Go.AM
namespace Go.AM
open Go
variable {P : Program}
theorem FlatV.rvs {G : Gh} {w : World} {sz : Nat} : ∀ {es : List (List D)} {vs : List Value}, FlatV w.cell? G.ps sz es vs → RVs G w (es.flatten.map AV.d) vs
 | [], vs, h => by
  have hv : vs = [] := List.eq_nil_of_length_eq_zero (by simpa using h.len)
  subst hv
  exact ⟨rfl, fun i h => by simp at h⟩
 | e :: es, vs, h => by
  have he : e.length = sz := h.each e (by simp)
  have hl := h.len
  rw [List.length_cons, Nat.add_mul] at hl
  have h1 : FlatV w.cell? G.ps sz es (vs.drop sz) := by
   refine ⟨by rw [List.length_drop]; omega, fun u hu => h.one u (List.mem_of_mem_drop hu), fun q hq => h.each q (by simp [hq]), fun i j hi hj => ?_⟩
   obtain ⟨u, hu, hr⟩ := h.read (i + 1) j (by simpa using hi) (by simpa using hj)
   refine ⟨u, ?_, by simpa using hr⟩
   rw [List.getElem?_drop, ← hu]
   congr 1
   rw [Nat.add_mul]; omega
  have ih := FlatV.rvs h1
  have h2 : RVs G w (e.map AV.d) (vs.take sz) := by
   refine ⟨by rw [List.length_map, List.length_take]; omega, fun j g1 g2 => ?_⟩
   have hj : j < e.length := by simpa using g1
   obtain ⟨u, hu, hr⟩ := h.read 0 j (by simp) (by simpa using hj)
   simp only [List.getElem_map, List.getElem_take]
   obtain ⟨hlt, rfl⟩ := List.getElem?_eq_some_iff.1 hu
   simp only [Nat.zero_mul, Nat.zero_add] at hr ⊢
   exact .d (by simpa using hr)
  have := h2.append ih
  rw [List.take_append_drop] at this
  simpa using this
inductive TsTo (t k sz : Nat) (es : List (List D)) : AV → AV → Prop
 | bot {x} : TsTo t k sz es x .bot
 | same {x} : TsTo t k sz es x x
 | stk : TsTo t k sz es (.stk t sz es) (.msl k 0 es.length sz)
theorem AT.thawS {cx : Cx} {nt0 nt : Nat} {c : Code} {K : Exit → AState → Prop} {l l' : List (Nat × AV)} {out : Bxs} {loc loc' : List (Nat × List (List AV))} {tok : Nat → Bool} (t s sz : Nat) (es : List (List D)) (r : Nat)
  (hn : cx.nb = cx.base + cx.n) (hs : s < cx.n) (hk : lk loc s = none) (ht : tok t = true) (hne : es ≠ []) (hr : tl l r = .stk t sz es)
  (hl : CvL (TsTo t (cx.base + s) sz es) l l') (hb : CvB (TsTo t (cx.base + s) sz es) loc loc')
  (h : ∀ m, AT P cx nt0 c ⟨tl l', lb cx.base out ((s, rowsD es ++ List.replicate m (List.replicate sz .bot)) :: loc'), upd tok t false, nt⟩ K) : AT P cx nt0 c ⟨tl l, lb cx.base out loc, tok, nt⟩ K := by
 intro G0 w0 hen hnt G a w hS hL
 have hm := hS.mem
 obtain ⟨hlt, x, hx⟩ := hm.toks t ht
 have hstk : ∀ {v : Value}, RV G w (.stk t sz es) v → StkR G w t sz es v := fun h => by cases h with | stk h => exact h
 have hwit := hS.tmps r
 simp only at hwit
 rw [hr] at hwit
 obtain ⟨_, A, cap, hv, hcap, hmax, hst⟩ := hstk hwit
 have hst := hst x hx
 cases x with
 | none =>
  have hc0 : cap = 0 := hst
  exact absurd (List.eq_nil_of_length_eq_zero (by omega)) hne
 | some g =>
  obtain ⟨hA, vs, sp, e, hkg, hheap, hlen, hf, hsp⟩ := hst
  have hboxk : lb cx.base out loc (cx.base + s) = none := by rw [lb_at]; exact hk
  have hbxk : G.bx (cx.base + s) = none := hm.nobox _ hboxk
  have hnb : ∀ {k b z}, G.bx k = some (b, z) → b ≠ g := fun h e => by
   have := (hm.blt h).2
   rw [e, hkg] at this; cases this
  have hmk := hm.kill (.tok t)
  have hnot := kill_not hm hx
  have hm1 := hmk.reKind .box hkg hnot (heap_lt hheap)
  let G1 : Gh := (G.kill (.tok t)).setKind g .box
  let G' : Gh := { G1 with bx := upd G.bx (cx.base + s) (some (g, sz)) }
  have hle1 : Le G w G1 w := (Le.kill (.tok t)).trans (Le.reKind .box hkg hnot)
  have hle2 : Le G1 w G' w := ⟨rfl, rfl, rfl, Nat.le_refl _, fun _ _ h => ⟨h, rfl⟩, fun _ f _ h => ⟨⟨f, Nat.le_refl _, h⟩, fun _ _ _ => rfl⟩, fun k x hk => by
   simp only [G']
   rw [upd_other _ _ (fun e => by
    have hk : G.bx k = some x := hk
    rw [e, hbxk] at hk; cases hk)]
   exact hk, Nat.le_refl _, fun t _ => .inr ⟨rfl, fun _ _ => ⟨rfl, fun _ => rfl⟩⟩, fun _ cs T f h => ⟨cs, f, h⟩⟩
  have hle := hle1.trans hle2
  have hto : ∀ x y v, TsTo t (cx.base + s) sz es x y → RV G w x v → RV G' w y v := fun x y v h hr => by
   cases h with
   | bot => exact .bot
   | same => exact hr.mono hle
   | stk =>
    obtain ⟨_, A', cap', rfl, hc1, hc2, h2⟩ := hstk hr
    obtain ⟨hA', _⟩ := h2 _ hx
    subst hA'
    have := RV.msl (G := G') (w := w) (k := cx.base + s) (off := 0) (n := es.length) (b := g) (sz := sz) (cap := cap') (by simp [G', upd_same]) hc1 hc2
    simpa using this
  have hf' := hf.mono hle.cells
  have hvl := hf.len
  obtain ⟨m, hmm⟩ : ∃ m, cap = es.length + m := ⟨cap - es.length, by omega⟩
  have hspl : sp.length = m * sz := by
   rw [List.length_append, hvl, hmm, Nat.add_mul] at hlen
   omega
  refine h m G0 w0 hen hnt G' a w ⟨hS.defers, hS.size, fun i => hto _ _ _ (hl.at .bot i) (hS.tmps i), ?_⟩ ?_
  ·constructor
   case box =>
    intro k rows b z hk' hb'
    by_cases e1 : k = cx.base + s
    ·subst e1
     simp only [lb_at, lk_cons, ↓reduceIte, Option.some.injEq] at hk'
     simp only [G', upd_same, Option.some.injEq, Prod.mk.injEq] at hb'
     obtain ⟨rfl, rfl⟩ := hb'
     subst hk'
     refine ⟨by simp [G', G1, Gh.setKind, upd_same], _, e, hheap, fun q hq => ?_, ?_, fun v hv => ?_⟩
     ·rcases List.mem_append.1 hq with hq | hq
      ·obtain ⟨p, hp, rfl⟩ := List.mem_map.1 hq
       simpa using hf.each p hp
      ·rw [List.eq_of_mem_replicate hq]; simp
     ·rw [List.flatten_append, rowsD_flat]
      have h2 : RVs G' w (List.replicate m (List.replicate sz AV.bot)).flatten sp := by
       refine ⟨by rw [hspl]; simp [List.length_flatten], fun i g1 g2 => ?_⟩
       have hmem : (List.replicate m (List.replicate sz AV.bot)).flatten[i] ∈ (List.replicate m (List.replicate sz AV.bot)).flatten := List.getElem_mem _
       obtain ⟨q, hq, hiq⟩ := List.mem_flatten.1 hmem
       rw [List.eq_of_mem_replicate hq] at hiq
       rw [List.eq_of_mem_replicate hiq]
       exact .bot
      simpa using hf'.rvs.append h2
     ·have hv : v ∈ vs ++ sp := by simpa using hv
      rcases List.mem_append.1 hv with hv | hv
      ·exact hf.one v hv
      ·exact hsp v hv
    ·simp only [G'] at hb'
     rw [upd_other _ _ e1] at hb'
     have hold : ∃ rows0, lb cx.base out loc k = some rows0 ∧ (rows0 = rows ∨ CvRs (TsTo t (cx.base + s) sz es) rows0 rows) := by
      by_cases hkb : k < cx.base
      ·refine ⟨rows, ?_, .inl rfl⟩
       simp only at hk'
       rw [lb_out hkb] at hk' ⊢
       exact hk'
      ·have hkk : k = cx.base + (k - cx.base) := by omega
       simp only at hk'
       rw [hkk, lb_at] at hk' ⊢
       rw [lk_cons, if_neg (by omega)] at hk'
       rcases hb.at (k - cx.base) with ⟨_, h2⟩ | ⟨r0, r', h1, h2, h3⟩
       ·rw [h2] at hk'; cases hk'
       ·rw [h2] at hk'
        cases hk'
        exact ⟨r0, h1, .inr h3⟩
     obtain ⟨rows0, h1, h2⟩ := hold
     obtain ⟨g1, cs', e', g2, g3, g4, g5⟩ := hm.box k rows0 b z h1 hb'
     refine ⟨by simp only [G', G1, Gh.setKind]; rw [upd_other _ _ (hnb hb')]; exact g1, cs', e', g2, ?_, ?_, g5⟩
     ·rcases h2 with rfl | h2
      ·exact g3
      ·intro q hq
       obtain ⟨i, hi, rfl⟩ := List.getElem_of_mem hq
       have hi0 : i < rows0.length := by rw [h2.1]; exact hi
       rw [← (h2.2 i hi0 hi).1]
       exact g3 _ (List.getElem_mem _)
     ·rcases h2 with rfl | h2
      ·exact g4.mono hle
      ·exact ⟨h2.flat.1.symm.trans g4.1, fun i k1 k2 => hto _ _ _ (h2.flat.2 i (by rw [h2.flat.1]; exact k1) k1) (g4.2 i _ k2)⟩
   case nobox =>
    intro k hk'
    have hne : k ≠ cx.base + s := fun e => by subst e; simp [lb_at, lk_cons] at hk'
    simp only [G']
    rw [upd_other _ _ hne]
    refine hm.nobox k ?_
    simp only at hk' ⊢
    by_cases hkb : k < cx.base
    ·rw [lb_out hkb] at hk' ⊢; exact hk'
    ·have hkk : k = cx.base + (k - cx.base) := by omega
     rw [hkk, lb_at] at hk' ⊢
     rw [lk_cons, if_neg (by omega)] at hk'
     rcases hb.at (k - cx.base) with ⟨h1, _⟩ | ⟨r0, r', _, h2, _⟩
     ·exact h1
     ·rw [h2] at hk'; cases hk'
   case inj =>
    intro j j' b z z' hj hj'
    simp only [G'] at hj hj'
    by_cases e1 : j = cx.base + s <;> by_cases e2 : j' = cx.base + s
    ·exact e1.trans e2.symm
    ·subst e1
     rw [upd_same] at hj; rw [upd_other _ _ e2] at hj'
     cases hj
     exact absurd rfl (hnb hj')
    ·subst e2
     rw [upd_same] at hj'; rw [upd_other _ _ e1] at hj
     cases hj'
     exact absurd rfl (hnb hj)
    ·rw [upd_other _ _ e1] at hj; rw [upd_other _ _ e2] at hj'
     exact hm.inj j j' b z z' hj hj'
   case nb =>
    intro k hk'
    have h0 := hm.nb k hk'
    simp only at h0 ⊢
    have hkb : ¬ k < cx.base := by simp only at hk'; omega
    have hkk : k = cx.base + (k - cx.base) := by omega
    rw [hkk, lb_at] at h0 ⊢
    rw [lk_cons, if_neg (by simp only at hk'; omega)]
    rcases hb.at (k - cx.base) with ⟨_, h2⟩ | ⟨r0, r', h1, _, _⟩
    ·exact h2
    ·rw [h1] at h0; cases h0
   case nt => exact hm1.nt
   case toks => exact hm1.toks
   case tokb => exact hm1.tokb
   case tinj => exact hm1.tinj
   case tnt => exact hm1.tnt
   case fresh => exact hm1.fresh
  ·refine hL.step ⟨hle, fun k hkb hg => ⟨?_, ?_⟩⟩
   ·simp only [G']; rw [upd_other _ _ (by omega)]; exact hg
   ·simp only; rw [lb_out hkb, lb_out hkb]
theorem AL.thawS {cx : Cx} {nt0 nt : Nat} {K : Exit → AState → Prop} {q : List CI} {x : Code} {l l' : List (Nat × AV)} {out : Bxs} {loc loc' : List (Nat × List (List AV))} {tok : Nat → Bool} (t s sz : Nat) (es : List (List D)) (r : Nat)
  (hn : cx.nb = cx.base + cx.n) (hs : s < cx.n) (hk : lk loc s = none) (ht : tok t = true) (hne : es ≠ []) (hr : tl l r = .stk t sz es)
  (hl : CvL (TsTo t (cx.base + s) sz es) l l') (hb : CvB (TsTo t (cx.base + s) sz es) loc loc')
  (h : ∀ m, AL P cx nt0 K (.c x :: q) ⟨tl l', lb cx.base out ((s, rowsD es ++ List.replicate m (List.replicate sz .bot)) :: loc'), upd tok t false, nt⟩) : AL P cx nt0 K (.c x :: q) ⟨tl l, lb cx.base out loc, tok, nt⟩ := by
 simp only [AL] at h ⊢
 exact AT.thawS t s sz es r hn hs hk ht hne hr hl hb h
section
variable {t k sz : Nat} {es : List (List D)}
@[simp] theorem tsTo_bot (x : AV) : TsTo t k sz es x .bot := .bot
@[simp] theorem tsTo_same (x : AV) : TsTo t k sz es x x := .same
@[simp] theorem tsTo_stk {n : Nat} : TsTo t k sz es (.stk t sz es) (.msl k 0 n sz) ↔ n = es.length := ⟨fun h => by cases h; rfl, fun h => by subst h; exact .stk⟩
end
end Go.AM
namespace Go.AM
open Go
variable {P : Program}
theorem FlatV.of_rvs {G : Gh} {w : World} {sz : Nat} : ∀ {es : List (List D)} {vs : List Value}, (∀ e ∈ es, e.length = sz) → RVs G w (es.flatten.map AV.d) vs → (∀ v ∈ vs, v.oneCell' = true) → FlatV w.cell? G.ps sz es vs
 | [], vs, _, h, _ => by
  have hv : vs = [] := List.eq_nil_of_length_eq_zero (by have := h.1; simpa using this.symm)
  subst hv
  exact FlatV.none_ _ _ _
 | e :: es, vs, hs, h, h1 => by
  have he := hs e (by simp)
  rw [List.flatten_cons, List.map_append] at h
  have hl := h.1
  rw [List.length_append, List.length_map, List.length_map] at hl
  have ha := h.take e.length
  have hb := h.drop e.length
  rw [List.take_append_of_le_length (by simp), List.take_of_length_le (by simp)] at ha
  rw [List.drop_append, List.drop_of_length_le (by simp), List.nil_append, List.length_map, Nat.sub_self, List.drop_zero] at hb
  have f1 : FlatV w.cell? G.ps sz [e] (vs.take e.length) := by
   refine ⟨by rw [List.length_take]; simp; omega, fun u hu => h1 u (List.mem_of_mem_take hu), fun q hq => by simp at hq; rw [hq]; exact he, fun i j hi hj => ?_⟩
   have hi0 : i = 0 := by simp at hi; omega
   subst hi0
   simp only [List.getElem_cons_zero] at hj ⊢
   have hj2 : j < (vs.take e.length).length := by rw [List.length_take]; omega
   have h3 := ha.2 j (by simpa using hj) hj2
   simp only [List.getElem_map] at h3
   refine ⟨(vs.take e.length)[j], by rw [Nat.zero_mul, Nat.zero_add]; exact List.getElem?_eq_getElem hj2, ?_⟩
   cases h3 with
   | d h4 => exact h4
  have f2 := FlatV.of_rvs (fun q hq => hs q (by simp [hq])) hb (fun v hv => h1 v (List.mem_of_mem_drop hv))
  have := f1.append f2
  rw [List.take_append_drop] at this
  exact this
inductive SpTo (k sz : Nat) (es : List (List D)) : AV → AV → Prop
 | bot {x} : SpTo k sz es x .bot
 | same {x} (h : OkIn (· ≠ k) (fun _ => True) x) : SpTo k sz es x x
 | msl : SpTo k sz es (.msl k 0 es.length sz) (.d (.sl sz es))
theorem Trans.sealD {cx : Cx} {nt0 nt : Nat} {l l' : List (Nat × AV)} {out : Bxs} {loc loc' : List (Nat × List (List AV))} {tok : Nat → Bool} (s sz : Nat) (es : List (List D)) (rest : List (List AV)) (r : Nat)
  (ho : out = cx.B0) (hsz : ∀ e ∈ es, e.length = sz) (hr : tl l r = .msl (cx.base + s) 0 es.length sz) (hk' : lk loc' s = none)
  (hl : CvL (SpTo (cx.base + s) sz es) l l') (hb : CvB (SpTo (cx.base + s) sz es) loc loc') :
  Trans cx nt0 ⟨tl l, lb cx.base out ((s, rowsD es ++ rest) :: loc), tok, nt⟩ ⟨tl l', lb cx.base out loc', tok, nt⟩ := by
 intro G0 w0 G a w he hn0 hS hL
 have hm := hS.mem
 have hgnt : G.nt = nt := hm.nt
 have hwit := hS.tmps r
 simp only at hwit
 rw [hr] at hwit
 obtain ⟨b, hbk⟩ : ∃ b, G.bx (cx.base + s) = some (b, sz) := by
  generalize hq : (AV.msl (cx.base + s) 0 es.length sz) = q at hwit
  generalize a.tmps.getD r undef = v0 at hwit
  cases hwit with
  | msl h1 h2 h3 => cases hq; exact ⟨_, h1⟩
  | _ => cases hq
 have hboxk : lb cx.base out ((s, rowsD es ++ rest) :: loc) (cx.base + s) = some (rowsD es ++ rest) := by rw [lb_at, lk_cons, if_pos rfl]
 obtain ⟨hkind, cs, e, hheap, hrows, hR, hone⟩ := hm.box _ _ b sz hboxk hbk
 let G1 : Gh := { bx := G.bx, kind := upd G.kind b .whole, tk := G.tk, nt := G.nt }
 let G' : Gh := { bx := upd G.bx (cx.base + s) none, kind := upd G.kind b .whole, tk := G.tk, nt := G.nt }
 have hne : ∀ {q j}, G.tk q = some (some j) → j ≠ b := fun h e => by
  obtain ⟨f, cur, e', h1, _⟩ := hm.tokb _ _ h
  rw [e, hkind] at h1; rcases h1 with h1 | h1 <;> cases h1
 have hle : Le G w G1 w := by
  refine ⟨rfl, rfl, rfl, Nat.le_refl _, fun b' _ hb' => ⟨?_, rfl⟩, fun b' f c hb' => ⟨⟨f, Nat.le_refl _, ?_⟩, fun _ _ _ => rfl⟩, fun k x hk => hk, Nat.le_refl _, fun q hq => ?_, fun _ _ _ _ h => ⟨_, _, h⟩⟩
  ·simp only [G1]; rw [upd_other _ _ (fun e => by rw [e, hkind] at hb'; cases hb')]; exact hb'
  ·simp only [G1]; rw [upd_other _ _ (fun e => by rw [e, hkind] at hb'; cases hb')]; exact hb'
  ·refine .inr ⟨rfl, fun j hj => ⟨?_, fun _ => rfl⟩⟩
   simp only [G1]; exact upd_other _ _ (hne hj)
 have hcells : ∀ (q : Addr) (u : Value), G.ps q → w.cell? q = some u → G'.ps q ∧ w.cell? q = some u := fun q u h1 h2 => hle.cells q u h1 h2
 -- what does not speak of the box
 have hok : ∀ {x : AV} {v : Value}, OkIn (· ≠ cx.base + s) (fun _ => True) x → RV G w x v → RV G' w x v := by
  intro x v hx h
  have h1 := h.mono hle
  clear h
  induction h1 with
  | bot => exact .bot
  | d h2 => exact .d h2
  | osl h2 h3 => exact .osl h2 h3
  | ptr h2 => cases hx with | ptr hp => exact .ptr (by simp only [G']; rw [upd_other _ _ hp]; exact h2)
  | buf h2 h3 h4 h5 => exact .buf h2 h3 h4 h5
  | here h2 h3 => cases hx with | here hp => exact .here (by simp only [G']; rw [upd_other _ _ hp]; exact h2) h3
  | cptr q u hc hr => exact .cptr q u hc hr
  | msl h2 h3 h4 => cases hx with | msl hp => exact .msl (by simp only [G']; rw [upd_other _ _ hp]; exact h2) h3 h4
  | fn hl _ ih => cases hx with | fn hp => exact .fn hl fun i h1 h2 => ih i h1 h2 (hp _ (List.getElem_mem h1))
  | agg hl _ hone ih => cases hx with | agg hp => exact .agg hl (fun i h1 h2 => ih i h1 h2 (hp _ (List.getElem_mem h1))) hone
  | tup hl _ ih => cases hx with | tup hp => exact .tup hl fun i h1 h2 => ih i h1 h2 (hp _ (List.getElem_mem h1))
  | ex h2 => exact .ex h2
  | stk h2 => exact .stk h2
 have hto : ∀ x y v, SpTo (cx.base + s) sz es x y → RV G w x v → RV G' w y v := by
  intro x y v hxy h
  cases hxy with
  | bot => exact .bot
  | same h1 => exact hok h1 h
  | msl =>
   generalize hq : (AV.msl (cx.base + s) 0 es.length sz) = q at h
   cases h with
   | msl h1 h2 h3 =>
    cases hq
    rw [hbk] at h1
    cases h1
    rw [List.flatten_append, rowsD_flat] at hR
    have hR1 := hR.take (es.flatten.map AV.d).length
    rw [List.take_append_of_le_length (Nat.le_refl _), List.take_length] at hR1
    have hfv := FlatV.of_rvs hsz hR1 (fun v hv => hone v (List.mem_of_mem_take hv))
    refine .d (RVd.of_flat h2 h3 ⟨hfv.len, fun a ha q u hq => ?_, hfv.one, fun _ => ⟨_, rfl⟩, hfv.each, fun i j hi hj => ?_⟩)
    ·cases ha
     rw [add_none]
     refine ⟨by simp [Gh.ps, G', upd_same], ?_⟩
     rw [cell_of_row w b _ _ e (0, 0) hheap]
     obtain ⟨hlt, rfl⟩ := List.getElem?_eq_some_iff.1 hq
     rw [List.getElem_take]
     have hl2 : q < cs.size := by rw [List.length_take] at hlt; simp at hlt; omega
     have e0 : 0 * sz + q = q := by omega
     rw [e0]
     simp [hl2]
    ·obtain ⟨u, hu, hr⟩ := hfv.read i j hi hj
     exact ⟨u, hu, hr.mono hcells⟩
   | _ => cases hq
 have hRVs : ∀ {xs ys : List AV} {vs : List Value}, CvR (SpTo (cx.base + s) sz es) xs ys → RVs G w xs vs → RVs G' w ys vs := fun h hr => ⟨h.1.symm.trans hr.1, fun i h1 h2 => hto _ _ _ (h.2 i (by rw [h.1]; exact h1) h1) (hr.2 i _ h2)⟩
 refine ⟨G', ⟨hS.defers, hS.size, fun i => hto _ _ _ (hl.at .bot i) (hS.tmps i), ?_⟩, ?_, ?_⟩
 ·constructor
  case box =>
   intro k rows b' z hk hb'
   have e1 : k ≠ cx.base + s := fun e => by
    subst e
    simp only at hk
    rw [lb_at, hk'] at hk; cases hk
   simp only [G'] at hb'
   rw [upd_other _ _ e1] at hb'
   have hbne : b' ≠ b := fun e => by subst e; exact e1 (hm.inj _ _ _ _ _ hb' hbk)
   by_cases hkb : k < cx.base
   ·simp only at hk
    rw [lb_out hkb] at hk
    obtain ⟨g1, cs', e', g2, g3, g4, g5⟩ := hm.box k rows b' z (by simp only; rw [lb_out hkb]; exact hk) hb'
    refine ⟨by simp only [G']; rw [upd_other _ _ hbne]; exact g1, cs', e', g2, g3, ⟨g4.1, fun i h1 h2 => ?_⟩, g5⟩
    have hmem : rows.flatten[i] ∈ rows.flatten := List.getElem_mem _
    obtain ⟨q, hq, hxq⟩ := List.mem_flatten.1 hmem
    have hG0 : G0.bx k ≠ none := by rw [← hL.1.bx k hkb, hb']; simp
    have := he k rows hkb (by rw [← ho]; exact hk) hG0 q hq _ hxq
    exact hok (this.imp (fun j hj => by omega) fun _ _ => trivial) (g4.2 i h1 h2)
   ·have hkk : k = cx.base + (k - cx.base) := by omega
    simp only at hk
    rw [hkk, lb_at] at hk
    rcases hb.at (k - cx.base) with ⟨_, h2⟩ | ⟨r0, r', h1, h2, h3⟩
    ·rw [h2] at hk; cases hk
    ·rw [h2] at hk
     cases hk
     obtain ⟨g1, cs', e', g2, g3, g4, g5⟩ := hm.box k r0 b' z (by simp only; rw [hkk, lb_at, lk_cons, if_neg (by omega)]; exact h1) hb'
     refine ⟨by simp only [G']; rw [upd_other _ _ hbne]; exact g1, cs', e', g2, fun q hq => ?_, hRVs h3.flat g4, g5⟩
     obtain ⟨i, hi, rfl⟩ := List.getElem_of_mem hq
     have hi0 : i < r0.length := by rw [h3.1]; exact hi
     rw [← (h3.2 i hi0 hi).1]
     exact g3 _ (List.getElem_mem _)
  case nobox =>
   intro k hk
   simp only [G']
   by_cases e1 : k = cx.base + s
   ·subst e1; simp [upd_same]
   ·rw [upd_other _ _ e1]
    refine hm.nobox k ?_
    simp only at hk ⊢
    by_cases hkb : k < cx.base
    ·rw [lb_out hkb] at hk ⊢; exact hk
    ·have hkk : k = cx.base + (k - cx.base) := by omega
     rw [hkk, lb_at] at hk ⊢
     rw [lk_cons, if_neg (by omega)]
     rcases hb.at (k - cx.base) with ⟨h1, _⟩ | ⟨r0, r', _, h2, _⟩
     ·exact h1
     ·rw [h2] at hk; cases hk
  case inj =>
   intro j j' b' z z' hj hj'
   simp only [G'] at hj hj'
   by_cases e1 : j = cx.base + s
   ·subst e1; simp [upd_same] at hj
   ·by_cases e2 : j' = cx.base + s
    ·subst e2; simp [upd_same] at hj'
    ·rw [upd_other _ _ e1] at hj; rw [upd_other _ _ e2] at hj'
     exact hm.inj j j' b' z z' hj hj'
  case nb =>
   intro k hk
   have h0 := hm.nb k hk
   simp only at h0 ⊢
   by_cases hkb : k < cx.base
   ·rw [lb_out hkb] at h0 ⊢; exact h0
   ·have hkk : k = cx.base + (k - cx.base) := by omega
    rw [hkk, lb_at] at h0 ⊢
    by_cases e1 : k - cx.base = s
    ·rw [e1]; exact hk'
    ·rw [lk_cons, if_neg e1] at h0
     rcases hb.at (k - cx.base) with ⟨_, h2⟩ | ⟨r0, r', h1, _, _⟩
     ·exact h2
     ·rw [h1] at h0; cases h0
  case nt => exact hm.nt
  case toks => exact hm.toks
  case tokb =>
   intro q j hq
   obtain ⟨f, cur, e', g1, g2⟩ := hm.tokb q j hq
   refine ⟨f, cur, e', ?_, g2⟩
   simp only [G']
   rw [upd_other _ _ (hne hq)]
   exact g1
  case tinj => exact hm.tinj
  case tnt => exact hm.tnt
  case fresh =>
   intro b' hb'
   have := heap_lt hheap
   simp only [G']
   rw [upd_other _ _ (by omega)]
   exact hm.fresh b' hb'
 ·refine hL.1.trans ⟨rfl, rfl, rfl, Nat.le_refl _, hle.whole, hle.part, fun k hk => ?_, hle.nt, hle.tk, hle.ty⟩
  simp only [G']
  exact upd_other _ _ (by omega)
 ·intro k hkb hg
  have := hL.2 k hkb hg
  simp only at this ⊢
  rw [lb_out hkb] at this ⊢
  exact this
section
variable {k sz : Nat} {es : List (List D)}
@[simp] theorem spTo_bot (x : AV) : SpTo k sz es x .bot := .bot
@[simp] theorem spTo_d (x : D) : SpTo k sz es (.d x) (.d x) := .same .d
@[simp] theorem spTo_osl (n : Nat) (xs : List (List D)) (o : Own) : SpTo k sz es (.osl n xs o) (.osl n xs o) := .same (.osl fun _ _ => trivial)
@[simp] theorem spTo_msl : SpTo k sz es (.msl k 0 es.length sz) (.d (.sl sz es)) := .msl
end
end Go.AM
namespace Go.AM
open Go
def enumL (ok : List Int → Nat → Bool) (m : Nat) : Nat → List Int → List (List Int)
 | 0, L => [L]
 | r + 1, L => (List.range m).flatMap fun k => if ok L k = true then enumL ok m r (L ++ [(k : Int)]) else []
theorem take_app {α : Type} (n : Nat) (a b : List α) : ((a.take n) ++ b).take n = (a ++ b).take n := by
 by_cases h : a.length ≤ n
 ·rw [List.take_of_length_le h]
 ·rw [List.take_append_of_le_length (by simp; omega), List.take_append_of_le_length (by omega), List.take_take, Nat.min_self]
theorem fold_take {α β : Type} (most : Nat) (g : List β → α → List β) (f : α → List β) : ∀ (l : List α) (out : List β), (∀ x ∈ l, ∀ out, out.length ≤ most → g out x = (out ++ f x).take most) → out.length ≤ most →
  l.foldl g out = (out ++ l.flatMap f).take most
 | [], out, _, h => by simp [List.take_of_length_le h]
 | x :: l, out, hg, h => by
  rw [List.foldl_cons, hg x (by simp) out h, fold_take most g f l _ (fun y hy => hg y (by simp [hy])) (by simp; omega), take_app, List.flatMap_cons, List.append_assoc]
theorem full_take {β : Type} {most : Nat} {out : List β} (h : out.length = most) (l : List β) : (out ++ l).take most = out := by
 rw [List.take_append_of_le_length (by omega), List.take_of_length_le (by omega)]
def fndE (most : Nat) (ok : List Int → Nat → Bool) (m : Nat) (N : List Int) : Nat → List Int → List Mo → List Mo
 | 0, E, out => if out.length = most then out else out ++ [⟨N, E⟩]
 | r + 1, E, out => if out.length = most then out else (List.range m).foldl (fun out k => if ok E k = true then fndE most ok m N r (E ++ [(k : Int)]) out else out) out
theorem fndE_eq (most : Nat) (ok : List Int → Nat → Bool) (m : Nat) (N : List Int) : ∀ (r : Nat) (E : List Int) (out : List Mo), out.length ≤ most → fndE most ok m N r E out = (out ++ (enumL ok m r E).map (Mo.mk N)).take most
 | 0, E, out, h => by
  unfold fndE
  split
  ·rename_i e; rw [full_take e]
  ·rw [enumL, List.map_cons, List.map_nil, List.take_of_length_le (by simp; omega)]
 | r + 1, E, out, h => by
  unfold fndE
  split
  ·rename_i e; rw [full_take e]
  ·rw [fold_take most _ (fun k => if ok E k = true then (enumL ok m r (E ++ [(k : Int)])).map (Mo.mk N) else []) _ _ (fun k _ out ho => by
    split
    ·exact fndE_eq most ok m N r _ out ho
    ·rw [List.append_nil, List.take_of_length_le ho]) h, enumL, List.map_flatMap]
   refine congrArg (fun f => (out ++ List.flatMap f (List.range m)).take most) (funext fun k => ?_)
   split <;> simp
def fndN (most : Nat) (okN pos : List Int → Nat → Bool) (mn : Nat) (okE : List Int → List Int → Nat → Bool) (me re : Nat) : Nat → List Int → List Mo → List Mo
 | 0, N, out => fndE most (okE N) me N re [] out
 | r + 1, N, out => if out.length = most then out else (List.range mn).foldl (fun out k => if okN N k = true then (if pos N k = true then fndN most okN pos mn okE me re r (N ++ [(k : Int)]) out else out) else out) out
def allF (okN : List Int → Nat → Bool) (mn : Nat) (okE : List Int → List Int → Nat → Bool) (me re : Nat) (r : Nat) (N : List Int) : List Mo := (enumL okN mn r N).flatMap fun N => (enumL (okE N) me re []).map (Mo.mk N)
theorem allF_zero (okN : List Int → Nat → Bool) (mn : Nat) (okE : List Int → List Int → Nat → Bool) (me re : Nat) (N : List Int) : allF okN mn okE me re 0 N = (enumL (okE N) me re []).map (Mo.mk N) := by simp [allF, enumL]
theorem allF_succ (okN : List Int → Nat → Bool) (mn : Nat) (okE : List Int → List Int → Nat → Bool) (me re : Nat) (r : Nat) (N : List Int) :
  allF okN mn okE me re (r + 1) N = (List.range mn).flatMap fun k => if okN N k = true then allF okN mn okE me re r (N ++ [(k : Int)]) else [] := by
 unfold allF
 rw [enumL, List.flatMap_assoc]
 congr 1
 funext k
 split <;> simp
theorem fndN_eq (most : Nat) (okN pos : List Int → Nat → Bool) (mn : Nat) (okE : List Int → List Int → Nat → Bool) (me re : Nat) (P : List Int → Prop) (hP : ∀ N k, P N → k < mn → okN N k = true → P (N ++ [(k : Int)]))
  (hpos : ∀ r N k, P N → okN N k = true → pos N k = false → allF okN mn okE me re r (N ++ [(k : Int)]) = []) : ∀ (r : Nat) (N : List Int) (out : List Mo), P N → out.length ≤ most →
  fndN most okN pos mn okE me re r N out = (out ++ allF okN mn okE me re r N).take most
 | 0, N, out, hN, h => by rw [fndN, fndE_eq _ _ _ _ _ _ _ h, allF_zero]
 | r + 1, N, out, hN, h => by
  rw [fndN, allF_succ]
  split
  ·rename_i e; rw [full_take e]
  ·refine fold_take most _ _ _ _ (fun k hk out ho => ?_) h
   have hk := List.mem_range.1 hk
   cases e : okN N k
   ·simp [List.take_of_length_le ho]
   ·simp only [if_true]
    cases e2 : pos N k
    ·simp only [Bool.false_eq_true, if_false]
     rw [hpos r N k hN e e2, List.append_nil, List.take_of_length_le ho]
    ·simp only [if_true]
     exact fndN_eq most okN pos mn okE me re P hP hpos r _ out (hP N k hN hk e) ho
theorem fndE_len {most : Nat} {ok : List Int → Nat → Bool} {m : Nat} {N : List Int} {r : Nat} {E : List Int} {out : List Mo} (h : out.length ≤ most) : (fndE most ok m N r E out).length ≤ most := by
 rw [fndE_eq _ _ _ _ _ _ _ h]; simp; omega
theorem enumL_mem {ok : List Int → Nat → Bool} {m : Nat} : ∀ {r : Nat} {L x : List Int}, x ∈ enumL ok m r L ↔ ∃ T : List Nat, T.length = r ∧ (∀ k ∈ T, k < m) ∧ x = L ++ T.map (fun (k : Nat) => (k : Int)) ∧ ∀ i (h : i < T.length), ok (L ++ (T.take i).map (fun (k : Nat) => (k : Int))) T[i] = true
 | 0, L, x => by
  rw [enumL, List.mem_singleton]
  constructor
  ·rintro rfl; exact ⟨[], rfl, by simp, by simp, fun i h => by simp at h⟩
  ·rintro ⟨T, h1, _, h2, _⟩
   have : T = [] := List.eq_nil_of_length_eq_zero h1
   subst this
   simpa using h2
 | r + 1, L, x => by
  rw [enumL, List.mem_flatMap]
  constructor
  ·rintro ⟨k, hk, hx⟩
   split at hx
   ·rename_i hok
    obtain ⟨T, h1, h2, rfl, h4⟩ := enumL_mem.1 hx
    refine ⟨k :: T, by simp [h1], fun q hq => ?_, by simp, fun i hi => ?_⟩
    ·rcases List.mem_cons.1 hq with rfl | hq
     ·exact List.mem_range.1 hk
     ·exact h2 q hq
    ·cases i with
     | zero => simpa using hok
     | succ i =>
      have := h4 i (by simpa using hi)
      simpa using this
   ·simp at hx
  ·rintro ⟨T, h1, h2, rfl, h4⟩
   cases T with
   | nil => simp at h1
   | cons k T =>
    refine ⟨k, List.mem_range.2 (h2 k (by simp)), ?_⟩
    have h0 := h4 0 (by simp)
    simp only [List.take_zero, List.map_nil, List.append_nil, List.getElem_cons_zero] at h0
    rw [if_pos h0]
    refine enumL_mem.2 ⟨T, by simpa using h1, fun q hq => h2 q (by simp [hq]), by simp, fun i hi => ?_⟩
    have := h4 (i + 1) (by simpa using hi)
    simpa using this
end Go.AM
