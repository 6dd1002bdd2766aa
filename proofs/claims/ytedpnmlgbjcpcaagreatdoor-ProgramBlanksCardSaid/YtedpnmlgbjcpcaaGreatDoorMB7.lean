/-
  Parts of the proof, as merged from many texts: a machine over data, what the functions compute, plain laws.
-/
import Derived.Test.YtedpnmlgbjcpcaaGreatDoorMB6
import Derived.Sort.KeysCollected
import Derived.Maps.RangeWalk
import Derived.Maps.OwnOps
import Derived.Maps.OwnSet
set_option linter.unusedSimpArgs false
set_option linter.unusedVariables false
namespace Go.AM
open Go Go.Proofs
structure Xp where
  b : Cm
  n : Int
abbrev Xp.cells (x : Xp) : List D := [.raw (.int .i64 x.b.kind), .raw (.string x.b.name), .raw (.int .i64 x.b.num), cms x.b.kids, .raw (.int .i64 x.n)]
abbrev xps (l : List Xp) : D := .sl 5 (l.map Xp.cells)
abbrev Xp.row (x : Xp) : List AV := [I x.b.kind, Sb x.b.name, I x.b.num, .d (cms x.b.kids), I x.n]
abbrev Xp.av (x : Xp) : AV := .agg x.row
structure Xa where
  l : List Cm
  n : Int
def xStep (sq : Bool) (a : Xa) (x : Xp) : Xa := if (sq && x.b.kind == 2) = true then ⟨a.l ++ x.b.kids, a.n + (x.n - 1)⟩ else ⟨a.l ++ [x.b], a.n + x.n⟩
mutual
def expC (p : List Pr) (kn : List Xp) : Cm → Xp × Bool
  | .mk k s n c => if k = 10 then (kn.getD (placeR p s).toNat ⟨zC, 0⟩, decide ((kn.getD (placeR p s).toNat ⟨zC, 0⟩).n ≤ 200))
    else (⟨.mk k s n (expL p kn (k == 2) c ⟨[], 1⟩).1.l, (expL p kn (k == 2) c ⟨[], 1⟩).1.n⟩, (expL p kn (k == 2) c ⟨[], 1⟩).2)
def expL (p : List Pr) (kn : List Xp) (sq : Bool) : List Cm → Xa → Xa × Bool
  | [], a => (a, true)
  | x :: r, a => if (expC p kn x).2 = false then (a, false) else if 200 < (xStep sq a (expC p kn x).1).n then (xStep sq a (expC p kn x).1, false) else expL p kn sq r (xStep sq a (expC p kn x).1)
end
theorem expC_eq (p : List Pr) (kn : List Xp) (c : Cm) : expC p kn c = if c.kind = 10 then (kn.getD (placeR p c.name).toNat ⟨zC, 0⟩, decide ((kn.getD (placeR p c.name).toNat ⟨zC, 0⟩).n ≤ 200))
    else (⟨.mk c.kind c.name c.num (expL p kn (c.kind == 2) c.kids ⟨[], 1⟩).1.l, (expL p kn (c.kind == 2) c.kids ⟨[], 1⟩).1.n⟩, (expL p kn (c.kind == 2) c.kids ⟨[], 1⟩).2) := by
  cases c
  rw [expC]
  rfl
inductive CallsOk (p : List Pr) (at' : Nat) : Cm → Prop
  | mk {c : Cm} (h : c.kind = 10 → 0 ≤ placeR p c.name ∧ placeR p c.name < at') (hk : ∀ x ∈ c.kids, CallsOk p at' x) : CallsOk p at' c
theorem CallsOk.call {p : List Pr} {at' : Nat} {c : Cm} (h : CallsOk p at' c) : c.kind = 10 → 0 ≤ placeR p c.name ∧ placeR p c.name < at' := by cases h; assumption
theorem CallsOk.kid {p : List Pr} {at' : Nat} {c : Cm} (h : CallsOk p at' c) : ∀ x ∈ c.kids, CallsOk p at' x := by cases h; assumption
structure KnOk (kn : List Xp) : Prop where
  r : ∀ x ∈ kn, 0 ≤ x.n ∧ x.n ≤ 201
  s : ∀ x ∈ kn, x.n ≤ 200 → (x.b.size : Int) = x.n
  m : ∀ x ∈ kn, x.b.Sm
theorem KnOk.get {kn : List Xp} (h : KnOk kn) {i : Nat} (hi : i < kn.length) : kn.getD i ⟨zC, 0⟩ ∈ kn := by
  rw [List.getD_eq_getElem?_getD, List.getElem?_eq_getElem hi]
  exact List.getElem_mem hi
theorem xStep_ok {sq : Bool} {a : Xa} {x : Xp} (ha : (1 + (Cm.sizeL a.l : Int)) = a.n) (hx : (x.b.size : Int) = x.n) : (1 + (Cm.sizeL (xStep sq a x).l : Int)) = (xStep sq a x).n := by
  unfold xStep
  split
  · have := x.b.size_eq
    simp only [Cm.sizeL_app]
    omega
  · simp only [Cm.sizeL_app, Cm.sizeL]
    omega
theorem xStep_sm {sq : Bool} {a : Xa} {x : Xp} (ha : ∀ c ∈ a.l, c.Sm) (hx : x.b.Sm) : ∀ c ∈ (xStep sq a x).l, c.Sm := by
  unfold xStep
  split
  · intro c hc
    rcases List.mem_append.1 hc with hc | hc
    · exact ha c hc
    · exact hx.kid c hc
  · exact sm_snoc ha hx
theorem exp_ok (p : List Pr) (kn : List Xp) (hk : KnOk kn) : ∀ (n : Nat) (c : Cm), c.size < n → c.Sm → CallsOk p kn.length c →
    0 ≤ (expC p kn c).1.n ∧ ((expC p kn c).2 = true → ((expC p kn c).1.b.size : Int) = (expC p kn c).1.n ∧ (expC p kn c).1.n ≤ 200 ∧ (expC p kn c).1.b.Sm)
  | 0, c, h, _, _ => absurd h (Nat.not_lt_zero _)
  | n + 1, c, h, hs, hcl => by
    have key : ∀ (sq : Bool) (l : List Cm) (a : Xa), (∀ x ∈ l, x.size < n ∧ x.Sm ∧ CallsOk p kn.length x) → (1 + (Cm.sizeL a.l : Int)) = a.n → a.n ≤ 200 → (∀ c ∈ a.l, c.Sm) →
        0 ≤ (expL p kn sq l a).1.n ∧ ((expL p kn sq l a).2 = true → (1 + (Cm.sizeL (expL p kn sq l a).1.l : Int)) = (expL p kn sq l a).1.n ∧ (expL p kn sq l a).1.n ≤ 200 ∧ ∀ c ∈ (expL p kn sq l a).1.l, c.Sm) := by
      intro sq l
      induction l with
      | nil => intro a _ h1 h2 h3; simp only [expL]; exact ⟨by omega, fun _ => ⟨h1, h2, h3⟩⟩
      | cons x r ih =>
        intro a hx h1 h2 h3
        obtain ⟨x1, x2, x3⟩ := hx x (by simp)
        obtain ⟨e1, e2⟩ := exp_ok p kn hk n x x1 x2 x3
        rw [expL]
        split
        · exact ⟨by simp only; omega, fun h => by cases h⟩
        · rename_i hok
          have hok' : (expC p kn x).2 = true := by simpa using hok
          obtain ⟨f1, f2, f3⟩ := e2 hok'
          have g1 := xStep_ok (sq := sq) h1 f1
          split
          · exact ⟨by simp only; omega, fun h => by cases h⟩
          · exact ih _ (fun y hy => hx y (by simp [hy])) g1 (by omega) (xStep_sm h3 f3)
    rw [expC_eq]
    split
    · rename_i h10
      have hp := hcl.call h10
      have hm := hk.get (i := (placeR p c.name).toNat) (by omega)
      refine ⟨(hk.r _ hm).1, fun h => ?_⟩
      have h2 : (kn.getD (placeR p c.name).toNat ⟨zC, 0⟩).n ≤ 200 := by simpa using h
      exact ⟨hk.s _ hm h2, h2, hk.m _ hm⟩
    · have hk2 := key (c.kind == 2) c.kids ⟨[], 1⟩ (fun x hx => ⟨by have := Cm.kid_size hx; omega, hs.kid x hx, hcl.kid x hx⟩) (by simp [Cm.sizeL]) (by simp) (by simp)
      generalize expL p kn (c.kind == 2) c.kids ⟨[], 1⟩ = E at *
      refine ⟨hk2.1, fun h => ?_⟩
      obtain ⟨k1, k2, k3⟩ := hk2.2 h
      have hl := Cm.len_le E.1.l
      have hz := mk_size c.kind c.num c.name E.1.l
      refine ⟨?_, k2, .mk hs.name (by show E.1.l.length ≤ _; omega) k3⟩
      show ((Cm.mk c.kind c.name c.num E.1.l).size : Int) = E.1.n
      omega
theorem expL_ok (p : List Pr) (kn : List Xp) (hk : KnOk kn) (sq : Bool) : ∀ (l : List Cm) (a : Xa), (∀ x ∈ l, x.Sm ∧ CallsOk p kn.length x) → (1 + (Cm.sizeL a.l : Int)) = a.n → a.n ≤ 200 → (∀ c ∈ a.l, c.Sm) →
    (expL p kn sq l a).2 = true → (1 + (Cm.sizeL (expL p kn sq l a).1.l : Int)) = (expL p kn sq l a).1.n ∧ (expL p kn sq l a).1.n ≤ 200 ∧ ∀ c ∈ (expL p kn sq l a).1.l, c.Sm
  | [], a, _, h1, h2, h3, _ => by simp only [expL]; exact ⟨h1, h2, h3⟩
  | x :: r, a, hx, h1, h2, h3, ht => by
    obtain ⟨x2, x3⟩ := hx x (by simp)
    obtain ⟨e1, e2⟩ := exp_ok p kn hk _ x (Nat.lt_succ_self _) x2 x3
    rw [expL] at ht ⊢
    by_cases g1 : (expC p kn x).2 = false
    · rw [if_pos g1] at ht; cases ht
    · rw [if_neg g1] at ht ⊢
      obtain ⟨f1, f2, f3⟩ := e2 (by simpa using g1)
      by_cases g2 : 200 < (xStep sq a (expC p kn x).1).n
      · rw [if_pos g2] at ht; cases ht
      · rw [if_neg g2] at ht ⊢
        exact expL_ok p kn hk sq r _ (fun y hy => hx y (by simp [hy])) (xStep_ok h1 f1) (by omega) (xStep_sm h3 f3) ht
theorem expL_snoc {p : List Pr} {kn : List Xp} {sq : Bool} : ∀ {l k : List Cm} {a b : Xa}, expL p kn sq l a = (b, true) → expL p kn sq (l ++ k) a = expL p kn sq k b
  | [], k, a, b, h => by
    rw [expL] at h
    injection h with h
    rw [List.nil_append, h]
  | x :: r, k, a, b, h => by
    rw [List.cons_append, expL]
    rw [expL] at h
    by_cases g1 : (expC p kn x).2 = false
    · rw [if_pos g1] at h; injection h with _ h; cases h
    · rw [if_neg g1] at h ⊢
      by_cases g2 : 200 < (xStep sq a (expC p kn x).1).n
      · rw [if_pos g2] at h; injection h with _ h; cases h
      · rw [if_neg g2] at h ⊢
        exact expL_snoc h
theorem expL_at {p : List Pr} {kn : List Xp} {sq : Bool} {l : List Cm} {a b : Xa} {i : Nat} (h : i < l.length) (ht : expL p kn sq (l.take i) a = (b, true)) :
    expL p kn sq l a = (if (expC p kn l[i]).2 = false then (b, false) else if 200 < (xStep sq b (expC p kn l[i]).1).n then (xStep sq b (expC p kn l[i]).1, false) else expL p kn sq (l.drop (i + 1)) (xStep sq b (expC p kn l[i]).1)) := by
  have h1 := expL_snoc (k := l.drop i) ht
  rw [List.take_append_drop] at h1
  rw [h1, List.drop_eq_getElem_cons h, expL]
theorem expL_more {p : List Pr} {kn : List Xp} {sq : Bool} {l : List Cm} {a b : Xa} {i : Nat} (h : i < l.length) (ht : expL p kn sq (l.take i) a = (b, true)) (h1 : ¬ (expC p kn l[i]).2 = false) (h2 : ¬ 200 < (xStep sq b (expC p kn l[i]).1).n) :
    expL p kn sq (l.take (i + 1)) a = (xStep sq b (expC p kn l[i]).1, true) := by
  rw [List.take_succ_eq_append_getElem h, expL_snoc ht, expL, if_neg h1, if_neg h2, expL]
def knStep (p : List Pr) (kn : List Xp) (q : Pr) : List Xp := kn ++ [if (expC p kn q.body).2 = true then (expC p kn q.body).1 else ⟨zC, 201⟩]
def knR (p : List Pr) (n : Nat) : List Xp := (p.take n).foldl (knStep p) []
theorem knR_succ {p : List Pr} {n : Nat} (h : n < p.length) : knR p (n + 1) = knStep p (knR p n) p[n] := by
  simp only [knR, List.take_succ_eq_append_getElem h, List.foldl_append, List.foldl_cons, List.foldl_nil]
def ValidP (p : List Pr) : Prop := ∀ i (h : i < p.length), CallsOk p i p[i].body
theorem knR_ok {p : List Pr} (hp : PrsOk p) (hv : ValidP p) : ∀ n, n ≤ p.length → (knR p n).length = n ∧ KnOk (knR p n)
  | 0, _ => ⟨rfl, ⟨by simp [knR], by simp [knR], by simp [knR]⟩⟩
  | n + 1, h => by
    obtain ⟨h1, h2⟩ := knR_ok hp hv n (by omega)
    rw [knR_succ (by omega)]
    have hm := List.getElem_mem (show n < p.length by omega)
    have he := exp_ok p (knR p n) h2 _ p[n].body (Nat.lt_succ_self _) (hp.bd _ hm) (by rw [h1]; exact hv n (by omega))
    unfold knStep
    refine ⟨by simp [h1], ⟨fun x hx => ?_, fun x hx hn => ?_, fun x hx => ?_⟩⟩
    all_goals rcases List.mem_append.1 hx with hx | hx
    · exact h2.r x hx
    · simp only [List.mem_singleton] at hx
      subst hx
      split
      · rename_i hok; have := he.2 hok; omega
      · simp
    · exact h2.s x hx hn
    · simp only [List.mem_singleton] at hx
      subst hx
      split
      · rename_i hok; exact (he.2 hok).1
      · rename_i hok; rw [if_neg hok] at hn; simp at hn
    · exact h2.m x hx
    · simp only [List.mem_singleton] at hx
      subst hx
      split
      · rename_i hok; exact (he.2 hok).2.2
      · exact zC_sm
def expandR (p : List Pr) (s : ByteArray) : Cm × Int :=
  if (faultR p [] false).2 ≠ 0 then (zC, (faultR p [] false).2) else if placeR p s < 0 then (zC, 4)
  else if 200 < ((knR p ((placeR p s).toNat + 1)).getD (placeR p s).toNat ⟨zC, 0⟩).n then (zC, 3) else (((knR p ((placeR p s).toNat + 1)).getD (placeR p s).toNat ⟨zC, 0⟩).b, 0)
theorem own_calls {p : List Pr} {rs : List ByteArray} {asked : Bool} {at' : Nat} {c : Cm} (h : ownE p rs asked at' c = 0) : c.kind = 10 → 0 ≤ placeR p c.name ∧ placeR p c.name < at' := by
  intro h10
  unfold ownE at h
  by_cases e1 : okB c = false
  · rw [if_pos e1] at h; cases h
  · rw [if_neg e1, if_neg (show ¬ c.kind = 1 by omega), if_pos h10] at h
    by_cases e2 : nameB c.name = false
    · rw [if_pos e2] at h; cases h
    · rw [if_neg e2] at h
      by_cases e3 : placeR p c.name < 0
      · rw [if_pos e3] at h; cases h
      · rw [if_neg e3] at h
        by_cases e4 : (at' : Int) ≤ placeR p c.name
        · rw [if_pos e4] at h; cases h
        · omega
theorem cmdEL_mem {p : List Pr} {rs : List ByteArray} {asked : Bool} {at' : Nat} : ∀ {l : List Cm}, cmdEL p rs asked at' l = 0 → ∀ x ∈ l, cmdE p rs asked at' x = 0
  | y :: r, h, x, hx => by
    rw [cmdEL] at h
    split at h
    · rename_i h1; exact absurd h h1
    · rename_i h1
      rcases List.mem_cons.1 hx with rfl | hx
      · exact Decidable.not_not.1 h1
      · exact cmdEL_mem h x hx
theorem cmd_calls {p : List Pr} {rs : List ByteArray} {asked : Bool} {at' : Nat} : ∀ (n : Nat) (c : Cm), c.size < n → cmdE p rs asked at' c = 0 → CallsOk p at' c ∧ okB c = true
  | 0, c, h, _ => absurd h (Nat.not_lt_zero _)
  | n + 1, c, h, he => by
    rw [cmdE_eq] at he
    split at he
    · rename_i h1; exact absurd he h1
    · rename_i h1
      have h0 := Decidable.not_not.1 h1
      refine ⟨.mk (own_calls h0) fun x hx => (cmd_calls n x (by have := Cm.kid_size hx; omega) (cmdEL_mem he x hx)).1, ?_⟩
      rcases Bool.eq_false_or_eq_true (okB c) with ho | ho
      · exact ho
      · unfold ownE at h0; rw [if_pos ho] at h0; cases h0
theorem faultL_ok {p : List Pr} {rs : List ByteArray} {asked : Bool} : ∀ {l : List Pr} {i : Nat}, (faultL p rs asked l i).2 = 0 → ∀ j (hj : j < l.length), prE p rs asked (i + j) l[j] = 0
  | q :: r, i, h, j, hj => by
    rw [faultL] at h
    split at h
    · rename_i h1; exact absurd h h1
    · rename_i h1
      cases j with
      | zero => exact Decidable.not_not.1 h1
      | succ j =>
        have := faultL_ok h j (by simpa using hj)
        simp only [List.getElem_cons_succ]
        rw [show i + (j + 1) = i + 1 + j by omega]
        exact this
theorem fault_valid {p : List Pr} {rs : List ByteArray} {asked : Bool} (h : (faultR p rs asked).2 = 0) : ValidP p ∧ p.length ≤ 20 ∧ 1 ≤ p.length ∧ ∀ i (hi : i < p.length), prE p rs asked i p[i] = 0 := by
  unfold faultR at h
  split at h
  · cases h
  · split at h
    · cases h
    · have h2 := fun j hj => faultL_ok h j hj
      have h3 : ∀ i (hi : i < p.length), prE p rs asked i p[i] = 0 := fun i hi => by have := h2 i hi; rwa [Nat.zero_add] at this
      refine ⟨fun i hi => ?_, by omega, by omega, h3⟩
      have h4 := h3 i hi
      unfold prE at h4
      split at h4
      · cases h4
      · split at h4
        · cases h4
        · split at h4
          · cases h4
          · exact (cmd_calls _ p[i].body (Nat.lt_succ_self _) h4).1
theorem placeR_lt (p : List Pr) (s : ByteArray) : placeR p s < 0 ∨ (placeR p s).toNat < p.length := by
  unfold placeR
  split
  · rename_i h
    right
    have : p.findIdx (fun q => decide (q.name = s)) < p.length := List.findIdx_lt_length_of_exists (by simpa [hasP] using h)
    omega
  · left; omega
end Go.AM
namespace Go.AM
open Go Go.Proofs
theorem Cm.kind_mk (k n : Int) (s : ByteArray) (l : List Cm) : (Cm.mk k s n l).kind = k := rfl
theorem Cm.name_mk (k n : Int) (s : ByteArray) (l : List Cm) : (Cm.mk k s n l).name = s := rfl
theorem Cm.num_mk (k n : Int) (s : ByteArray) (l : List Cm) : (Cm.mk k s n l).num = n := rfl
theorem Cm.kids_mk (k n : Int) (s : ByteArray) (l : List Cm) : (Cm.mk k s n l).kids = l := rfl
structure AccX where
  i : Nat
  a : Xa
  own : Own
  tok : Nat → Bool
  nt : Nat
structure XInv (p : List Pr) (kn : List Xp) (c : Cm) (mtok : Nat → Bool) (nt0 : Nat) (x : AccX) : Prop where
  i : x.i ≤ c.kids.length
  e : expL p kn (c.kind == 2) (c.kids.take x.i) ⟨[], 1⟩ = (x.a, true)
  k : TK mtok nt0 x.tok x.nt [x.own]
theorem XInv.of {p : List Pr} {kn : List Xp} {c : Cm} {mtok : Nat → Bool} {nt0 : Nat} {i : Nat} {a : Xa} {own : Own} {tok : Nat → Bool} {nt : Nat} (h1 : i ≤ c.kids.length) (h2 : expL p kn (c.kind == 2) (c.kids.take i) ⟨[], 1⟩ = (a, true)) (h3 : TK mtok nt0 tok nt [own]) :
    XInv p kn c mtok nt0 ⟨i, a, own, tok, nt⟩ := ⟨h1, h2, h3⟩
abbrev zRow5 : List AV := [I 0, Sb ⟨#[]⟩, I 0, nilS, I 0]
def stEx (p : List Pr) (kn : List Xp) (c : Cm) (nb : Nat) (box : Nat → Option (List (List AV))) (x : AccX) : AState :=
  ⟨tl [(37, .d (cms c.kids)), (38, I c.kids.length), (39, I x.i), (9, .ptr (nb + 9) 0 0), (6, .ptr (nb + 6) 0 0), (4, .ptr (nb + 4) 0 0), (3, .ptr (nb + 3) 0 0), (2, .d (xps kn))],
    lb nb box [(9, [[I c.kind, Sb c.name, I c.num, .osl 4 (x.a.l.map Cm.cells) x.own, I x.a.n]]), (4, [c.row]), (3, [[.d (prs p)]]), (6, [zRow5])], x.tok, x.nt⟩
set_option maxRecDepth 100000 in
theorem exp_c (p : List Pr) (kn : List Xp) (hp : p.length ≤ 200000000000000) (hk : KnOk kn) : ∀ (n : Nat) (c : Cm), c.size < n → c.Sm → CallsOk p kn.length c → ∀ (tok : Nat → Bool) (nt : Nat),
    DCall Tryz.prog 60 [prsAv p, c.av, .d (xps kn)] tok nt (.tup [(expC p kn c).1.av, B (expC p kn c).2]) tok nt
  | 0, c, hn, _, _, tok, nt => absurd hn (Nat.not_lt_zero _)
  | n + 1, c, hn, hc, hcl, tok, nt => by
    intro box nb
    have ih := fun x (hx : x ∈ c.kids) => exp_c p kn hp hk n x (by have := Cm.kid_size hx; omega) (hc.kid x hx) (hcl.kid x hx)
    have hpl := placeP_c p c.name hp
    have hl := hc.len
    have hE := expC_eq p kn c
    refine sB Tryz.func60 Tryz.ntmps60 ?_
    intro hbox htok
    simp only at hbox htok
    apply AL.start
    have ht0 := TK.start htok
    try (simp)
    repeat (refine sR ?_; simp)
    by_cases h10 : c.kind = 10
    · rw [if_pos h10] at hE
      have hcc := hcl.call h10
      try (simp [h10])
      repeat (refine sR ?_; simp [h10])
      refine sC ?_
      simp
      try (simp)
      repeat (refine sR ?_; simp)
      generalize placeR p c.name = k at *
      have hlt : k.toNat < kn.length := by omega
      have hlt' : k < kn.length := by omega
      have hgd : kn.getD k.toNat ⟨zC, 0⟩ = kn[k.toNat] := by simp [List.getD_eq_getElem?_getD, hlt]
      rw [hgd] at hE
      refine Stop.of_d (hpl _ _) ?_
      simp [hcc.1, hlt, hlt']
      generalize kn[k.toNat] = X at *
      refine sN ?_
      refine AL.region2 follows_Tryz (Nat.le_refl _) (by kernel_rfl) (Side.of (by simp)) ?_
      simp [lk]
      refine sT ?_
      try simp only [AU]
      refine ⟨by simp, sF hbox htok (fun _ h => h) (Nat.le_refl _) ?_⟩
      simp [packA, hE]
    · rw [if_neg h10] at hE
      have b10 : (c.kind == 10) = false := by simp [h10]
      simp only [b10]
      try (simp)
      repeat (first | (refine sR ?_; simp) | (refine sC ?_; simp) | (refine sX ?_; simp only [AU, ↓reduceIte]))
      refine sN ?_
      obtain ⟨R, hR⟩ : ∃ R, expL p kn (c.kind == 2) c.kids ⟨[], 1⟩ = R := ⟨_, rfl⟩
      rw [hR] at hE
      refine AL.loopT (stEx p kn c nb box) (XInv p kn c tok nt) (fun x => c.kids.length - x.i) ⟨0, ⟨[], 1⟩, .full, tok, nt⟩ (XInv.of (Nat.zero_le _) (by simp [expL]) ht0.full)
        (Weaks.mk (Nat.le_refl _) rfl (by simp [ToL, lk]) (by simp [BoxL, lk])) ?_
      rintro ⟨i, a, own, tok1, nt1⟩ S hinv hS
      obtain ⟨hi, he, htk⟩ := hinv
      simp only [stEx] at hS hi he htk ⊢
      subst hS
      have hw := sW (i := i) (by omega)
      have hok := expL_ok p kn hk (c.kind == 2) (c.kids.take i) ⟨[], 1⟩ (fun x hx => ⟨hc.kid x (List.mem_of_mem_take hx), hcl.kid x (List.mem_of_mem_take hx)⟩) (by simp [Cm.sizeL]) (by simp) (by simp) (by rw [he])
      rw [he] at hok
      obtain ⟨o1, o2, o3⟩ := hok
      simp only at o1 o2 o3
      have hal := Cm.len_le a.l
      by_cases hlt : i < c.kids.length
      · have hat := expL_at hlt he
        have hmo := expL_more hlt he
        have ihx := ih _ (List.getElem_mem hlt)
        have hxo := exp_ok p kn hk _ c.kids[i] (Nat.lt_succ_self _) (hc.kid _ (List.getElem_mem hlt)) (hcl.kid _ (List.getElem_mem hlt))
        rw [hR] at hat
        try (simp [hlt])
        repeat (refine sR ?_; simp [hlt])
        refine sC ?_
        simp
        try (simp [hlt, Cm.cells_eq])
        repeat (refine sR ?_; simp [hlt, Cm.cells_eq])
        generalize c.kids[i] = x at *
        refine Stop.of_d (ihx _ _) ?_
        simp
        obtain ⟨X, ok, hX⟩ : ∃ X ok, expC p kn x = (X, ok) := ⟨_, _, rfl⟩
        rw [hX] at hat hmo hxo
        simp only [hX] at hat hmo hxo ⊢
        cases ok
        · rw [if_pos rfl] at hat
          try (simp [lk])
          repeat (first | (refine sR ?_; simp [lk]) | (refine sC ?_; simp [lk]) | (refine sX ?_; simp only [AU, ↓reduceIte]))
          refine sT ?_
          try simp only [AU]
          refine ⟨by simp, sF hbox htok htk.old htk.le ?_⟩
          simp [packA, hE, hat, cms, Cm.kind_mk, Cm.name_mk, Cm.num_mk, Cm.kids_mk, Cm.cells_eq]
        · rw [if_neg (by simp)] at hat
          obtain ⟨x1, x2, x3⟩ := hxo.2 rfl
          have hx0 := hxo.1
          have hxl := x3.len
          have hxz := X.b.size_eq
          have hxk := Cm.len_le X.b.kids
          by_cases k2 : c.kind = 2
          · by_cases y2 : X.b.kind = 2
            · have hst : xStep (c.kind == 2) a X = ⟨a.l ++ X.b.kids, a.n + (X.n - 1)⟩ := by simp [xStep, k2, y2]
              have w1 : IntKind.i64.wrap (X.n - 1) = X.n - 1 := wrap_in (by omega) (by omega)
              have w2 : IntKind.i64.wrap (a.n + (X.n - 1)) = a.n + (X.n - 1) := wrap_in (by omega) (by omega)
              try (simp [lk, k2, y2])
              repeat (first | (refine sR ?_; simp [lk, k2, y2]) | (refine sC ?_; simp [lk, k2, y2]) | (refine sX ?_; simp only [AU, ↓reduceIte]))
              refine ⟨⟨by omega, htk.live⟩, ?_⟩
              try (simp [lk, w1, w2])
              repeat (refine sR ?_; simp [lk, w1, w2])
              by_cases g2 : 200 < a.n + (X.n - 1)
              · have g2' : a.n + (X.n - 1) > 200 := g2
                rw [hst, if_pos g2] at hat
                try (simp [lk, g2])
                repeat (first | (refine sR ?_; simp [lk, g2]) | (refine sC ?_; simp [lk, g2]) | (refine sX ?_; simp only [AU, ↓reduceIte]))
                refine sT ?_
                try simp only [AU]
                refine ⟨by simp, sF hbox htok (htk.app).old (htk.app).le ?_⟩
                simp [packA, hE, hat, k2, cms, Cm.kind_mk, Cm.name_mk, Cm.num_mk, Cm.kids_mk, Cm.cells_eq]
              · have hmm := hmo (by simp) (by rw [hst]; exact g2)
                rw [hst] at hmm
                try (simp [lk, g2, hw])
                repeat (first | (refine sR ?_; simp [lk, g2, hw]) | (refine sC ?_; simp [lk, g2, hw]) | (refine sX ?_; simp only [AU, ↓reduceIte]))
                refine sE ?_
                exact ⟨⟨i + 1, ⟨a.l ++ X.b.kids, a.n + (X.n - 1)⟩, .tok nt1, upd (own.kill tok1) nt1 true, nt1 + 1⟩, XInv.of hlt hmm htk.app, by simp only; omega, Weaks.mk (by have := htk.le; omega) rfl (by simp [stEx, ToL, lk]) (by simp [stEx, BoxL, lk, Cm.cells_eq])⟩
            · have y2' : (X.b.kind == 2) = false := by simp [y2]
              have hst : xStep (c.kind == 2) a X = ⟨a.l ++ [X.b], a.n + X.n⟩ := by simp [xStep, y2]
              have w2 : IntKind.i64.wrap (a.n + X.n) = a.n + X.n := wrap_in (by omega) (by omega)
              try (simp [lk, k2, y2'])
              repeat (first | (refine sR ?_; simp [lk, k2, y2']) | (refine sC ?_; simp [lk, k2, y2']) | (refine sX ?_; simp only [AU, ↓reduceIte]))
              refine ⟨⟨by omega, htk.live⟩, ?_⟩
              try (simp [lk, w2])
              repeat (refine sR ?_; simp [lk, w2])
              by_cases g2 : 200 < a.n + X.n
              · have g2' : a.n + X.n > 200 := g2
                rw [hst, if_pos g2] at hat
                try (simp [lk, g2])
                repeat (first | (refine sR ?_; simp [lk, g2]) | (refine sC ?_; simp [lk, g2]) | (refine sX ?_; simp only [AU, ↓reduceIte]))
                refine sT ?_
                try simp only [AU]
                refine ⟨by simp, sF hbox htok (htk.app).old (htk.app).le ?_⟩
                simp [packA, hE, hat, k2, cms, Cm.kind_mk, Cm.name_mk, Cm.num_mk, Cm.kids_mk, Cm.cells_eq]
              · have hmm := hmo (by simp) (by rw [hst]; exact g2)
                rw [hst] at hmm
                try (simp [lk, g2, hw])
                repeat (first | (refine sR ?_; simp [lk, g2, hw]) | (refine sC ?_; simp [lk, g2, hw]) | (refine sX ?_; simp only [AU, ↓reduceIte]))
                refine sE ?_
                exact ⟨⟨i + 1, ⟨a.l ++ [X.b], a.n + X.n⟩, .tok nt1, upd (own.kill tok1) nt1 true, nt1 + 1⟩, XInv.of hlt hmm htk.app, by simp only; omega, Weaks.mk (by have := htk.le; omega) rfl (by simp [stEx, ToL, lk]) (by simp [stEx, BoxL, lk, Cm.cells_eq])⟩
          · have k2' : (c.kind == 2) = false := by simp [k2]
            have hst : xStep (c.kind == 2) a X = ⟨a.l ++ [X.b], a.n + X.n⟩ := by simp [xStep, k2]
            have w2 : IntKind.i64.wrap (a.n + X.n) = a.n + X.n := wrap_in (by omega) (by omega)
            try (simp [lk, k2'])
            repeat (first | (refine sR ?_; simp [lk, k2']) | (refine sC ?_; simp [lk, k2']) | (refine sX ?_; simp only [AU, ↓reduceIte]))
            refine ⟨⟨by omega, htk.live⟩, ?_⟩
            try (simp [lk, w2])
            repeat (refine sR ?_; simp [lk, w2])
            by_cases g2 : 200 < a.n + X.n
            · have g2' : a.n + X.n > 200 := g2
              rw [hst, if_pos g2] at hat
              try (simp [lk, g2])
              repeat (first | (refine sR ?_; simp [lk, g2]) | (refine sC ?_; simp [lk, g2]) | (refine sX ?_; simp only [AU, ↓reduceIte]))
              refine sT ?_
              try simp only [AU]
              refine ⟨by simp, sF hbox htok (htk.app).old (htk.app).le ?_⟩
              simp [packA, hE, hat, cms, Cm.kind_mk, Cm.name_mk, Cm.num_mk, Cm.kids_mk, Cm.cells_eq]
            · have hmm := hmo (by simp) (by rw [hst]; exact g2)
              rw [hst] at hmm
              try (simp [lk, g2, hw])
              repeat (first | (refine sR ?_; simp [lk, g2, hw]) | (refine sC ?_; simp [lk, g2, hw]) | (refine sX ?_; simp only [AU, ↓reduceIte]))
              refine sE ?_
              exact ⟨⟨i + 1, ⟨a.l ++ [X.b], a.n + X.n⟩, .tok nt1, upd (own.kill tok1) nt1 true, nt1 + 1⟩, XInv.of hlt hmm htk.app, by simp only; omega, Weaks.mk (by have := htk.le; omega) rfl (by simp [stEx, ToL, lk]) (by simp [stEx, BoxL, lk, Cm.cells_eq])⟩
      · have : i = c.kids.length := by omega
        subst this
        rw [List.take_length, hR] at he
        rw [he] at hE
        try (simp [hlt])
        repeat (refine sR ?_; simp [hlt])
        refine sC ?_
        simp
        refine sX ?_
        simp only [AU, ↓reduceIte]
        try (simp [lk])
        repeat (refine sR ?_; simp [lk])
        refine sT ?_
        try simp only [AU]
        refine ⟨by simp, sF hbox htok htk.old htk.le ?_⟩
        simp [packA, hE, cms, Cm.kind_mk, Cm.name_mk, Cm.num_mk, Cm.kids_mk, Cm.cells_eq]
end Go.AM
namespace Go.AM
open Go Go.Proofs
def stEp (p : List Pr) (k nb : Nat) (box : Nat → Option (List (List AV))) (x : Acc) : AState :=
  ⟨tl [(33, .d (.sl 5 ((p.map Pr.cells).take (k + 1)))), (34, I ((k : Int) + 1)), (35, I x.i), (9, .osl 5 ((knR p x.i).map Xp.cells) x.own), (8, I k), (4, .ptr (nb + 4) 0 0), (2, .ptr (nb + 2) 0 0)],
    lb nb box [(2, [[.d (prs p)]]), (4, [zRow46])], x.tok, x.nt⟩
set_option maxRecDepth 100000 in
theorem expand_c (p : List Pr) (s : ByteArray) (hp : PrsOk p) (tok : Nat → Bool) (nt : Nat) : DCall Tryz.prog 23 [prsAv p, Sb s] tok nt (.tup [(expandR p s).1.av, I (expandR p s).2]) tok nt := by
  intro box nb
  have hpl := placeP_c p s hp.len
  have hfc := fault_c p [] false hp (by simp)
  have hrg := placeR_lt p s
  have hval := fault_valid (p := p) (rs := []) (asked := false)
  obtain ⟨N, hN⟩ : ∃ N, expandR p s = N := ⟨_, rfl⟩
  rw [hN]
  unfold expandR at hN
  generalize faultR p [] false = F at *
  refine sB Tryz.func23 Tryz.ntmps23 ?_
  intro hbox htok
  simp only at hbox htok
  apply AL.start
  have ht0 := TK.start htok
  try (simp)
  repeat (refine sR ?_; simp)
  refine Stop.sub (args' := [prsAv p, .d (rules46 []), B false]) ⟨Sub.refl _, Sub.nil _ _ _, Sub.refl _, trivial⟩ ?_
  refine Stop.of_d (hfc _ _) ?_
  simp
  by_cases he : F.2 = 0
  · have be : (F.2 != 0) = false := by simp [he]
    rw [if_neg (by simp [he])] at hN
    obtain ⟨hv, h20, h1, _⟩ := hval he
    try (simp [be])
    repeat (first | (refine sR ?_; simp [be]) | (refine sC ?_; simp [be]) | (refine sX ?_; simp only [AU, ↓reduceIte]))
    refine Stop.of_d (hpl _ _) ?_
    simp
    by_cases hk : placeR p s < 0
    · rw [if_pos hk] at hN
      try (simp [hk])
      repeat (first | (refine sR ?_; simp [hk]) | (refine sC ?_; simp [hk]) | (refine sX ?_; simp only [AU, ↓reduceIte]))
      refine sT ?_
      try simp only [AU]
      refine ⟨by simp, sF hbox htok (fun _ h => h) (Nat.le_refl _) ?_⟩
      simp [packA, ← hN, zC, Cm.kind_mk, Cm.name_mk, Cm.num_mk, Cm.kids_mk, cms]
    · rw [if_neg hk] at hN
      obtain ⟨k, hkk⟩ : ∃ k : Nat, placeR p s = k := ⟨(placeR p s).toNat, by omega⟩
      rw [hkk] at hN hrg ⊢
      rw [Int.toNat_natCast] at hN hrg
      have hkl : k < p.length := by omega
      have hkl1 : (k : Int) + 1 ≤ p.length := by omega
      have hkl2 : k + 1 ≤ p.length := by omega
      have hk0 : (0 : Int) ≤ (k : Int) + 1 := by omega
      have hkt : ((k : Int) + 1).toNat = k + 1 := by omega
      have hwk : IntKind.i64.wrap ((k : Int) + 1) = ((k + 1 : Nat) : Int) := by rw [wrap_in (by omega) (by omega)]; rfl
      have hnk : ¬ (k : Int) < 0 := by omega
      try (simp [hnk, hwk, hkl1, hkl2, hk0, hkt])
      repeat (first | (refine sR ?_; simp [hnk, hwk, hkl1, hkl2, hk0, hkt]) | (refine sC ?_; simp [hnk, hwk, hkl1, hkl2, hk0, hkt]) | (refine sX ?_; simp only [AU, ↓reduceIte]))
      refine sN ?_
      refine AL.loopT (stEp p k nb box) (fun x => x.i ≤ k + 1 ∧ TK tok nt x.tok x.nt [x.own]) (fun x => k + 1 - x.i) ⟨0, .full, tok, nt⟩ ⟨Nat.zero_le _, ht0.full⟩
        (Weaks.mk (Nat.le_refl _) rfl (by simp [ToL, lk, knR]) (by simp [BoxL, lk])) ?_
      rintro ⟨i, own, tok1, nt1⟩ S ⟨hi, htk⟩ hS
      simp only [stEp] at hS hi htk ⊢
      subst hS
      have hw := sW (i := i) (by omega)
      by_cases hlt : i < k + 1
      · have hlt' : (i : Int) < (k : Int) + 1 := by omega
        have hip : i < p.length := by omega
        have hm := List.getElem_mem hip
        obtain ⟨hkl3, hko⟩ := knR_ok hp hv i (by omega)
        have hx := exp_c p (knR p i) hp.len hko _ p[i].body (Nat.lt_succ_self _) (hp.bd _ hm) (by rw [hkl3]; exact hv i hip)
        have hst := knR_succ hip
        unfold knStep at hst
        generalize knR p i = K at *
        try (simp [hlt, hlt', hip])
        repeat (refine sR ?_; simp [hlt, hlt', hip])
        refine sC ?_
        simp [hlt']
        try (simp [hlt, hlt', hip])
        repeat (refine sR ?_; simp [hlt, hlt', hip])
        refine ⟨by omega, ?_⟩
        try (simp [hlt, hlt', hip])
        repeat (refine sR ?_; simp [hlt, hlt', hip])
        generalize p[i] = q at *
        refine Stop.data ?_
        refine Stop.of_d (hx _ _) ?_
        simp
        obtain ⟨X, ok, hX⟩ : ∃ X ok, expC p K q.body = (X, ok) := ⟨_, _, rfl⟩
        simp only [hX] at hst ⊢
        cases ok
        · simp only [Bool.false_eq_true, if_false] at hst
          try (simp [lk])
          repeat (first | (refine sR ?_; simp [lk]) | (refine sC ?_; simp [lk]) | (refine sX ?_; simp only [AU, ↓reduceIte]))
          refine ⟨⟨by omega, htk.live⟩, ?_⟩
          try (simp [hw])
          repeat (first | (refine sR ?_; simp [hw]) | (refine sC ?_; simp [hw]) | (refine sX ?_; simp only [AU, ↓reduceIte]))
          refine sE ?_
          refine ⟨⟨i + 1, .tok nt1, upd (own.kill tok1) nt1 true, nt1 + 1⟩, ⟨hlt, htk.app⟩, by simp only; omega, ?_⟩
          simp only [stEp, hst]
          refine Weaks.mk (by have := htk.le; omega) rfl ?_ (by simp [BoxL, lk])
          simp [ToL, lk]
          refine to_snoc ?_ _
          simp [zC, Cm.kind_mk, Cm.name_mk, Cm.num_mk, Cm.kids_mk, cms]
        · simp only [if_true] at hst
          try (simp [lk])
          repeat (first | (refine sR ?_; simp [lk]) | (refine sC ?_; simp [lk]) | (refine sX ?_; simp only [AU, ↓reduceIte]))
          refine ⟨⟨by omega, htk.live⟩, ?_⟩
          try (simp [hw])
          repeat (first | (refine sR ?_; simp [hw]) | (refine sC ?_; simp [hw]) | (refine sX ?_; simp only [AU, ↓reduceIte]))
          refine sE ?_
          refine ⟨⟨i + 1, .tok nt1, upd (own.kill tok1) nt1 true, nt1 + 1⟩, ⟨hlt, htk.app⟩, by simp only; omega, ?_⟩
          simp only [stEp, hst]
          exact Weaks.mk (by have := htk.le; omega) rfl (by simp [ToL, lk]) (by simp [BoxL, lk])
      · have : i = k + 1 := by omega
        subst this
        have hlt' : ¬ ((k + 1 : Nat) : Int) < (k : Int) + 1 := by omega
        obtain ⟨hkl3, hko⟩ := knR_ok hp hv (k + 1) (by omega)
        generalize knR p (k + 1) = K at *
        have hkK : k < K.length := by omega
        have hkK' : (k : Int) < K.length := by omega
        have hgd : K.getD k ⟨zC, 0⟩ = K[k] := by simp [List.getD_eq_getElem?_getD, hkK]
        rw [hgd] at hN
        generalize hKk : K[k] = X at *
        have hat : (K.map Xp.cells)[k]? = some X.cells := by simp [hkK, hKk]
        try (simp [hlt'])
        repeat (refine sR ?_; simp [hlt'])
        refine sC ?_
        simp [hlt']
        refine sX ?_
        simp only [AU, ↓reduceIte]
        try (simp [hkK, hkK', hKk])
        repeat (refine sR ?_; simp [hkK, hkK', hKk])
        by_cases h2 : 200 < X.n
        · rw [if_pos h2] at hN
          refine sC ?_
          simp [h2]
          try (simp [hkK, hkK', hKk])
          repeat (refine sR ?_; simp [hkK, hkK', hKk])
          refine sT ?_
          try simp only [AU]
          refine ⟨by simp, sF hbox htok htk.old htk.le ?_⟩
          simp [packA, ← hN, zC, Cm.kind_mk, Cm.name_mk, Cm.num_mk, Cm.kids_mk, cms]
        · rw [if_neg h2] at hN
          refine sC ?_
          simp [h2]
          try (simp [hkK, hkK', hKk])
          repeat (refine sR ?_; simp [hkK, hkK', hKk])
          refine sT ?_
          try simp only [AU]
          refine ⟨by simp, sF hbox htok htk.old htk.le ?_⟩
          simp [packA, ← hN]
  · have be : (F.2 != 0) = true := by simp [he]
    rw [if_pos he] at hN
    try (simp [be])
    repeat (first | (refine sR ?_; simp [be]) | (refine sC ?_; simp [be]) | (refine sX ?_; simp only [AU, ↓reduceIte]))
    refine sT ?_
    try simp only [AU]
    refine ⟨by simp, sF hbox htok (fun _ h => h) (Nat.le_refl _) ?_⟩
    simp [packA, ← hN, zC, Cm.kind_mk, Cm.name_mk, Cm.num_mk, Cm.kids_mk, cms]
end Go.AM
namespace Go.AM
open Go Go.Proofs
end Go.AM
namespace Go.AM
open Go Go.Proofs
end Go.AM
namespace Go.AM
open Go Go.Proofs
end Go.AM
namespace Go.AM
open Go Go.Proofs
def dStep (sq : Bool) (a : List Cm) (y : Cm) : List Cm := if (sq && y.kind == 2) = true then a ++ y.kids else a ++ [y]
mutual
def expD (p : List Pr) (kn : List Cm) (sm : List Bool) : Cm → Cm × Bool
  | .mk k s n c => if k = 10 then (kn.getD (placeR p s).toNat zC, sm.getD (placeR p s).toNat false) else (.mk k s n (expDL p kn sm (k == 2) c []).1, (expDL p kn sm (k == 2) c []).2)
def expDL (p : List Pr) (kn : List Cm) (sm : List Bool) (sq : Bool) : List Cm → List Cm → List Cm × Bool
  | [], a => (a, true)
  | x :: r, a => if (expD p kn sm x).2 = true ∧ 1 + Cm.sizeL (dStep sq a (expD p kn sm x).1) ≤ 200 then expDL p kn sm sq r (dStep sq a (expD p kn sm x).1) else (dStep sq a (expD p kn sm x).1, false)
end
end Go.AM
namespace Go.AM
open Go Go.Proofs
theorem Cm.kid_depth {c x : Cm} (h : x ∈ c.kids) : x.depth < c.depth := by
  rw [c.depth_eq]
  generalize c.kids = l at h
  induction l with
  | nil => simp at h
  | cons y r ih =>
    simp only [Cm.depthL]
    rcases List.mem_cons.1 h with rfl | h
    · omega
    · have := ih h; omega
structure AccD where
  i : Nat
  a : List Cm
  ok : Bool
  own : Own
  tok : Nat → Bool
  nt : Nat
structure DInv (p : List Pr) (kn : List Cm) (sm : List Bool) (c : Cm) (mtok : Nat → Bool) (nt0 : Nat) (x : AccD) : Prop where
  i : x.i ≤ c.kids.length
  e : x.ok = true → expDL p kn sm (c.kind == 2) (c.kids.take x.i) [] = (x.a, true)
  f : x.ok = false → expDL p kn sm (c.kind == 2) c.kids [] = (x.a, false)
  k : TK mtok nt0 x.tok x.nt [x.own]
theorem DInv.of {p : List Pr} {kn : List Cm} {sm : List Bool} {c : Cm} {mtok : Nat → Bool} {nt0 : Nat} {i : Nat} {a : List Cm} {ok : Bool} {own : Own} {tok : Nat → Bool} {nt : Nat} (h1 : i ≤ c.kids.length) (h2 : ok = true → expDL p kn sm (c.kind == 2) (c.kids.take i) [] = (a, true))
    (h3 : ok = false → expDL p kn sm (c.kind == 2) c.kids [] = (a, false)) (h4 : TK mtok nt0 tok nt [own]) : DInv p kn sm c mtok nt0 ⟨i, a, ok, own, tok, nt⟩ := ⟨h1, h2, h3, h4⟩
theorem fault_depth {p : List Pr} {rs : List ByteArray} {asked : Bool} (h : ∀ i (hi : i < p.length), prE p rs asked i p[i] = 0) : ∀ q ∈ p, q.body.depth ≤ 6 ∧ q.body.size ≤ 60 ∧ nameB q.name = true := by
  intro q hq
  obtain ⟨i, hi, rfl⟩ := List.getElem_of_mem hq
  have h4 := h i hi
  unfold prE at h4
  by_cases e1 : nameB p[i].name = false
  · rw [if_pos e1] at h4; cases h4
  · rw [if_neg e1] at h4
    by_cases e2 : placeR p p[i].name < i
    · rw [if_pos e2] at h4; cases h4
    · rw [if_neg e2] at h4
      by_cases e3 : 60 < p[i].body.size ∨ 6 < p[i].body.depth
      · rw [if_pos e3] at h4; cases h4
      · exact ⟨by omega, by omega, by simpa using e1⟩
end Go.AM
namespace Go.AM
open Go Go.Proofs
def padR : Nat → ByteArray
  | 0 => ⟨#[]⟩
  | n + 1 => padR n ++ ⟨#[32, 32]⟩
def lineR (ind : Nat) (s : ByteArray) : ByteArray := padR ind ++ (s ++ ⟨#[10]⟩)
def digsB : ByteArray := ⟨#[48, 49, 50, 51, 52, 53, 54, 55, 56, 57]⟩
def digR (n : Int) : ByteArray := digsB.extract n.toNat (n.toNat + 1)
def fApply : ByteArray := ⟨#[97, 112, 112, 108, 121, 32]⟩
def fCall : ByteArray := ⟨#[99, 97, 108, 108, 32]⟩
def fSemi : ByteArray := ⟨#[32, 59]⟩
def fSkip : ByteArray := ⟨#[115, 107, 105, 112, 32, 59]⟩
def fFail : ByteArray := ⟨#[102, 97, 105, 108, 32, 59]⟩
def fOpen : ByteArray := ⟨#[32, 123]⟩
def fRep : ByteArray := ⟨#[114, 101, 112, 101, 97, 116, 32]⟩
def kwCho : List ByteArray := [⟨#[99, 104, 111, 111, 115, 101]⟩, ⟨#[125, 32, 111, 114]⟩]
def kwIf : List ByteArray := [⟨#[105, 102]⟩, ⟨#[125, 32, 116, 104, 101, 110]⟩, ⟨#[125, 32, 101, 108, 115, 101]⟩]
def kwLoop : List ByteArray := [⟨#[108, 111, 111, 112]⟩]
def kwTry : List ByteArray := [⟨#[116, 114, 121]⟩]
def wdsR (k n : Int) : List ByteArray := if k = 3 then kwCho else if k = 4 then kwIf else if k = 5 then kwLoop else if k = 6 then [fRep ++ digR n] else kwTry
def wdAt (ws : List ByteArray) (i : Nat) : ByteArray := ws.getD (min i (ws.length - 1)) ⟨#[]⟩
mutual
def fmC (bl : Bool) (ind : Nat) : Cm → ByteArray
  | .mk k s n c => if (bl && k == 2) = true then fmS ind c else if k = 1 then lineR ind (fApply ++ (s ++ fSemi)) else if k = 10 then lineR ind (fCall ++ (s ++ fSemi))
    else if k = 8 then lineR ind fSkip else if k = 9 then lineR ind fFail else fmK ind (wdsR k n) 0 c ++ lineR ind ⟨#[125]⟩
def fmS (ind : Nat) : List Cm → ByteArray
  | [] => ⟨#[]⟩
  | x :: r => fmC false ind x ++ fmS ind r
def fmK (ind : Nat) (ws : List ByteArray) : Nat → List Cm → ByteArray
  | _, [] => ⟨#[]⟩
  | i, x :: r => (lineR ind (wdAt ws i ++ fOpen) ++ fmC true (ind + 1) x) ++ fmK ind ws (i + 1) r
end
theorem fmC_eq (bl : Bool) (ind : Nat) (c : Cm) : fmC bl ind c = if (bl && c.kind == 2) = true then fmS ind c.kids else if c.kind = 1 then lineR ind (fApply ++ (c.name ++ fSemi)) else if c.kind = 10 then lineR ind (fCall ++ (c.name ++ fSemi))
    else if c.kind = 8 then lineR ind fSkip else if c.kind = 9 then lineR ind fFail else fmK ind (wdsR c.kind c.num) 0 c.kids ++ lineR ind ⟨#[125]⟩ := by
  cases c
  rw [fmC]
  rfl
theorem bEmpty_app (s : ByteArray) : (⟨#[]⟩ : ByteArray) ++ s = s := ByteArray.empty_append
theorem bApp_empty (s : ByteArray) : s ++ (⟨#[]⟩ : ByteArray) = s := ByteArray.append_empty
theorem fmS_app (ind : Nat) : ∀ (l k : List Cm), fmS ind (l ++ k) = fmS ind l ++ fmS ind k
  | [], k => by rw [List.nil_append, fmS, bEmpty_app]
  | x :: r, k => by rw [List.cons_append, fmS, fmS, fmS_app ind r k, ByteArray.append_assoc]
theorem fmS_take (ind : Nat) {l : List Cm} {i : Nat} (h : i < l.length) : fmS ind (l.take (i + 1)) = fmS ind (l.take i) ++ fmC false ind l[i] := by
  rw [List.take_succ_eq_append_getElem h, fmS_app, fmS, fmS, bApp_empty]
theorem fmK_app (ind : Nat) (ws : List ByteArray) : ∀ (l k : List Cm) (i : Nat), fmK ind ws i (l ++ k) = fmK ind ws i l ++ fmK ind ws (i + l.length) k
  | [], k, i => by rw [List.nil_append, fmK, bEmpty_app]; rfl
  | x :: r, k, i => by
    rw [List.cons_append, fmK, fmK, fmK_app ind ws r k, List.length_cons, show i + 1 + r.length = i + (r.length + 1) by omega, ByteArray.append_assoc]
    simp only [ByteArray.append_assoc]
theorem fmK_take (ind : Nat) (ws : List ByteArray) {l : List Cm} {i : Nat} (h : i < l.length) : fmK ind ws 0 (l.take (i + 1)) = fmK ind ws 0 (l.take i) ++ (lineR ind (wdAt ws i ++ fOpen) ++ fmC true (ind + 1) l[i]) := by
  rw [List.take_succ_eq_append_getElem h, fmK_app, fmK, fmK, bApp_empty, List.length_take, Nat.zero_add, Nat.min_eq_left (by omega)]
def fPro : ByteArray := ⟨#[112, 114, 111, 99, 101, 100, 117, 114, 101, 32]⟩
def fmP (q : Pr) : ByteArray := (lineR 0 (fPro ++ (q.name ++ fOpen)) ++ fmC true 1 q.body) ++ lineR 0 ⟨#[125]⟩
def fmPs : List Pr → ByteArray
  | [] => ⟨#[]⟩
  | q :: r => fmP q ++ fmPs r
theorem fmPs_app : ∀ (l k : List Pr), fmPs (l ++ k) = fmPs l ++ fmPs k
  | [], k => by rw [List.nil_append, fmPs, bEmpty_app]
  | x :: r, k => by rw [List.cons_append, fmPs, fmPs, fmPs_app r k, ByteArray.append_assoc]
theorem fmPs_take {l : List Pr} {i : Nat} (h : i < l.length) : fmPs (l.take (i + 1)) = fmPs (l.take i) ++ fmP l[i] := by
  rw [List.take_succ_eq_append_getElem h, fmPs_app, fmPs, fmPs, bApp_empty]
def fmtR (p : List Pr) : ByteArray × Int := if (faultR p [] false).2 ≠ 0 then (⟨#[]⟩, (faultR p [] false).2) else (fmPs p, 0)
theorem padR_size : ∀ n, (padR n).size = 2 * n
  | 0 => rfl
  | n + 1 => by rw [padR, ByteArray.size_append, padR_size n]; show 2 * n + 2 = _; omega
theorem lineR_size (ind : Nat) (s : ByteArray) : (lineR ind s).size = 2 * ind + s.size + 1 := by
  rw [lineR, ByteArray.size_append, ByteArray.size_append, padR_size]; show _ + (_ + 1) = _; omega
inductive Cm.Fm : Cm → Prop
  | mk {c : Cm} (hn : c.name.size ≤ 100) (ho : okB c = true) (hr : c.kind = 6 → 1 ≤ c.num ∧ c.num ≤ 9) (h : ∀ x ∈ c.kids, Cm.Fm x) : Cm.Fm c
theorem Cm.Fm.name {c : Cm} (h : c.Fm) : c.name.size ≤ 100 := by cases h; assumption
theorem Cm.Fm.okB {c : Cm} (h : c.Fm) : okB c = true := by cases h; assumption
theorem Cm.Fm.num {c : Cm} (h : c.Fm) : c.kind = 6 → 1 ≤ c.num ∧ c.num ≤ 9 := by cases h; assumption
theorem Cm.Fm.kid {c : Cm} (h : c.Fm) : ∀ x ∈ c.kids, Cm.Fm x := by cases h; assumption
theorem digR_size (n : Int) : (digR n).size ≤ 1 := by
  rw [digR, ByteArray.size_extract]
  omega
theorem wdAt_size {ws : List ByteArray} (h : ∀ w ∈ ws, w.size ≤ 20) (i : Nat) : (wdAt ws i).size ≤ 20 := by
  unfold wdAt
  rw [List.getD_eq_getElem?_getD]
  cases hx : ws[min i (ws.length - 1)]? with
  | none => show 0 ≤ 20; omega
  | some w => exact h w (List.mem_of_getElem? hx)
theorem wdsR_size (k n : Int) : ∀ w ∈ wdsR k n, w.size ≤ 20 := by
  unfold wdsR
  intro w hw
  split at hw
  · simp only [kwCho, List.mem_cons, List.not_mem_nil, or_false] at hw
    rcases hw with rfl | rfl <;> decide
  · split at hw
    · simp only [kwIf, List.mem_cons, List.not_mem_nil, or_false] at hw
      rcases hw with rfl | rfl | rfl <;> decide
    · split at hw
      · simp only [kwLoop, List.mem_cons, List.not_mem_nil, or_false] at hw
        subst hw; decide
      · split at hw
        · simp only [List.mem_cons, List.not_mem_nil, or_false] at hw
          subst hw
          have := digR_size n
          rw [ByteArray.size_append]
          show 7 + _ ≤ 20
          omega
        · simp only [kwTry, List.mem_cons, List.not_mem_nil, or_false] at hw
          subst hw; decide
theorem fmC_size : ∀ (m : Nat) (c : Cm), c.size < m → c.Fm → ∀ (bl : Bool) (ind : Nat), ind + c.depth ≤ 100 → (fmC bl ind c).size + 300 ≤ 2000 * c.size
  | 0, c, h, _ => absurd h (Nat.not_lt_zero _)
  | m + 1, c, h, hf => fun bl ind hd => by
    have hs := c.size_eq
    have hdp := c.depth_eq
    have hnm := hf.name
    have k1 : ∀ (l : List Cm), (∀ x ∈ l, x.size < m ∧ x.Fm) → ind + Cm.depthL l ≤ 100 → (fmS ind l).size ≤ 2000 * Cm.sizeL l := by
      intro l
      induction l with
      | nil => intro _ _; simp only [fmS]; show 0 ≤ _; omega
      | cons x r ih =>
        intro hx hdl
        simp only [Cm.depthL] at hdl
        obtain ⟨x1, x2⟩ := hx x (by simp)
        have h1 := fmC_size m x x1 x2 false ind (by omega)
        have h2 := ih (fun y hy => hx y (by simp [hy])) (by omega)
        simp only [fmS, Cm.sizeL, ByteArray.size_append]
        omega
    have k2 : ∀ (ws : List ByteArray) (l : List Cm) (i : Nat), (∀ w ∈ ws, w.size ≤ 20) → (∀ x ∈ l, x.size < m ∧ x.Fm) → ind + 1 + Cm.depthL l ≤ 100 → (fmK ind ws i l).size ≤ 2000 * Cm.sizeL l := by
      intro ws l
      induction l with
      | nil => intro i _ _ _; simp only [fmK]; show 0 ≤ _; omega
      | cons x r ih =>
        intro i hw hx hdl
        simp only [Cm.depthL] at hdl
        obtain ⟨x1, x2⟩ := hx x (by simp)
        have h1 := fmC_size m x x1 x2 true (ind + 1) (by omega)
        have h2 := ih (i + 1) hw (fun y hy => hx y (by simp [hy])) (by omega)
        have h3 := wdAt_size hw i
        have h4 : fOpen.size = 2 := rfl
        simp only [fmK, Cm.sizeL, ByteArray.size_append, lineR_size]
        omega
    have hx : ∀ x ∈ c.kids, x.size < m ∧ x.Fm := fun x hx => ⟨by have := Cm.kid_size hx; omega, hf.kid x hx⟩
    rw [fmC_eq]
    split
    · have := k1 c.kids hx (by omega); omega
    · split
      · simp only [lineR_size, ByteArray.size_append, show fApply.size = 6 from rfl, show fSemi.size = 2 from rfl]; omega
      · split
        · simp only [lineR_size, ByteArray.size_append, show fCall.size = 5 from rfl, show fSemi.size = 2 from rfl]; omega
        · split
          · simp only [lineR_size, show fSkip.size = 6 from rfl]; omega
          · split
            · simp only [lineR_size, show fFail.size = 6 from rfl]; omega
            · have := k2 (wdsR c.kind c.num) c.kids 0 (wdsR_size _ _) hx (by omega)
              simp only [lineR_size, ByteArray.size_append, show (⟨#[125]⟩ : ByteArray).size = 1 from rfl]
              omega
theorem nameB_size {s : ByteArray} (h : nameB s = true) : s.size ≤ 20 := by
  unfold nameB at h
  simp only [Bool.and_eq_true, decide_eq_true_eq] at h
  omega
theorem own_fm {p : List Pr} {rs : List ByteArray} {asked : Bool} {at' : Nat} {c : Cm} (h : ownE p rs asked at' c = 0) : okB c = true ∧ c.name.size ≤ 20 ∧ (c.kind = 6 → 1 ≤ c.num ∧ c.num ≤ 9) := by
  unfold ownE at h
  split at h
  · cases h
  rename_i ho
  have ho : okB c = true := by simpa using ho
  split at h
  · rename_i e
    split at h
    · cases h
    rename_i hn
    exact ⟨ho, nameB_size (by simpa using hn), fun h6 => absurd h6 (by omega)⟩
  split at h
  · rename_i e
    split at h
    · cases h
    rename_i hn
    exact ⟨ho, nameB_size (by simpa using hn), fun h6 => absurd h6 (by omega)⟩
  rename_i e1 e2
  have hn : c.name = ⟨#[]⟩ := by
    unfold okB at ho
    simp only [Bool.and_eq_true, Bool.or_eq_true, decide_eq_true_eq] at ho
    rcases ho.1.2 with h1 | h1
    · omega
    · exact h1
  refine ⟨ho, by rw [hn]; show 0 ≤ 20; omega, fun h6 => ?_⟩
  rw [if_pos h6] at h
  split at h
  · assumption
  · cases h
theorem cmd_fm {p : List Pr} {rs : List ByteArray} {asked : Bool} {at' : Nat} : ∀ (n : Nat) (c : Cm), c.size < n → cmdE p rs asked at' c = 0 → c.Fm
  | 0, c, h, _ => absurd h (Nat.not_lt_zero _)
  | n + 1, c, h, he => by
    rw [cmdE_eq] at he
    split at he
    · rename_i h1; exact absurd he h1
    · rename_i h1
      obtain ⟨a, b, d⟩ := own_fm (Decidable.not_not.1 h1)
      have key : ∀ l : List Cm, cmdEL p rs asked at' l = 0 → ∀ x ∈ l, cmdE p rs asked at' x = 0 := by
        intro l
        induction l with
        | nil => intro _ x hx; simp at hx
        | cons y r ih =>
          intro hl x hx
          rw [cmdEL] at hl
          split at hl
          · rename_i h2; exact absurd hl h2
          · rename_i h2
            rcases List.mem_cons.1 hx with rfl | hx
            · exact Decidable.not_not.1 h2
            · exact ih hl x hx
      exact .mk (by omega) a d fun x hx => cmd_fm n x (by have := Cm.kid_size hx; omega) (key _ he x hx)
theorem fault_fm {p : List Pr} (h : (faultR p [] false).2 = 0) : p.length ≤ 20 ∧ ∀ q ∈ p, q.name.size ≤ 20 ∧ q.body.size ≤ 60 ∧ q.body.depth ≤ 6 ∧ q.body.Fm := by
  obtain ⟨_, h1, _, h2⟩ := fault_valid h
  refine ⟨h1, fun q hq => ?_⟩
  obtain ⟨i, hi, rfl⟩ := List.getElem_of_mem hq
  have h3 := h2 i hi
  unfold prE at h3
  split at h3
  · cases h3
  rename_i hn
  split at h3
  · cases h3
  split at h3
  · cases h3
  exact ⟨nameB_size (by simpa using hn), by omega, by omega, cmd_fm _ _ (Nat.lt_succ_self _) h3⟩
theorem fmPs_size : ∀ (l : List Pr), (∀ q ∈ l, q.name.size ≤ 20 ∧ q.body.size ≤ 60 ∧ q.body.depth ≤ 6 ∧ q.body.Fm) → (fmPs l).size ≤ 130000 * l.length
  | [], _ => by simp only [fmPs]; show 0 ≤ _; omega
  | q :: r, h => by
    obtain ⟨h1, h2, h3, h4⟩ := h q (by simp)
    have h5 := fmC_size _ q.body (Nat.lt_succ_self _) h4 true 1 (by omega)
    have h6 := fmPs_size r fun x hx => h x (by simp [hx])
    simp only [fmPs, fmP, ByteArray.size_append, lineR_size, show fPro.size = 10 from rfl, show fOpen.size = 2 from rfl, show (⟨#[125]⟩ : ByteArray).size = 1 from rfl, List.length_cons]
    omega
end Go.AM
namespace Go.AM
open Go Go.Proofs Go.Shelf
abbrev Wk := Int × ByteArray
abbrev Tk.kt (t : Tk) : Wk := (t.kind, t.text)
def whL (s : List UInt8) : Prop := ∀ b r, s = b :: r → b = 32 ∨ b = 10 ∨ b = 9
theorem whL_sp (s : List UInt8) : whL (32 :: s) := fun b r h => by cases h; exact .inl rfl
theorem whL_nl (s : List UInt8) : whL (10 :: s) := fun b r h => by cases h; exact .inr (.inl rfl)
theorem whL_tb (s : List UInt8) : whL (9 :: s) := fun b r h => by cases h; exact .inr (.inr rfl)
def digW (w : ByteArray) : Bool := decide (w.size = 1) && digB (byteAt w 0)
def wdB (w : Wk) : Bool := (decide (w.1 = 1) && nameB w.2) || (decide (w.1 = 2) && digW w.2) || (decide (w.1 = 4) && (decide (w.2 = sOp) || decide (w.2 = sCl) || decide (w.2 = sSem)))
theorem take_stop {q : UInt8 → Bool} {s : List UInt8} (h : ∀ b r, s = b :: r → q b = false) : s.takeWhile q = [] := by
  cases s with
  | nil => rfl
  | cons b r => rw [List.takeWhile_cons, if_neg (by rw [h b r rfl]; simp)]
theorem run_word {p : Int → Bool} {t w : ByteArray} {s : List UInt8} (ht : t.data.toList = w.data.toList ++ s) (hw : runN p w 0 = w.size) (hp : p 32 = false ∧ p 10 = false ∧ p 9 = false) (hs : whL s) : runN p t 0 = w.size := by
  unfold runN at hw ⊢
  rw [List.drop_zero] at hw ⊢
  have hall : w.data.toList.takeWhile (fun b => p (b.toNat : Int)) = w.data.toList := by
    have := (List.takeWhile_prefix (l := w.data.toList) (fun b => p (b.toNat : Int))).eq_of_length (by rw [hw, sz_list])
    exact this
  have hst : s.takeWhile (fun b => p (b.toNat : Int)) = [] := take_stop fun b r h => by
    rcases hs b r h with rfl | rfl | rfl
    · exact hp.1
    · exact hp.2.1
    · exact hp.2.2
  rw [ht, List.takeWhile_append, hall, if_pos rfl, hst, List.append_nil, sz_list]
theorem byte_word {t w : ByteArray} {s : List UInt8} (ht : t.data.toList = w.data.toList ++ s) {i : Nat} (h : i < w.size) : byteAt t i = byteAt w i := by
  have hl : i < w.data.toList.length := by rw [sz_list]; exact h
  simp only [byteAt, ht, List.getD_eq_getElem?_getD, List.getElem?_append_left hl]
theorem cut_word {t w : ByteArray} {s : List UInt8} (ht : t.data.toList = w.data.toList ++ s) : t.extract 0 w.size = w := ba_ext (by
  rw [ba_cut, ht, List.drop_zero, Nat.sub_zero]
  have : w.size = w.data.toList.length := (sz_list w).symm
  rw [this, List.take_left])
theorem sz_word {t w : ByteArray} {s : List UInt8} (ht : t.data.toList = w.data.toList ++ s) : t.size = w.size + s.length := by
  rw [← sz_list, ht, List.length_append, sz_list]
structure Word (t : ByteArray) (w : Wk) : Prop where
  pos : 1 ≤ w.2.size
  c : ¬ byteAt t 0 = 10 ∧ ¬ whiB (byteAt t 0) = true ∧ ¬ byteAt t 0 = 35
  next : nextR t = (w.1, (w.2.size : Int), 0)
  text : textR t = w.2
theorem let_not {c : Int} (h : letB c = true) : ¬ c = 10 ∧ ¬ whiB c = true ∧ ¬ c = 35 := by
  simp only [letB, decide_eq_true_eq] at h
  simp only [whiB, decide_eq_true_eq]
  omega
theorem dig_not {c : Int} (h : digB c = true) : (¬ c = 10 ∧ ¬ whiB c = true ∧ ¬ c = 35) ∧ letB c = false := by
  simp only [digB, decide_eq_true_eq] at h
  simp only [whiB, letB, decide_eq_true_eq, decide_eq_false_iff_not]
  omega
theorem text_word {t : ByteArray} {w : Wk} {s : List UInt8} (ht : t.data.toList = w.2.data.toList ++ s) (hn : nextR t = (w.1, (w.2.size : Int), 0)) (h3 : w.1 ≠ 3) : textR t = w.2 := by
  unfold textR
  rw [hn]
  simp only
  rw [if_neg h3, Int.toNat_natCast]
  exact cut_word ht
theorem sign_word {t : ByteArray} {b : UInt8} {s : List UInt8} (ht : t.data.toList = (⟨#[b]⟩ : ByteArray).data.toList ++ s) (hb : b = 123 ∨ b = 125 ∨ b = 59) : Word t (4, ⟨#[b]⟩) := by
  have ht' : t.data.toList = b :: s := ht
  have h0 : byteAt t 0 = (b.toNat : Int) := by simp [byteAt, ht']
  have hp : pairB t = false := by
    unfold pairB
    by_cases h2 : 2 ≤ t.size
    · have hm : t.extract 0 2 ∉ pairL := fun hm => by
        have h1 : (t.extract 0 2).data.toList.getD 0 0 = b := by rw [ba_cut, ht']; rfl
        simp only [pairL, List.mem_cons, List.not_mem_nil, or_false] at hm
        rcases hm with e | e | e | e | e <;> rw [e] at h1 <;> rcases hb with rfl | rfl | rfl <;> exact absurd h1 (by decide)
      have : memS pairL (t.extract 0 2) = false := by
        cases hx : memS pairL (t.extract 0 2) with
        | false => rfl
        | true => exact absurd (memS_iff.1 hx) hm
      rw [this, Bool.and_false]
    · rw [decide_eq_false h2, Bool.false_and]
  have hn : nextR t = (4, 1, 0) := by
    unfold nextR
    rw [h0, hp]
    rcases hb with rfl | rfl | rfl
    · rfl
    · rfl
    · rfl
  refine ⟨Nat.le_refl _, ?_, hn, ?_⟩
  · rw [h0]
    rcases hb with rfl | rfl | rfl <;> decide
  · exact text_word (w := (4, ⟨#[b]⟩)) ht hn (by show (4 : Int) ≠ 3; decide)
theorem word_of {w : Wk} (hw : wdB w = true) {t : ByteArray} {s : List UInt8} (hs : whL s) (ht : t.data.toList = w.2.data.toList ++ s) : Word t w := by
  obtain ⟨k, w⟩ := w
  have ht : t.data.toList = w.data.toList ++ s := ht
  simp only [wdB, Bool.or_eq_true, Bool.and_eq_true, decide_eq_true_eq] at hw
  rcases hw with ⟨⟨rfl, hn⟩ | ⟨rfl, hd⟩⟩ | ⟨rfl, hg⟩
  · simp only [nameB, Bool.and_eq_true, decide_eq_true_eq] at hn
    obtain ⟨⟨⟨h1, h20⟩, hl⟩, hr⟩ := hn
    have hb := byte_word ht (show 0 < w.size by omega)
    have hru : runN parB t 0 = w.size := run_word ht hr ⟨by decide, by decide, by decide⟩ hs
    have hx : nextR t = (1, (w.size : Int), 0) := by
      unfold nextR
      rw [hb, if_pos hl, hru, if_neg (by omega)]
    exact ⟨h1, by rw [hb]; exact let_not hl, hx, text_word (w := (1, w)) ht hx (by show (1 : Int) ≠ 3; decide)⟩
  · simp only [digW, Bool.and_eq_true, decide_eq_true_eq] at hd
    obtain ⟨h1, hl⟩ := hd
    have hb := byte_word ht (show 0 < w.size by omega)
    have hr : runN digB w 0 = w.size := by rw [runN_step (by omega) hl, runN_end (by omega), h1]
    have hru : runN digB t 0 = w.size := run_word ht hr ⟨by decide, by decide, by decide⟩ hs
    obtain ⟨d1, d2⟩ := dig_not hl
    have hx : nextR t = (2, (w.size : Int), 0) := by
      unfold nextR
      rw [hb, if_neg (by rw [d2]; simp), if_pos hl, hru, if_neg (by omega)]
    exact ⟨by show 1 ≤ w.size; omega, by rw [hb]; exact d1, hx, text_word (w := (2, w)) ht hx (by show (2 : Int) ≠ 3; decide)⟩
  · rcases hg with (rfl | rfl) | rfl
    · exact sign_word ht (.inl rfl)
    · exact sign_word ht (.inr (.inl rfl))
    · exact sign_word ht (.inr (.inr rfl))
inductive Lay : List UInt8 → List Wk → Prop
  | nil : Lay [] []
  | nl {s ws} : Lay s ws → Lay (10 :: s) ws
  | wh {s ws} {b : UInt8} : b = 32 ∨ b = 9 → Lay s ws → Lay (b :: s) ws
  | cm {s ws} (c : List UInt8) : (∀ x ∈ c, x ≠ 10) → Lay s ws → Lay (35 :: (c ++ 10 :: s)) ws
  | wd {s ws} (w : Wk) : wdB w = true → whL s → Lay s ws → Lay (w.2.data.toList ++ s) (w :: ws)
theorem byte_cons {s : ByteArray} {b : UInt8} {r : List UInt8} (h : s.data.toList = b :: r) : byteAt s 0 = (b.toNat : Int) ∧ ¬ s.size = 0 ∧ s.size = r.length + 1 ∧ (dropB s 1).data.toList = r := by
  have hz : s.size = r.length + 1 := by rw [← sz_list, h, List.length_cons]
  refine ⟨by simp [byteAt, h], by omega, hz, ?_⟩
  rw [dropB_list, h]
  rfl
theorem u8_ten {x : UInt8} (h : x ≠ 10) : nlB (x.toNat : Int) = true := by
  have : x.toNat ≠ 10 := fun e => h (UInt8.toNat_inj.1 e)
  simp only [nlB, bne_iff_ne, ne_eq]
  omega
theorem run_cm {s : ByteArray} {c r : List UInt8} (h : s.data.toList = 35 :: (c ++ 10 :: r)) (hc : ∀ x ∈ c, x ≠ 10) : runN nlB s 0 = c.length + 1 := by
  unfold runN
  rw [List.drop_zero, h]
  have h2 : (c ++ 10 :: r).takeWhile (fun b => nlB (b.toNat : Int)) = c := by
    rw [List.takeWhile_append_of_pos (fun x hx => u8_ten (hc x hx)), List.takeWhile_cons, if_neg (by decide), List.append_nil]
  rw [List.takeWhile_cons, if_pos (by decide), h2, List.length_cons]
theorem Lay.toks {l : List UInt8} {ws : List Wk} (h : Lay l ws) : ∀ (f : Nat) (s : ByteArray) (line : Int) (out : List Tk), s.data.toList = l → s.size ≤ f → out.length + ws.length ≤ 4000 →
    ∃ T : List Tk, toksF f s line out = (out ++ T, 0, 0) ∧ T.map Tk.kt = ws := by
  induction h with
  | nil =>
    intro f s line out hl hf ho
    have hz : s.size = 0 := by rw [← sz_list, hl]; rfl
    exact ⟨[], by rw [toksF_end hz, List.append_nil], rfl⟩
  | @nl s0 ws0 h ih =>
    intro f s line out hl hf ho
    obtain ⟨b0, b1, b2, b3⟩ := byte_cons hl
    obtain ⟨f, rfl⟩ : ∃ g, f = g + 1 := ⟨f - 1, by omega⟩
    rw [toksF_nl b1 (by rw [b0]; rfl)]
    exact ih f _ _ _ b3 (by rw [dropB_size]; omega) ho
  | @wh s0 ws0 b hb h ih =>
    intro f s line out hl hf ho
    obtain ⟨b0, b1, b2, b3⟩ := byte_cons hl
    obtain ⟨f, rfl⟩ : ∃ g, f = g + 1 := ⟨f - 1, by omega⟩
    rw [toksF_wh b1 (by rw [b0]; rcases hb with rfl | rfl <;> decide) (by rw [b0]; rcases hb with rfl | rfl <;> decide)]
    exact ih f _ _ _ b3 (by rw [dropB_size]; omega) ho
  | @cm s0 ws0 c hc h ih =>
    intro f s line out hl hf ho
    obtain ⟨b0, b1, b2, b3⟩ := byte_cons hl
    obtain ⟨f, rfl⟩ : ∃ g, f = g + 1 := ⟨f - 1, by omega⟩
    rw [toksF_cm b1 (by rw [b0]; rfl), run_cm hl hc]
    have hd : (dropB s (c.length + 1)).data.toList = 10 :: s0 := by
      rw [dropB_list, hl, List.drop_succ_cons, List.drop_left]
    obtain ⟨d0, d1, d2, d3⟩ := byte_cons hd
    have hz := dropB_size s (c.length + 1)
    obtain ⟨f, rfl⟩ : ∃ g, f = g + 1 := ⟨f - 1, by omega⟩
    rw [toksF_nl d1 (by rw [d0]; rfl)]
    exact ih f _ _ _ d3 (by rw [dropB_size]; omega) ho
  | @wd s0 ws0 w hw hs h ih =>
    intro f s line out hl hf ho
    obtain ⟨h1, ⟨c1, c2, c3⟩, hn, ht⟩ := word_of hw hs hl
    have hz := sz_word hl
    obtain ⟨f, rfl⟩ : ∃ g, f = g + 1 := ⟨f - 1, by omega⟩
    rw [List.length_cons] at ho
    rw [toksF_tk (by omega) c1 c2 c3, hn, ht]
    simp only
    rw [if_neg (by simp), if_neg (by omega), Int.toNat_natCast]
    obtain ⟨T, e1, e2⟩ := ih f (dropB s w.2.size) line (out ++ [⟨w.1, w.2, line⟩]) (by rw [dropB_list, hl, ← sz_list w.2, List.drop_left]) (by rw [dropB_size]; omega) (by rw [List.length_append, List.length_singleton]; omega)
    refine ⟨⟨w.1, w.2, line⟩ :: T, by rw [e1, List.append_assoc, List.singleton_append], ?_⟩
    rw [List.map_cons, e2]
theorem Lay.toksR {s : ByteArray} {ws : List Wk} (h : Lay s.data.toList ws) (hs : s.size ≤ 20000) (hl : ws.length ≤ 4000) : ∃ T : List Tk, toksR s = (T, 0, 0) ∧ T.map Tk.kt = ws := by
  obtain ⟨T, e1, e2⟩ := h.toks s.size s 1 [] rfl (Nat.le_refl _) (by simpa using hl)
  exact ⟨T, by rw [AM.toksR, if_neg (by omega), e1, List.nil_append], e2⟩
def PutL (x : ByteArray) (a : List Wk) : Prop := ∀ s ws, Lay s ws → Lay (x.data.toList ++ s) (a ++ ws)
def PutW (x : ByteArray) (a : List Wk) : Prop := ∀ s ws, whL s → Lay s ws → Lay (x.data.toList ++ s) (a ++ ws)
theorem ba_app_list (a b : ByteArray) : (a ++ b).data.toList = a.data.toList ++ b.data.toList := by
  rw [ByteArray.data_append, Array.toList_append]
theorem PutL.app {x y : ByteArray} {a b : List Wk} (h : PutL x a) (k : PutL y b) : PutL (x ++ y) (a ++ b) := fun s ws hs => by
  rw [ba_app_list, List.append_assoc, List.append_assoc]
  exact h _ _ (k _ _ hs)
theorem PutL.nil : PutL ⟨#[]⟩ [] := fun s ws hs => hs
theorem PutL.all {x : ByteArray} {a : List Wk} (h : PutL x a) : Lay x.data.toList a := by
  have := h [] [] .nil
  rwa [List.append_nil, List.append_nil] at this
theorem putL_pad : ∀ n, PutL (padR n) []
  | 0 => PutL.nil
  | n + 1 => by
    have h : PutL ⟨#[32, 32]⟩ [] := fun s ws hs => .wh (.inl rfl) (.wh (.inl rfl) hs)
    exact (putL_pad n).app h
theorem putW_word {w : Wk} (h : wdB w = true) : PutW w.2 [w] := fun s ws hw hs => .wd w h hw hs
theorem PutW.sp {x y : ByteArray} {a b : List Wk} (h : PutW x a) (k : PutW y b) : PutW (x ++ (⟨#[32]⟩ ++ y)) (a ++ b) := fun s ws hw hs => by
  rw [ba_app_list, ba_app_list, List.append_assoc, List.append_assoc, List.append_assoc]
  exact h _ _ (whL_sp _) (.wh (.inl rfl) (k _ _ hw hs))
theorem putL_line {t : ByteArray} {a : List Wk} (h : PutW t a) (n : Nat) : PutL (lineR n t) a := fun s ws hs => by
  have h1 : PutL (t ++ ⟨#[10]⟩) a := fun s ws hs => by
    rw [ba_app_list, List.append_assoc]
    exact h _ _ (whL_nl _) (.nl hs)
  exact ((putL_pad n).app h1) s ws hs
end Go.AM
namespace Go.AM
open Go Go.Proofs Go.Shelf
def wOp : Wk := (4, sOp)
def wCl : Wk := (4, sCl)
def wSem : Wk := (4, sSem)
def hdW (k n : Int) : List (List Wk) :=
  if k = 3 then [[(1, sCho)], [wCl, (1, sOr)]] else if k = 4 then [[(1, sIf)], [wCl, (1, sThe)], [wCl, (1, sEls)]] else if k = 5 then [[(1, sLoo)]] else if k = 6 then [[(1, sRep), (2, digR n)]] else [[(1, sTry)]]
def hdAt (hs : List (List Wk)) (i : Nat) : List Wk := hs.getD (min i (hs.length - 1)) []
mutual
def wsC (bl : Bool) : Cm → List Wk
  | .mk k s n c => if (bl && k == 2) = true then wsS c else if k = 1 then [(1, sApp), (1, s), wSem] else if k = 10 then [(1, sCal), (1, s), wSem]
    else if k = 8 then [(1, sSki), wSem] else if k = 9 then [(1, sFai), wSem] else wsK (hdW k n) 0 c ++ [wCl]
def wsS : List Cm → List Wk
  | [] => []
  | x :: r => wsC false x ++ wsS r
def wsK (hs : List (List Wk)) : Nat → List Cm → List Wk
  | _, [] => []
  | i, x :: r => (hdAt hs i ++ [wOp]) ++ wsC true x ++ wsK hs (i + 1) r
end
theorem wsC_eq (bl : Bool) (c : Cm) : wsC bl c = if (bl && c.kind == 2) = true then wsS c.kids else if c.kind = 1 then [(1, sApp), (1, c.name), wSem] else if c.kind = 10 then [(1, sCal), (1, c.name), wSem]
    else if c.kind = 8 then [(1, sSki), wSem] else if c.kind = 9 then [(1, sFai), wSem] else wsK (hdW c.kind c.num) 0 c.kids ++ [wCl] := by
  cases c
  rw [wsC]
  rfl
inductive Cm.Fn : Cm → Prop
  | mk {c : Cm} (ho : okB c = true) (hn : c.kind = 1 ∨ c.kind = 10 → nameB c.name = true) (hr : c.kind = 6 → 1 ≤ c.num ∧ c.num ≤ 9) (h : ∀ x ∈ c.kids, Cm.Fn x) : Cm.Fn c
theorem Cm.Fn.ok {c : Cm} (h : c.Fn) : okB c = true := by cases h; assumption
theorem Cm.Fn.nm {c : Cm} (h : c.Fn) : c.kind = 1 ∨ c.kind = 10 → nameB c.name = true := by cases h; assumption
theorem Cm.Fn.num {c : Cm} (h : c.Fn) : c.kind = 6 → 1 ≤ c.num ∧ c.num ≤ 9 := by cases h; assumption
theorem Cm.Fn.kid {c : Cm} (h : c.Fn) : ∀ x ∈ c.kids, Cm.Fn x := by cases h; assumption
theorem own_fn {p : List Pr} {rs : List ByteArray} {asked : Bool} {at' : Nat} {c : Cm} (h : ownE p rs asked at' c = 0) : okB c = true ∧ (c.kind = 1 ∨ c.kind = 10 → nameB c.name = true) ∧ (c.kind = 6 → 1 ≤ c.num ∧ c.num ≤ 9) := by
  have h2 := own_fm h
  refine ⟨h2.1, fun hk => ?_, h2.2.2⟩
  unfold ownE at h
  rw [h2.1, if_neg (by simp)] at h
  cases hx : nameB c.name with
  | true => rfl
  | false =>
    rw [hx] at h
    rcases hk with e | e
    · rw [if_pos e, if_pos rfl] at h; cases h
    · rw [if_neg (by omega), if_pos e, if_pos rfl] at h; cases h
theorem cmd_fn {p : List Pr} {rs : List ByteArray} {asked : Bool} {at' : Nat} : ∀ (n : Nat) (c : Cm), c.size < n → cmdE p rs asked at' c = 0 → c.Fn
  | 0, c, h, _ => absurd h (Nat.not_lt_zero _)
  | n + 1, c, h, he => by
    rw [cmdE_eq] at he
    split at he
    · rename_i h1; exact absurd he h1
    · rename_i h1
      obtain ⟨a, b, d⟩ := own_fn (Decidable.not_not.1 h1)
      exact .mk a b d fun x hx => cmd_fn n x (by have := Cm.kid_size hx; omega) (cmdEL_mem he x hx)
theorem okB_kind {c : Cm} (h : okB c = true) : 1 ≤ c.kind ∧ c.kind ≤ 10 := by
  unfold okB at h
  simp only [Bool.and_eq_true] at h
  have h1 := h.1.1
  clear h
  repeat' split at h1
  all_goals first | omega | simp at h1
theorem okB_len2 {c : Cm} (h : okB c = true) (hk : c.kind = 2) : 2 ≤ c.kids.length ∧ ∀ x ∈ c.kids, x.kind ≠ 2 := by
  unfold okB at h
  simp only [Bool.and_eq_true] at h
  have h1 := h.1.1
  rw [if_pos hk] at h1
  simpa using h1
theorem okB_lens {c : Cm} (h : okB c = true) : (c.kind = 3 → 2 ≤ c.kids.length) ∧ (c.kind = 4 → c.kids.length = 3) ∧ (c.kind = 5 ∨ c.kind = 6 ∨ c.kind = 7 → c.kids.length = 1) ∧ (c.kind = 1 ∨ c.kind = 8 ∨ c.kind = 9 ∨ c.kind = 10 → c.kids.length = 0) := by
  unfold okB at h
  simp only [Bool.and_eq_true] at h
  have h1 := h.1.1
  refine ⟨fun hk => ?_, fun hk => ?_, fun hk => ?_, fun hk => ?_⟩
  · rw [if_neg (by omega), if_pos hk] at h1; simpa using h1
  · rw [if_neg (by omega), if_neg (by omega), if_pos hk] at h1; simpa using h1
  · rw [if_neg (by omega), if_neg (by omega), if_neg (by omega), if_pos hk] at h1; simpa using h1
  · rw [if_neg (by omega), if_neg (by omega), if_neg (by omega), if_neg (by omega), if_pos hk] at h1; simpa using h1
theorem okB_name {c : Cm} (h : okB c = true) : (¬ (c.kind = 1 ∨ c.kind = 10) → c.name = ⟨#[]⟩) ∧ (c.kind ≠ 6 → c.num = 0) := by
  unfold okB at h
  simp only [Bool.and_eq_true, Bool.or_eq_true, decide_eq_true_eq] at h
  refine ⟨fun hk => h.1.2.resolve_left hk, fun hk => h.2.resolve_left hk⟩
theorem fApply_eq (s : ByteArray) : fApply ++ (s ++ fSemi) = sApp ++ (⟨#[32]⟩ ++ (s ++ (⟨#[32]⟩ ++ sSem))) := by
  rw [show fApply = sApp ++ ⟨#[32]⟩ by decide, show fSemi = ⟨#[32]⟩ ++ sSem by decide, ByteArray.append_assoc]
theorem fCall_eq (s : ByteArray) : fCall ++ (s ++ fSemi) = sCal ++ (⟨#[32]⟩ ++ (s ++ (⟨#[32]⟩ ++ sSem))) := by
  rw [show fCall = sCal ++ ⟨#[32]⟩ by decide, show fSemi = ⟨#[32]⟩ ++ sSem by decide, ByteArray.append_assoc]
theorem fSkip_eq : fSkip = sSki ++ (⟨#[32]⟩ ++ sSem) := by decide
theorem fFail_eq : fFail = sFai ++ (⟨#[32]⟩ ++ sSem) := by decide
theorem fOpen_eq : fOpen = ⟨#[32]⟩ ++ sOp := by decide
theorem wd_kw : ∀ s ∈ [sPro, sApp, sCal, sSki, sFai, sLoo, sTry, sIf, sThe, sEls, sCho, sOr, sRep], wdB (1, s) = true := by decide
theorem wd_sg : ∀ s ∈ [sOp, sCl, sSem], wdB (4, s) = true := by decide
theorem wd_name {s : ByteArray} (h : nameB s = true) : wdB (1, s) = true := by simp [wdB, h]
theorem wd_dig {n : Int} (h : 1 ≤ n ∧ n ≤ 9) : wdB (2, digR n) = true := by
  obtain ⟨m, rfl⟩ := Int.eq_ofNat_of_zero_le (show 0 ≤ n by omega)
  have : ∀ m : Nat, m < 10 → wdB (2, digR (m : Int)) = true := by decide
  exact this m (by omega)
theorem num_dig {n : Int} (h : 1 ≤ n ∧ n ≤ 9) : numR (digR n) = n := by
  obtain ⟨m, rfl⟩ := Int.eq_ofNat_of_zero_le (show 0 ≤ n by omega)
  have : ∀ m : Nat, m < 10 → numR (digR (m : Int)) = m := by decide
  exact this m (by omega)
def HdOk (ws : List ByteArray) (hs : List (List Wk)) : Prop := ∀ i, PutW (wdAt ws i) (hdAt hs i)
theorem hd_of {ws : List ByteArray} {hs : List (List Wk)} (hl : ws.length = hs.length) (h1 : 1 ≤ ws.length) (h : ∀ i, i < ws.length → PutW (ws.getD i ⟨#[]⟩) (hs.getD i [])) : HdOk ws hs := fun i => by
  unfold wdAt hdAt
  rw [← hl]
  exact h _ (by omega)
theorem putW_two {a b : ByteArray} {k l : Int} (h : wdB (k, a) = true) (h2 : wdB (l, b) = true) : PutW (a ++ (⟨#[32]⟩ ++ b)) [(k, a), (l, b)] := (putW_word h).sp (putW_word h2)
theorem hd_ok {k n : Int} (h : k = 6 → 1 ≤ n ∧ n ≤ 9) : HdOk (wdsR k n) (hdW k n) := by
  have w1 := fun s h => putW_word (wd_kw s h)
  have w2 := fun s h => putW_two (wd_sg sCl (by simp)) (wd_kw s h)
  unfold wdsR hdW
  split
  · refine hd_of rfl (by decide) fun i hi => ?_
    match i, hi with
    | 0, _ => exact w1 sCho (by simp)
    | 1, _ => exact w2 sOr (by simp)
  · split
    · refine hd_of rfl (by decide) fun i hi => ?_
      match i, hi with
      | 0, _ => exact w1 sIf (by simp)
      | 1, _ => exact w2 sThe (by simp)
      | 2, _ => exact w2 sEls (by simp)
    · split
      · refine hd_of rfl (by decide) fun i hi => ?_
        match i, hi with
        | 0, _ => exact w1 sLoo (by simp)
      · split
        · rename_i e
          refine hd_of rfl (Nat.le_refl 1) fun i hi => ?_
          match i, hi with
          | 0, _ =>
            have := putW_two (wd_kw sRep (by simp)) (wd_dig (h e))
            rw [← ByteArray.append_assoc] at this
            exact this
        · refine hd_of rfl (by decide) fun i hi => ?_
          match i, hi with
          | 0, _ => exact w1 sTry (by simp)
theorem put_fm : ∀ (n : Nat) (c : Cm), c.size < n → c.Fn → ∀ (bl : Bool) (ind : Nat), PutL (fmC bl ind c) (wsC bl c)
  | 0, c, h, _ => absurd h (Nat.not_lt_zero _)
  | n + 1, c, hz, hf => fun bl ind => by
    have ih := fun x (hx : x ∈ c.kids) => put_fm n x (by have := Cm.kid_size hx; omega) (hf.kid x hx)
    have w1 := fun s h => putW_word (wd_kw s h)
    have w2 := fun s h => putW_word (wd_sg s h)
    have k1 : ∀ l : List Cm, (∀ x ∈ l, ∀ (bl : Bool) (ind : Nat), PutL (fmC bl ind x) (wsC bl x)) → PutL (fmS ind l) (wsS l) := by
      intro l
      induction l with
      | nil => intro _; rw [fmS, wsS]; exact PutL.nil
      | cons x r ih2 =>
        intro hx
        rw [fmS, wsS]
        exact (hx x (by simp) false ind).app (ih2 fun y hy => hx y (by simp [hy]))
    have k2 : ∀ (ws : List ByteArray) (hs : List (List Wk)), HdOk ws hs → ∀ (l : List Cm) (i : Nat), (∀ x ∈ l, ∀ (bl : Bool) (ind : Nat), PutL (fmC bl ind x) (wsC bl x)) → PutL (fmK ind ws i l) (wsK hs i l) := by
      intro ws hs hh l
      induction l with
      | nil => intro i _; rw [fmK, wsK]; exact PutL.nil
      | cons x r ih2 =>
        intro i hx
        rw [fmK, wsK]
        refine PutL.app ?_ (ih2 (i + 1) fun y hy => hx y (by simp [hy]))
        refine PutL.app ?_ (hx x (by simp) true (ind + 1))
        rw [fOpen_eq]
        exact putL_line ((hh i).sp (w2 sOp (by simp))) ind
    rw [fmC_eq, wsC_eq]
    split
    · exact k1 _ ih
    · split
      · rename_i e
        rw [fApply_eq]
        exact putL_line ((w1 sApp (by simp)).sp ((putW_word (wd_name (hf.nm (.inl e)))).sp (w2 sSem (by simp)))) ind
      · split
        · rename_i e
          rw [fCall_eq]
          exact putL_line ((w1 sCal (by simp)).sp ((putW_word (wd_name (hf.nm (.inr e)))).sp (w2 sSem (by simp)))) ind
        · split
          · rw [fSkip_eq]
            exact putL_line ((w1 sSki (by simp)).sp (w2 sSem (by simp))) ind
          · split
            · rw [fFail_eq]
              exact putL_line ((w1 sFai (by simp)).sp (w2 sSem (by simp))) ind
            · exact (k2 _ _ (hd_ok hf.num) c.kids 0 ih).app (putL_line (w2 sCl (by simp)) ind)
def wsP (q : Pr) : List Wk := [(1, sPro), (1, q.name), wOp] ++ wsC true q.body ++ [wCl]
def wsPs : List Pr → List Wk
  | [] => []
  | q :: r => wsP q ++ wsPs r
theorem fPro_eq (s : ByteArray) : fPro ++ (s ++ fOpen) = sPro ++ (⟨#[32]⟩ ++ (s ++ (⟨#[32]⟩ ++ sOp))) := by
  rw [show fPro = sPro ++ ⟨#[32]⟩ by decide, fOpen_eq, ByteArray.append_assoc]
def PrFn (l : List Pr) : Prop := ∀ q ∈ l, nameB q.name = true ∧ q.body.Fn
theorem hdAt_len (k n : Int) (i : Nat) : (hdAt (hdW k n) i).length ≤ 2 := by
  have h : ∀ l ∈ hdW k n, l.length ≤ 2 := by
    unfold hdW
    repeat' split
    all_goals (intro l hl; simp only [List.mem_cons, List.not_mem_nil, or_false] at hl; rcases hl with rfl | rfl | rfl <;> first | decide | simp)
  unfold hdAt
  rw [List.getD_eq_getElem?_getD]
  cases hx : (hdW k n)[min i ((hdW k n).length - 1)]? with
  | none => show 0 ≤ 2; omega
  | some w => exact h w (List.mem_of_getElem? hx)
theorem wsC_len : ∀ (n : Nat) (c : Cm), c.size < n → ∀ bl, (wsC bl c).length + 3 ≤ 6 * c.size
  | 0, c, h => absurd h (Nat.not_lt_zero _)
  | n + 1, c, hz => fun bl => by
    have ih := fun x (hx : x ∈ c.kids) => wsC_len n x (by have := Cm.kid_size hx; omega)
    have hs := c.size_eq
    have k1 : ∀ l : List Cm, (∀ x ∈ l, ∀ (bl : Bool), (wsC bl x).length + 3 ≤ 6 * x.size) → (wsS l).length ≤ 6 * Cm.sizeL l := by
      intro l
      induction l with
      | nil => intro _; rw [wsS]; simp
      | cons x r ih2 =>
        intro hx
        have := hx x (by simp) false
        have := ih2 fun y hy => hx y (by simp [hy])
        rw [wsS, List.length_append, Cm.sizeL]
        omega
    have k2 : ∀ (a b : Int) (l : List Cm) (i : Nat), (∀ x ∈ l, ∀ (bl : Bool), (wsC bl x).length + 3 ≤ 6 * x.size) → (wsK (hdW a b) i l).length ≤ 6 * Cm.sizeL l := by
      intro a b l
      induction l with
      | nil => intro i _; rw [wsK]; simp
      | cons x r ih2 =>
        intro i hx
        have := hx x (by simp) true
        have := ih2 (i + 1) fun y hy => hx y (by simp [hy])
        have := hdAt_len a b i
        rw [wsK, List.length_append, List.length_append, List.length_append, Cm.sizeL]
        simp only [List.length_singleton]
        omega
    rw [wsC_eq]
    split
    · have := k1 _ ih; omega
    · repeat' split
      all_goals first
        | (simp only [List.length_cons, List.length_nil]; omega)
        | (have := k2 c.kind c.num _ 0 ih; rw [List.length_append, List.length_singleton]; omega)
theorem wsPs_len : ∀ l : List Pr, (wsPs l).length ≤ 6 * (l.map fun q => q.body.size).sum + l.length
  | [] => by simp [wsPs]
  | q :: r => by
    have h1 := wsC_len _ q.body (Nat.lt_succ_self _) true
    have h2 := wsPs_len r
    simp only [wsPs, wsP, List.length_append, List.map_cons, List.sum_cons, List.length_cons, List.length_nil]
    omega
end Go.AM
namespace Go.AM
open Go Go.Proofs Go.Shelf
def Fr (L : List Tk) (a : Nat) (ws : List Wk) : Prop := ∃ rest, (L.map Tk.kt).drop a = ws ++ rest
theorem Fr.app {L : List Tk} {a : Nat} {x y : List Wk} (h : Fr L a (x ++ y)) : Fr L a x ∧ Fr L (a + x.length) y := by
  obtain ⟨rest, h⟩ := h
  refine ⟨⟨y ++ rest, by rw [h, List.append_assoc]⟩, ⟨rest, ?_⟩⟩
  rw [← List.drop_drop, h, List.append_assoc, List.drop_left]
theorem Fr.head {L : List Tk} {a : Nat} {w : Wk} {ws : List Wk} (h : Fr L a (w :: ws)) : ∃ t, L[a]? = some t ∧ t.kt = w := by
  obtain ⟨rest, h⟩ := h
  have h1 := congrArg (fun l => l[0]?) h
  simp only [List.getElem?_drop, List.cons_append, List.getElem?_cons_zero, List.getElem?_map, Nat.add_zero] at h1
  cases hx : L[a]? with
  | none => rw [hx] at h1; cases h1
  | some t => rw [hx] at h1; exact ⟨t, rfl, by simpa using h1⟩
theorem Fr.tail {L : List Tk} {a : Nat} {w : Wk} {ws : List Wk} (h : Fr L a (w :: ws)) : Fr L (a + 1) ws := (Fr.app (x := [w]) (y := ws) h).2
theorem Fr.len {L : List Tk} {a : Nat} {ws : List Wk} (h : Fr L a ws) (h1 : ws ≠ []) : a + ws.length ≤ L.length := by
  obtain ⟨rest, h⟩ := h
  have := congrArg List.length h
  rw [List.length_drop, List.length_map, List.length_append] at this
  have : 1 ≤ ws.length := List.length_pos_iff.2 h1
  omega
theorem peek_at {L : List Tk} {a : Nat} {k : Int} {s : ByteArray} {ws : List Wk} (h : Fr L a ((k, s) :: ws)) (hk : k = 1 ∨ k = 4) (x : ByteArray) : peekB L ⟨a, -1⟩ x = decide (s = x) := by
  obtain ⟨t, h1, h2⟩ := h.head
  have e1 : t.kind = k := congrArg Prod.fst h2
  have e2 : t.text = s := congrArg Prod.snd h2
  simp only [peekB, isAt, h1, e1, e2]
  rcases hk with rfl | rfl <;> simp
theorem take_at {L : List Tk} {a : Nat} {k : Int} {s : ByteArray} {ws : List Wk} (h : Fr L a ((k, s) :: ws)) (hk : k = 1 ∨ k = 4) : takeR L ⟨a, -1⟩ s = ⟨a + 1, -1⟩ := by
  rw [takeR, peek_at h hk, if_pos (by simp)]
theorem kind_at {L : List Tk} {a : Nat} {k : Int} {s : ByteArray} {ws : List Wk} (h : Fr L a ((k, s) :: ws)) : kindR L ⟨a, -1⟩ k = (s, ⟨a + 1, -1⟩) := by
  obtain ⟨t, h1, h2⟩ := h.head
  have e1 : t.kind = k := congrArg Prod.fst h2
  have e2 : t.text = s := congrArg Prod.snd h2
  have hb : kindB L ⟨a, -1⟩ k = true := by simp [kindB, kindAt, h1, e1]
  rw [kindR, if_pos hb]
  simp only [textAt, h1, e2]
theorem wsC_head {c : Cm} (h : c.Fn) (h2 : c.kind ≠ 2) : ∃ s ws, wsC false c = (1, s) :: ws ∧ s ≠ sOr ∧ s ≠ sCl := by
  have hk := okB_kind h.ok
  have hl := okB_lens h.ok
  rw [wsC_eq]
  simp only [Bool.false_and, Bool.false_eq_true, if_false]
  split
  · exact ⟨_, _, rfl, by decide, by decide⟩
  · split
    · exact ⟨_, _, rfl, by decide, by decide⟩
    · split
      · exact ⟨_, _, rfl, by decide, by decide⟩
      · split
        · exact ⟨_, _, rfl, by decide, by decide⟩
        · obtain ⟨x, r, hx⟩ : ∃ x r, c.kids = x :: r := by
            cases hc : c.kids with
            | nil => rw [hc] at hl; simp at hl; omega
            | cons x r => exact ⟨x, r, rfl⟩
          rw [hx, wsK]
          have hh : ∃ s ws, hdAt (hdW c.kind c.num) 0 = (1, s) :: ws ∧ s ≠ sOr ∧ s ≠ sCl := by
            unfold hdW
            repeat' split
            all_goals exact ⟨_, _, rfl, by decide, by decide⟩
          obtain ⟨s, ws, e, e1, e2⟩ := hh
          exact ⟨s, _, by rw [e]; rfl, e1, e2⟩
def CmdOk (L : List Tk) (n : Nat) : Prop := ∀ c : Cm, c.Fn → c.kind ≠ 2 → ∀ a, Fr L a (wsC false c) → (wsC false c).length ≤ n → peekB L ⟨a + (wsC false c).length, -1⟩ sOr = false → pCmd L n ⟨a, -1⟩ = (c, ⟨a + (wsC false c).length, -1⟩)
def BlkOk (L : List Tk) (n : Nat) : Prop := ∀ c : Cm, c.Fn → ∀ a, Fr L a (wOp :: (wsC true c ++ [wCl])) → (wsC true c).length + 1 ≤ n → pBlk L n ⟨a, -1⟩ = (c, ⟨a + (wsC true c).length + 2, -1⟩)
theorem wsS_one {x : Cm} {r : List Cm} : wsS (x :: r) = wsC false x ++ wsS r := by rw [wsS]
theorem peek_next {L : List Tk} {r : List Cm} {a : Nat} {w : ByteArray} (hr : ∀ x ∈ r, Cm.Fn x ∧ x.kind ≠ 2) (hw : w = sOr) (h : Fr L a (wsS r ++ [wCl])) : peekB L ⟨a, -1⟩ w = false := by
  subst hw
  cases r with
  | nil =>
    rw [wsS, List.nil_append] at h
    rw [peek_at h (.inr rfl)]
    decide
  | cons x r =>
    obtain ⟨s, ws, e, e1, e2⟩ := wsC_head (hr x (by simp)).1 (hr x (by simp)).2
    rw [wsS_one, e, List.append_assoc] at h
    rw [peek_at h (.inl rfl), decide_eq_false e1]
theorem rest_at {L : List Tk} {n : Nat} (hC : CmdOk L n) : ∀ (r acc : List Cm) (f a : Nat), (∀ x ∈ r, Cm.Fn x ∧ x.kind ≠ 2 ∧ (wsC false x).length ≤ n) → r.length + 1 ≤ f → Fr L a (wsS r ++ [wCl]) →
    restR L (fun q => pCmd L n q) f ⟨a, -1⟩ acc = (acc ++ r, ⟨a + (wsS r).length, -1⟩)
  | [], acc, f, a, _, hf, h => by
    obtain ⟨f, rfl⟩ : ∃ g, f = g + 1 := ⟨f - 1, by omega⟩
    rw [wsS, List.nil_append] at h
    rw [restR, peek_at h (.inr rfl), if_neg (by simp [sCl]), List.append_nil, wsS]
    rfl
  | x :: r, acc, f, a, hx, hf, h => by
    obtain ⟨f, rfl⟩ : ∃ g, f = g + 1 := ⟨f - 1, by omega⟩
    obtain ⟨x1, x2, x3⟩ := hx x (by simp)
    obtain ⟨s, ws, e, e1, e2⟩ := wsC_head x1 x2
    have hp : peekB L ⟨a, -1⟩ sCl = false := by
      have h' := h
      rw [wsS_one, e, List.append_assoc] at h'
      rw [peek_at h' (.inl rfl), decide_eq_false e2]
    rw [wsS_one, List.append_assoc] at h
    obtain ⟨h1, h2⟩ := h.app
    have hn := peek_next (fun y hy => ⟨(hx y (by simp [hy])).1, (hx y (by simp [hy])).2.1⟩) rfl h2
    have hc := hC x x1 x2 a h1 x3 hn
    rw [restR, hp, if_pos (by simp)]
    rw [hc]
    try simp only
    rw [rest_at hC r (acc ++ [x]) f _ (fun y hy => hx y (by simp [hy])) (by simpa using hf) h2, wsS_one, List.append_assoc, List.singleton_append, List.length_append, Nat.add_assoc]
theorem wsS_mem : ∀ {l : List Cm} {x : Cm}, x ∈ l → (wsC false x).length ≤ (wsS l).length
  | y :: r, x, h => by
    rw [wsS_one, List.length_append]
    rcases List.mem_cons.1 h with rfl | h
    · omega
    · have := wsS_mem h; omega
theorem wsC_ne {c : Cm} (h : c.Fn) (h2 : c.kind ≠ 2) : 1 ≤ (wsC false c).length := by
  obtain ⟨s, ws, e, _⟩ := wsC_head h h2
  rw [e]; simp
theorem wsS_len : ∀ {l : List Cm}, (∀ x ∈ l, Cm.Fn x ∧ x.kind ≠ 2) → l.length ≤ (wsS l).length
  | [], _ => by simp
  | x :: r, h => by
    have h1 := wsC_ne (h x (by simp)).1 (h x (by simp)).2
    have h2 := wsS_len (l := r) fun y hy => h y (List.mem_cons_of_mem _ hy)
    rw [wsS_one, List.length_append, List.length_cons]
    omega
def blkL (c : Cm) : List Cm := if c.kind = 2 then c.kids else [c]
theorem blkL_ws (c : Cm) : wsC true c = wsS (blkL c) := by
  unfold blkL
  split
  · rename_i e; rw [wsC_eq, if_pos (by simp [e])]
  · rename_i e
    rw [wsS, wsS, List.append_nil, wsC_eq, wsC_eq]
    simp [e]
theorem blkL_ok {c : Cm} (h : c.Fn) : (∀ x ∈ blkL c, Cm.Fn x ∧ x.kind ≠ 2) ∧ 1 ≤ (blkL c).length ∧ wrapC (blkL c) = c := by
  unfold blkL
  split
  · rename_i e
    obtain ⟨h1, h2⟩ := okB_len2 h.ok e
    obtain ⟨n1, n2⟩ := okB_name h.ok
    refine ⟨fun x hx => ⟨h.kid x hx, h2 x hx⟩, by omega, ?_⟩
    obtain ⟨k, s, m, l⟩ := c
    simp only [Cm.kind, Cm.name, Cm.num, Cm.kids] at *
    have e1 := n1 (by omega)
    have e2 := n2 (by omega)
    subst e e1 e2
    match l, h1 with
    | x :: y :: r, _ => rfl
  · rename_i e
    exact ⟨fun x hx => by simp at hx; subst hx; exact ⟨h, e⟩, by simp, rfl⟩
theorem blk_step {L : List Tk} {n : Nat} (hC : CmdOk L n) : BlkOk L (n + 1) := fun c hc a h hn => by
  obtain ⟨b1, b2, b3⟩ := blkL_ok hc
  rw [blkL_ws] at h hn ⊢
  generalize blkL c = l at *
  cases l with
  | nil => simp at b2
  | cons x r =>
    have hx := b1 x (by simp)
    have hle := wsS_mem (l := x :: r) (x := x) (by simp)
    have hln := wsS_len b1
    have hL := h.len (by simp)
    have ht := take_at h (.inr rfl)
    have h' := h.tail
    rw [wsS_one, List.append_assoc] at h'
    obtain ⟨h1, h2⟩ := h'.app
    have hcx := hC x hx.1 hx.2 _ h1 (by omega) (peek_next (fun y hy => b1 y (by simp [hy])) rfl h2)
    have hrs := rest_at hC r [x] (L.length + 1) _ (fun y hy => ⟨(b1 y (by simp [hy])).1, (b1 y (by simp [hy])).2, by have := wsS_mem (l := x :: r) (x := y) (by simp [hy]); omega⟩) (by simp only [List.length_cons, List.length_append, List.length_nil] at hL hln; omega) h2
    have hcl := take_at (h2.app).2 (.inr rfl)
    rw [pBlk, blockR]
    simp only [ht, hcx, hrs, hcl]
    rw [List.singleton_append, b3, wsS_one, List.length_append]
    congr 2
    omega
theorem word_blk {L : List Tk} {n : Nat} (hB : BlkOk L n) {w : ByteArray} {c : Cm} {a : Nat} {ws : List Wk} (hc : c.Fn) (hn : (wsC true c).length + 1 ≤ n) (h : Fr L a ((1, w) :: wOp :: (wsC true c ++ wCl :: ws))) :
    takeR L ⟨a, -1⟩ w = ⟨a + 1, -1⟩ ∧ pBlk L n ⟨a + 1, -1⟩ = (c, ⟨a + (wsC true c).length + 3, -1⟩) ∧ Fr L (a + (wsC true c).length + 3) ws := by
  have h1 := h.tail
  have h2 : Fr L (a + 1) ((wOp :: (wsC true c ++ [wCl])) ++ ws) := by simpa using h1
  obtain ⟨h3, h4⟩ := h2.app
  have h5 := hB c hc _ h3 hn
  refine ⟨take_at h (.inl rfl), by rw [h5]; congr 2; omega, ?_⟩
  have e : a + 1 + (wOp :: (wsC true c ++ [wCl])).length = a + (wsC true c).length + 3 := by simp; omega
  rw [e] at h4
  exact h4
def orW : List Cm → List Wk
  | [] => []
  | x :: r => (1, sOr) :: wOp :: (wsC true x ++ wCl :: orW r)
theorem orW_len : ∀ r : List Cm, r.length ≤ (orW r).length
  | [] => by simp
  | x :: r => by have := orW_len r; rw [orW]; simp only [List.length_cons, List.length_append]; omega
theorem orW_wsK (n : Int) : ∀ (l : List Cm) (i : Nat), 1 ≤ i → wCl :: orW l = wsK (hdW 3 n) i l ++ [wCl]
  | [], i, _ => by rw [wsK, orW, List.nil_append]
  | x :: r, i, hi => by
    have hh : hdAt (hdW 3 n) i = [wCl, (1, sOr)] := by
      unfold hdAt
      have : min i ((hdW 3 n).length - 1) = 1 := by
        have : (hdW 3 n).length = 2 := rfl
        omega
      rw [this]
      rfl
    rw [wsK, orW, hh, orW_wsK n r (i + 1) (by omega)]
    simp
theorem ors_at {L : List Tk} {n : Nat} (hB : BlkOk L n) : ∀ (r acc : List Cm) (f a : Nat), (∀ x ∈ r, Cm.Fn x ∧ (wsC true x).length + 1 ≤ n) → r.length + 1 ≤ f → Fr L a (orW r) → peekB L ⟨a + (orW r).length, -1⟩ sOr = false →
    orsR L (fun q => pBlk L n q) f ⟨a, -1⟩ acc = (acc ++ r, ⟨a + (orW r).length, -1⟩)
  | [], acc, f, a, _, hf, h, hp => by
    obtain ⟨f, rfl⟩ : ∃ g, f = g + 1 := ⟨f - 1, by omega⟩
    rw [orW] at hp ⊢
    simp only [List.length_nil, Nat.add_zero] at hp ⊢
    rw [orsR, hp, if_neg (by simp), List.append_nil]
  | x :: r, acc, f, a, hx, hf, h, hp => by
    obtain ⟨f, rfl⟩ : ∃ g, f = g + 1 := ⟨f - 1, by omega⟩
    obtain ⟨x1, x2⟩ := hx x (by simp)
    have e : a + (orW (x :: r)).length = a + (wsC true x).length + 3 + (orW r).length := by
      rw [orW]; simp only [List.length_cons, List.length_append]; omega
    rw [e] at hp ⊢
    rw [orW] at h
    have hpk := peek_at h (.inl rfl) sOr
    obtain ⟨_, h2, h3⟩ := word_blk hB x1 x2 h
    rw [orsR, hpk, if_pos (by simp)]
    simp only
    rw [h2]
    simp only
    rw [ors_at hB r (acc ++ [x]) f _ (fun y hy => hx y (by simp [hy])) (by simpa using hf) h3 hp, List.append_assoc, List.singleton_append]
theorem wsK_mem {hs : List (List Wk)} : ∀ {l : List Cm} {i : Nat} {x : Cm}, x ∈ l → (wsC true x).length + 1 ≤ (wsK hs i l).length
  | y :: r, i, x, h => by
    rw [wsK, List.length_append, List.length_append, List.length_append, List.length_singleton]
    rcases List.mem_cons.1 h with rfl | h
    · omega
    · have := wsK_mem (hs := hs) (i := i + 1) h; omega
theorem cmd_step {L : List Tk} {n : Nat} (hB : BlkOk L n) : CmdOk L (n + 1) := fun c hc h2 a h hn hp => by
  obtain ⟨s, ws, e, e1, e2⟩ := wsC_head hc h2
  have hk := okB_kind hc.ok
  obtain ⟨l3, l4, l5, l1⟩ := okB_lens hc.ok
  obtain ⟨n1, n2⟩ := okB_name hc.ok
  have hkw : pCmd L (n + 1) ⟨a, -1⟩ = cmdS L (fun q => pBlk L n q) s ⟨a + 1, -1⟩ := by
    have h' := h
    rw [e] at h'
    rw [pCmd, cmdR, if_pos (by show (-1 : Int) < 0; decide)]
    rw [kind_at h']
  have hkids : ∀ x ∈ c.kids, c.kind ≠ 1 → c.kind ≠ 10 → c.kind ≠ 8 → c.kind ≠ 9 → Cm.Fn x ∧ (wsC true x).length + 1 ≤ n := fun x hx k1 k2 k3 k4 => by
    refine ⟨hc.kid x hx, ?_⟩
    rw [wsC_eq] at hn
    simp only [Bool.false_and, Bool.false_eq_true, if_false, if_neg k1, if_neg k2, if_neg k3, if_neg k4, List.length_append, List.length_singleton] at hn
    have := wsK_mem (hs := hdW c.kind c.num) (i := 0) hx
    omega
  rw [hkw]
  clear hkw hn
  obtain ⟨k, nm, nu, l⟩ := c
  have hE : wsC false (.mk k nm nu l) = if k = 1 then [(1, sApp), (1, nm), wSem] else if k = 10 then [(1, sCal), (1, nm), wSem] else if k = 8 then [(1, sSki), wSem] else if k = 9 then [(1, sFai), wSem] else wsK (hdW k nu) 0 l ++ [wCl] := by
    rw [wsC]
    simp only [Bool.false_and, Bool.false_eq_true, if_false]
  rw [hE] at e h hp ⊢
  simp only [Cm.kind, Cm.name, Cm.num, Cm.kids] at hk l3 l4 l5 l1 n1 n2 h2 hkids
  by_cases k1 : k = 1
  · subst k1
    have := l1 (by decide)
    obtain rfl : l = [] := List.eq_nil_of_length_eq_zero this
    obtain rfl := n2 (by decide)
    rw [if_pos rfl] at e h hp ⊢
    obtain ⟨rfl, _⟩ : sApp = s ∧ True := ⟨by injection e with e _; injection e, trivial⟩
    have t1 := kind_at h.tail
    have t2 := take_at h.tail.tail (.inr rfl)
    rw [cmdS, if_pos rfl, simpR, if_pos rfl, t1]
    simp only
    rw [t2]
    rfl
  rw [if_neg k1] at e h hp ⊢
  by_cases k2 : k = 10
  · subst k2
    have := l1 (by decide)
    obtain rfl : l = [] := List.eq_nil_of_length_eq_zero this
    obtain rfl := n2 (by decide)
    rw [if_pos rfl] at e h hp ⊢
    obtain ⟨rfl, _⟩ : sCal = s ∧ True := ⟨by injection e with e _; injection e, trivial⟩
    have t1 := kind_at h.tail
    have t2 := take_at h.tail.tail (.inr rfl)
    rw [cmdS, if_neg (by decide), if_pos rfl, simpR, if_pos rfl, t1]
    simp only
    rw [t2]
    rfl
  rw [if_neg k2] at e h hp ⊢
  by_cases k3 : k = 8
  · subst k3
    have := l1 (by decide)
    obtain rfl : l = [] := List.eq_nil_of_length_eq_zero this
    obtain rfl := n2 (by decide)
    obtain rfl := n1 (by decide)
    rw [if_pos rfl] at e h hp ⊢
    obtain ⟨rfl, _⟩ : sSki = s ∧ True := ⟨by injection e with e _; injection e, trivial⟩
    have t2 := take_at h.tail (.inr rfl)
    rw [cmdS, if_neg (by decide), if_neg (by decide), if_pos rfl, simpR, if_neg (by decide), t2]
    rfl
  rw [if_neg k3] at e h hp ⊢
  by_cases k4 : k = 9
  · subst k4
    have := l1 (by decide)
    obtain rfl : l = [] := List.eq_nil_of_length_eq_zero this
    obtain rfl := n2 (by decide)
    obtain rfl := n1 (by decide)
    rw [if_pos rfl] at e h hp ⊢
    obtain ⟨rfl, _⟩ : sFai = s ∧ True := ⟨by injection e with e _; injection e, trivial⟩
    have t2 := take_at h.tail (.inr rfl)
    rw [cmdS, if_neg (by decide), if_neg (by decide), if_neg (by decide), if_pos rfl, simpR, if_neg (by decide), t2]
    rfl
  rw [if_neg k4] at e h hp ⊢
  obtain rfl := n1 (by omega)
  have hkd := fun x hx => hkids x hx k1 k2 k3 k4
  by_cases k5 : k = 5
  · subst k5
    obtain rfl := n2 (by decide)
    match l, l5 (by decide) with
    | [x], _ =>
      have ew : wsK (hdW 5 0) 0 [x] ++ [wCl] = (1, sLoo) :: wOp :: (wsC true x ++ wCl :: []) := by rw [wsK, wsK]; simp [hdAt, hdW]
      rw [ew] at e h hp ⊢
      obtain ⟨rfl, _⟩ : sLoo = s ∧ True := ⟨by injection e with e _; injection e, trivial⟩
      obtain ⟨_, b2, _⟩ := word_blk hB (hkd x (by simp)).1 (hkd x (by simp)).2 h
      rw [cmdS, if_neg (by decide), if_neg (by decide), if_neg (by decide), if_neg (by decide), if_pos rfl, blocksR, blksR, asK]
      simp only [b2, List.length_cons, List.length_append, List.length_nil]
      congr 2
  by_cases k7 : k = 7
  · subst k7
    obtain rfl := n2 (by decide)
    match l, l5 (by decide) with
    | [x], _ =>
      have ew : wsK (hdW 7 0) 0 [x] ++ [wCl] = (1, sTry) :: wOp :: (wsC true x ++ wCl :: []) := by rw [wsK, wsK]; simp [hdAt, hdW]
      rw [ew] at e h hp ⊢
      obtain ⟨rfl, _⟩ : sTry = s ∧ True := ⟨by injection e with e _; injection e, trivial⟩
      obtain ⟨_, b2, _⟩ := word_blk hB (hkd x (by simp)).1 (hkd x (by simp)).2 h
      rw [cmdS, if_neg (by decide), if_neg (by decide), if_neg (by decide), if_neg (by decide), if_neg (by decide), if_pos rfl, blocksR, blksR, asK]
      simp only [b2, List.length_cons, List.length_append, List.length_nil]
      congr 2
  by_cases k6 : k = 6
  · subst k6
    have hnum := hc.num rfl
    simp only [Cm.num] at hnum
    match l, l5 (by decide) with
    | [x], _ =>
      have ew : wsK (hdW 6 nu) 0 [x] ++ [wCl] = (1, sRep) :: (2, digR nu) :: wOp :: (wsC true x ++ [wCl]) := by rw [wsK, wsK]; simp [hdAt, hdW]
      rw [ew] at e h hp ⊢
      obtain ⟨rfl, _⟩ : sRep = s ∧ True := ⟨by injection e with e _; injection e, trivial⟩
      have t1 := kind_at h.tail
      have b2 := hB x (hkd x (by simp)).1 _ h.tail.tail (hkd x (by simp)).2
      rw [cmdS, if_neg (by decide), if_neg (by decide), if_neg (by decide), if_neg (by decide), if_neg (by decide), if_neg (by decide), if_neg (by decide), if_neg (by decide), if_pos rfl, t1]
      simp only
      rw [blocksR, blksR, asK, num_dig hnum]
      simp only [b2, List.length_cons, List.length_append, List.length_nil]
      congr 2
      omega
  obtain rfl := n2 k6
  by_cases k8 : k = 4
  · subst k8
    match l, l4 rfl with
    | [x, y, z], _ =>
      have ew : wsK (hdW 4 0) 0 [x, y, z] ++ [wCl] = (1, sIf) :: wOp :: (wsC true x ++ wCl :: (1, sThe) :: wOp :: (wsC true y ++ wCl :: (1, sEls) :: wOp :: (wsC true z ++ wCl :: []))) := by rw [wsK, wsK, wsK, wsK]; simp [hdAt, hdW]
      rw [ew] at e h hp ⊢
      obtain ⟨rfl, _⟩ : sIf = s ∧ True := ⟨by injection e with e _; injection e, trivial⟩
      obtain ⟨_, b2, h2'⟩ := word_blk hB (hkd x (by simp)).1 (hkd x (by simp)).2 h
      obtain ⟨c1, c2, h3'⟩ := word_blk hB (hkd y (by simp)).1 (hkd y (by simp)).2 h2'
      obtain ⟨d1, d2, _⟩ := word_blk hB (hkd z (by simp)).1 (hkd z (by simp)).2 h3'
      rw [cmdS, if_neg (by decide), if_neg (by decide), if_neg (by decide), if_neg (by decide), if_neg (by decide), if_neg (by decide), if_pos rfl, blocksR, blksR, blksR, blksR, asK]
      simp only [b2, c1, c2, d1, d2, List.length_cons, List.length_append, List.length_nil, List.cons_append, List.nil_append]
      congr 2
      omega
  have k9 : k = 3 := by omega
  subst k9
  match l, l3 rfl with
  | x :: y :: r, _ =>
    have ew : wsK (hdW 3 0) 0 (x :: y :: r) ++ [wCl] = (1, sCho) :: wOp :: (wsC true x ++ wCl :: (1, sOr) :: wOp :: (wsC true y ++ wCl :: orW r)) := by
      have := orW_wsK 0 (y :: r) 1 (Nat.le_refl _)
      rw [wsK, List.append_assoc, ← this, orW]
      simp [hdAt, hdW]
    rw [ew] at e h hp ⊢
    obtain ⟨rfl, _⟩ : sCho = s ∧ True := ⟨by injection e with e _; injection e, trivial⟩
    have hlen := h.len (by simp)
    have hol := orW_len r
    obtain ⟨_, b2, h2'⟩ := word_blk hB (hkd x (by simp)).1 (hkd x (by simp)).2 h
    obtain ⟨c1, c2, h3'⟩ := word_blk hB (hkd y (by simp)).1 (hkd y (by simp)).2 h2'
    simp only [List.length_cons, List.length_append] at hp hlen ⊢
    have hor := ors_at hB r [x, y] (L.length + 1) _ (fun z hz => hkd z (by simp [hz])) (by omega) h3' (by rw [← hp]; congr 2; omega)
    rw [cmdS, if_neg (by decide), if_neg (by decide), if_neg (by decide), if_neg (by decide), if_neg (by decide), if_neg (by decide), if_neg (by decide), if_pos rfl, blocksR, blksR, blksR, asK]
    simp only [b2, c1, c2, List.cons_append, List.nil_append, hor]
    congr 2
    omega
theorem both_ok (L : List Tk) : ∀ n, CmdOk L n ∧ BlkOk L n
  | 0 => by
    refine ⟨fun c hc h2 a h hn _ => ?_, fun c hc a h hn => by omega⟩
    have := wsC_ne hc h2
    omega
  | n + 1 => ⟨cmd_step (both_ok L n).2, blk_step (both_ok L n).1⟩
theorem top_at {L : List Tk} : ∀ (l : List Pr) (f a : Nat) (ps : List Pr) (ls : List Int), PrFn l → l.length ≤ f → (L.map Tk.kt).drop a = wsPs l → a ≤ L.length → (1 ≤ L.length) →
    ∃ ls', topR L f ⟨⟨a, -1⟩, ps, ls⟩ = ⟨⟨L.length, -1⟩, ps ++ l, ls'⟩
  | [], f, a, ps, ls, _, hf, h, ha, h1 => by
    have hl : L.length ≤ a := by
      have := congrArg List.length h
      rw [List.length_drop, List.length_map, wsPs] at this
      simp at this
      omega
    have e : a = L.length := by omega
    subst e
    cases f with
    | zero => exact ⟨ls, by rw [topR, List.append_nil]⟩
    | succ f => exact ⟨ls, by rw [topR, if_neg (fun h => by rcases h.2 with h | h; exact absurd (show L.length < L.length from h) (by omega); omega), List.append_nil]⟩
  | q :: r, f, a, ps, ls, hq, hf, h, ha, h1 => by
    obtain ⟨f, rfl⟩ : ∃ g, f = g + 1 := ⟨f - 1, by simp at hf; omega⟩
    obtain ⟨q1, q2⟩ := hq q (by simp)
    have hfr : Fr L a ((1, sPro) :: (1, q.name) :: ((wOp :: (wsC true q.body ++ [wCl])) ++ wsPs r)) := ⟨[], by rw [h, wsPs, wsP]; simp⟩
    have hln := hfr.len (by simp)
    simp only [List.length_cons, List.length_append, List.length_nil] at hln
    have t1 := take_at hfr (.inl rfl)
    have t2 := kind_at hfr.tail
    have t3 := (both_ok L (L.length + 1)).2 q.body q2 _ (hfr.tail.tail.app).1 (by omega)
    have hd : (L.map Tk.kt).drop (a + 1 + 1 + (wsC true q.body).length + 2) = wsPs r := by
      have e : a + 1 + 1 + (wsC true q.body).length + 2 = a + (wsP q).length := by rw [wsP]; simp; omega
      rw [e, ← List.drop_drop, h, wsPs, List.drop_left]
    obtain ⟨ls', ih⟩ := top_at r f _ (ps ++ [q]) (ls ++ [lineAt L a]) (fun x hx => hq x (by simp [hx])) (by simpa using hf) hd (by omega) h1
    refine ⟨ls', ?_⟩
    rw [topR, if_pos ⟨by show (-1 : Int) < 0; decide, .inl (by show a < _; omega)⟩, topS]
    simp only [t1, t2, t3]
    rw [ih, List.append_assoc, List.singleton_append]
theorem parseL_back {L : List Tk} {p : List Pr} (hp : PrFn p) (hf : (faultR p [] false).2 = 0) (h1 : 1 ≤ p.length) (hL : L.map Tk.kt = wsPs p) : parseL L = (p, 0, 0) := by
  have hl : p.length ≤ L.length := by
    have h2 : ∀ l : List Pr, l.length ≤ (wsPs l).length := fun l => by
      induction l with
      | nil => simp
      | cons x r ih => rw [wsPs, wsP]; simp only [List.length_append, List.length_cons, List.length_nil]; omega
    have := h2 p
    rw [← hL, List.length_map] at this
    exact this
  obtain ⟨ls', ht⟩ := top_at (L := L) p (L.length + 1) 0 [] [] hp (by omega) (by rw [List.drop_zero]; exact hL) (Nat.zero_le _) (by omega)
  rw [List.nil_append] at ht
  rw [parseL, if_neg (by omega), ht]
  simp only
  rw [if_neg (by decide), if_neg (by rw [hf]; simp)]
theorem fault_fn {p : List Pr} (h : (faultR p [] false).2 = 0) : PrFn p ∧ 1 ≤ p.length ∧ p.length ≤ 20 ∧ ∀ q ∈ p, q.body.size ≤ 60 := by
  obtain ⟨_, h20, h1, h2⟩ := fault_valid h
  have key : ∀ q ∈ p, (nameB q.name = true ∧ q.body.Fn) ∧ q.body.size ≤ 60 := fun q hq => by
    obtain ⟨i, hi, rfl⟩ := List.getElem_of_mem hq
    have h3 := h2 i hi
    unfold prE at h3
    split at h3
    · cases h3
    rename_i hn
    split at h3
    · cases h3
    split at h3
    · cases h3
    exact ⟨⟨by simpa using hn, cmd_fn _ _ (Nat.lt_succ_self _) h3⟩, by omega⟩
  exact ⟨fun q hq => (key q hq).1, h1, h20, fun q hq => (key q hq).2⟩
theorem parse_words {p : List Pr} (h : (faultR p [] false).2 = 0) (hsz : (p.map fun q => q.body.size).sum ≤ 600) {s : ByteArray} (hs : s.size ≤ 20000) (hl : Lay s.data.toList (wsPs p)) : parseR s = (p, 0, 0) := by
  obtain ⟨h1, h2, h3, h4⟩ := fault_fn h
  have hw := wsPs_len p
  obtain ⟨T, t1, t2⟩ := hl.toksR hs (by omega)
  rw [parseR, t1, if_neg (by simp)]
  exact parseL_back h1 h h2 t2
end Go.AM
namespace Go.AM
open Go Go.Proofs
theorem digits_c (n : Int) (h0 : 0 ≤ n) (h1 : n < 10) (tok : Nat → Bool) (nt : Nat) : DCall Tryz.prog 62 [I n] tok nt (Sb (digR n)) tok nt := by
  intro box nb
  have a1 : ¬ n < 0 := by omega
  have a2 : n.toNat + 1 ≤ 10 := by omega
  have hw : IntKind.i64.wrap (n + 1) = n + 1 := wrap_in (by omega) (by omega)
  refine sB Tryz.func62 Tryz.ntmps62 ?_
  intro hbox htok
  simp only at hbox htok
  apply AL.start
  try (simp [h0, h1, a1, hw])
  repeat (first | (refine sR ?_; simp [h0, h1, a1, hw]) | (refine sC ?_; simp [h0, h1, a1, hw]) | (refine sX ?_; simp only [AU, ↓reduceIte]))
  have t1 : (n + 1).toNat = n.toNat + 1 := by omega
  refine ⟨⟨by omega, by omega, by show n + 1 ≤ (10 : Int); omega⟩, ?_⟩
  try (simp [hw])
  repeat (first | (refine sR ?_; simp [hw]) | (refine sC ?_; simp [hw]) | (refine sX ?_; simp only [AU, ↓reduceIte]))
  refine sT ?_
  try simp only [AU]
  refine ⟨by simp, sF hbox htok (fun _ h => h) (Nat.le_refl _) ?_⟩
  simp [packA, digR, digsB, hw, t1]
theorem Sub_size_le {a b : ByteArray} : a.size ≤ (a ++ b).size := by rw [ByteArray.size_append]; omega
theorem fmK_le (ind : Nat) (ws : List ByteArray) (l : List Cm) (i : Nat) : (fmK ind ws 0 (l.take i)).size ≤ (fmK ind ws 0 l).size := by
  conv => rhs; rw [← List.take_append_drop i l, fmK_app]
  exact Sub_size_le
theorem fmS_le (ind : Nat) (l : List Cm) (i : Nat) : (fmS ind (l.take i)).size ≤ (fmS ind l).size := by
  conv => rhs; rw [← List.take_append_drop i l, fmS_app]
  exact Sub_size_le
theorem wdAt_at {ws : List ByteArray} {i k : Nat} (hw : 1 ≤ ws.length) (hk : k = min i (ws.length - 1)) (h : k < ws.length) : ws[k] = wdAt ws i := by
  subst hk
  rw [wdAt, List.getD_eq_getElem?_getD, List.getElem?_eq_getElem h]
  rfl
theorem bsz (a : Array UInt8) : (ByteArray.mk a).size = a.size := rfl
theorem fmPs_le (l : List Pr) (i : Nat) : (fmPs (l.take i)).size ≤ (fmPs l).size := by
  conv => rhs; rw [← List.take_append_drop i l, fmPs_app]
  exact Sub_size_le
end Go.AM
namespace Go.AM
open Go Go.Proofs
abbrev Bs := List UInt8
abbrev bsOf (s : ByteArray) : Bs := s.data.toList
abbrev ofBs (l : Bs) : ByteArray := ⟨l.toArray⟩
theorem ofBs_bsOf (s : ByteArray) : ofBs (bsOf s) = s := by cases s; simp
theorem bsOf_ofBs (l : Bs) : bsOf (ofBs l) = l := by simp
theorem bsOf_inj {a b : ByteArray} (h : bsOf a = bsOf b) : a = b := by rw [← ofBs_bsOf a, h, ofBs_bsOf]
def insU (x : ByteArray) : List ByteArray → List ByteArray
  | [] => [x]
  | y :: r => if bsOf x = bsOf y then y :: r else if bsOf x < bsOf y then x :: y :: r else y :: insU x r
def sortU (l : List ByteArray) : List ByteArray := l.foldr insU []
def StrictU (l : List ByteArray) : Prop := l.Pairwise fun x y => bsOf x < bsOf y
theorem bs_trans {a b c : Bs} (h : a < b) (k : b < c) : a < c := List.lt_trans h k
theorem bs_irr (a : Bs) : ¬ a < a := List.lt_irrefl a
theorem bs_tri {a b : Bs} (h : a ≠ b) (k : ¬ a < b) : b < a := by
  rcases List.le_iff_lt_or_eq.1 (List.not_lt.1 k) with h1 | h1
  · exact h1
  · exact absurd h1.symm h
theorem mem_insU {x y : ByteArray} {l : List ByteArray} : y ∈ insU x l ↔ y = x ∨ y ∈ l := by
  induction l with
  | nil => simp [insU]
  | cons z r ih =>
    rw [insU]
    split
    · rename_i h
      have := bsOf_inj h
      subst this
      simp
    · split
      · simp
      · simp only [List.mem_cons, ih]
        constructor
        · rintro (h | h | h) <;> simp [h]
        · rintro (h | h | h) <;> simp [h]
theorem insU_strict {x : ByteArray} {l : List ByteArray} (h : StrictU l) : StrictU (insU x l) := by
  induction l with
  | nil => simp [insU, StrictU]
  | cons z r ih =>
    obtain ⟨h1, h2⟩ := List.pairwise_cons.1 h
    rw [insU]
    split
    · exact h
    · rename_i hne
      split
      · rename_i hlt
        exact List.pairwise_cons.2 ⟨fun y hy => by
          rcases List.mem_cons.1 hy with rfl | hy
          · exact hlt
          · exact bs_trans hlt (h1 y hy), h⟩
      · rename_i hlt
        refine List.pairwise_cons.2 ⟨fun y hy => ?_, ih h2⟩
        rcases mem_insU.1 hy with rfl | hy
        · exact bs_tri hne hlt
        · exact h1 y hy
theorem sortU_strict (l : List ByteArray) : StrictU (sortU l) := by
  induction l with
  | nil => exact List.Pairwise.nil
  | cons x r ih => exact insU_strict ih
theorem mem_sortU {l : List ByteArray} {y : ByteArray} : y ∈ sortU l ↔ y ∈ l := by
  induction l with
  | nil => simp [sortU]
  | cons x r ih =>
    have : sortU (x :: r) = insU x (sortU r) := rfl
    rw [this, mem_insU, ih, List.mem_cons]
theorem StrictU.nodup {l : List ByteArray} (h : StrictU l) : l.Nodup := h.imp fun {a b} hab e => by subst e; exact bs_irr _ hab
theorem strict_one {l k : List ByteArray} (hl : StrictU l) (hk : StrictU k) (h : ∀ y, y ∈ l ↔ y ∈ k) : l = k := by
  induction l generalizing k with
  | nil =>
    cases k with
    | nil => rfl
    | cons y r => exact absurd ((h y).2 (by simp)) (by simp)
  | cons x r ih =>
    cases k with
    | nil => exact absurd ((h x).1 (by simp)) (by simp)
    | cons y s =>
      obtain ⟨h1, h2⟩ := List.pairwise_cons.1 hl
      obtain ⟨k1, k2⟩ := List.pairwise_cons.1 hk
      have exy : x = y := by
        rcases List.mem_cons.1 ((h x).1 (by simp)) with e | e
        · exact e
        · rcases List.mem_cons.1 ((h y).2 (by simp)) with e2 | e2
          · exact e2.symm
          · exact absurd (bs_trans (k1 _ e) (h1 _ e2)) (bs_irr _)
      subst exy
      congr 1
      refine ih h2 k2 fun z => ⟨fun hz => ?_, fun hz => ?_⟩
      · rcases List.mem_cons.1 ((h z).1 (List.mem_cons_of_mem _ hz)) with e | e
        · subst e; exact absurd (h1 _ hz) (bs_irr _)
        · exact e
      · rcases List.mem_cons.1 ((h z).2 (List.mem_cons_of_mem _ hz)) with e | e
        · subst e; exact absurd (k1 _ hz) (bs_irr _)
        · exact e
theorem sortU_len_le {l k : List ByteArray} (h : ∀ y ∈ l, y ∈ k) : (sortU l).length ≤ k.length :=
  (sortU_strict l).nodup.length_le_of_subset fun y hy => h y (mem_sortU.1 hy)
mutual
def uC (p : List Pr) (kn : List (List ByteArray)) : Cm → List ByteArray
  | .mk k s _ c => (if k = 1 then [s] else if k = 10 then kn.getD (placeR p s).toNat [] else []) ++ uL p kn c
def uL (p : List Pr) (kn : List (List ByteArray)) : List Cm → List ByteArray
  | [] => []
  | x :: r => uC p kn x ++ uL p kn r
end
def uOwn (p : List Pr) (kn : List (List ByteArray)) (c : Cm) : List ByteArray := if c.kind = 1 then [c.name] else if c.kind = 10 then kn.getD (placeR p c.name).toNat [] else []
theorem uC_eq (p : List Pr) (kn : List (List ByteArray)) (c : Cm) : uC p kn c = uOwn p kn c ++ uL p kn c.kids := by cases c; rw [uC]; rfl
theorem uL_app (p : List Pr) (kn : List (List ByteArray)) : ∀ l k : List Cm, uL p kn (l ++ k) = uL p kn l ++ uL p kn k
  | [], k => by rw [List.nil_append, uL, List.nil_append]
  | x :: r, k => by rw [List.cons_append, uL, uL, uL_app p kn r k, List.append_assoc]
theorem uL_take {p : List Pr} {kn : List (List ByteArray)} {l : List Cm} {i : Nat} (h : i < l.length) : uL p kn (l.take (i + 1)) = uL p kn (l.take i) ++ uC p kn l[i] := by
  rw [List.take_succ_eq_append_getElem h, uL_app, uL, uL, List.append_nil]
def knU (p : List Pr) (n : Nat) : List (List ByteArray) := (p.take n).foldl (fun kn q => kn ++ [sortU (uC p kn q.body)]) []
theorem knU_succ {p : List Pr} {n : Nat} (h : n < p.length) : knU p (n + 1) = knU p n ++ [sortU (uC p (knU p n) p[n].body)] := by
  rw [knU, List.take_succ_eq_append_getElem h, List.foldl_append]; rfl
theorem knU_len {p : List Pr} : ∀ {n : Nat}, n ≤ p.length → (knU p n).length = n
  | 0, _ => rfl
  | n + 1, h => by rw [knU_succ (by omega), List.length_append, knU_len (by omega)]; rfl
def usesR (p : List Pr) (rs : List ByteArray) (s : ByteArray) : List ByteArray × Int :=
  if (faultR p rs true).2 ≠ 0 then ([], (faultR p rs true).2) else if placeR p s < 0 then ([], 4) else ((knU p ((placeR p s).toNat + 1)).getD (placeR p s).toNat [], 0)
inductive InRules (rs : List ByteArray) : Cm → Prop
  | mk {c : Cm} (h : c.kind = 1 → c.name ∈ rs) (hk : ∀ x ∈ c.kids, InRules rs x) : InRules rs c
theorem InRules.own {rs : List ByteArray} {c : Cm} (h : InRules rs c) : c.kind = 1 → c.name ∈ rs := by cases h; assumption
theorem InRules.kid {rs : List ByteArray} {c : Cm} (h : InRules rs c) : ∀ x ∈ c.kids, InRules rs x := by cases h; assumption
theorem own_rules {p : List Pr} {rs : List ByteArray} {at' : Nat} {c : Cm} (h : ownE p rs true at' c = 0) : c.kind = 1 → c.name ∈ rs := by
  intro h1
  unfold ownE at h
  by_cases e1 : okB c = false
  · rw [if_pos e1] at h; cases h
  rw [if_neg e1, if_pos h1] at h
  by_cases e2 : nameB c.name = false
  · rw [if_pos e2] at h; cases h
  rw [if_neg e2] at h
  by_cases e3 : (true && !(memS rs c.name)) = true
  · rw [if_pos e3] at h; cases h
  · have : memS rs c.name = true := by simpa using e3
    exact memS_iff.1 this
theorem cmd_rules {p : List Pr} {rs : List ByteArray} {at' : Nat} : ∀ (n : Nat) (c : Cm), c.size < n → cmdE p rs true at' c = 0 → InRules rs c
  | 0, c, h, _ => absurd h (Nat.not_lt_zero _)
  | n + 1, c, h, he => by
    rw [cmdE_eq] at he
    split at he
    · rename_i h1; exact absurd he h1
    · rename_i h1
      exact .mk (own_rules (Decidable.not_not.1 h1)) fun x hx => cmd_rules n x (by have := Cm.kid_size hx; omega) (cmdEL_mem he x hx)
theorem uC_in {p : List Pr} {rs : List ByteArray} {kn : List (List ByteArray)} (hk : ∀ l ∈ kn, ∀ y ∈ l, y ∈ rs) : ∀ (n : Nat) (c : Cm), c.size < n → InRules rs c → ∀ y ∈ uC p kn c, y ∈ rs
  | 0, c, h, _ => absurd h (Nat.not_lt_zero _)
  | n + 1, c, h, hr => by
    have key : ∀ l : List Cm, (∀ x ∈ l, x.size < n ∧ InRules rs x) → ∀ y ∈ uL p kn l, y ∈ rs := by
      intro l
      induction l with
      | nil => intro _ y hy; simp [uL] at hy
      | cons x r ih =>
        intro hx y hy
        rw [uL, List.mem_append] at hy
        rcases hy with hy | hy
        · exact uC_in hk n x (hx x (by simp)).1 (hx x (by simp)).2 y hy
        · exact ih (fun z hz => hx z (by simp [hz])) y hy
    intro y hy
    rw [uC_eq, List.mem_append] at hy
    rcases hy with hy | hy
    · unfold uOwn at hy
      split at hy
      · rename_i h1
        simp at hy
        subst hy
        exact hr.own h1
      · split at hy
        · rw [List.getD_eq_getElem?_getD] at hy
          cases hg : kn[(placeR p c.name).toNat]? with
          | none => rw [hg] at hy; simp at hy
          | some l => rw [hg] at hy; exact hk l (List.mem_of_getElem? hg) y hy
        · simp at hy
    · exact key c.kids (fun x hx => ⟨by have := Cm.kid_size hx; omega, hr.kid x hx⟩) y hy
theorem uC_len {p : List Pr} {M : Nat} (hM : 1 ≤ M) {kn : List (List ByteArray)} (hk : ∀ l ∈ kn, l.length ≤ M) : ∀ (n : Nat) (c : Cm), c.size < n → (uC p kn c).length ≤ c.size * M
  | 0, c, h => absurd h (Nat.not_lt_zero _)
  | n + 1, c, h => by
    have key : ∀ l : List Cm, (∀ x ∈ l, x.size < n) → (uL p kn l).length ≤ Cm.sizeL l * M := by
      intro l
      induction l with
      | nil => intro _; simp [uL]
      | cons x r ih =>
        intro hx
        have h1 := uC_len (p := p) hM hk n x (hx x (by simp))
        have h2 := ih fun z hz => hx z (by simp [hz])
        rw [uL, List.length_append, Cm.sizeL, Nat.add_mul]
        omega
    have h1 := key c.kids fun x hx => by have := Cm.kid_size hx; omega
    rw [uC_eq, List.length_append, c.size_eq, Nat.add_mul]
    have h2 : (uOwn p kn c).length ≤ M := by
      unfold uOwn
      split
      · simpa using hM
      · split
        · rw [List.getD_eq_getElem?_getD]
          cases hg : kn[(placeR p c.name).toNat]? with
          | none => simp
          | some l => exact hk l (List.mem_of_getElem? hg)
        · simp
    omega
structure KnU (rs : List ByteArray) (kn : List (List ByteArray)) : Prop where
  mem : ∀ l ∈ kn, ∀ y ∈ l, y ∈ rs
  len : ∀ l ∈ kn, l.length ≤ rs.length
  strict : ∀ l ∈ kn, StrictU l
theorem valid_rules {p : List Pr} {rs : List ByteArray} (h : ∀ i (hi : i < p.length), prE p rs true i p[i] = 0) : ∀ q ∈ p, InRules rs q.body := by
  intro q hq
  obtain ⟨i, hi, rfl⟩ := List.getElem_of_mem hq
  have h4 := h i hi
  unfold prE at h4
  split at h4
  · cases h4
  · split at h4
    · cases h4
    · split at h4
      · cases h4
      · exact cmd_rules _ _ (Nat.lt_succ_self _) h4
theorem knU_ok {p : List Pr} {rs : List ByteArray} (h : ∀ q ∈ p, InRules rs q.body) : ∀ n, n ≤ p.length → KnU rs (knU p n)
  | 0, _ => ⟨by simp [knU], by simp [knU], by simp [knU]⟩
  | n + 1, hn => by
    obtain ⟨h1, h2, h3⟩ := knU_ok h n (by omega)
    rw [knU_succ (by omega)]
    have hin := uC_in (p := p) h1 _ p[n].body (Nat.lt_succ_self _) (h _ (List.getElem_mem _))
    refine ⟨fun l hl => ?_, fun l hl => ?_, fun l hl => ?_⟩
    · rcases List.mem_append.1 hl with hl | hl
      · exact h1 l hl
      · simp at hl; subst hl; exact fun y hy => hin y (mem_sortU.1 hy)
    · rcases List.mem_append.1 hl with hl | hl
      · exact h2 l hl
      · simp at hl; subst hl; exact sortU_len_le hin
    · rcases List.mem_append.1 hl with hl | hl
      · exact h3 l hl
      · simp at hl; subst hl; exact sortU_strict _
end Go.AM
namespace Go.AM
open Go Go.Proofs Go.Shelf
def kd14 : List Int := [1, 1, 2, 2, 3, 4, 5, 6, 7, 8, 9, 10, 10, 1]
def kd46 (n : Nat) : Int := kd14.getD (n % 14) 0
def kdM (rs : List ByteArray) (pr lev : Nat) (wi : Bool) (n : Nat) : Int :=
  if (lev ≤ 1 ∧ 2 ≤ kd46 n ∧ kd46 n ≤ 7) ∨ (wi = true ∧ kd46 n = 2) ∨ (kd46 n = 10 ∧ pr = 0) ∨ (kd46 n = 1 ∧ rs.length = 0) then 8 else kd46 n
def ctM (k : Int) (n : Nat) : Nat := if k = 2 then 2 + n / 14 % 2 else if k = 3 then 2 else if k = 4 then 3 else if k = 5 ∨ k = 6 ∨ k = 7 then 1 else 0
def sP : ByteArray := ⟨#[112]⟩
def pNm (j : Nat) : ByteArray := sP ++ digR (j : Int)
def nmM (rs : List ByteArray) (pr : Nat) (k : Int) (n : Nat) : ByteArray := if k = 1 then rs.getD (n / 14 % rs.length) ⟨#[]⟩ else if k = 10 then pNm (n / 14 % pr) else ⟨#[]⟩
def nuM (k : Int) (n : Nat) : Int := if k = 6 then ((1 + n / 14 % 3 : Nat) : Int) else 0
def mkF (F : List Int → Cm × List Int) : Nat → List Int → List Cm → List Cm × List Int
  | 0, cs, acc => (acc, cs)
  | c + 1, cs, acc => mkF F c (F cs).2 (acc ++ [(F cs).1])
def hd46 (cs : List Int) : Nat := (cs.headD 0).toNat
def mk46 (rs : List ByteArray) (pr : Nat) : Nat → Bool → List Int → Cm × List Int
  | 0, _, cs => (.mk 8 ⟨#[]⟩ 0 [], cs)
  | lev + 1, wi, cs =>
    (.mk (kdM rs pr (lev + 1) wi (hd46 cs)) (nmM rs pr (kdM rs pr (lev + 1) wi (hd46 cs)) (hd46 cs)) (nuM (kdM rs pr (lev + 1) wi (hd46 cs)) (hd46 cs))
      (mkF (mk46 rs pr lev (kdM rs pr (lev + 1) wi (hd46 cs) == 2)) (ctM (kdM rs pr (lev + 1) wi (hd46 cs)) (hd46 cs)) cs.tail []).1,
     (mkF (mk46 rs pr lev (kdM rs pr (lev + 1) wi (hd46 cs) == 2)) (ctM (kdM rs pr (lev + 1) wi (hd46 cs)) (hd46 cs)) cs.tail []).2)
theorem mk46_succ (rs : List ByteArray) (pr lev : Nat) (wi : Bool) (cs : List Int) {n : Nat} {k : Int} (hn : n = hd46 cs) (hk : k = kdM rs pr (lev + 1) wi n) :
    mk46 rs pr (lev + 1) wi cs = (.mk k (nmM rs pr k n) (nuM k n) (mkF (mk46 rs pr lev (k == 2)) (ctM k n) cs.tail []).1, (mkF (mk46 rs pr lev (k == 2)) (ctM k n) cs.tail []).2) := by
  subst hn hk
  rw [mk46]
def md46 (codes : List (List Int)) (rs : List ByteArray) (m : Nat) : List Pr := (List.range m).map fun i => ⟨pNm i, (mk46 rs i 4 false (codes.getD i [])).1⟩
def mdN (codes : List (List Int)) : Nat := max 1 (min 4 codes.length)
theorem md46_len (codes : List (List Int)) (rs : List ByteArray) (m : Nat) : (md46 codes rs m).length = m := by simp [md46]
theorem md46_get {codes : List (List Int)} {rs : List ByteArray} {m i : Nat} (h : i < (md46 codes rs m).length) : (md46 codes rs m)[i] = ⟨pNm i, (mk46 rs i 4 false (codes.getD i [])).1⟩ := by simp [md46]
theorem md46_succ (codes : List (List Int)) (rs : List ByteArray) (m : Nat) : md46 codes rs (m + 1) = md46 codes rs m ++ [⟨pNm m, (mk46 rs m 4 false (codes.getD m [])).1⟩] := by
  rw [md46, List.range_succ, List.map_append]
  rfl
inductive Gd46 (rs : List ByteArray) (pr : Nat) : Nat → Bool → Cm → Prop
  | mk {lev : Nat} {wi : Bool} {c : Cm} (ok : okB c = true) (k2 : c.kind = 2 → wi = false) (n1 : c.kind = 1 → c.name ∈ rs) (n10 : c.kind = 10 → ∃ j, j < pr ∧ c.name = pNm j) (n6 : c.kind = 6 → 1 ≤ c.num ∧ c.num ≤ 9)
      (len : c.kids.length ≤ 3) (kid : ∀ x ∈ c.kids, Gd46 rs pr lev (c.kind == 2) x) : Gd46 rs pr (lev + 1) wi c
theorem mkF_len (F : List Int → Cm × List Int) : ∀ (n : Nat) (cs : List Int) (acc : List Cm), (mkF F n cs acc).1.length = acc.length + n
  | 0, cs, acc => rfl
  | n + 1, cs, acc => by rw [mkF, mkF_len F n, List.length_append, List.length_singleton]; omega
theorem mkF_all {F : List Int → Cm × List Int} {Q : Cm → Prop} (hF : ∀ cs, Q (F cs).1) : ∀ (n : Nat) (cs : List Int) (acc : List Cm), (∀ x ∈ acc, Q x) → ∀ x ∈ (mkF F n cs acc).1, Q x
  | 0, cs, acc, h => h
  | n + 1, cs, acc, h => by
    rw [mkF]
    refine mkF_all hF n _ _ fun x hx => ?_
    rcases List.mem_append.1 hx with hx | hx
    · exact h x hx
    · simp at hx; rw [hx]; exact hF cs
theorem kd46_rng (n : Nat) : 1 ≤ kd46 n ∧ kd46 n ≤ 10 := by
  have : ∀ m, m < 14 → 1 ≤ kd14.getD m 0 ∧ kd14.getD m 0 ≤ 10 := by decide
  exact this _ (Nat.mod_lt _ (by decide))
theorem kdM_rng (rs : List ByteArray) (pr lev : Nat) (wi : Bool) (n : Nat) : 1 ≤ kdM rs pr lev wi n ∧ kdM rs pr lev wi n ≤ 10 := by
  unfold kdM
  have := kd46_rng n
  split <;> omega
theorem kdM_low {rs : List ByteArray} {pr lev : Nat} {wi : Bool} {n : Nat} (h : lev ≤ 1) : ¬ (2 ≤ kdM rs pr lev wi n ∧ kdM rs pr lev wi n ≤ 7) := by
  unfold kdM
  split
  · omega
  · rename_i hn; intro hh; exact hn (.inl ⟨h, hh⟩)
theorem kdM_in {rs : List ByteArray} {pr lev : Nat} {wi : Bool} {n : Nat} : (kdM rs pr lev wi n = 2 → wi = false) ∧ (kdM rs pr lev wi n = 10 → pr ≠ 0) ∧ (kdM rs pr lev wi n = 1 → rs.length ≠ 0) := by
  unfold kdM
  split
  · exact ⟨fun h => absurd h (by decide), fun h => absurd h (by decide), fun h => absurd h (by decide)⟩
  · rename_i hn
    refine ⟨fun h => ?_, fun h e => hn (.inr (.inr (.inl ⟨h, e⟩))), fun h e => hn (.inr (.inr (.inr ⟨h, e⟩)))⟩
    cases wi with
    | false => rfl
    | true => exact absurd (.inr (.inl ⟨rfl, h⟩)) hn
theorem okB_of {c : Cm} (h : 1 ≤ c.kind ∧ c.kind ≤ 10) (h2 : c.kind = 2 → 2 ≤ c.kids.length ∧ ∀ x ∈ c.kids, x.kind ≠ 2) (h3 : c.kind = 3 → 2 ≤ c.kids.length) (h4 : c.kind = 4 → c.kids.length = 3) (h5 : c.kind = 5 ∨ c.kind = 6 ∨ c.kind = 7 → c.kids.length = 1)
    (h1 : c.kind = 1 ∨ c.kind = 8 ∨ c.kind = 9 ∨ c.kind = 10 → c.kids.length = 0) (hn : ¬ (c.kind = 1 ∨ c.kind = 10) → c.name = ⟨#[]⟩) (hm : c.kind ≠ 6 → c.num = 0) : okB c = true := by
  unfold okB
  simp only [Bool.and_eq_true, Bool.or_eq_true, decide_eq_true_eq]
  refine ⟨⟨?_, ?_⟩, ?_⟩
  · by_cases e2 : c.kind = 2
    · rw [if_pos e2]
      obtain ⟨a, b⟩ := h2 e2
      simpa using ⟨a, b⟩
    · rw [if_neg e2]
      by_cases e3 : c.kind = 3
      · rw [if_pos e3]; simpa using h3 e3
      · rw [if_neg e3]
        by_cases e4 : c.kind = 4
        · rw [if_pos e4]; simpa using h4 e4
        · rw [if_neg e4]
          by_cases e5 : c.kind = 5 ∨ c.kind = 6 ∨ c.kind = 7
          · rw [if_pos e5]; simpa using h5 e5
          · have e1 : c.kind = 1 ∨ c.kind = 8 ∨ c.kind = 9 ∨ c.kind = 10 := by omega
            rw [if_neg e5, if_pos e1]; simpa using h1 e1
  · by_cases e : c.kind = 1 ∨ c.kind = 10
    · exact .inl e
    · exact .inr (hn e)
  · by_cases e : c.kind = 6
    · exact .inl e
    · exact .inr (hm e)
theorem mk46_gd (rs : List ByteArray) (pr : Nat) : ∀ (lev : Nat) (wi : Bool) (cs : List Int), 1 ≤ lev → Gd46 rs pr lev wi (mk46 rs pr lev wi cs).1
  | 0, wi, cs, h => by omega
  | lev + 1, wi, cs, _ => by
    obtain ⟨n, hn⟩ : ∃ n, n = hd46 cs := ⟨_, rfl⟩
    obtain ⟨k, hk⟩ : ∃ k, k = kdM rs pr (lev + 1) wi n := ⟨_, rfl⟩
    rw [mk46_succ rs pr lev wi cs hn hk]
    have hr := kdM_rng rs pr (lev + 1) wi n
    have hlow := fun h => kdM_low (rs := rs) (pr := pr) (lev := lev + 1) (wi := wi) (n := n) h
    obtain ⟨i1, i2, i3⟩ := kdM_in (rs := rs) (pr := pr) (lev := lev + 1) (wi := wi) (n := n)
    rw [← hk] at hr hlow i1 i2 i3
    have hlen := mkF_len (mk46 rs pr lev (k == 2)) (ctM k n) cs.tail []
    have hm2 := Nat.mod_lt (n / 14) (show 0 < 2 by decide)
    have hm3 := Nat.mod_lt (n / 14) (show 0 < 3 by decide)
    have hct : (k = 2 → ctM k n = 2 + n / 14 % 2) ∧ (k = 3 → ctM k n = 2) ∧ (k = 4 → ctM k n = 3) ∧ (k = 5 ∨ k = 6 ∨ k = 7 → ctM k n = 1) ∧ (k = 1 ∨ 8 ≤ k → ctM k n = 0) := by
      unfold ctM
      refine ⟨fun h => by rw [if_pos h], fun h => by rw [if_neg (by omega), if_pos h], fun h => by rw [if_neg (by omega), if_neg (by omega), if_pos h], fun h => by rw [if_neg (by omega), if_neg (by omega), if_neg (by omega), if_pos h], fun h => by rw [if_neg (by omega), if_neg (by omega), if_neg (by omega), if_neg (by omega)]⟩
    obtain ⟨c2, c3, c4, c5, c1⟩ := hct
    have hall : ∀ x ∈ (mkF (mk46 rs pr lev (k == 2)) (ctM k n) cs.tail []).1, Gd46 rs pr lev (k == 2) x := by
      by_cases hl : lev = 0
      · have : ctM k n = 0 := by
          have := hlow (by omega)
          exact c1 (by omega)
        rw [this]
        intro x hx
        simp [mkF] at hx
      · exact mkF_all (fun cs => mk46_gd rs pr lev _ cs (by omega)) _ _ _ (by simp)
    generalize mkF (mk46 rs pr lev (k == 2)) (ctM k n) cs.tail [] = R at *
    simp only [List.length_nil, Nat.zero_add] at hlen
    have hnm : ¬ (k = 1 ∨ k = 10) → nmM rs pr k n = ⟨#[]⟩ := fun h => by rw [nmM, if_neg (by omega), if_neg (by omega)]
    have hnu : k ≠ 6 → nuM k n = 0 := fun h => by rw [nuM, if_neg h]
    refine .mk ?_ i1 (fun h => ?_) (fun h => ?_) (fun h => ?_) ?_ hall
    · refine okB_of hr (fun h2 => ⟨by simp only [Cm.kids, Cm.kind] at h2 ⊢; have := c2 h2; omega, fun x hx e => ?_⟩) (fun h3 => by simp only [Cm.kids, Cm.kind] at h3 ⊢; have := c3 h3; omega) (fun h4 => by simp only [Cm.kids, Cm.kind] at h4 ⊢; have := c4 h4; omega) (fun h5 => by simp only [Cm.kids, Cm.kind] at h5 ⊢; have := c5 h5; omega) (fun h1 => by simp only [Cm.kids, Cm.kind] at h1 ⊢; have := c1 (by omega); omega) hnm hnu
      simp only [Cm.kids, Cm.kind] at h2 hx
      have := hall x hx
      rw [h2] at this
      cases this with
      | mk ok k2 => have := k2 e; simp at this
    · simp only [Cm.kind, Cm.name] at h ⊢
      have hl := i3 h
      rw [nmM, if_pos h]
      have : n / 14 % rs.length < rs.length := Nat.mod_lt _ (by omega)
      rw [List.getD_eq_getElem?_getD, List.getElem?_eq_getElem this]
      exact List.getElem_mem _
    · simp only [Cm.kind, Cm.name] at h ⊢
      have hl := i2 h
      rw [nmM, if_neg (by omega), if_pos h]
      exact ⟨_, Nat.mod_lt _ (by omega), rfl⟩
    · simp only [Cm.kind, Cm.num] at h ⊢
      rw [nuM, if_pos h]
      omega
    · simp only [Cm.kids]
      rw [hlen]
      by_cases h2 : k = 2
      · have := c2 h2; omega
      · by_cases h3 : k = 3
        · have := c3 h3; omega
        · by_cases h4 : k = 4
          · have := c4 h4; omega
          · by_cases h5 : k = 5 ∨ k = 6 ∨ k = 7
            · have := c5 h5; omega
            · have := c1 (by omega); omega
def szM : Nat → Nat
  | 0 => 0
  | n + 1 => 1 + 3 * szM n
theorem gd_size {rs : List ByteArray} {pr : Nat} : ∀ {lev : Nat} {wi : Bool} {c : Cm}, Gd46 rs pr lev wi c → c.size ≤ szM lev ∧ c.depth ≤ lev
  | lev + 1, wi, c, .mk _ _ _ _ _ len kid => by
    have key : ∀ l : List Cm, (∀ x ∈ l, Gd46 rs pr lev (c.kind == 2) x) → Cm.sizeL l ≤ l.length * szM lev ∧ Cm.depthL l ≤ lev := by
      intro l
      induction l with
      | nil => intro _; simp [Cm.sizeL, Cm.depthL]
      | cons x r ih =>
        intro h
        obtain ⟨a1, a2⟩ := gd_size (h x (by simp))
        obtain ⟨b1, b2⟩ := ih fun y hy => h y (by simp [hy])
        simp only [Cm.sizeL, Cm.depthL, List.length_cons, Nat.add_mul, Nat.one_mul]
        omega
    obtain ⟨h1, h2⟩ := key c.kids kid
    have h3 : c.kids.length * szM lev ≤ 3 * szM lev := Nat.mul_le_mul_right _ len
    rw [c.size_eq, c.depth_eq, szM]
    omega
theorem pNm_inj : ∀ i, i < 10 → ∀ j, j < 10 → pNm i = pNm j → i = j := by decide
theorem pNm_name : ∀ i, i < 10 → nameB (pNm i) = true := by decide
theorem placeR_at {p : List Pr} {s : ByteArray} {k : Nat} (h : k < p.length) (h1 : p[k].name = s) (h2 : ∀ j (hj : j < k), p[j].name ≠ s) : placeR p s = k := by
  have hp : hasP p s = true := by
    simp only [hasP, List.any_eq_true, decide_eq_true_eq]
    exact ⟨p[k], List.getElem_mem h, h1⟩
  rw [placeR, if_pos hp]
  have : p.findIdx (fun q => decide (q.name = s)) = k := (List.findIdx_eq h).2 ⟨by simp [h1], fun j hj => by simp [h2 j hj]⟩
  rw [this]
theorem placeR_md {codes : List (List Int)} {rs : List ByteArray} {m j : Nat} (hm : m ≤ 10) (hj : j < m) : placeR (md46 codes rs m) (pNm j) = j := by
  have hl := md46_len codes rs m
  refine placeR_at (by omega) (by rw [md46_get]) fun i hi => ?_
  rw [md46_get]
  intro e
  have := pNm_inj i (by omega) j (by omega) e
  omega
theorem gd_cmd {p : List Pr} {rs rs' : List ByteArray} {asked : Bool} {pr : Nat} (hp : ∀ j, j < pr → placeR p (pNm j) = j) (h10 : pr ≤ 10) (hn : ∀ r ∈ rs, nameB r = true) (hr : asked = true → ∀ r ∈ rs, r ∈ rs') :
    ∀ {lev : Nat} {wi : Bool} {c : Cm}, Gd46 rs pr lev wi c → cmdE p rs' asked pr c = 0
  | lev + 1, wi, c, .mk ok k2 n1 n10 n6 len kid => by
    have hk := cmdEL_none (l := c.kids) fun x hx => gd_cmd hp h10 hn hr (kid x hx)
    have ho : ownE p rs' asked pr c = 0 := by
      unfold ownE
      rw [ok, if_neg (by simp)]
      by_cases e1 : c.kind = 1
      · rw [if_pos e1, hn _ (n1 e1), if_neg (by simp)]
        have : (asked && !(memS rs' c.name)) = false := by
          cases asked with
          | false => rfl
          | true => rw [memS_iff.2 (hr rfl _ (n1 e1))]; rfl
        rw [this, if_neg (by simp)]
      · rw [if_neg e1]
        by_cases e2 : c.kind = 10
        · obtain ⟨j, hj, e⟩ := n10 e2
          rw [if_pos e2, e, pNm_name j (by omega), if_neg (by simp), hp j hj, if_neg (by omega), if_neg (by omega)]
        · rw [if_neg e2]
          by_cases e3 : c.kind = 6
          · rw [if_pos e3, if_pos (n6 e3)]
          · rw [if_neg e3]
    rw [cmdE_eq, ho, if_neg (by simp), hk]
theorem faultL_none {p : List Pr} {rs : List ByteArray} {asked : Bool} : ∀ {l : List Pr} {i : Nat}, (∀ j (hj : j < l.length), prE p rs asked (i + j) l[j] = 0) → faultL p rs asked l i = (-1, 0)
  | [], i, _ => by rw [faultL]
  | q :: r, i, h => by
    have h0 := h 0 (by simp)
    simp only [Nat.add_zero, List.getElem_cons_zero] at h0
    rw [faultL, h0, if_neg (by simp)]
    refine faultL_none fun j hj => ?_
    have := h (j + 1) (by simpa using hj)
    rw [show i + 1 + j = i + (j + 1) by omega]
    simpa using this
theorem md46_valid {codes : List (List Int)} {rs rs' : List ByteArray} {asked : Bool} {m : Nat} (h1 : 1 ≤ m) (h4 : m ≤ 10) (hn : ∀ r ∈ rs, nameB r = true) (hr : asked = true → ∀ r ∈ rs, r ∈ rs') : faultR (md46 codes rs m) rs' asked = (-1, 0) := by
  have hl := md46_len codes rs m
  rw [faultR, if_neg (by omega), if_neg (by omega)]
  refine faultL_none fun j hj => ?_
  have hg := mk46_gd rs j 4 false (codes.getD j []) (by decide)
  obtain ⟨g1, g2⟩ := gd_size hg
  have hc := gd_cmd (p := md46 codes rs m) (rs' := rs') (asked := asked) (fun i hi => placeR_md h4 (by omega)) (by omega) hn hr hg
  have hz : szM 4 = 40 := rfl
  rw [Nat.zero_add, md46_get]
  unfold prE
  simp only
  rw [pNm_name j (by omega), if_neg (by simp), placeR_md h4 (by omega), if_neg (by omega), if_neg (by omega)]
  exact hc
theorem md46_size (codes : List (List Int)) (rs : List ByteArray) : ∀ m, ((md46 codes rs m).map fun q => q.body.size).sum ≤ 40 * m
  | 0 => by simp [md46]
  | m + 1 => by
    have hg := (gd_size (mk46_gd rs m 4 false (codes.getD m []) (by decide))).1
    have hz : szM 4 = 40 := rfl
    have ih := md46_size codes rs m
    rw [md46_succ, List.map_append, List.sum_append]
    simp only [List.map_cons, List.map_nil, List.sum_cons, List.sum_nil]
    omega
end Go.AM
namespace Go.AM
open Go Go.Proofs Go.Shelf
mutual
def apC : Cm → List ByteArray → List ByteArray × Bool
  | .mk k s _ c, l => apL k c (if k = 1 ∧ memS l s = false then l ++ [s] else l, !decide (k = 10))
def apL (k : Int) : List Cm → List ByteArray × Bool → List ByteArray × Bool
  | [], a => a
  | x :: r, a => apL k r ((apC x a.1).1, a.2 && (apC x a.1).2 && !(decide (k = 2) && decide (x.kind = 2)))
end
theorem apC_eq (c : Cm) (l : List ByteArray) : apC c l = apL c.kind c.kids (if c.kind = 1 ∧ memS l c.name = false then l ++ [c.name] else l, !decide (c.kind = 10)) := by
  cases c
  rw [apC]
  rfl
theorem apL_app (k : Int) : ∀ (l r : List Cm) (a : List ByteArray × Bool), apL k (l ++ r) a = apL k r (apL k l a)
  | [], r, a => by rw [List.nil_append, apL]
  | x :: l, r, a => by rw [List.cons_append, apL, apL, apL_app k l r]
inductive CFlat : Cm → Prop
  | mk {c : Cm} (h10 : c.kind ≠ 10) (h2 : c.kind = 2 → ∀ x ∈ c.kids, x.kind ≠ 2) (hk : ∀ x ∈ c.kids, CFlat x) : CFlat c
theorem CFlat.kid {c : Cm} (h : CFlat c) : ∀ x ∈ c.kids, CFlat x := by cases h; assumption
end Go.AM
namespace Go.AM
open Go Go.Proofs Go.RowKit Go.Maps
theorem Bw.le {G : Gh} {w w' : World} {m : AMem} (hm : RelM G m w) (h : Below w.heap.size w w') : Le G w G w' where
  os := h.os
  tape := h.tape
  output := h.output
  size := h.size
  whole b hb hk := ⟨hk, h.block b hb⟩
  part b f c hk := ⟨⟨f, Nat.le_refl _, hk⟩, fun a ha _ => by
    have hb : a.block < w.heap.size := by
      rcases Nat.lt_or_ge a.block w.heap.size with hb | hb
      · exact hb
      · have := hm.fresh a.block hb
        rw [ha, hk] at this
        cases this
    exact World.cell?_of_block (w := w) (h.block _ hb)⟩
  bx _ _ h := h
  ty b c0 T f0 hb := ⟨c0, f0, (h.block b (Array.getElem?_eq_some_iff.1 hb).1).trans hb⟩
  nt := Nat.le_refl _
  tk t _ := .inr ⟨rfl, fun g hg => ⟨rfl, fun _ => h.block g (hm.tlt t g hg)⟩⟩
theorem Bw.lt {w : World} {b : Nat} {o : Obj} (h : w.heap[b]? = some o) : b < w.heap.size := (Array.getElem?_eq_some_iff.1 h).1
theorem Bw.rel {G : Gh} {w w' : World} {m : AMem} (hm : RelM G m w) (h : Below w.heap.size w w') : RelM G m w' := by
  have hle := Bw.le hm h
  constructor
  case box =>
    intro k rows b sz h1 h2
    obtain ⟨g1, cs, e, g2, g3, g4, g5⟩ := hm.box k rows b sz h1 h2
    exact ⟨g1, cs, e, by rw [h.block b (Bw.lt g2)]; exact g2, g3, g4.mono hle, g5⟩
  case nobox => exact hm.nobox
  case inj => exact hm.inj
  case nb => exact hm.nb
  case nt => exact hm.nt
  case toks => exact hm.toks
  case tokb =>
    intro t g hg
    obtain ⟨f, cur, e, g1, g2⟩ := hm.tokb t g hg
    exact ⟨f, cur, e, g1, by rw [h.block g (Bw.lt g2)]; exact g2⟩
  case tinj => exact hm.tinj
  case tnt => exact hm.tnt
  case fresh => intro b hb; exact hm.fresh b (Nat.le_trans h.size hb)
def G00 : Gh := ⟨fun _ => none, fun _ => none, fun _ => .whole, 0⟩
def M00 : AMem := ⟨fun _ => none, 0, fun _ => false, 0⟩
theorem rel00 (w : World) : RelM G00 M00 w where
  box k rows b sz h := by cases h
  nobox _ _ := rfl
  inj k k' b sz sz' h := by cases h
  nb _ _ := rfl
  nt := rfl
  toks t h := by cases h
  tokb t g h := by cases h
  tinj t t' g h := by cases h
  tnt t x h := by cases h
  fresh _ _ := rfl
abbrev Rdw (w : World) (x : D) (v : Value) : Prop := RVd w.cell? G00.ps x v
theorem DCall.plain {P : Program} {f : FuncId} {args : List AV} {v : AV} {tok' : Nat → Bool} {nt' : Nat} (h : DCall P f args (fun _ => false) 0 v tok' nt') {w : World} {vals : List Value} (hr : RVs G00 w args vals) :
    Calls P f vals.toArray w fun e w' => ∃ u G', e = .returned u ∧ RV G' w' v u ∧ w.grownBy w' none := by
  refine ((h M00.box 0).2 G00 w vals (rel00 w) hr).mono ?_
  rintro e w' ⟨u, av, m', G', rfl, ⟨rfl, rfl⟩, _, _, h3, h4, _⟩
  exact ⟨u, G', rfl, h3, h4.os, h4.tape, h4.output, h4.size, fun k hk _ => (h4.whole k hk rfl).2⟩
theorem rdw_grown {w w' : World} {row : Option Nat} (h : w.grownBy w' row) (hm : ∀ b, row = some b → ∃ es c, w.heap[b]? = some (.map es c)) {x : D} {v : Value} (r : Rdw w x v) : Rdw w' x v := by
  refine r.mono fun a u hp hc => ⟨hp, ?_⟩
  have hlt := lt_of_cell hc
  have hne : some a.block ≠ row := by
    intro e
    obtain ⟨es, c, hb⟩ := hm a.block e.symm
    simp [World.cell?, hb] at hc
  rw [World.cell?_of_block (w := w) (h.block a.block hlt hne)]
  exact hc
end Go.AM
namespace Go.AM
open Go Go.Proofs Go.RowKit Go.Maps
theorem lawStr : Keyed Tryz.prog 9 := string_keyed Tryz.underlying9
def MapIs (w : World) (b n : Nat) (ks : List ByteArray) : Prop :=
  ∃ D : DataW Unit, w.ownsMap Tryz.prog 9 (plainElem Tryz.prog 4) b n D ∧ ∀ s : ByteArray, has D (.string (bsOf s)) = true ↔ s ∈ ks
theorem MapIs.isMap {w : World} {b n : Nat} {ks : List ByteArray} (h : MapIs w b n ks) : ∃ es c, w.heap[b]? = some (.map es c) := by
  obtain ⟨D, ⟨es, c, hb, _⟩, _⟩ := h
  exact ⟨es, c, hb⟩
theorem MapIs.lt {w : World} {b n : Nat} {ks : List ByteArray} (h : MapIs w b n ks) : b < w.heap.size := by
  obtain ⟨D, h1, _⟩ := h
  exact h1.lt
theorem MapIs.kept {w w' : World} {b n : Nat} {ks : List ByteArray} {row : Option Nat} (h : MapIs w b n ks) (hg : w.grownBy w' row) (hne : some b ≠ row) : MapIs w' b n ks := by
  obtain ⟨D, h1, h2⟩ := h
  exact ⟨D, h1.kept hg hne, h2⟩
theorem MapIs.alloc {w : World} {b n : Nat} {ks : List ByteArray} (h : MapIs w b n ks) (o : Obj) : MapIs (w.alloc o) b n ks := h.kept (World.grownBy_alloc w o none) (by simp)
theorem MapIs.mono {w : World} {b n n' : Nat} {ks : List ByteArray} (h : MapIs w b n ks) (hn : n ≤ n') : MapIs w b n' ks := by
  obtain ⟨D, h1, h2⟩ := h
  exact ⟨D, h1.mono hn, h2⟩
theorem MapIs.congr {w : World} {b n : Nat} {ks ks' : List ByteArray} (h : MapIs w b n ks) (hm : ∀ s, s ∈ ks ↔ s ∈ ks') : MapIs w b n ks' := by
  obtain ⟨D, h1, h2⟩ := h
  exact ⟨D, h1, fun s => (h2 s).trans (hm s)⟩
theorem MapIs.made (w : World) : MapIs (w.alloc (.map #[] 0)) w.heap.size 0 [] :=
  ⟨.map [], World.ownsMap_made _ _ _ _, fun s => by simp [has]⟩
theorem strKeys_mem {H : Type} {es : List (Lit × DataW H)} (hk : ∀ p ∈ es, ∃ x, p.1 = .string x) (x : Bs) : x ∈ strKeys (.map es) ↔ has (.map es) (.string x) = true := by
  simp only [strKeys, List.mem_map, has_eq, List.any_eq_true]
  constructor
  · rintro ⟨p, hp, rfl⟩
    obtain ⟨y, hy⟩ := hk p hp
    exact ⟨p, hp, by rw [hy]; simp [strOf, Lit.sameKey]⟩
  · rintro ⟨p, hp, he⟩
    obtain ⟨y, hy⟩ := hk p hp
    refine ⟨p, hp, ?_⟩
    rw [hy] at he ⊢
    simpa [strOf, Lit.sameKey] using he
theorem MapIs.tight {w : World} {b n : Nat} {ks : List ByteArray} (h : MapIs w b n ks) {l : List ByteArray} (hl : ∀ s ∈ ks, s ∈ l) : MapIs w b l.length ks := by
  obtain ⟨D, h1, h2⟩ := h
  have h3 := h1
  obtain ⟨es, clock, hb, F, hs, hD⟩ := h1
  refine ⟨D, ⟨es, clock, hb, F, ?_, hD⟩, h2⟩
  obtain ⟨es', hD', hp, hkl⟩ := h3.entries lawStr
  have hlen : es'.length = es.size := by
    have := length_read (P := Tryz.prog) (k := 9) (R0 := plainElem (H := Unit) Tryz.prog 4) es
    rw [hD'] at hD
    injection hD with hD
    rw [hD]
    exact this
  obtain ⟨es2, hD2, hk2⟩ := h3.keysOf
  obtain rfl : es2 = es' := by rw [hD'] at hD2; injection hD2 with e; exact e.symm
  have hk : ∀ p ∈ es2, ∃ x, p.1 = .string x := fun p hp => by
    obtain ⟨v, hv⟩ := hk2 p hp
    obtain ⟨x, _, hx, _⟩ := Maps.keyOf_str Tryz.underlying9 hv
    exact ⟨x, hx⟩
  have hnd : ((strKeys (.map es2)).map ofBs).Nodup := by
    simp only [strKeys, List.map_map]
    refine List.pairwise_map.2 (hp.imp_of_mem fun {a c} ha hc hne e => hne ?_)
    obtain ⟨x, hx⟩ := hk a ha
    obtain ⟨y, hy⟩ := hk c hc
    simp only [Function.comp, hx, hy, strOf] at e
    have := congrArg bsOf e
    simp at this
    rw [hx, hy, this]
  have hsub : ∀ s ∈ (strKeys (.map es2)).map ofBs, s ∈ l := fun s hs => by
    obtain ⟨x, hx, rfl⟩ := List.mem_map.1 hs
    refine hl _ ((h2 _).1 ?_)
    rw [hD', bsOf_ofBs]
    exact (strKeys_mem hk x).1 hx
  have h5 : ((strKeys (.map es2)).map ofBs).length ≤ l.length := hnd.length_le_of_subset fun x hx => hsub x hx
  simp only [List.length_map, strKeys] at h5
  omega
theorem wpList_put {P : Program} (hP : P = Tryz.prog) (w : World) {ops : Array Oper} {rest : List Oper} {o : Oper} {a : Act} {Q : Exit → Act → World → Prop}
    (hg : o.guard = none) (m x v : Operand) (hop : o.op = Op.mapUpdate 102 m x v) (b n : Nat) (ks : List ByteArray) (s : ByteArray)
    (hm : a.eval m = .map (some b)) (hx : a.eval x = .string s) (hv : a.eval v = .bool true) (hown : MapIs w b n ks) (hn : n < maxLen) (hs : s.size ≤ maxLen)
    (hK : ∀ w', MapIs w' b (n + 1) (ks ++ [s]) → w.grownBy w' (some b) → wpList P ops Q rest (a.put o.dst undef) w') :
    wpList P ops Q (o :: rest) a w := by
  subst hP
  obtain ⟨D, h1, h2⟩ := hown
  refine wpList_mapUpdate_own w hg m x v _ hop 9 4 lawStr Tryz.underlying102 _ b n D hm h1 hn _ _ _ hx hv (Go.WideMaps.keyOf_string_mk Tryz.underlying9 hs) _ [] (plainElem_bool Tryz.underlying4 true) ?_
  intro w' h3 h4
  refine hK w' ⟨_, h3, fun t => ?_⟩ h4
  by_cases e : t = s
  · subst e
    rw [has_put_same h1.isMap (show WideAt.IsKeyLit (.string (bsOf t)) from trivial)]
    simp
  · rw [has_put_other (fun hh => e (bsOf_inj (by injection hh)))]
    rw [h2 t]
    simp [e]
theorem rdw_sl {w : World} {sz : Nat} {es : List (List D)} {v : Value} (h : Rdw w (.sl sz es) v) (hsz0 : 0 < sz) : ∃ A cap, v = .slice A es.length cap ∧ es.length ≤ cap ∧ cap ≤ maxLen ∧
    (es = [] ∨ ∃ b off, A = some ⟨b, off, none⟩ ∧ b < w.heap.size ∧ ∀ i (hi : i < es.length), es[i].length = sz ∧ ∀ j (hj : j < es[i].length), ∃ u, w.cell? ⟨b, off + (i * sz + j), none⟩ = some u ∧ Rdw w es[i][j] u) := by
  cases h with
  | @sl _ _ A cap u hcap hmax hsz hA hc hr =>
    refine ⟨A, cap, rfl, hcap, hmax, ?_⟩
    by_cases e : es = []
    · exact .inl e
    · right
      obtain ⟨a, rfl⟩ := hA e
      have hp : 0 < es.length := List.length_pos_iff.2 e
      have hc0 := (hc a rfl 0 0 hp hsz0).2
      have hs : a.spot = none := by
        cases hsp : a.spot with
        | none => rfl
        | some q =>
          exfalso
          simp only [World.cell?, Addr.add, hsp, Option.isSome_some, ↓reduceIte] at hc0
          split at hc0 <;> simp [hsp] at hc0
      obtain ⟨b, off, sp⟩ := a
      simp only at hs
      subst hs
      have hadd : ∀ n, Addr.add ⟨b, off, none⟩ n = ⟨b, off + n, none⟩ := fun n => by
        unfold Addr.add
        split
        · rename_i h0; subst h0; simp
        · simp
      refine ⟨b, off, rfl, ?_, fun i hi => ?_⟩
      · have := lt_of_cell hc0
        rwa [hadd] at this
      · have hl := hsz _ (List.getElem_mem hi)
        refine ⟨hl, fun j hj => ⟨u i j, ?_, hr i j hi hj⟩⟩
        have := (hc _ rfl i j hi (by omega)).2
        rwa [hadd] at this
theorem rdw_raw {w : World} {v u : Value} (h : Rdw w (.raw v) u) : u = v := by cases h; rfl
end Go.AM
namespace Go.AM
open Go Go.Proofs Go.RowKit Go.Maps
theorem cell_grown {w w' : World} {B : Nat} (h : w.grownBy w' (some B)) (hm : ∃ es c, w.heap[B]? = some (.map es c)) {a : Addr} {u : Value} (hc : w.cell? a = some u) : w'.cell? a = some u := by
  have hlt := lt_of_cell hc
  have hne : some a.block ≠ some B := by
    intro e
    obtain ⟨es, c, hb⟩ := hm
    injection e with e
    subst e
    simp [World.cell?, hb] at hc
  rw [World.cell?_of_block (w := w) (h.block a.block hlt hne)]
  exact hc
def KnW (w : World) (kv : Value) (kn : List (List ByteArray)) (B M : Nat) : Prop :=
  (∃ A cap, kv = .slice A kn.length cap) ∧ ∀ j (hj : j < kn.length), ∃ kb ko cap bj, kv = .slice (some ⟨kb, ko, none⟩) kn.length cap ∧ w.cell? ⟨kb, ko + j, none⟩ = some (.map (some bj)) ∧ bj ≠ B ∧ MapIs w bj M kn[j]
theorem KnW.grown {w w' : World} {kv : Value} {kn : List (List ByteArray)} {B M : Nat} (h : KnW w kv kn B M) (hg : w.grownBy w' (some B)) (hm : ∃ es c, w.heap[B]? = some (.map es c)) : KnW w' kv kn B M := by
  refine ⟨h.1, fun j hj => ?_⟩
  obtain ⟨kb, ko, cap, bj, h1, h2, h3, h4⟩ := h.2 j hj
  exact ⟨kb, ko, cap, bj, h1, cell_grown hg hm h2, h3, h4.kept hg (by simpa using h3)⟩
theorem KnW.alloc {w : World} {kv : Value} {kn : List (List ByteArray)} {B M : Nat} (h : KnW w kv kn B M) (o : Obj) : KnW (w.alloc o) kv kn B M := by
  refine ⟨h.1, fun j hj => ?_⟩
  obtain ⟨kb, ko, cap, bj, h1, h2, h3, h4⟩ := h.2 j hj
  exact ⟨kb, ko, cap, bj, h1, by rw [World.cell?_alloc_past _ _ _ (lt_of_cell h2)]; exact h2, h3, h4.alloc o⟩
theorem Gb.trans {a b c : World} {row : Option Nat} (h : a.grownBy b row) (k : b.grownBy c row) : a.grownBy c row :=
  ⟨k.os.trans h.os, k.tape.trans h.tape, k.output.trans h.output, Nat.le_trans h.size k.size, fun i hi hne => (k.block i (Nat.lt_of_lt_of_le hi h.size) hne).trans (h.block i hi hne)⟩
theorem Gb.new {a b c : World} {row : Option Nat} {r : Nat} (h : a.grownBy b row) (k : b.grownBy c (some r)) (hr : a.heap.size ≤ r) : a.grownBy c row :=
  ⟨k.os.trans h.os, k.tape.trans h.tape, k.output.trans h.output, Nat.le_trans h.size k.size, fun i hi hne => (k.block i (Nat.lt_of_lt_of_le hi h.size) (fun e => by injection e with e; omega)).trans (h.block i hi hne)⟩
theorem Gb.none {a b : World} {row : Option Nat} (h : a.grownBy b none) : a.grownBy b row := ⟨h.os, h.tape, h.output, h.size, fun i hi _ => h.block i hi (by simp)⟩
theorem rdw_one {w : World} {x : D} {v : Value} (h : Rdw w x v) : v.oneCell' = true := by cases h with | raw h => exact h | sl => rfl
theorem place_k (p : List Pr) (s : ByteArray) (hp : p.length ≤ 200000000000000) (w : World) (pv : Value) (h : Rdw w (prs p) pv) :
    Calls Tryz.prog 56 #[.agg #[pv], .string s] w fun e w' => e = .returned (.int .i64 (placeR p s)) ∧ w.grownBy w' none := by
  have hr : RVs G00 w [prsAv p, Sb s] [.agg #[pv], .string s] := RVs.cons (.agg (vs := [pv]) rfl (fun i h1 h2 => by
      have : i = 0 := by simp at h1; omega
      subst this
      exact .d h) (by simpa using rdw_one h)) (RVs.cons (.d (.raw rfl)) RVs.nil)
  refine ((placeP_c p s hp _ _).plain hr).mono ?_
  rintro e w' ⟨u, G', rfl, hu, hg⟩
  cases hu with | d hu => cases hu; exact ⟨rfl, hg⟩
end Go.AM
namespace Go.Proofs.YtedpnmlgbjcpcaaGreatDoor.collect
open Go Go.Proofs Go.RowKit Go.AM Go.Maps
def Post (p : List Pr) (kn : List (List ByteArray)) (c : Cm) (m : Nat) (ks : List ByteArray) (B : Nat) (w : World) (e : Ending) (w' : World) : Prop :=
  e = .returned (.tuple #[]) ∧ MapIs w' B (m + (uC p kn c).length) (ks ++ uC p kn c) ∧ w.grownBy w' (some B)
set_option maxHeartbeats 4000000 in
set_option maxRecDepth 100000 in
theorem rule (p : List Pr) (kn : List (List ByteArray)) (s : ByteArray) (n : Int) (hs : s.size ≤ 100) (pv kv : Value) (A : Option Addr) (cap B m : Nat) (ks : List ByteArray) (w : World) (hm : m ≤ 100000000000000) (hB : MapIs w B m ks) :
    Calls Tryz.prog 57 #[.agg #[pv], .agg #[.int .i64 1, .string s, .int .i64 n, .slice A 0 cap], kv, .map (some B)] w (Post p kn (.mk 1 s n []) m ks B w) := by
  have hu : uC p kn (.mk 1 s n []) = [s] := by simp [uC, uL]
  unfold Post
  rw [hu]
  go_enter Tryz.func57, Tryz.ntmps57
  go_wp2_with (first | (at_mapUpdate; refine wpList_put rfl _ rfl _ _ _ rfl B m ks s rfl rfl rfl ((hB.alloc _).alloc _) (by unfold maxLen; omega) (by unfold maxLen; omega) ?_; intro w1 hm1 hg1; have c3 : w1.cell? ⟨w.heap.size + 1, 3, none⟩ = some (.slice A 0 cap) := cell_grown hg1 ((hB.alloc _).alloc _).isMap (by simp)) | go_in)
  refine wp_loop_rounds 1 ?_
  rw [rounds_succ]
  go_wp2
  go_end0
  refine ⟨rfl, hm1, ?_⟩
  exact Gb.trans (Gb.trans (World.grownBy_alloc w _ _) (World.grownBy_alloc _ _ _)) hg1
abbrev W0 (w : World) (pv : Value) (K : Int) (s : ByteArray) (n : Int) (sv : Value) : World := (w.alloc (.cells #[pv] 24)).alloc (.cells #[.int .i64 K, .string s, .int .i64 n, sv] 44)
theorem w0_cell {w : World} {pv : Value} {K : Int} {s : ByteArray} {n : Int} {sv : Value} {a : Addr} {v : Value} (h : w.cell? a = some v) : (W0 w pv K s n sv).cell? a = some v := by
  exact (Gb.trans (World.grownBy_alloc w _ none) (World.grownBy_alloc _ _ _)).cell h (by simp)
theorem uL_len {p : List Pr} {M : Nat} (hM : 1 ≤ M) {kn : List (List ByteArray)} (hk : ∀ l ∈ kn, l.length ≤ M) : ∀ l : List Cm, (uL p kn l).length ≤ Cm.sizeL l * M
  | [] => by simp [uL]
  | x :: r => by
    have h1 := uC_len (p := p) hM hk _ x (Nat.lt_succ_self _)
    have h2 := uL_len (p := p) hM hk r
    rw [uL, List.length_append, Cm.sizeL, Nat.add_mul]
    omega
theorem w0_grown (w : World) (pv : Value) (K : Int) (s : ByteArray) (n : Int) (sv : Value) (row : Option Nat) : w.grownBy (W0 w pv K s n sv) row := Gb.trans (World.grownBy_alloc w _ _) (World.grownBy_alloc _ _ _)
set_option maxHeartbeats 4000000 in
set_option maxRecDepth 100000 in
theorem call (p : List Pr) (hp : p.length ≤ 200000000000000) (kn : List (List ByteArray)) (s : ByteArray) (n : Int) (k : Nat) (hk : placeR p s = k) (hkl : k < kn.length) (pv kv : Value) (A : Option Addr) (cap B m M : Nat) (ks : List ByteArray) (w : World)
    (hm : m + (kn[k]).length ≤ 100000000000000) (hpv : Rdw w (prs p) pv) (hB : MapIs w B m ks) (hK : KnW w kv kn B M) :
    Calls Tryz.prog 57 #[.agg #[pv], .agg #[.int .i64 10, .string s, .int .i64 n, .slice A 0 cap], kv, .map (some B)] w (Post p kn (.mk 10 s n []) m ks B w) := by
  have hu : uC p kn (.mk 10 s n []) = kn[k] := by simp [uC, uL, hk, hkl]
  unfold Post
  rw [hu]
  obtain ⟨kb, ko, kc, bj, rfl, hc, hne, hj⟩ := hK.2 k hkl
  have hpl := place_k p s hp (W0 w pv 10 s n (.slice A 0 cap)) pv (rdw_grown (w0_grown w pv 10 s n _ none) (by simp) hpv)
  rw [hk] at hpl
  have hlt2 : (k : Int) < kn.length := by omega
  have hB0 : MapIs (W0 w pv 10 s n (.slice A 0 cap)) B m ks := (hB.alloc _).alloc _
  have hj0 : MapIs (W0 w pv 10 s n (.slice A 0 cap)) bj M kn[k] := (hj.alloc _).alloc _
  have hc0 : (W0 w pv 10 s n (.slice A 0 cap)).cell? ⟨kb, ko + k, none⟩ = some (.map (some bj)) := by
    rw [World.cell?_alloc_past _ _ _ (by simp; have := lt_of_cell hc; simp at this; omega), World.cell?_alloc_past _ _ _ (lt_of_cell hc)]
    exact hc
  have hc3 : (W0 w pv 10 s n (.slice A 0 cap)).cell? ⟨w.heap.size + 1, 3, none⟩ = some (.slice A 0 cap) := by simp
  have hc4 : (W0 w pv 10 s n (.slice A 0 cap)).cell? ⟨w.heap.size, 0, none⟩ = some pv := by simp
  have hc5 : (W0 w pv 10 s n (.slice A 0 cap)).cell? ⟨w.heap.size + 1, 0, none⟩ = some (.int .i64 10) := by simp
  have hc6 : (W0 w pv 10 s n (.slice A 0 cap)).cell? ⟨w.heap.size + 1, 1, none⟩ = some (.string s) := by simp
  have hsz : (W0 w pv 10 s n (.slice A 0 cap)).heap.size = w.heap.size + 2 := by simp
  have hgw := w0_grown w pv 10 s n (.slice A 0 cap) (some B)
  generalize hW : W0 w pv 10 s n (.slice A 0 cap) = W at *
  go_enter Tryz.func57, Tryz.ntmps57
  go_wp2_with (first | (go_at_call 56; refine hpl.mono ?_) | go_in)
  rintro e w1 ⟨rfl, hg1⟩
  have hB1 := hB0.kept hg1 (by simp)
  have hj1 := hj0.kept hg1 (by simp)
  have hc1 : w1.cell? ⟨kb, ko + k, none⟩ = some (.map (some bj)) := hg1.cell hc0 (by simp)
  have hd3 : w1.cell? ⟨w.heap.size + 1, 3, none⟩ = some (.slice A 0 cap) := hg1.cell hc3 (by simp)
  have hgw1 : w.grownBy w1 (some B) := Gb.trans hgw (Gb.none hg1)
  have hs1 : w.heap.size + 2 ≤ w1.heap.size := by have := hg1.size; omega
  have hBl := hB.lt
  have hjl := hj.lt
  obtain ⟨D0, hown, hmem⟩ := hj1
  clear hW hpl hB0 hj0 hc0 hc3 hc4 hc5 hc6 hsz hgw hg1 hB hj hc hK hpv
  go_wp2_with (first | (at_range; refine wpList_range_own _ rfl _ 102 rfl 9 4 lawStr Tryz.underlying102 _ bj M D0 rfl hown ?_; intro w2 hrg0 hg2 hs2) | go_in)
  go_frame
  have hne2 : w1.heap.size ≠ B := by omega
  have hd2 : w2.cell? ⟨w.heap.size + 1, 3, none⟩ = some (.slice A 0 cap) := hg2.cell hd3 (by simp)
  go_loopw [8] (fun _ wr => ∃ (left : Lit → Bool) (cnt : Nat) (ss : List Bs), wr.ranges Tryz.prog 9 (plainElem Tryz.prog 4) bj w1.heap.size M D0 left cnt ∧ Collected D0 left ss ∧ ss.length ≤ (kn[k]).length ∧
      MapIs wr B (m + ss.length) (ks ++ ss.map ofBs) ∧ w.grownBy wr (some B) ∧ wr.cell? ⟨w.heap.size + 1, 3, none⟩ = some (.slice A 0 cap)) (fun _ wr => wr.rangeLeft bj w1.heap.size)
  case atStart => exact ⟨_, _, [], hrg0, Collected.start D0, Nat.zero_le _, by simpa using hB1.kept hg2 (by simp), Gb.trans hgw1 (Gb.none hg2), hd2⟩
  case round =>
    obtain ⟨left, cnt, ss, hrg, hC, hsl, hB2, hgw2, hd⟩ := hrel
    go_wp2_with (first
      | (at_next; refine wpList_next_ranges _ rfl _ rfl 9 lawStr (plainElem Tryz.prog 4) encStr (fun v : Value => v) (fun key kl h => by obtain ⟨x, hx, _⟩ := Maps.keyOf_str Tryz.underlying9 h; exact ⟨x, hx⟩) (fun v y h => ⟨v, rfl⟩) bj w1.heap.size M _ _ _ rfl hrg ?_ ?_)
      | go_in)
    · intro hc0 hl0
      have hfin : MapIs wr B (m + (kn[k]).length) (ks ++ kn[k]) := by
        refine (hB2.mono (by omega)).congr fun t => ?_
        rw [List.mem_append, List.mem_append]
        refine or_congr_right ⟨fun ht => ?_, fun ht => ?_⟩
        · obtain ⟨x, hx, rfl⟩ := List.mem_map.1 ht
          exact (hmem _).1 (by rw [bsOf_ofBs]; exact ((hC.2 x).1 hx).1)
        · exact List.mem_map.2 ⟨bsOf t, (hC.2 _).2 ⟨(hmem t).2 ht, hl0 _⟩, ofBs_bsOf t⟩
      go_wp2
      refine wp_loop_rounds 1 ?_
      rw [rounds_succ]
      go_wp2
      go_end0
      exact ⟨rfl, hfin, hgw2⟩
    · intro x c kl yd yp w3 cnt3 hkey hlk hv hat hrg3 hlt3 hg3 hs3 hen
      obtain ⟨x', ex, rfl, hxl⟩ := Maps.keyOf_str Tryz.underlying9 hkey
      obtain rfl : x = x' := encStr_inj ex
      have hB3 := hB2.kept hg3 (by simpa using fun e => hne2 e.symm)
      have hC3 := hC.step hlk hat
      have hbd : (ss ++ [x]).length ≤ (kn[k]).length := by
        have h1 : ((ss ++ [x]).map ofBs).Nodup := by
          refine List.pairwise_map.2 (hC3.1.imp fun {a b} hab e => hab ?_)
          have := congrArg bsOf e
          simpa using this
        have h2 := h1.length_le_of_subset (l₂ := kn[k]) fun y hy => by
          obtain ⟨z, hz, rfl⟩ := List.mem_map.1 hy
          exact (hmem _).1 (by rw [bsOf_ofBs]; exact ((hC3.2 z).1 hz).1)
        simpa using h2
      have hd3' : w3.cell? ⟨w.heap.size + 1, 3, none⟩ = some (.slice A 0 cap) := hg3.cell hd (by simp; omega)
      have hg3' : w.grownBy w3 (some B) := Gb.new hgw2 hg3 (by omega)
      clear hs3 hd hgw2 hB2
      go_wp2_with (first
        | (at_mapUpdate; refine wpList_put rfl _ rfl _ _ _ rfl B _ _ (ofBs x) rfl rfl rfl hB3 (by unfold maxLen; simp at hbd; omega) (by show x.toArray.size ≤ maxLen; simpa using hxl) ?_; intro w4 hB4 hg4; go_frame)
        | go_in)
      have hrg4 := hrg3.kept hg4 (by simpa using hne) (by simpa using hne2)
      go_roundw
      case rel =>
        exact ⟨_, cnt3, ss ++ [x], hrg4, hC3, hbd, by simpa [List.append_assoc, Nat.add_assoc] using hB4, Gb.trans hg3' hg4, hg4.cell hd3' (by simp; omega)⟩
      case measure => rw [hrg4.left_eq, hrg.left_eq]; exact hlt3
theorem kid_cells {w : World} {l : List Cm} {sv : Value} (h : Rdw w (cms l) sv) : ∃ A cap, sv = .slice A l.length cap ∧ ∀ i (hi : i < l.length), ∃ b off u, A = some ⟨b, off, none⟩ ∧ w.cell? ⟨b, off + i * 4, none⟩ = some (.int .i64 l[i].kind) ∧ w.cell? ⟨b, off + i * 4 + 1, none⟩ = some (.string l[i].name) ∧
    w.cell? ⟨b, off + i * 4 + 2, none⟩ = some (.int .i64 l[i].num) ∧ w.cell? ⟨b, off + i * 4 + 3, none⟩ = some u ∧ Rdw w (cms l[i].kids) u := by
  obtain ⟨A, cap, rfl, h1, h2, h3⟩ := rdw_sl h (by decide)
  refine ⟨A, cap, by rw [List.length_map], fun i hi => ?_⟩
  rcases h3 with h3 | ⟨b, off, rfl, hb, h3⟩
  · rw [List.map_eq_nil_iff] at h3; subst h3; simp at hi
  · obtain ⟨g1, g2⟩ := h3 i (by rw [List.length_map]; exact hi)
    have e : (l.map Cm.cells)[i]'(by rw [List.length_map]; exact hi) = [.raw (.int .i64 l[i].kind), .raw (.string l[i].name), .raw (.int .i64 l[i].num), cms l[i].kids] := by rw [List.getElem_map, Cm.cells_eq]
    have k0 := g2 0 (by rw [g1]; decide)
    have k1 := g2 1 (by rw [g1]; decide)
    have k2 := g2 2 (by rw [g1]; decide)
    have k3 := g2 3 (by rw [g1]; decide)
    simp only [e, List.getElem_cons_zero, List.getElem_cons_succ] at k0 k1 k2 k3
    obtain ⟨u0, c0, r0⟩ := k0
    obtain ⟨u1, c1, r1⟩ := k1
    obtain ⟨u2, c2, r2⟩ := k2
    obtain ⟨u3, c3, r3⟩ := k3
    cases rdw_raw r0
    cases rdw_raw r1
    cases rdw_raw r2
    exact ⟨b, off, u3, rfl, c0, c1, c2, c3, r3⟩
set_option maxHeartbeats 4000000 in
set_option maxRecDepth 100000 in
theorem any (p : List Pr) (hp : p.length ≤ 200000000000000) (kn : List (List ByteArray)) (M : Nat) (hM : 1 ≤ M) (hM2 : M ≤ 1000000) (hkM : ∀ l ∈ kn, l.length ≤ M) : ∀ (f : Nat) (c : Cm), c.size < f → c.size ≤ 1000000 → c.Fm → CallsOk p kn.length c →
    ∀ (pv sv kv : Value) (B m N : Nat) (ks : List ByteArray) (w : World), m + c.size * M ≤ 100000000000000 → Rdw w (prs p) pv → Rdw w (cms c.kids) sv → MapIs w B m ks → KnW w kv kn B N →
    Calls Tryz.prog 57 #[.agg #[pv], .agg #[.int .i64 c.kind, .string c.name, .int .i64 c.num, sv], kv, .map (some B)] w (Post p kn c m ks B w)
  | 0, c, h, _, _, _ => absurd h (Nat.not_lt_zero _)
  | f + 1, .mk K s n l, hf, hz, hfm, hco => by
    intro pv sv kv B m N ks w hm hpv hsv hB hK
    have hlen := uC_len (p := p) hM hkM _ (.mk K s n l) (Nat.lt_succ_self _)
    have hnm := hfm.name
    have hok := hfm.okB
    simp only [Cm.kind, Cm.name, Cm.num, Cm.kids] at hsv hnm hm hlen ⊢
    obtain ⟨A, cap, rfl, hcell⟩ := kid_cells hsv
    by_cases e1 : K = 1
    · subst e1
      have : l = [] := by have h1 := hok; simp [okB, Cm.kind, Cm.kids] at h1; exact h1.1
      subst this
      exact rule p kn s n hnm pv kv A cap B m ks w (by omega) hB
    by_cases e10 : K = 10
    · subst e10
      have : l = [] := by have h1 := hok; simp [okB, Cm.kind, Cm.kids] at h1; exact h1.1
      subst this
      obtain ⟨h1, h2⟩ := hco.call rfl
      simp only [Cm.name] at h1 h2
      obtain ⟨k, hk⟩ : ∃ k : Nat, placeR p s = k := ⟨(placeR p s).toNat, by omega⟩
      have hkl : k < kn.length := by omega
      have := hkM _ (List.getElem_mem hkl)
      have h1' : (1 : Nat) ≤ (Cm.mk 10 s n []).size := Cm.size_pos _
      have h2' : M ≤ (Cm.mk 10 s n []).size * M := Nat.le_mul_of_pos_left M h1'
      exact call p hp kn s n k hk hkl pv kv A cap B m N ks w (by omega) hpv hB hK
    have hb1 : (K == 1) = false := by simp [e1]
    have hb10 : (K == 10) = false := by simp [e10]
    have hu : uC p kn (.mk K s n l) = uL p kn l := by simp [uC, e1, e10]
    have ih := fun x (hx : x ∈ l) => any p hp kn M hM hM2 hkM f x (by have := Cm.kid_size (c := .mk K s n l) hx; omega) (by have := Cm.kid_size (c := .mk K s n l) hx; omega) (hfm.kid x hx) (hco.kid x hx)
    have hll : l.length ≤ 1000000 := by have := (Cm.mk K s n l).kids_len; simp only [Cm.kids] at this; omega
    unfold Post
    rw [hu]
    clear hfm hco hok
    go_enter Tryz.func57, Tryz.ntmps57
    go_wp2
    go_loopw [37] (fun v wr => ∃ i : Nat, i ≤ l.length ∧ v = .int .i64 i ∧ MapIs wr B (m + (uL p kn (l.take i)).length) (ks ++ uL p kn (l.take i)) ∧ (W0 w pv K s n (.slice A l.length cap)).grownBy wr (some B)) (fun v _ => l.length - (intOf v).toNat)
    case atStart => exact ⟨0, Nat.zero_le _, rfl, by simpa [uL] using (hB.alloc _).alloc _, Gb.none (World.grownBy.refl _ _)⟩
    case round =>
      obtain ⟨i, hi, rfl, hB1, hg1⟩ := hrel
      have hBm := ((hB.alloc (.cells #[pv] 24)).alloc (.cells #[.int .i64 K, .string s, .int .i64 n, .slice A l.length cap] 44)).isMap
      by_cases hlt : i < l.length
      · obtain ⟨b, off, u, rfl, c0, c1, c2, c3, hu3⟩ := hcell i hlt
        have hx := List.getElem_mem hlt
        obtain ⟨A2, cap2, rfl, _⟩ := kid_cells hu3
        have hux := uL_take (p := p) (kn := kn) hlt
        have hsz1 := Cm.sizeL_take hlt
        generalize l[i] = x at *
        have tr : ∀ {a : Addr} {v : Value}, w.cell? a = some v → wr.cell? a = some v := fun h => cell_grown hg1 hBm (w0_cell h)
        have d0 := tr c0
        have d1 := tr c1
        have d2 := tr c2
        have d3 := tr c3
        have d4 : wr.cell? ⟨w.heap.size, 0, none⟩ = some pv := cell_grown hg1 hBm (by simp)
        have hgw : w.grownBy wr (some B) := Gb.trans (w0_grown _ _ _ _ _ _ _) hg1
        have hlt' : (i : Int) < l.length := by omega
        have hal := World.grownBy_alloc wr (.cells #[.int .i64 x.kind, .string x.name, .int .i64 x.num, .slice A2 x.kids.length cap2] 44) (some B)
        have hBw := hB.isMap
        have hB1w := hB1.isMap
        have hbd : m + (uL p kn (l.take i)).length + x.size * M ≤ 100000000000000 := by
          have h1 := uL_len (p := p) hM hkM (l.take i)
          have h2 : Cm.sizeL (l.take i) * M + x.size * M ≤ (Cm.mk K s n l).size * M := by
            rw [← Nat.add_mul, ← hsz1]
            refine Nat.mul_le_mul_right _ ?_
            have := Cm.sizeL_take_le l (i + 1)
            have h4 := (Cm.mk K s n l).size_eq
            simp only [Cm.kids] at h4
            omega
          omega
        have hcall := ih x hx pv (.slice A2 x.kids.length cap2) kv B (m + (uL p kn (l.take i)).length) N (ks ++ uL p kn (l.take i)) (wr.alloc (.cells #[.int .i64 x.kind, .string x.name, .int .i64 x.num, .slice A2 x.kids.length cap2] 44)) hbd
          (rdw_grown hal (fun b hb => by injection hb with hb; subst hb; exact hB1w) (rdw_grown hgw (fun b hb => by injection hb with hb; subst hb; exact hBw) hpv))
          (rdw_grown hal (fun b hb => by injection hb with hb; subst hb; exact hB1w) (rdw_grown hgw (fun b hb => by injection hb with hb; subst hb; exact hBw) hu3)) (hB1.alloc _) ((hK.grown hgw hBw).alloc _)
        have d5 : (wr.alloc (.cells #[.int .i64 x.kind, .string x.name, .int .i64 x.num, .slice A2 x.kids.length cap2] 44)).cell? ⟨w.heap.size, 0, none⟩ = some pv := (World.grownBy_alloc wr _ none).cell d4 (by simp)
        clear ih hcell hsv tr hK hpv hu3 hBm hB hBw hB1w
        go_wp2_with (first | (go_at_call 57; refine hcall.mono ?_) | go_in)
        rintro e w2 ⟨rfl, hB2, hg2⟩
        have hg3 := Gb.trans hg1 (Gb.trans hal hg2)
        clear hal hg2 d0 d1 d2 d3 d4 d5 c0 c1 c2 c3 hgw hg1 hB1 hcall
        go_wp2
        refine ⟨⟨i + 1, by omega, by simp, ?_, hg3⟩, by simp [intOf]; omega⟩
        rw [hux, List.length_append, ← Nat.add_assoc, ← List.append_assoc]
        exact hB2
      · have : i = l.length := by omega
        subst this
        rw [List.take_length] at hB1
        have hge : ¬ (l.length : Int) < l.length := by omega
        clear ih hcell hsv hK hpv hBm
        go_wp2
        go_end0
        exact ⟨rfl, hB1, Gb.trans (w0_grown _ _ _ _ _ _ _) hg1⟩
end Go.Proofs.YtedpnmlgbjcpcaaGreatDoor.collect
