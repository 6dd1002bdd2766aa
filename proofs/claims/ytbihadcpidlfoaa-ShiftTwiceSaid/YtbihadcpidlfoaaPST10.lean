import Derived.Test.YtbihadcpidlfoaaPST9
/-
  What a condition reads as.
-/
namespace Go.AM
open Go Go.Proofs Go.ChangeShapes
set_option linter.unusedSimpArgs false
set_option linter.unusedVariables false

/-- How the cells of a type read as data, where the reading may go so deep. -/
structure RdF (P : Program) (T : TypeId) {α : Type} (en : α → List D) (ok : α → Prop) (n : Nat) : Prop where
  sound : ∀ {H : Type} (e : TypeId × Value → H) (w : World) (base : Nat) (spare : Nat → Bool) (held : Bool) (cs : List Value) (x : DataW H × List MemPlace),
    DataW.trod e P w base spare held n T cs = some x → ∃ y, Rd w cs (en y) ∧ (Light P T x.1 → ok y)
theorem Rdr.f {P : Program} {T : TypeId} {α : Type} (r : Rdr P T α) (n : Nat) : RdF P T r.enc r.ok n := ⟨fun e w base spare held cs x hx => r.sound e w base spare held n cs x hx⟩
theorem RdF.zero {P : Program} {T : TypeId} {α : Type} {en : α → List D} {ok : α → Prop} : RdF P T en ok 0 := ⟨fun e w base spare held cs x hx => by simp [DataW.trod] at hx⟩
def Rdr.ofF {P : Program} {T : TypeId} {α : Type} (en : α → List D) (ok : α → Prop) (len : ∀ x, (en x).length = P.cellsOf T) (h : ∀ n, RdF P T en ok n) : Rdr P T α := ⟨en, ok, len, fun e w base spare held n cs x hx => (h n).sound e w base spare held cs x hx⟩

theorem list4 {α : Type} {l : List α} (h : l.length = 4) : l = [l[0]'(by omega), l[1]'(by omega), l[2]'(by omega), l[3]'(by omega)] := by
  match l, h with
  | [p, q, r, s], _ => rfl

theorem RdF.struct4 {P : Program} {T A B C E : TypeId} {α β γ δ : Type} {ea : α → List D} {eb : β → List D} {ec : γ → List D} {ed : δ → List D} {oa : α → Prop} {ob : β → Prop} {oc : γ → Prop} {od : δ → Prop} {n : Nat}
    (r : RdF P A ea oa n) (s : RdF P B eb ob n) (t : RdF P C ec oc n) (u : RdF P E ed od n) {f0 f1 f2 f3 : Field} (h : P.underlying T = some (.struct #[f0, f1, f2, f3])) (hA : f0.type = A) (hB : f1.type = B) (hC : f2.type = C) (hE : f3.type = E)
    (h0 : f0.offset = 0) (h1 : f1.offset = P.cellsOf A) (h2 : f2.offset = P.cellsOf A + P.cellsOf B) (h3 : f3.offset = P.cellsOf A + P.cellsOf B + P.cellsOf C) (hc : P.cellsOf T = P.cellsOf A + P.cellsOf B + P.cellsOf C + P.cellsOf E) :
    RdF P T (fun x : α × β × γ × δ => ea x.1 ++ (eb x.2.1 ++ (ec x.2.2.1 ++ ed x.2.2.2))) (fun x => oa x.1 ∧ ob x.2.1 ∧ oc x.2.2.1 ∧ od x.2.2.2) (n + 1) := by
  constructor
  intro H e w base spare held cs x hx
  obtain ⟨xs, n', hn', rfl, hl, hxs, hat⟩ := DataW.trod_struct h hx
  obtain rfl : n' = n := by omega
  have hxs' : xs.length = 4 := hxs
  have g0 := hat 0 f0 rfl
  have g1 := hat 1 f1 rfl
  have g2 := hat 2 f2 rfl
  have g3 := hat 3 f3 rfl
  have e0 : xs[0]? = some (xs[0]'(by omega)) := List.getElem?_eq_getElem (by omega)
  have e1 : xs[1]? = some (xs[1]'(by omega)) := List.getElem?_eq_getElem (by omega)
  have e2 : xs[2]? = some (xs[2]'(by omega)) := List.getElem?_eq_getElem (by omega)
  have e3 : xs[3]? = some (xs[3]'(by omega)) := List.getElem?_eq_getElem (by omega)
  rw [e0, h0, hA] at g0
  rw [e1, h1, hB] at g1
  rw [e2, h2, hC] at g2
  rw [e3, h3, hE] at g3
  obtain ⟨y, k1, k2⟩ := r.sound e w base spare held _ _ g0
  obtain ⟨z, m1, m2⟩ := s.sound e w base spare held _ _ g1
  obtain ⟨q, p1, p2⟩ := t.sound e w base spare held _ _ g2
  obtain ⟨v, q1, q2⟩ := u.sound e w base spare held _ _ g3
  refine ⟨(y, z, q, v), ?_, fun hli => ?_⟩
  rotate_left
  · unfold Light at hli k2 m2 p2 q2
    have e2 : xs = [xs[0]'(by omega), xs[1]'(by omega), xs[2]'(by omega), xs[3]'(by omega)] := list4 hxs'
    rw [e2] at hli
    simp only [List.map_cons, List.map_nil, DataW.weights, h, DataW.weightsEach, hA, hB, hC, hE, List.all_append, Bool.and_eq_true] at hli
    exact ⟨k2 hli.1, m2 hli.2.1, p2 hli.2.2.1, q2 hli.2.2.2.1⟩
  have hcs : cs = (cs.drop 0).take (P.cellsOf A) ++ ((cs.drop (P.cellsOf A)).take (P.cellsOf B) ++ ((cs.drop (P.cellsOf A + P.cellsOf B)).take (P.cellsOf C) ++ (cs.drop (P.cellsOf A + P.cellsOf B + P.cellsOf C)).take (P.cellsOf E))) := by
    have : (cs.drop (P.cellsOf A + P.cellsOf B + P.cellsOf C)).take (P.cellsOf E) = cs.drop (P.cellsOf A + P.cellsOf B + P.cellsOf C) := List.take_of_length_le (by simp; omega)
    rw [this]
    have e3 := List.take_append_drop (P.cellsOf C) (cs.drop (P.cellsOf A + P.cellsOf B))
    have e2 := List.take_append_drop (P.cellsOf B) (cs.drop (P.cellsOf A))
    rw [List.drop_drop] at e3 e2
    rw [e3, e2, List.drop_zero, List.take_append_drop]
  rw [hcs]
  exact k1.append (m1.append (p1.append q1))

end Go.AM
/-
  What chains read as.
-/
namespace Go.AM
open Go Go.Proofs Go.ChangeShapes
set_option linter.unusedSimpArgs false
set_option linter.unusedVariables false

/-- An array of three. -/
def Rdr.arr3 {P : Program} {T A : TypeId} {α : Type} (r : Rdr P A α) (h : P.underlying T = some (.array 3 A)) (hc : P.cellsOf T = P.cellsOf A + P.cellsOf A + P.cellsOf A) : Rdr P T (α × α × α) where
  enc x := r.enc x.1 ++ (r.enc x.2.1 ++ r.enc x.2.2)
  ok x := r.ok x.1 ∧ r.ok x.2.1 ∧ r.ok x.2.2
  len x := by simp [r.len, hc]; omega
  sound e w base spare held fuel cs x hx := by
    obtain ⟨xs, n, rfl, rfl, hl, hxs, hat⟩ := DataW.trod_array h hx
    have g0 := hat 0 (by decide)
    have g1 := hat 1 (by decide)
    have g2 := hat 2 (by decide)
    have e0 : xs[0]? = some (xs[0]'(by omega)) := List.getElem?_eq_getElem (by omega)
    have e1 : xs[1]? = some (xs[1]'(by omega)) := List.getElem?_eq_getElem (by omega)
    have e2 : xs[2]? = some (xs[2]'(by omega)) := List.getElem?_eq_getElem (by omega)
    rw [e0, Nat.zero_mul] at g0
    rw [e1, Nat.one_mul] at g1
    rw [e2, show 2 * P.cellsOf A = P.cellsOf A + P.cellsOf A by omega] at g2
    obtain ⟨y, k1, k2⟩ := r.sound e w base spare held n _ _ g0
    obtain ⟨z, m1, m2⟩ := r.sound e w base spare held n _ _ g1
    obtain ⟨q, p1, p2⟩ := r.sound e w base spare held n _ _ g2
    refine ⟨(y, z, q), ?_, fun hli => ?_⟩
    rotate_left
    · unfold Light at hli k2 m2 p2
      have e2 : xs = [xs[0]'(by omega), xs[1]'(by omega), xs[2]'(by omega)] := list3 hxs
      rw [e2] at hli
      simp only [List.map_cons, List.map_nil, DataW.weights, h, DataW.weightsAll, List.all_append, Bool.and_eq_true] at hli
      exact ⟨k2 hli.1, m2 hli.2.1, p2 hli.2.2.1⟩
    have hcs : cs = (cs.drop 0).take (P.cellsOf A) ++ ((cs.drop (P.cellsOf A)).take (P.cellsOf A) ++ (cs.drop (P.cellsOf A + P.cellsOf A)).take (P.cellsOf A)) := by
      have : (cs.drop (P.cellsOf A + P.cellsOf A)).take (P.cellsOf A) = cs.drop (P.cellsOf A + P.cellsOf A) := List.take_of_length_le (by simp; omega)
      rw [this, ← List.drop_drop, List.take_append_drop, List.drop_zero, List.take_append_drop]
    rw [hcs]
    exact k1.append (m1.append p1)

def rdB : Rdr Try.prog 5 Int := Rdr.int (k := .u8) Try.underlying5 (by kernel_rfl)
theorem rdB_ok {n : Int} (h : (Lit.int .u8 n).wf = true) : 0 ≤ n ∧ n < 256 := by
  simp [Lit.wf, IntKind.min, IntKind.max, IntKind.signed, IntKind.bits] at h
  omega
def rdBs : Rdr Try.prog 42 (List Int) := rdB.sliceN 1 Try.underlying42 (by kernel_rfl) (by kernel_rfl)
theorem rdBs_ok {l : List Int} (h : rdBs.ok l) : U8s l := fun c hc => rdB_ok (h.1 c hc)
def rdB3 : Rdr Try.prog 97 (Int × Int × Int) := rdB.arr3 Try.underlying97 (by kernel_rfl)
def rdB3s : Rdr Try.prog 43 (List (Int × Int × Int)) := rdB3.sliceN 3 Try.underlying43 (by kernel_rfl) (by kernel_rfl)
def rdDraft0 : Rdr Try.prog 45 (List Int × List (Int × Int × Int)) := Rdr.struct2 rdBs rdB3s Try.underlying45 rfl rfl rfl (by kernel_rfl) (by kernel_rfl)
def rdDraft : Rdr Try.prog 45 Dr := rdDraft0.map (fun x => ⟨x.1, x.2⟩) (fun x => [.sl 1 (x.nodes.map fun n => [u8 n]), .sl 3 (x.edges.map fun e => [u8 e.1, u8 e.2.1, u8 e.2.2])]) (fun x => x.U8) (fun _ => rfl)
  (fun x h => ⟨fun k hk => rdB_ok (h.1.1 k hk), fun k hk => ⟨rdB_ok (h.2.1 k hk).1, rdB_ok (h.2.1 k hk).2.1, rdB_ok (h.2.1 k hk).2.2⟩⟩) (fun _ => by kernel_rfl)
theorem rdCh_n (n : Nat) : RdF Try.prog 47 (fun x : Dr × List Int × List Int × List Int => rdDraft.enc x.1 ++ (rdBs.enc x.2.1 ++ (rdBs.enc x.2.2.1 ++ rdBs.enc x.2.2.2))) (fun x => rdDraft.ok x.1 ∧ rdBs.ok x.2.1 ∧ rdBs.ok x.2.2.1 ∧ rdBs.ok x.2.2.2) n := by
  cases n with
  | zero => exact .zero
  | succ n => exact RdF.struct4 (rdDraft.f n) (rdBs.f n) (rdBs.f n) (rdBs.f n) Try.underlying47 rfl rfl rfl rfl rfl (by kernel_rfl) (by kernel_rfl) (by kernel_rfl) (by kernel_rfl)
def rdCh0 : Rdr Try.prog 47 (Dr × List Int × List Int × List Int) := Rdr.ofF _ _ (fun x => by simp [rdDraft.len, rdBs.len]; kernel_rfl) rdCh_n
abbrev Ch.cells (x : Ch) : List D := [.sl 1 (x.a.nodes.map fun n => [u8 n]), .sl 3 (x.a.edges.map fun e => [u8 e.1, u8 e.2.1, u8 e.2.2]), bytes x.b, bytes x.g, bytes x.c]
def rdCh : Rdr Try.prog 47 Ch := rdCh0.map (fun x => ⟨x.1, x.2.1, x.2.2.1, x.2.2.2⟩) Ch.cells Ch.U8 (fun _ => rfl) (fun x h => ⟨h.1, rdBs_ok h.2.1, rdBs_ok h.2.2.1, rdBs_ok h.2.2.2⟩) (fun _ => by kernel_rfl)

set_option maxRecDepth 100000 in
theorem arg_chain {ps : Array TypeId} {args : Array Value} {W : World} {base base' : Nat} {sp : Nat → Bool} {held : Bool} {H : Type} {enc : TypeId × Value → H} (hval : ∀ (j : Nat) t v, ps[j]? = some t → args[j]? = some v → Value.okWide Try.prog W .any base t v)
    (j : Nat) (v : Value) (hp : ps[j]? = some 47) (ha : args[j]? = some v) {d : DataW H} {p : List MemPlace} (h : DataW.Trod enc Try.prog W base' sp held 47 v d p) (hli : Light Try.prog 47 d) : ∃ x : Ch, x.U8 ∧ RV G0 W x.av v := by
  refine Exists.elim (arg_agg hval j 47 v hp ha rdCh aggT_47 h hli) fun x hx => ⟨x, hx.1, ?_⟩
  exact hx.2
end Go.AM
