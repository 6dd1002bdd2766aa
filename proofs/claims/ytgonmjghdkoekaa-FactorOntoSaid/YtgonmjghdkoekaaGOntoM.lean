/-
  'FactorOnto' returns true for every draft of a graph and every list of numbers, and leaves them as they were.
-/
import Derived.Test.YtgonmjghdkoekaaOm11
namespace Go.AM
open Go Go.Proofs Go.ChangeShapes

/-- An array of three. -/
def Rdr.array3 {P : Program} {T A : TypeId} {α : Type} (r : Rdr P A α) (h : P.underlying T = some (.array 3 A)) (hc : P.cellsOf T = P.cellsOf A + P.cellsOf A + P.cellsOf A) : Rdr P T (α × α × α) where
  enc x := r.enc x.1 ++ (r.enc x.2.1 ++ r.enc x.2.2)
  ok x := r.ok x.1 ∧ r.ok x.2.1 ∧ r.ok x.2.2
  len x := by simp [r.len, hc]; omega
  sound e w base spare held fuel cs x hx := by
    obtain ⟨xs, n, rfl, rfl, hl, hxs, hat⟩ := DataW.trod_array h hx
    have g0 := hat 0 (by decide)
    have g1 := hat 1 (by decide)
    have g2 := hat 2 (by decide)
    have e0 : xs[0]? = some (xs[0]'(by omega)) := List.getElem?_eq_getElem (by omega)
    have e1 : xs[1]? = some (xs[1]'(by omega)) := List.getElem?_eq_getElem (by omega)
    have e2 : xs[2]? = some (xs[2]'(by omega)) := List.getElem?_eq_getElem (by omega)
    rw [e0, Nat.zero_mul] at g0
    rw [e1, Nat.one_mul] at g1
    rw [e2, show 2 * P.cellsOf A = P.cellsOf A + P.cellsOf A by omega] at g2
    obtain ⟨y, k1, k2⟩ := r.sound e w base spare held n _ _ g0
    obtain ⟨z, m1, m2⟩ := r.sound e w base spare held n _ _ g1
    obtain ⟨q, p1, p2⟩ := r.sound e w base spare held n _ _ g2
    refine ⟨(y, z, q), ?_, fun hli => ?_⟩
    rotate_left
    · unfold Light at hli k2 m2 p2
      have e2 : xs = [xs[0]'(by omega), xs[1]'(by omega), xs[2]'(by omega)] := list3 hxs
      rw [e2] at hli
      simp only [List.map_cons, List.map_nil, DataW.weights, h, DataW.weightsAll, List.all_append, Bool.and_eq_true] at hli
      exact ⟨k2 hli.1, m2 hli.2.1, p2 hli.2.2.1⟩
    have hcs : cs = (cs.drop 0).take (P.cellsOf A) ++ ((cs.drop (P.cellsOf A)).take (P.cellsOf A) ++ (cs.drop (P.cellsOf A + P.cellsOf A)).take (P.cellsOf A)) := by
      have : (cs.drop (P.cellsOf A + P.cellsOf A)).take (P.cellsOf A) = cs.drop (P.cellsOf A + P.cellsOf A) := List.take_of_length_le (by simp; omega)
      rw [this, ← List.drop_drop, List.take_append_drop, List.drop_zero, List.take_append_drop]
    rw [hcs]
    exact k1.append (m1.append p1)

def rdU8 : Rdr Try.prog 5 Int := Rdr.int (k := .u8) Try.underlying5 (by kernel_rfl)
def rdU8s : Rdr Try.prog 47 (List Int) := rdU8.sliceN 1 Try.underlying47 (by kernel_rfl) (by kernel_rfl)
def rdTri : Rdr Try.prog 100 (Int × Int × Int) := rdU8.array3 Try.underlying100 (by kernel_rfl)
def rdTris : Rdr Try.prog 48 (List (Int × Int × Int)) := rdTri.sliceN 3 Try.underlying48 (by kernel_rfl) (by kernel_rfl)
def rdDr0 : Rdr Try.prog 50 (List Int × List (Int × Int × Int)) := Rdr.struct2 rdU8s rdTris Try.underlying50 rfl rfl rfl (by kernel_rfl) (by kernel_rfl)
theorem u8_of {n : Int} (h : (Lit.int .u8 n).wf = true) : 0 ≤ n ∧ n < 256 := by
  simp [Lit.wf, IntKind.min, IntKind.max, IntKind.signed, IntKind.bits] at h
  omega
def rdDr : Rdr Try.prog 50 Dr := rdDr0.map (fun x => ⟨x.1, x.2⟩) (fun x => [.sl 1 (x.nodes.map fun n => [u8 n]), .sl 3 (x.edges.map fun e => [u8 e.1, u8 e.2.1, u8 e.2.2])]) (fun x => x.U8) (fun _ => rfl)
  (fun x h => ⟨fun k hk => u8_of (h.1.1 k hk), fun k hk => ⟨u8_of (h.2.1 k hk).1, u8_of (h.2.1 k hk).2.1, u8_of (h.2.1 k hk).2.2⟩⟩) (fun _ => by kernel_rfl)

set_option maxRecDepth 100000 in
theorem arg_dr {ps : Array TypeId} {args : Array Value} {W : World} {base base' : Nat} {sp : Nat → Bool} {held : Bool} {H : Type} {enc : TypeId × Value → H} (hval : ∀ (j : Nat) t v, ps[j]? = some t → args[j]? = some v → Value.okWide Try.prog W .any base t v)
    (j : Nat) (v : Value) (hp : ps[j]? = some 50) (ha : args[j]? = some v) {d : DataW H} {p : List MemPlace} (h : DataW.Trod enc Try.prog W base' sp held 50 v d p) (hli : Light Try.prog 50 d) : ∃ x : Dr, x.U8 ∧ RV G0 W x.av v := by
  refine Exists.elim (arg_agg hval j 50 v hp ha rdDr aggT_50 h hli) fun g hg => ⟨g, hg.1, ?_⟩
  exact hg.2

set_option maxRecDepth 100000 in
theorem arg_u8s {ps : Array TypeId} {args : Array Value} {W : World} {base base' : Nat} {sp : Nat → Bool} {held : Bool} {H : Type} {enc : TypeId × Value → H} (hval : ∀ (j : Nat) t v, ps[j]? = some t → args[j]? = some v → Value.okWide Try.prog W .any base t v)
    (j : Nat) (v : Value) (hp : ps[j]? = some 47) (ha : args[j]? = some v) {d : DataW H} {p : List MemPlace} (h : DataW.Trod enc Try.prog W base' sp held 47 v d p) (hli : Light Try.prog 47 d) : ∃ l : List Int, (∀ n ∈ l, 0 ≤ n ∧ n < 256) ∧ RV G0 W (.d (.sl 1 (l.map fun n => [u8 n]))) v := by
  refine Exists.elim (arg_cell hval j 47 v hp ha rdU8s (fun l => .sl 1 (l.map fun n => [u8 n])) (by kernel_rfl) (fun _ => rfl) h hli) fun g hg => ⟨g, fun n hn => u8_of (hg.1.1 n hn), hg.2⟩
end Go.AM

namespace Go.Proofs.Ytgonmjghdkoekaa.factorOnto
open Go Go.AM Go.ChangeShapes

set_option maxRecDepth 100000 in
theorem contract (H : Type) (enc : TypeId × Value → H) (W : World) (base : Nat) (args : Array Value) (ds gs : List (DataW H)) (before : List MemPlace)
    (hval : ∀ (j : Nat) t v, Try.f10.params[j]? = some t → args[j]? = some v → Value.okWide Try.prog W .any base t v)
    (hW : DataW.Whole enc Try.prog Try.f10.params.toList Rows.factorOntoSpec.vars false W args.toList ds gs before)
    (hz : (DataW.weightsEach Try.prog (Try.f10.params.toList ++ []) (ds ++ gs)).all (· ≤ reachBytes) = true) :
    Calls Try.prog 10 args W fun e W' => ∃ v, e = .returned v ∧ Rows.factorOntoSpec.post enc Try.prog Try.f10 false true false false W args v W' := by
  have hW' := hW
  obtain ⟨p, q, hA, hV, rfl, hfz, hnd⟩ := hW
  obtain ⟨rfl, rfl⟩ := trodVars_none hV
  rw [Try.params10] at hA hval hz
  obtain ⟨v0, vs0, d0, ds0, p0, q0, hargs, rfl, rfl, h0, r0⟩ := trodAll_cons hA
  obtain ⟨v1, vs1, d1, ds1, p1, q1, rfl, rfl, rfl, h1, r1⟩ := trodAll_cons r0
  obtain ⟨rfl, rfl, rfl⟩ := trodAll_nil r1
  obtain rfl : args = #[v0, v1] := by cases args; simp_all
  obtain ⟨a, hua, ha⟩ := arg_dr hval 0 v0 rfl rfl h0 (light_arg hz (j := 0) rfl rfl)
  obtain ⟨l, hul, hl⟩ := arg_u8s hval 1 v1 rfl rfl h1 (light_arg hz (j := 1) rfl rfl)
  obtain ⟨tok', nt', hc⟩ := law10_c a hua l hul (fun _ => false) 0
  exact law_of laidOut0 mapsRowed0 slices0 (by kernel_rfl) (tb := 4) rfl Try.underlying4 rfl rfl hW' (RVs.cons ha (RVs.cons hl RVs.nil)) hc

set_option maxRecDepth 100000 in
theorem lifted (os : Os) (started : os.Started) (H : Type) (enc : TypeId × Value → H) :
    ReturnsInHanded {} Try.checked os 10 .any (Rows.factorOntoSpec.pre6 enc Try.prog Try.f10 Rows.factorOntoRow.domain false) (Rows.factorOntoSpec.post enc Try.prog Try.f10 false true false false) := by
  refine returnsInHanded_of_change_sized (C := Try.checked) own0 started (by kernel_rfl) Try.func10
    (ChangeSpec.witness6 (enc := enc) (C := Try.checked) false ⟨#[], #[.agg #[.slice none 0 0, .slice none 0 0], .slice none 0 0], []⟩ 8 (by kernel_rfl) (by kernel_rfl) (by kernel_rfl) (by kernel_rfl)) ?_
  intro W base args ds gs before hval hW _ hz _
  exact contract H enc W base args ds gs before hval hW hz

theorem proved : Rows.FactorOntoSaid :=
  OpenClaim.holds_of_wide 10 Try.f10 rfl rfl rfl rfl rfl rfl rfl ⟨rfl, rfl, rfl, rfl, rfl⟩ rfl rfl rfl rfl rfl (by kernel_rfl) Try.func10 (by kernel_rfl)
    (of_decide_eq_true (by kernel_rfl)) (by unfold Func.isWrapper; first | (rw [if_pos (by decide +kernel)]; kernel_rfl) | (rw [if_neg (by decide +kernel)]; exact ⟨rfl, rfl⟩))
    (fun os started H enc _ => lifted os started H enc)
#print axioms proved
end Go.Proofs.Ytgonmjghdkoekaa.factorOnto
