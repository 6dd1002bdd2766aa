/-
  The abstract machine: what operators give on values.
-/
import Derived.Test.YtgonmjghdkoekaaAmWp4
namespace Go.AM
open Go
set_option linter.unusedSimpArgs false

variable {P : Program}

theorem binOK_iff {op : BinOp} {T : TypeId} {a b r0 : Value} (h0 : r0.oneCell' = true) (h : ∀ x y w, Sem.run P (do eqGuard op T x y a b; binOp op T a b) w = .ok r0 w) (r : Value) : BinOK P op T a b r ↔ r = r0 := by
  constructor
  · intro hb
    have := hb.2 (.const a) (.const b) default
    rw [h] at this
    injection this with h1 _
    exact h1.symm
  · rintro rfl
    exact ⟨h0, h⟩

theorem unOK_iff {op : UnOp} {a r0 : Value} (h0 : r0.oneCell' = true) (h : ∀ w, Sem.run P (Op.unary op a) w = .ok r0 w) (r : Value) : UnOK P op a r ↔ r = r0 := by
  constructor
  · intro hb
    have := hb.2 default
    rw [h] at this
    injection this with h1 _
    exact h1.symm
  · rintro rfl
    exact ⟨h0, h⟩

section
variable (T : TypeId) (k : IntKind) (a b : Int) (r : Value)
@[simp] theorem bin_lss : BinOK P .lss T (.int k a) (.int k b) r ↔ r = .bool (decide (a < b)) := binOK_iff rfl (fun _ _ _ => by simp [binOp, Op.intCmp, eqGuard]) r
@[simp] theorem bin_leq : BinOK P .leq T (.int k a) (.int k b) r ↔ r = .bool (decide (a ≤ b)) := binOK_iff rfl (fun _ _ _ => by simp [binOp, Op.intCmp, eqGuard]) r
@[simp] theorem bin_gtr : BinOK P .gtr T (.int k a) (.int k b) r ↔ r = .bool (decide (b < a)) := binOK_iff rfl (fun _ _ _ => by simp [binOp, Op.intCmp, eqGuard]) r
@[simp] theorem bin_geq : BinOK P .geq T (.int k a) (.int k b) r ↔ r = .bool (decide (b ≤ a)) := binOK_iff rfl (fun _ _ _ => by simp [binOp, Op.intCmp, eqGuard]) r
@[simp] theorem bin_eql : BinOK P .eql T (.int k a) (.int k b) r ↔ r = .bool (a == b) := binOK_iff rfl (fun _ _ _ => by simp [binOp, Op.intCmp, eqGuard]) r
@[simp] theorem bin_neq : BinOK P .neq T (.int k a) (.int k b) r ↔ r = .bool (a != b) := binOK_iff rfl (fun _ _ _ => by simp [binOp, Op.intCmp, eqGuard]) r
@[simp] theorem bin_add : BinOK P .add T (.int k a) (.int k b) r ↔ r = .int k (k.wrap (a + b)) := binOK_iff rfl (fun _ _ _ => by simp [binOp, Op.intArith, eqGuard]) r
@[simp] theorem bin_sub : BinOK P .sub T (.int k a) (.int k b) r ↔ r = .int k (k.wrap (a - b)) := binOK_iff rfl (fun _ _ _ => by simp [binOp, Op.intArith, eqGuard]) r
@[simp] theorem bin_mul : BinOK P .mul T (.int k a) (.int k b) r ↔ r = .int k (k.wrap (a * b)) := binOK_iff rfl (fun _ _ _ => by simp [binOp, Op.intArith, eqGuard]) r
theorem bin_quo (h : b ≠ 0) : BinOK P .quo T (.int k a) (.int k b) r ↔ r = .int k (k.wrap (a.tdiv b)) := binOK_iff rfl (fun _ _ _ => by simp [binOp, Op.intDiv, eqGuard, h]) r
theorem bin_rem (h : b ≠ 0) : BinOK P .rem T (.int k a) (.int k b) r ↔ r = .int k (a.tmod b) := binOK_iff rfl (fun _ _ _ => by simp [binOp, Op.intDiv, eqGuard, h]) r
theorem bin_shr {k' : IntKind} (h : 0 ≤ b) : BinOK P .shr T (.int k a) (.int k' b) r ↔ r = .int k (a.fdiv (2 ^ min b.toNat k.bits)) := by
  have h' : ¬ b < 0 := by omega
  exact binOK_iff rfl (fun _ _ _ => by simp [binOp, Op.shift, eqGuard, h']) r
theorem bin_and : BinOK P .and T (.int k a) (.int k b) r ↔ r = .int k (k.wrap (BitVec.ofInt k.bits a &&& BitVec.ofInt k.bits b).toNat) := binOK_iff rfl (fun _ _ _ => by simp [binOp, Op.intBits, eqGuard]) r
theorem conv_int {S' T' : TypeId} {k' : IntKind} (hs : (P.underlying S').isSome = true) (ht : P.underlying T' = some (.int k')) : ConvOK P S' T' (.int k a) r ↔ r = .int k' (k'.wrap a) := by
  obtain ⟨u, hu⟩ := Option.isSome_iff_exists.1 hs
  have hr : ∀ w, Sem.run P (convert S' T' (.int k a)) w = .ok (.int k' (k'.wrap a)) w := by
    intro w
    simp only [convert, Sem.run_bind, run_underlying hu, run_underlying ht, Result.andThen_ok]
    cases u <;> simp [Conv.intToInt]
  constructor
  · intro hb
    have := hb.2 default
    rw [hr] at this
    injection this with h1 _
    exact h1.symm
  · rintro rfl
    exact ⟨rfl, hr⟩
@[simp] theorem un_not (t : Bool) : UnOK P .not (.bool t) r ↔ r = .bool (!t) := unOK_iff rfl (fun _ => by simp [Op.unary]) r
end

/-! ### Structs of numbers, compared -/
/-- A struct all of whose fields are numbers, one behind the other. -/
def eqT (P : Program) (T : TypeId) : Option Nat := match P.underlying T with
  | some (.struct fs) => if (fs.toList.all fun f => f.name != "_" && (match P.underlying f.type with | some (.int _) => true | _ => false)) && fs.toList.map (·.offset) == List.range fs.size && !P.stoodInHeld T && !P.eqGuardType P.depth T then some fs.size else none
  | _ => none

def intsOf : List Value → Option (List Int)
  | [] => some []
  | .int .i64 n :: r => (intsOf r).map (n :: ·)
  | _ :: _ => none

theorem intsOf_spec : ∀ {vs : List Value} {ns : List Int}, intsOf vs = some ns → vs = ns.map (.int .i64)
  | [], ns, h => by simp [intsOf] at h; subst h; rfl
  | v :: r, ns, h => by
    unfold intsOf at h
    split at h
    · cases ‹_ :: _ = []›
    · rename_i n r' heq
      cases heq
      obtain ⟨l, h1, h2⟩ := Option.map_eq_some_iff.1 h
      subst h2
      rw [intsOf_spec h1]
      rfl
    · cases h

theorem run_eqFields_ints (d : Nat) (w : World) : ∀ (fs : List Field) (i : Nat) (as bs : List Int), (∀ f ∈ fs, f.name ≠ "_" ∧ ∃ k, P.underlying f.type = some (.int k)) → fs.map (·.offset) = List.range' i fs.length → as.length = i + fs.length → bs.length = i + fs.length →
    (Op.eqFields (d + 1) (as.map (Value.int .i64)).toArray (bs.map (Value.int .i64)).toArray fs).run P w = .ok (decide (as.drop i = bs.drop i)) w
  | [], i, as, bs, _, _, ha, hb => by
    have h1 : as.drop i = [] := List.drop_eq_nil_of_le (by simp at ha; omega)
    have h2 : bs.drop i = [] := List.drop_eq_nil_of_le (by simp at hb; omega)
    simp [Op.eqFields, h1, h2]
  | f :: fs, i, as, bs, hf, ho, ha, hb => by
    obtain ⟨hn, k, hk⟩ := hf f (by simp)
    simp only [List.map_cons, List.length_cons, List.range'_succ, List.cons.injEq] at ho
    obtain ⟨ho1, ho2⟩ := ho
    simp only [List.length_cons] at ha hb
    have hia : i < as.length := by omega
    have hib : i < bs.length := by omega
    have hag : aggT P f.type = some false := by simp [aggT, hk]
    have hpa : (part f.type (as.map (Value.int .i64)).toArray f.offset).run P w = .ok (.int .i64 as[i]) w := by
      simp only [part, Sem.run_bind, run_isAgg hag, Result.andThen_ok, Bool.false_eq_true, ↓reduceIte, ho1]
      simp [hia]
    have hpb : (part f.type (bs.map (Value.int .i64)).toArray f.offset).run P w = .ok (.int .i64 bs[i]) w := by
      simp only [part, Sem.run_bind, run_isAgg hag, Result.andThen_ok, Bool.false_eq_true, ↓reduceIte, ho1]
      simp [hib]
    have ih := run_eqFields_ints d w fs (i + 1) as bs (fun g hg => hf g (by simp [hg])) ho2 (by omega) (by omega)
    simp only [Op.eqFields, hn, ne_eq, not_false_eq_true, ↓reduceIte, Sem.run_bind, hpa, hpb, Result.andThen_ok, run_equalIn_int w d f.type .i64 k _ _ hk, Sem.run_ite, ih]
    have ea : as.drop i = as[i] :: as.drop (i + 1) := List.drop_eq_getElem_cons hia
    have eb : bs.drop i = bs[i] :: bs.drop (i + 1) := List.drop_eq_getElem_cons hib
    by_cases e : as[i] = bs[i]
    · have e2 : (as.drop i = bs.drop i) ↔ (as.drop (i + 1) = bs.drop (i + 1)) := by rw [ea, eb, e]; simp only [List.cons.injEq, true_and]
      simp [e, e2]
    · have e2 : ¬ (as.drop i = bs.drop i) := by rw [ea, eb]; simp only [List.cons.injEq, e, false_and, not_false_eq_true]
      simp [e, e2]

theorem eqT_spec {T n : Nat} (h : eqT P T = some n) {as bs : List Int} (ha : as.length = n) (hb : bs.length = n) (x y : Operand) (w : World) :
    (eqGuard .eql T x y (.agg (as.map (Value.int .i64)).toArray) (.agg (bs.map (Value.int .i64)).toArray)).run P w = .ok () w ∧
    (eqGuard .neq T x y (.agg (as.map (Value.int .i64)).toArray) (.agg (bs.map (Value.int .i64)).toArray)).run P w = .ok () w ∧
    (binOp .eql T (.agg (as.map (Value.int .i64)).toArray) (.agg (bs.map (Value.int .i64)).toArray)).run P w = .ok (.bool (decide (as = bs))) w ∧
    (binOp .neq T (.agg (as.map (Value.int .i64)).toArray) (.agg (bs.map (Value.int .i64)).toArray)).run P w = .ok (.bool (!decide (as = bs))) w := by
  unfold eqT at h
  split at h
  · rename_i fs hfs
    split at h
    · rename_i hc
      simp only [Bool.and_eq_true, Bool.not_eq_true', beq_iff_eq] at hc
      obtain ⟨⟨⟨h1, h2⟩, h3⟩, h4⟩ := hc
      simp only [Option.some.injEq] at h
      subst h
      have hfo : P.fieldsOf T = fs := by simp [Program.fieldsOf, hfs]
      have hun : P.underlying T = some (.struct (P.fieldsOf T)) := by rw [hfo, hfs]
      have hall : ∀ f ∈ fs.toList, f.name ≠ "_" ∧ ∃ k, P.underlying f.type = some (.int k) := by
        intro f hf
        have := List.all_eq_true.1 h1 f hf
        simp only [Bool.and_eq_true, bne_iff_ne, ne_eq] at this
        refine ⟨this.1, ?_⟩
        have h6 := this.2
        split at h6
        · rename_i k hk; exact ⟨k, hk⟩
        · cases h6
      have key : ∀ d, (Op.equalIn (d + 2) T (.agg (as.map (Value.int .i64)).toArray) (.agg (bs.map (Value.int .i64)).toArray)).run P w = .ok (decide (as = bs)) w := by
        intro d
        rw [run_equalIn_struct w (d + 1) T _ _ hun h3, hfo, run_eqFields_ints d w fs.toList 0 as bs hall (by rw [h2]; simp [List.range_eq_range']) (by simpa using ha) (by simpa using hb)]
        simp
      refine ⟨run_eqGuard_agg w .eql T x y _ _ h4, run_eqGuard_agg w .neq T x y _ _ h4, ?_, ?_⟩
      · rw [run_eql_struct, key 9998]; rfl
      · rw [run_neq_struct, key 9998]; rfl
    · cases h
  · cases h

theorem wrap_in {n : Int} (h0 : -9223372036854775808 ≤ n) (h1 : n ≤ 9223372036854775807) : IntKind.i64.wrap n = n := by
  exact IntWalk.i64_in n ⟨h0, h1⟩

end Go.AM
