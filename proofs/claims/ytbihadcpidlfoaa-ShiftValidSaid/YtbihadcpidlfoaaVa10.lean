import Derived.Test.YtbihadcpidlfoaaVa9
import Derived.WalkKit
import Derived.ProofKit
import Derived.OpenShut
import Derived.ChangeStays
import Derived.SizedLaws
/-
  What shifting makes is valid, and as great as was counted.
-/
namespace Go.AM
open Go Go.Proofs
set_option linter.unusedSimpArgs false
set_option linter.unusedVariables false

/-! ### Size and depth as natural numbers -/
mutual
def Cd.cnt : Cd → Nat
  | .mk _ c _ _ _ _ _ => 1 + Cd.cntL c
def Cd.cntL : List Cd → Nat
  | [] => 0
  | x :: r => Cd.cnt x + Cd.cntL r
end
mutual
def Cd.dep : Cd → Nat
  | .mk k c _ _ _ _ _ => Cd.depL c + if k = 5 then 1 else 0
def Cd.depL : List Cd → Nat
  | [] => 0
  | x :: r => max (Cd.dep x) (Cd.depL r)
end
theorem Cd.cnt_eq (c : Cd) : c.cnt = 1 + Cd.cntL c.kids := by cases c; rw [Cd.cnt]; rfl
theorem Cd.dep_eq (c : Cd) : c.dep = Cd.depL c.kids + if c.kind = 5 then 1 else 0 := by cases c; rw [Cd.dep]; rfl
theorem Cd.cntL_append : ∀ l r : List Cd, Cd.cntL (l ++ r) = Cd.cntL l + Cd.cntL r
  | [], r => by simp [Cd.cntL]
  | x :: l, r => by simp only [List.cons_append, Cd.cntL, Cd.cntL_append l r]; omega
theorem Cd.cnt_mem : ∀ {l : List Cd} {x : Cd}, x ∈ l → x.cnt ≤ Cd.cntL l
  | y :: r, x, h => by
    simp only [Cd.cntL]
    rcases List.mem_cons.1 h with rfl | h
    · omega
    · have := Cd.cnt_mem h; omega
theorem Cd.depL_le {n : Nat} : ∀ {l : List Cd}, (∀ x ∈ l, x.dep ≤ n) → Cd.depL l ≤ n
  | [], _ => by simp [Cd.depL]
  | x :: r, h => by
    simp only [Cd.depL]
    have h1 := h x (by simp)
    have h2 := Cd.depL_le (l := r) fun y hy => h y (by simp [hy])
    omega
theorem Cd.dep_mem : ∀ {l : List Cd} {x : Cd}, x ∈ l → x.dep ≤ Cd.depL l
  | y :: r, x, h => by
    simp only [Cd.depL]
    rcases List.mem_cons.1 h with rfl | h
    · omega
    · have := Cd.dep_mem h; omega
mutual
theorem Cd.dep_cnt : ∀ c : Cd, c.dep ≤ c.cnt
  | .mk k c _ _ _ _ _ => by
    have := Cd.depL_cntL c
    simp only [Cd.dep, Cd.cnt]
    split <;> omega
theorem Cd.depL_cntL : ∀ l : List Cd, Cd.depL l ≤ Cd.cntL l
  | [] => by simp [Cd.depL]
  | x :: r => by
    have h1 := Cd.dep_cnt x
    have h2 := Cd.depL_cntL r
    simp only [Cd.depL, Cd.cntL]
    omega
end
mutual
theorem Cd.meas_cnt : ∀ c : Cd, c.cnt ≤ 4611686018427387904 → c.meas = ((c.cnt : Int), (c.dep : Int))
  | .mk k c _ _ _ _ _, h => by
    simp only [Cd.cnt] at h
    have h1 := Cd.measL_cnt c 1 0 h
    have h2 := Cd.depL_cntL c
    have h3 : Cd.measL c (1, 0) = (((1 + Cd.cntL c : Nat) : Int), ((max 0 (Cd.depL c) : Nat) : Int)) := h1
    rw [Cd.meas]
    simp only [h3, Cd.cnt, Cd.dep, Nat.zero_max]
    split
    · rw [wrap_in (by omega) (by omega)]; rfl
    · rfl
theorem Cd.measL_cnt : ∀ (l : List Cd) (s d : Nat), s + Cd.cntL l ≤ 4611686018427387904 → Cd.measL l ((s : Int), (d : Int)) = (((s + Cd.cntL l : Nat) : Int), ((max d (Cd.depL l) : Nat) : Int))
  | [], s, d, _ => by simp [Cd.measL, Cd.cntL, Cd.depL]
  | x :: r, s, d, h => by
    simp only [Cd.cntL] at h
    have h1 := Cd.meas_cnt x (by omega)
    have hw : IntKind.i64.wrap ((s : Int) + (x.cnt : Int)) = ((s + x.cnt : Nat) : Int) := by rw [wrap_in (by omega) (by omega)]; rfl
    have hm : max (d : Int) (x.dep : Int) = ((max d x.dep : Nat) : Int) := by omega
    have h2 := Cd.measL_cnt r (s + x.cnt) (max d x.dep) (by omega)
    simp only [Cd.measL, h1, hw, hm, h2, Cd.cntL, Cd.depL]
    rw [Nat.add_assoc, Nat.max_assoc]
end

/-! ### There is an overlap that agrees -/
theorem img_isM {n q : Nat} {by' m : List Int} (hr : ∀ x ∈ by', 0 ≤ x ∧ x < n) (hnd : by'.Nodup) (hl : by'.length = m.length) (hm : m.Nodup) (hp : ∀ x ∈ m, 0 ≤ x ∧ x < q) (ok : Nat → Nat → Bool)
    (hok : ∀ j i k, j < by'.length → by'.getD j 0 = (i : Nat) → m.getD j 0 = (k : Nat) → i < n → k < q → ok i k = true) : isM ok q n (imgK n by' m by'.length) := by
  refine ⟨imgK_len _ _ _ _, fun i hi => ?_⟩
  rcases img_cases (m := m) hr hnd i hi with ⟨j, hj, e1, e2⟩ | ⟨_, e2⟩
  · have hb := hp _ (getD_mem (d := 0) (show j < m.length by omega))
    refine .inr ⟨(m.getD j 0).toNat, by rw [e2]; omega, by omega, hok j i _ hj e1 (by omega) hi (by omega), fun hmem => ?_⟩
    obtain ⟨k, hk, hke⟩ := mem_getD hmem
    have hki : k < i := by simp at hk; omega
    have h1 : (imgK n by' m by'.length).getD k 0 = (imgK n by' m by'.length).getD i 0 := by
      rw [e2]
      have : (List.take i (imgK n by' m by'.length)).getD k 0 = (imgK n by' m by'.length).getD k 0 := by
        simp only [List.getD_eq_getElem?_getD]
        rw [List.getElem?_take_of_lt hki]
      rw [← this, hke]; omega
    exact img_NN hr hnd hl hm (fun x hx => (hp x hx).1) k i hki (by rw [imgK_len]; exact hi) (by rw [h1, e2]; omega) h1
  · exact .inl e2
theorem agr_ex {a b p : Gr} {m x : Mo} (hm : Emb a b m) (hx : Emb a p x) (he : (overlapsR b p).2 = 0) : ∃ o ∈ (overlapsR b p).1, agrO m x o = true := by
  have v := hm.vm
  have w := hx.vm
  obtain ⟨h1, h2, h3⟩ := overlapsR_all v.vb w.vb he
  have ea := validG_edges v.va
  have imn := (img_spec (m := m.nodes) w.n hx.n _ (Nat.le_refl _)).1
  have ime := (img_spec (m := m.edges) w.e hx.e _ (Nat.le_refl _)).1
  have hpr : isPair b p (imgK p.nodes.length x.nodes m.nodes x.nodes.length, imgK p.edges.length x.edges m.edges x.edges.length) := by
    refine ⟨img_isM w.n hx.n (by rw [v.ln, w.ln]) hm.n v.n _ fun j i k hj e1 e2 hi hk => ?_, img_isM w.e hx.e (by rw [v.le, w.le]) hm.e v.e _ fun j i k hj e1 e2 hi hk => ?_⟩
    · have hj' : j < a.nodes.length := by rw [← w.ln]; exact hj
      have g1 := v.nt j hj'
      have g2 := w.nt j hj'
      rw [e2, Int.toNat_natCast] at g1
      rw [e1, Int.toNat_natCast] at g2
      unfold okN
      rw [decide_eq_true_eq, g1, g2]
    · have hj' : j < a.edges.length := by rw [← w.le]; exact hj
      have g1 := v.et j hj'
      have g2 := w.et j hj'
      rw [e2, Int.toNat_natCast] at g1
      rw [e1, Int.toNat_natCast] at g2
      have hx' := ea (a.edges.getD j default) (getD_mem hj')
      unfold okE
      rw [decide_eq_true_eq, g1, g2]
      simp only
      have f1 := imn (a.edges.getD j default).fr.toNat (by rw [w.ln]; omega)
      have f2 := imn (a.edges.getD j default).to.toNat (by rw [w.ln]; omega)
      rw [f1, f2]
  have hg := glued_of (validG_edges v.vb) (validG_edges w.vb) hpr
  have hmem : glue b p (imgK p.nodes.length x.nodes m.nodes x.nodes.length) (imgK p.edges.length x.edges m.edges x.edges.length) ∈ (overlapsR b p).1 := by
    rw [h1]
    exact List.mem_map.2 ⟨_, (pairsM_mem b p _).2 hpr, rfl⟩
  refine ⟨_, hmem, ?_⟩
  rw [agrO_iff hm.inn hx.inn]
  have key : ∀ (n : Nat) (l l' I R : List Int), l.length = l'.length → I = iota n → (∀ y ∈ l, 0 ≤ y ∧ y < n) → (∀ j, j < l.length → R.getD (l'.getD j 0).toNat 0 = l.getD j 0) → byK l I l.length = byK l' R l'.length := fun n l l' I R hl hI hr hR => by
    subst hI
    refine ext_getD (by simp [hl]) fun j hj => ?_
    rw [byK_all] at hj
    have := hr _ (getD_mem (d := 0) hj)
    rw [byK_getD hj, byK_getD (by omega), hR j hj, iota_getD (nat_of this).1]
    omega
  have en := hg.n.pos
  have ee := hg.e.pos
  have l1 : (glue b p (imgK p.nodes.length x.nodes m.nodes x.nodes.length) (imgK p.edges.length x.edges m.edges x.edges.length)).l.nodes = iota b.nodes.length := rfl
  have l2 : (glue b p (imgK p.nodes.length x.nodes m.nodes x.nodes.length) (imgK p.edges.length x.edges m.edges x.edges.length)).l.edges = iota b.edges.length := rfl
  generalize glue b p (imgK p.nodes.length x.nodes m.nodes x.nodes.length) (imgK p.edges.length x.edges m.edges x.edges.length) = o at *
  have kn := key b.nodes.length m.nodes x.nodes o.l.nodes o.r.nodes (by rw [v.ln, w.ln]) l1 v.n fun j hj => by
    have hj' : j < x.nodes.length := by rw [w.ln, ← v.ln]; exact hj
    have g0 := imn j hj'
    have g1 := w.n _ (getD_mem (d := 0) hj')
    have g2 := (v.n _ (getD_mem (d := 0) hj)).1
    rw [en _ (nat_of g1).1 (by rw [g0]; omega), g0]
  have ke := key b.edges.length m.edges x.edges o.l.edges o.r.edges (by rw [v.le, w.le]) l2 v.e fun j hj => by
    have hj' : j < x.edges.length := by rw [w.le, ← v.le]; exact hj
    have g0 := ime j hj'
    have g1 := w.e _ (getD_mem (d := 0) hj')
    have g2 := (v.e _ (getD_mem (d := 0) hj)).1
    rw [ee _ (nat_of g1).1 (by rw [g0]; omega), g0]
  simp only [thenM]
  rw [kn, ke]

/-! ### What is made is over the graph -/
theorem Cd.ovr_of {c : Cd} {a : Gr} (h1 : shapeC c = 0) (h2 : ovrStep a c.kind c.m c.g = 0) (h3 : ∀ x ∈ c.kids, x.ovr (c.inn a) = 0) : c.ovr a = 0 := by
  rw [Cd.ovr_eq, if_pos h1, if_pos h2]
  exact errL_all h3
theorem unused_cdOf (k : Int) (l : List Cd) : unusedC (cdOf k l) = true := rfl
theorem plain_cdOf (k : Int) (l : List Cd) : plainC (cdOf k l) = true := rfl
theorem shape_cdOf {c : Cd} (h : shapeC c = 0) (k5 : c.kind ≠ 5) {l : List Cd} (hl : l.length = c.kids.length) : shapeC (cdOf c.kind l) = 0 := by
  unfold shapeC at h
  split at h
  · rename_i ho
    rw [shapeC, if_pos, if_pos (plain_cdOf _ _)]
    simp only [okC, unused_cdOf, Bool.and_true] at ho ⊢
    have e1 : (cdOf c.kind l).kind = c.kind := rfl
    have e2 : (cdOf c.kind l).kids = l := rfl
    rw [e1, e2, hl]
    split at ho
    · rename_i q; rw [if_pos q]; exact (Bool.and_eq_true _ _ ▸ ho).1
    · rename_i q
      rw [if_neg q]
      split at ho
      · rename_i q; rw [if_pos q]; exact (Bool.and_eq_true _ _ ▸ ho).1
      · rename_i q
        rw [if_neg q]
        split at ho
        · rename_i q; rw [if_pos q]; exact (Bool.and_eq_true _ _ ▸ ho).1
        · rename_i q
          first | cases ho | (rw [if_neg k5] at ho; cases ho)
  · cases h
theorem shape_or {l : List Cd} (h : 0 < l.length) : shapeC (cdOf 4 l) = 0 := by
  rw [shapeC, if_pos, if_pos (plain_cdOf _ _)]
  have e2 : (cdOf 4 l).kids = l := rfl
  have e1 : (cdOf 4 l).kind = 4 := rfl
  simp [okC, unused_cdOf, e1, e2, h]
theorem shape_exOf (o : Ov) (y : Cd) : shapeC (exOf o y) = 0 := rfl

structure Made (c : Cd) (b : Gr) (st : St2) (r : Cd × St2) : Prop where
  ovr : r.1.ovr b = 0
  cnt : r.2.1 = st.1 + r.1.cnt
  le : r.2.1 ≤ 2000
  ge : c.cnt ≤ r.1.cnt
  dep : r.1.dep ≤ c.dep
theorem inc_in {n : Int} (h0 : 0 ≤ n) (h1 : n ≤ 2000) : inc n = n + 1 := wrap_in (by omega) (by omega)

theorem seqL_cnt {α : Type} {f : α → St2 → List Cd × St2} (hs : ∀ x s, (f x s).2.2 = 0 → s.2 = 0) : ∀ (l : List α) (s : St2), 0 ≤ s.1 → s.1 ≤ 2000 → (∀ x ∈ l, ∀ s, 0 ≤ s.1 → s.1 ≤ 2000 → (f x s).2.2 = 0 → (f x s).2.1 = s.1 + Cd.cntL (f x s).1 ∧ (f x s).2.1 ≤ 2000) → (seqL f l s).2.2 = 0 →
    (seqL f l s).2.1 = s.1 + Cd.cntL (seqL f l s).1 ∧ (seqL f l s).2.1 ≤ 2000
  | [], s, _, h1, _, _ => ⟨by simp [seqL, Cd.cntL], h1⟩
  | x :: r, s, h0, h1, h, hz => by
    have hz1 : (f x s).2.2 = 0 := seqL_sticky hs r _ hz
    obtain ⟨g1, g2⟩ := h x (by simp) s h0 h1 hz1
    have ih := seqL_cnt hs r (f x s).2 (by omega) g2 (fun y hy => h y (by simp [hy])) hz
    simp only [seqL, Cd.cntL_append]
    omega
theorem shF_cnt {b : Gr} {m : Mo} : ∀ (l : List Cd) (s : St2), 0 ≤ s.1 → s.1 ≤ 2000 → (∀ x ∈ l, ∀ s, 0 ≤ s.1 → s.1 ≤ 2000 → (x.shf b m s).2.2 = 0 → Made x b s (x.shf b m s)) → (seqL (shF b m) l s).2.2 = 0 →
    Cd.cntL l ≤ Cd.cntL (seqL (shF b m) l s).1 ∧ Cd.depL (seqL (shF b m) l s).1 ≤ Cd.depL l ∧ (∀ y ∈ (seqL (shF b m) l s).1, y.ovr b = 0) ∧ (seqL (shF b m) l s).1.length = l.length
  | [], s, _, _, _, _ => ⟨by simp [Cd.cntL], by simp [seqL, Cd.depL], by simp [seqL], rfl⟩
  | x :: r, s, h0, h1, h, hz => by
    have hz1 : (x.shf b m s).2.2 = 0 := seqL_sticky (f := shF b m) (fun _ _ => shF_sticky) r _ hz
    have hx := h x (by simp) s h0 h1 hz1
    have e1 := hx.cnt
    have e2 := hx.le
    have ih := shF_cnt r (x.shf b m s).2 (by omega) e2 (fun y hy => h y (by simp [hy])) hz
    have e3 := hx.ge
    have e4 := hx.dep
    simp only [seqL, shF, List.singleton_append, Cd.cntL, Cd.depL, List.length_cons]
    obtain ⟨i1, i2, i3, i4⟩ := ih
    refine ⟨by omega, by omega, fun y hy => ?_, by omega⟩
    rcases List.mem_cons.1 hy with rfl | hy
    · exact hx.ovr
    · exact i3 y hy

theorem shf_made : ∀ (n : Nat) (c : Cd), SizeOf.sizeOf c < n → ∀ a, c.ovr a = 0 → ∀ b m, Emb a b m → ∀ st, 0 ≤ st.1 → st.1 ≤ 2000 → (c.shf b m st).2.2 = 0 → Made c b st (c.shf b m st)
  | 0, c, hn, _, _, _, _, _, _, _, _, _ => absurd hn (Nat.not_lt_zero _)
  | n + 1, c, hn, a, hv, b, m, hm, st, hs0, hs1, hz => by
    have ih := fun x (hx : x ∈ c.kids) => shf_made n x (by have := Cd.kid_lt hx; omega) (c.inn a) ((Cd.ovr_zero hv).2.2 x hx)
    have h1 := shf_sticky hz
    have h2 := (st1_zero h1).2
    have hin := inc_in hs0 hs1
    have hu : (st1 st).1 = st.1 + 1 := hin
    rw [hin] at h2
    rw [c.shf_eq] at hz ⊢
    unfold shStep at hz ⊢
    rw [if_neg (by simp [h1])] at hz ⊢
    by_cases k5 : c.kind = 5
    · rw [if_neg (by simp [k5])] at hz ⊢
      have hii : c.inn a = c.g := if_pos k5
      rw [hii] at ih
      obtain ⟨hx, x, hkx⟩ := ovr_ex hv k5
      by_cases he : (overlapsR b c.g).2 = 0
      · rw [if_neg (by simp [he])] at hz ⊢
        have hH : ∀ b m st, Cd.shfH c.kids b m st = x.shf b m st := fun b m st => by rw [hkx, Cd.shfH]
        have ihx := ih x (by rw [hkx]; simp)
        simp only at hz ⊢
        -- one kid
        have one : ∀ o ∈ (overlapsR b c.g).1, ∀ s : St2, 0 ≤ s.1 → s.1 ≤ 2000 → agrO m c.m o = true → (x.shf o.g o.r (inc s.1, s.2)).2.2 = 0 → Made x o.g (inc s.1, s.2) (x.shf o.g o.r (inc s.1, s.2)) ∧ inc s.1 = s.1 + 1 := fun o ho s g0 g1 ha hz1 => by
          obtain ⟨el, er⟩ := ovs_emb ho
          have hin' := inc_in g0 g1
          have g2 := (st1_zero (shf_sticky hz1)).2
          have g3 : inc s.1 ≤ 2000 := by
            simp only at g2
            rw [hin'] at g2 ⊢
            by_cases e : s.1 = 2000
            · rw [e] at g2
              exact absurd g2 (by decide)
            · omega
          exact ⟨ihx o.g o.r er _ (by simp only; omega) g3 hz1, hin'⟩
        have cnt := seqL_cnt (f := ovF m c.m fun b m st => Cd.shfH c.kids b m st) (fun _ _ => ovF_sticky) (overlapsR b c.g).1 (st1 st) (by omega) (by omega) (fun o ho s g0 g1 hz1 => by
          by_cases ha : agrO m c.m o = true
          · rw [ovF, if_pos ha] at hz1 ⊢
            simp only [hH] at hz1 ⊢
            obtain ⟨M, hi⟩ := one o ho s g0 g1 ha hz1
            have e1 := M.cnt
            have e2 := M.le
            simp only at e1
            have e3 : Cd.cntL [exOf o (x.shf o.g o.r (inc s.1, s.2)).1] = 2 - 1 + (x.shf o.g o.r (inc s.1, s.2)).1.cnt := by simp [Cd.cntL, exOf, Cd.cnt]
            rw [e3]
            omega
          · rw [ovF, if_neg ha]
            exact ⟨by simp [Cd.cntL], g1⟩) hz
        -- the states in between are small
        have mid : ∀ (l : List Ov) (s : St2), (∀ o ∈ l, o ∈ (overlapsR b c.g).1) → 0 ≤ s.1 → s.1 ≤ 2000 → (seqL (ovF m c.m fun b m st => Cd.shfH c.kids b m st) l s).2.2 = 0 →
            (∀ y ∈ (seqL (ovF m c.m fun b m st => Cd.shfH c.kids b m st) l s).1, ∃ o ∈ l, ∃ z : Cd, y = exOf o z ∧ z.ovr o.g = 0 ∧ x.cnt ≤ z.cnt ∧ z.dep ≤ x.dep) ∧
            ∀ o ∈ l, agrO m c.m o = true → ∃ z : Cd, exOf o z ∈ (seqL (ovF m c.m fun b m st => Cd.shfH c.kids b m st) l s).1 ∧ x.cnt ≤ z.cnt := by
          intro l
          induction l with
          | nil => intro s _ _ _ _; exact ⟨by simp [seqL], by simp⟩
          | cons o r ihr =>
            intro s hl g0 g1 hz1
            have hz2 : (ovF m c.m (fun b m st => Cd.shfH c.kids b m st) o s).2.2 = 0 := seqL_sticky (fun _ _ => ovF_sticky) r _ hz1
            by_cases ha : agrO m c.m o = true
            · have ev : ovF m c.m (fun b m st => Cd.shfH c.kids b m st) o s = ([exOf o (x.shf o.g o.r (inc s.1, s.2)).1], (x.shf o.g o.r (inc s.1, s.2)).2) := by rw [ovF, if_pos ha]; simp only [hH]
              rw [ev] at hz2
              obtain ⟨M, hi⟩ := one o (hl o (by simp)) s g0 g1 ha hz2
              have e1 := M.cnt
              have e2 := M.le
              simp only at e1
              have ih2 := ihr (x.shf o.g o.r (inc s.1, s.2)).2 (fun o' ho' => hl o' (by simp [ho'])) (by omega) e2 (by simp only [seqL] at hz1; rwa [ev] at hz1)
              simp only [seqL, ev, List.singleton_append]
              refine ⟨fun y hy => ?_, fun o' ho' ha' => ?_⟩
              · rcases List.mem_cons.1 hy with rfl | hy
                · exact ⟨o, by simp, _, rfl, M.ovr, M.ge, M.dep⟩
                · obtain ⟨o', ho', z, hz'⟩ := ih2.1 y hy
                  exact ⟨o', by simp [ho'], z, hz'⟩
              · rcases List.mem_cons.1 ho' with rfl | ho'
                · exact ⟨_, by simp, M.ge⟩
                · obtain ⟨z, z1, z2⟩ := ih2.2 o' ho' ha'
                  exact ⟨z, by simp [z1], z2⟩
            · have ev : ovF m c.m (fun b m st => Cd.shfH c.kids b m st) o s = ([], s) := by rw [ovF, if_neg ha]
              have ih2 := ihr s (fun o' ho' => hl o' (by simp [ho'])) g0 g1 (by simp only [seqL] at hz1; rwa [ev] at hz1)
              simp only [seqL, ev, List.nil_append]
              refine ⟨fun y hy => ?_, fun o' ho' ha' => ?_⟩
              · obtain ⟨o', ho', z, hz'⟩ := ih2.1 y hy
                exact ⟨o', by simp [ho'], z, hz'⟩
              · rcases List.mem_cons.1 ho' with rfl | ho'
                · exact absurd ha' ha
                · exact ih2.2 o' ho' ha'
        obtain ⟨mid1, mid2⟩ := mid _ (st1 st) (fun o ho => ho) (by omega) (by omega) hz
        obtain ⟨o0, ho0, ha0⟩ := agr_ex hm hx he
        obtain ⟨z0, z1, z2⟩ := mid2 o0 ho0 ha0
        have hcc : c.cnt = 1 + x.cnt := by rw [Cd.cnt_eq, hkx]; simp [Cd.cntL]
        have hcd : c.dep = x.dep + 1 := by rw [Cd.dep_eq, hkx, if_pos k5]; simp [Cd.depL]
        have oc : ∀ l, (cdOf 4 l).cnt = 1 + Cd.cntL l := fun l => by rw [cdOf, Cd.cnt]
        have od : ∀ l, (cdOf 4 l).dep = Cd.depL l := fun l => by rw [cdOf, Cd.dep]; simp
        constructor
        · refine Cd.ovr_of (shape_or (List.length_pos_of_mem z1)) rfl fun y hy => ?_
          obtain ⟨o, ho, z, rfl, q1, q2, q3⟩ := mid1 y hy
          have hk := overlapsR_ok ho
          refine Cd.ovr_of (shape_exOf o z) ?_ fun w hw => ?_
          · show ovrStep b 5 o.l o.g = 0
            rw [ovrStep, if_pos rfl, if_neg (by simp [hk.l]), if_pos hk.il]
          · have : w = z := by simpa [exOf, Cd.kids] using hw
            subst this
            exact q1
        · simp only; rw [oc]; omega
        · exact cnt.2
        · simp only
          rw [oc, hcc]
          have e1 := Cd.cnt_mem z1
          have e2 : (exOf o0 z0).cnt = 1 + z0.cnt := by simp [exOf, Cd.cnt, Cd.cntL]
          omega
        · simp only
          rw [od, hcd]
          refine Cd.depL_le fun y hy => ?_
          obtain ⟨o, ho, z, rfl, q1, q2, q3⟩ := mid1 y hy
          have e2 : (exOf o z).dep = z.dep + 1 := by simp [exOf, Cd.dep, Cd.depL]
          omega
      · rw [if_pos (by simp [he])] at hz
        exact absurd hz he
    · rw [if_pos k5] at hz ⊢
      have hii : c.inn a = a := if_neg k5
      rw [hii] at ih
      simp only at hz ⊢
      obtain ⟨i1, i2, i3, i4⟩ := shF_cnt (b := b) (m := m) c.kids (st1 st) (by omega) (by omega) (fun x hx s g0 g1 hz1 => ih x hx b m hm s g0 g1 hz1) hz
      have cnt := seqL_cnt (f := shF b m) (fun _ _ => shF_sticky) c.kids (st1 st) (by omega) (by omega) (fun x hx s g0 g1 hz1 => by
        have M := ih x hx b m hm s g0 g1 hz1
        have e1 := M.cnt
        have e2 := M.le
        simp only [shF, Cd.cntL]
        omega) hz
      have oc : ∀ l, (cdOf c.kind l).cnt = 1 + Cd.cntL l := fun l => by rw [cdOf, Cd.cnt]
      have od : ∀ l, (cdOf c.kind l).dep = Cd.depL l := fun l => by rw [cdOf, Cd.dep, if_neg k5]; rfl
      constructor
      · refine Cd.ovr_of (shape_cdOf (Cd.ovr_zero hv).1 k5 i4) (if_neg k5) fun y hy => ?_
        rw [Cd.inn, if_neg (show ¬ (cdOf c.kind (seqL (shF b m) c.kids (st1 st)).1).kind = 5 from k5)]
        exact i3 y hy
      · simp only; rw [oc]; omega
      · exact cnt.2
      · simp only; rw [oc, Cd.cnt_eq]; omega
      · simp only; rw [od, Cd.dep_eq, if_neg k5]; omega
end Go.AM
/-
  shift.shifted, Shift, Local.
-/
namespace Go.AM
open Go Go.Proofs
set_option linter.unusedSimpArgs false
set_option linter.unusedVariables false

theorem fit_nil : Gr.Fit ⟨[], []⟩ := ⟨by simp, by simp⟩
theorem fit_nilM : Mo.Fit ⟨[], []⟩ := ⟨by simp, by simp⟩
theorem cdOf_fit {k : Int} {l : List Cd} (hl : l.length ≤ kidN) (h : ∀ x ∈ l, x.Fit) : (cdOf k l).Fit := .mk hl fit_nilM fit_nil (by rw [bigN_eq]; simp [cdOf, Cd.sl]) (by rw [bigN_eq]; simp [cdOf, Cd.te]) h

/-- What shifting makes fits. -/
theorem seqL_all {α : Type} {f : α → St2 → List Cd × St2} {P : Cd → Prop} : ∀ (l : List α) (s : St2), (∀ x ∈ l, ∀ s, ∀ y ∈ (f x s).1, P y) → ∀ y ∈ (seqL f l s).1, P y
  | [], s, _, y, hy => by simp [seqL] at hy
  | x :: r, s, h, y, hy => by
    simp only [seqL] at hy
    rcases List.mem_append.1 hy with hy | hy
    · exact h x (by simp) s y hy
    · exact seqL_all r _ (fun z hz => h z (by simp [hz])) y hy
theorem shf_fit : ∀ (n : Nat) (c : Cd), SizeOf.sizeOf c < n → c.Fit → ∀ b : Gr, b.Fit → validG b = 0 → ∀ m st, (c.shf b m st).1.Fit
  | 0, c, hn, _, _, _, _, _, _ => absurd hn (Nat.not_lt_zero _)
  | n + 1, c, hn, hc, b, hb, hbv, m, st => by
    have ih := fun x (hx : x ∈ c.kids) => shf_fit n x (by have := Cd.kid_lt hx; omega) (hc.kid x hx)
    have hk0 := hc.kids
    have e0 : ∀ k, (cdOf k []).Fit := fun k => cdOf_fit (by rw [kidN_eq]; simp) (by simp)
    rw [c.shf_eq]
    unfold shStep
    split
    · exact e0 _
    · split
      · refine cdOf_fit (by rw [shF_len]; exact hk0) (seqL_all _ _ fun x hx s y hy => ?_)
        simp only [shF, List.mem_singleton] at hy
        subst hy
        exact ih x hx b hb hbv m s
      · split
        · exact e0 _
        · obtain ⟨hok, hfit⟩ := ovs_ok hb hbv hc.g rfl
          refine cdOf_fit ?_ (seqL_all _ _ fun o ho s y hy => ?_)
          · have h1 := ovF_len m c.m (fun b m st => Cd.shfH c.kids b m st) (overlapsR b c.g).1 (st1 st)
            have h2 := ovs_few (p := c.g) hbv rfl
            rw [kidN_eq]
            omega
          · by_cases ha : agrO m c.m o = true
            · rw [ovF_yes ha] at hy
              simp only [List.mem_singleton] at hy
              subst hy
              have of := hfit o ho
              refine .mk (by rw [kidN_eq]; simp [exOf, Cd.kids]) of.l of.g (by rw [bigN_eq]; simp [exOf, Cd.sl]) (by rw [bigN_eq]; simp [exOf, Cd.te]) fun z hz => ?_
              have hz' : z = (Cd.shfH c.kids o.g o.r (inc s.1, s.2)).1 := by simpa [exOf, Cd.kids] using hz
              subst hz'
              have hog := (validM_VM (hok o ho).l).vb
              cases hk : c.kids with
              | nil => exact e0 _
              | cons x r => exact ih x (by rw [hk]; simp) o.g of.g hog _ _
            · rw [ovF_no ha] at hy
              simp at hy

def shdR (b : Gr) (m : Mo) (c : Cd) : Cd × Int := if (c.shf b m (0, 0)).2.2 = 0 then ((c.shf b m (0, 0)).1, 0) else (cdOf 0 [], (c.shf b m (0, 0)).2.2)
def shiftR (a b : Gr) (m : Mo) (c : Cd) : Cd × Int := if arrR a b m ≠ 0 then (cdOf 0 [], arrR a b m) else if validC a c ≠ 0 then (cdOf 0 [], validC a c) else shdR b m c
def localR (b : Gr) (c : Cd) : Cd × Int := if validG b ≠ 0 then (cdOf 0 [], validG b) else if validC ⟨[], []⟩ c ≠ 0 then (cdOf 0 [], validC ⟨[], []⟩ c) else shdR b ⟨[], []⟩ c

theorem shifted_c (b : Gr) (m : Mo) (c : Cd) (hc : c.Fit) (a : Gr) (hv : c.ovr a = 0) (hb : b.Fit) (hbv : validG b = 0) (hm : Inn m a b) (tok : Nat → Bool) (nt : Nat) :
    DCall Try.prog 40 [b.av, m.av, c.av] tok nt (.tup [(shdR b m c).1.av, I (shdR b m c).2]) tok nt := by
  intro box nb
  have hs := shift62_c _ c (Nat.lt_succ_self _) hc a hv b hb hbv m hm (0, 0)
  obtain ⟨r, hr⟩ : ∃ r, c.shf b m (0, 0) = r := ⟨_, rfl⟩
  have hR : shdR b m c = if r.2.2 = 0 then (r.1, 0) else (cdOf 0 [], r.2.2) := by rw [shdR, hr]
  rw [hr] at hs
  refine ACalls.of_body Try.func40 rfl (by kernel_rfl) follows_Try (by kernel_rfl) (by simp [Try.ntmps40]) ?_
  intro hbox htok
  simp only at hbox htok
  apply AL.start
  try (simp)
  repeat ((repeat (first | refine AL.seq ?_ | refine AL.block ?_ | refine AL.skip ?_ | refine AL.blk ?_)); (refine AL.region follows_Try (Nat.le_refl _) (by kernel_rfl) ?_); simp)
  refine Stop.of_a (hs (nb + 11) _ (by simp [lb_at]) _ _ _) ?_
  rintro v m' ⟨rfl, rfl⟩
  simp
  try (simp)
  repeat ((repeat (first | refine AL.seq ?_ | refine AL.block ?_ | refine AL.skip ?_ | refine AL.blk ?_)); (refine AL.region follows_Try (Nat.le_refl _) (by kernel_rfl) ?_); simp)
  by_cases he : r.2.2 = 0
  · rw [if_pos he] at hR
    have be : (r.2.2 != 0) = false := by simp [he]
    simp only [be]
    repeat (first | refine AL.seq ?_ | refine AL.block ?_ | refine AL.skip ?_ | refine AL.blk ?_)
    refine AL.cond ?_
    simp
    trace_state
    try (simp)
    repeat ((repeat (first | refine AL.seq ?_ | refine AL.block ?_ | refine AL.skip ?_ | refine AL.blk ?_)); (refine AL.region follows_Try (Nat.le_refl _) (by kernel_rfl) ?_); simp)
    repeat (first | refine AL.seq ?_ | refine AL.block ?_ | refine AL.skip ?_ | refine AL.blk ?_)
    refine AL.ret ?_
    try simp only [AU]
    refine ⟨by simp, Fin.data (by simp [resAs, resA]; rfl) hbox rfl htok (fun _ h => h) (Nat.le_refl _) ?_⟩
    simp [packA, hR]
  · rw [if_neg he] at hR
    have be : (r.2.2 != 0) = true := by simp [he]
    simp only [be]
    repeat (first | refine AL.seq ?_ | refine AL.block ?_ | refine AL.skip ?_ | refine AL.blk ?_)
    refine AL.cond ?_
    simp
    repeat (first | refine AL.seq ?_ | refine AL.block ?_ | refine AL.skip ?_ | refine AL.blk ?_)
    refine AL.region2 follows_Try (Nat.le_refl _) (by kernel_rfl) (Side.of (by simp)) ?_
    simp
    try (simp)
    repeat ((repeat (first | refine AL.seq ?_ | refine AL.block ?_ | refine AL.skip ?_ | refine AL.blk ?_)); (refine AL.region follows_Try (Nat.le_refl _) (by kernel_rfl) ?_); simp)
    repeat (first | refine AL.seq ?_ | refine AL.block ?_ | refine AL.skip ?_ | refine AL.blk ?_)
    refine AL.ret ?_
    try simp only [AU]
    refine ⟨by simp, Fin.data (by simp [resAs, resA]; rfl) hbox rfl htok (fun _ h => h) (Nat.le_refl _) ?_⟩
    simp [packA, hR, cdOf, conds, ints, AM.edges, slots, tests, Cd.kind, Cd.kids, Cd.m, Cd.g, Cd.sl, Cd.vars, Cd.te]

theorem cdShift_c (a b : Gr) (m : Mo) (c : Cd) (ha : a.Fit) (hb : b.Fit) (hm : m.Fit) (hc : c.Fit) (tok : Nat → Bool) (nt : Nat) :
    DCall Try.prog 16 [a.av, b.av, m.av, c.av] tok nt (.tup [(shiftR a b m c).1.av, I (shiftR a b m c).2]) tok nt := by
  intro box nb
  have hi := cdInj_c a b m ha hb hm
  have hv := validC_c a c ha hc
  have hh := fun (h1 : arrR a b m = 0) (h2 : validC a c = 0) => shifted_c b m c hc a (validC_ovr h2).2.1 hb (validM_VM (arrR_valid h1).1).vb (Inn.of (arrR_valid h1).1)
  refine ACalls.of_body Try.func16 rfl (by kernel_rfl) follows_Try (by kernel_rfl) (by simp [Try.ntmps16]) ?_
  intro hbox htok
  simp only at hbox htok
  apply AL.start
  try (simp)
  repeat ((repeat (first | refine AL.seq ?_ | refine AL.block ?_ | refine AL.skip ?_ | refine AL.blk ?_)); (refine AL.region follows_Try (Nat.le_refl _) (by kernel_rfl) ?_); simp)
  refine Stop.of_d (hi _ _) ?_
  simp
  try (simp)
  repeat ((repeat (first | refine AL.seq ?_ | refine AL.block ?_ | refine AL.skip ?_ | refine AL.blk ?_)); (refine AL.region follows_Try (Nat.le_refl _) (by kernel_rfl) ?_); simp)
  by_cases h0 : arrR a b m = 0
  · simp only [h0]
    repeat (first | refine AL.seq ?_ | refine AL.block ?_ | refine AL.skip ?_ | refine AL.blk ?_)
    refine AL.cond ?_
    simp
    try (simp)
    repeat ((repeat (first | refine AL.seq ?_ | refine AL.block ?_ | refine AL.skip ?_ | refine AL.blk ?_)); (refine AL.region follows_Try (Nat.le_refl _) (by kernel_rfl) ?_); simp)
    refine Stop.of_d (hv _ _) ?_
    simp
    try (simp)
    repeat ((repeat (first | refine AL.seq ?_ | refine AL.block ?_ | refine AL.skip ?_ | refine AL.blk ?_)); (refine AL.region follows_Try (Nat.le_refl _) (by kernel_rfl) ?_); simp)
    by_cases h1 : validC a c = 0
    · have hh' := hh h0 h1
      have hR : shiftR a b m c = shdR b m c := by rw [shiftR, if_neg (by simp [h0]), if_neg (by simp [h1])]
      simp only [h1]
      repeat (first | refine AL.seq ?_ | refine AL.block ?_ | refine AL.skip ?_ | refine AL.blk ?_)
      refine AL.cond ?_
      simp
      try (simp)
      repeat ((repeat (first | refine AL.seq ?_ | refine AL.block ?_ | refine AL.skip ?_ | refine AL.blk ?_)); (refine AL.region follows_Try (Nat.le_refl _) (by kernel_rfl) ?_); simp)
      refine Stop.of_d (hh' _ _) ?_
      simp
      try (simp)
      repeat ((repeat (first | refine AL.seq ?_ | refine AL.block ?_ | refine AL.skip ?_ | refine AL.blk ?_)); (refine AL.region follows_Try (Nat.le_refl _) (by kernel_rfl) ?_); simp)
      repeat (first | refine AL.seq ?_ | refine AL.block ?_ | refine AL.skip ?_ | refine AL.blk ?_)
      refine AL.ret ?_
      try simp only [AU]
      refine ⟨by simp, Fin.data (by simp [resAs, resA]; rfl) hbox rfl htok (fun _ h => h) (Nat.le_refl _) ?_⟩
      simp [packA, hR]
    · have b1 : (validC a c != 0) = true := by simp [h1]
      have hR : shiftR a b m c = (cdOf 0 [], validC a c) := by rw [shiftR, if_neg (by simp [h0]), if_pos h1]
      simp only [b1]
      repeat (first | refine AL.seq ?_ | refine AL.block ?_ | refine AL.skip ?_ | refine AL.blk ?_)
      refine AL.cond ?_
      simp
      try (simp)
      repeat ((repeat (first | refine AL.seq ?_ | refine AL.block ?_ | refine AL.skip ?_ | refine AL.blk ?_)); (refine AL.region follows_Try (Nat.le_refl _) (by kernel_rfl) ?_); simp)
      repeat (first | refine AL.seq ?_ | refine AL.block ?_ | refine AL.skip ?_ | refine AL.blk ?_)
      refine AL.ret ?_
      try simp only [AU]
      refine ⟨by simp, Fin.data (by simp [resAs, resA]; rfl) hbox rfl htok (fun _ h => h) (Nat.le_refl _) ?_⟩
      simp [packA, hR, cdOf, conds, ints, AM.edges, slots, tests, Cd.kind, Cd.kids, Cd.m, Cd.g, Cd.sl, Cd.vars, Cd.te]
  · have b0 : (arrR a b m != 0) = true := by simp [h0]
    have hR : shiftR a b m c = (cdOf 0 [], arrR a b m) := by rw [shiftR, if_pos h0]
    simp only [b0]
    repeat (first | refine AL.seq ?_ | refine AL.block ?_ | refine AL.skip ?_ | refine AL.blk ?_)
    refine AL.cond ?_
    simp
    try (simp)
    repeat ((repeat (first | refine AL.seq ?_ | refine AL.block ?_ | refine AL.skip ?_ | refine AL.blk ?_)); (refine AL.region follows_Try (Nat.le_refl _) (by kernel_rfl) ?_); simp)
    repeat (first | refine AL.seq ?_ | refine AL.block ?_ | refine AL.skip ?_ | refine AL.blk ?_)
    refine AL.ret ?_
    try simp only [AU]
    refine ⟨by simp, Fin.data (by simp [resAs, resA]; rfl) hbox rfl htok (fun _ h => h) (Nat.le_refl _) ?_⟩
    simp [packA, hR, cdOf, conds, ints, AM.edges, slots, tests, Cd.kind, Cd.kids, Cd.m, Cd.g, Cd.sl, Cd.vars, Cd.te]

theorem inn_nil (b : Gr) : Inn ⟨[], []⟩ ⟨[], []⟩ b := ⟨rfl, rfl, by simp, by simp⟩
theorem cdLocal_c (b : Gr) (c : Cd) (hb : b.Fit) (hc : c.Fit) (tok : Nat → Bool) (nt : Nat) :
    DCall Try.prog 22 [b.av, c.av] tok nt (.tup [(localR b c).1.av, I (localR b c).2]) tok nt := by
  intro box nb
  have hi := graphValid_c b hb
  have hv := validC_c ⟨[], []⟩ c fit_nil hc
  have hh := fun (h1 : validG b = 0) (h2 : validC ⟨[], []⟩ c = 0) => shifted_c b ⟨[], []⟩ c hc ⟨[], []⟩ (validC_ovr h2).2.1 hb h1 (inn_nil b)
  refine ACalls.of_body Try.func22 rfl (by kernel_rfl) follows_Try (by kernel_rfl) (by simp [Try.ntmps22]) ?_
  intro hbox htok
  simp only at hbox htok
  apply AL.start
  try (simp)
  repeat ((repeat (first | refine AL.seq ?_ | refine AL.block ?_ | refine AL.skip ?_ | refine AL.blk ?_)); (refine AL.region follows_Try (Nat.le_refl _) (by kernel_rfl) ?_); simp)
  refine Stop.of_d (hi _ _) ?_
  simp
  try (simp)
  repeat ((repeat (first | refine AL.seq ?_ | refine AL.block ?_ | refine AL.skip ?_ | refine AL.blk ?_)); (refine AL.region follows_Try (Nat.le_refl _) (by kernel_rfl) ?_); simp)
  by_cases h0 : validG b = 0
  · simp only [h0]
    repeat (first | refine AL.seq ?_ | refine AL.block ?_ | refine AL.skip ?_ | refine AL.blk ?_)
    refine AL.cond ?_
    simp
    try (simp)
    repeat ((repeat (first | refine AL.seq ?_ | refine AL.block ?_ | refine AL.skip ?_ | refine AL.blk ?_)); (refine AL.region follows_Try (Nat.le_refl _) (by kernel_rfl) ?_); simp)
    refine Stop.sub (args' := [.agg [.d (ints []), .d (edges [])], c.av]) ⟨Sub.agg ⟨Sub.nil _ _ _, Sub.nil _ _ _, trivial⟩, Sub.refl _, trivial⟩ ?_
    refine Stop.of_d (hv _ _) ?_
    simp
    try (simp)
    repeat ((repeat (first | refine AL.seq ?_ | refine AL.block ?_ | refine AL.skip ?_ | refine AL.blk ?_)); (refine AL.region follows_Try (Nat.le_refl _) (by kernel_rfl) ?_); simp)
    by_cases h1 : validC ⟨[], []⟩ c = 0
    · have hh' := hh h0 h1
      have hR : localR b c = shdR b ⟨[], []⟩ c := by rw [localR, if_neg (by simp [h0]), if_neg (by simp [h1])]
      simp only [h1]
      repeat (first | refine AL.seq ?_ | refine AL.block ?_ | refine AL.skip ?_ | refine AL.blk ?_)
      refine AL.cond ?_
      simp
      try (simp)
      repeat ((repeat (first | refine AL.seq ?_ | refine AL.block ?_ | refine AL.skip ?_ | refine AL.blk ?_)); (refine AL.region follows_Try (Nat.le_refl _) (by kernel_rfl) ?_); simp)
      refine Stop.sub (args' := [b.av, .agg [.d (ints []), .d (ints [])], c.av]) ⟨Sub.refl _, Sub.agg ⟨Sub.nil _ _ _, Sub.nil _ _ _, trivial⟩, Sub.refl _, trivial⟩ ?_
      refine Stop.of_d (hh' _ _) ?_
      simp
      try (simp)
      repeat ((repeat (first | refine AL.seq ?_ | refine AL.block ?_ | refine AL.skip ?_ | refine AL.blk ?_)); (refine AL.region follows_Try (Nat.le_refl _) (by kernel_rfl) ?_); simp)
      repeat (first | refine AL.seq ?_ | refine AL.block ?_ | refine AL.skip ?_ | refine AL.blk ?_)
      refine AL.ret ?_
      try simp only [AU]
      refine ⟨by simp, Fin.data (by simp [resAs, resA]; rfl) hbox rfl htok (fun _ h => h) (Nat.le_refl _) ?_⟩
      simp [packA, hR]
    · have b1 : (validC ⟨[], []⟩ c != 0) = true := by simp [h1]
      have hR : localR b c = (cdOf 0 [], validC ⟨[], []⟩ c) := by rw [localR, if_neg (by simp [h0]), if_pos h1]
      simp only [b1]
      repeat (first | refine AL.seq ?_ | refine AL.block ?_ | refine AL.skip ?_ | refine AL.blk ?_)
      refine AL.cond ?_
      simp
      try (simp)
      repeat ((repeat (first | refine AL.seq ?_ | refine AL.block ?_ | refine AL.skip ?_ | refine AL.blk ?_)); (refine AL.region follows_Try (Nat.le_refl _) (by kernel_rfl) ?_); simp)
      repeat (first | refine AL.seq ?_ | refine AL.block ?_ | refine AL.skip ?_ | refine AL.blk ?_)
      refine AL.ret ?_
      try simp only [AU]
      refine ⟨by simp, Fin.data (by simp [resAs, resA]; rfl) hbox rfl htok (fun _ h => h) (Nat.le_refl _) ?_⟩
      simp [packA, hR, cdOf, conds, ints, AM.edges, slots, tests, Cd.kind, Cd.kids, Cd.m, Cd.g, Cd.sl, Cd.vars, Cd.te]
  · have b0 : (validG b != 0) = true := by simp [h0]
    have hR : localR b c = (cdOf 0 [], validG b) := by rw [localR, if_pos h0]
    simp only [b0]
    repeat (first | refine AL.seq ?_ | refine AL.block ?_ | refine AL.skip ?_ | refine AL.blk ?_)
    refine AL.cond ?_
    simp
    try (simp)
    repeat ((repeat (first | refine AL.seq ?_ | refine AL.block ?_ | refine AL.skip ?_ | refine AL.blk ?_)); (refine AL.region follows_Try (Nat.le_refl _) (by kernel_rfl) ?_); simp)
    repeat (first | refine AL.seq ?_ | refine AL.block ?_ | refine AL.skip ?_ | refine AL.blk ?_)
    refine AL.ret ?_
    try simp only [AU]
    refine ⟨by simp, Fin.data (by simp [resAs, resA]; rfl) hbox rfl htok (fun _ h => h) (Nat.le_refl _) ?_⟩
    simp [packA, hR, cdOf, conds, ints, AM.edges, slots, tests, Cd.kind, Cd.kids, Cd.m, Cd.g, Cd.sl, Cd.vars, Cd.te]
end Go.AM
/-
  The reference's True; the law's nodes, another, awake.
-/
namespace Go.AM
open Go Go.Proofs
set_option linter.unusedSimpArgs false
set_option linter.unusedVariables false

@[simp] theorem lb_base (base : Nat) (out : Nat → Option (List (List AV))) (loc : List (Nat × List (List AV))) : lb base out loc base = lk loc 0 := lb_at base 0 out loc
@[simp] theorem upd_lb_base (base : Nat) (out : Nat → Option (List (List AV))) (loc : List (Nat × List (List AV))) (rows : List (List AV)) : upd (lb base out loc) base (some rows) = lb base out ((0, rows) :: loc) := upd_lb base 0 out loc rows
@[simp] theorem to_ptr_base {q : Nat → Prop} {fz : Option (Nat × Nat × List (List D))} {base i off : Nat} {out : Nat → Option (List (List AV))} {loc : List (Nat × List (List AV))} : To (fun k => lb base out loc k ≠ none) q fz (.ptr base i off) (.ptr base i off) ↔ lk loc 0 ≠ none := to_ptr_lb (s := 0)

abbrev trueC : Cd := cdOf 1 []
theorem true33_c (tok : Nat → Bool) (nt : Nat) : DCall Try.prog 46 [] tok nt trueC.av tok nt := by
  intro box nb
  refine ACalls.of_body Try.func46 rfl (by kernel_rfl) follows_Try (by kernel_rfl) (by simp [Try.ntmps46]) ?_
  intro hbox htok
  simp only at hbox htok
  apply AL.start
  try (simp)
  repeat ((repeat (first | refine AL.seq ?_ | refine AL.block ?_ | refine AL.skip ?_ | refine AL.blk ?_)); (refine AL.region follows_Try (Nat.le_refl _) (by kernel_rfl) ?_); simp)
  repeat (first | refine AL.seq ?_ | refine AL.block ?_ | refine AL.skip ?_ | refine AL.blk ?_)
  refine AL.ret ?_
  try simp only [AU]
  refine ⟨by simp, Fin.data (by simp [resAs, resA]; rfl) hbox rfl htok (fun _ h => h) (Nat.le_refl _) ?_⟩
  simp [packA, trueC, cdOf, conds, ints, AM.edges, slots, tests, Cd.kind, Cd.kids, Cd.m, Cd.g, Cd.sl, Cd.vars, Cd.te]

def fours (n : Nat) : List Int := List.replicate n 4
theorem fours_zero : fours 0 = [] := rfl
theorem fours_succ (n : Nat) : fours (n + 1) = fours n ++ [4] := by simp [fours, List.replicate_succ']
theorem fours_len (n : Nat) : (fours n).length = n := by simp [fours]
def stFo (n nb : Nat) (box : Nat → Option (List (List AV))) (a : Acc) : AState :=
  ⟨tl [(5, I a.i), (4, I n), (3, .ptr (nb + 3) 0 0), (2, .ptr (nb + 2) 0 0)], lb nb box [(3, [[.osl 1 (rI (fours a.i)) a.own, .osl 0 [] .full]]), (2, [[.osl 0 [] .full, .osl 0 [] .full]])], a.tok, a.nt⟩
theorem lnodes_c (n : Nat) (hn : n ≤ 1000) (tok : Nat → Bool) (nt : Nat) : DCall Try.prog 23 [I n] tok nt (Gr.av ⟨fours n, []⟩) tok nt := by
  intro box nb
  refine ACalls.of_body Try.func23 rfl (by kernel_rfl) follows_Try (by kernel_rfl) (by simp [Try.ntmps23]) ?_
  intro hbox htok
  simp only at hbox htok
  apply AL.start
  try (simp)
  repeat ((repeat (first | refine AL.seq ?_ | refine AL.block ?_ | refine AL.skip ?_ | refine AL.blk ?_)); (refine AL.region follows_Try (Nat.le_refl _) (by kernel_rfl) ?_); simp)
  repeat (first | refine AL.seq ?_ | refine AL.block ?_ | refine AL.skip ?_ | refine AL.blk ?_)
  refine AL.loopT (stFo n nb box) (fun a => a.i ≤ n ∧ TK tok nt a.tok a.nt [a.own]) (fun a => n - a.i) ⟨0, .full, tok, nt⟩ ⟨Nat.zero_le _, (TK.start htok).full⟩ (Weaks.mk (Nat.le_refl _) rfl (by simp [ToL, lk]) (by simp [BoxL, lk, fours_zero])) ?_
  rintro ⟨i, own, tok', nt'⟩ S ⟨hi, htk⟩ hS
  simp only [stFo] at hS hi htk
  subst hS
  have hw : IntKind.i64.wrap (↑i + 1) = ((i + 1 : Nat) : Int) := by rw [wrap_in (by omega) (by omega)]; rfl
  try (simp)
  repeat ((repeat (first | refine AL.seq ?_ | refine AL.block ?_ | refine AL.skip ?_ | refine AL.blk ?_)); (refine AL.region follows_Try (Nat.le_refl _) (by kernel_rfl) ?_); simp)
  repeat (first | refine AL.seq ?_ | refine AL.block ?_ | refine AL.skip ?_ | refine AL.blk ?_)
  refine AL.cond ?_
  simp
  refine ⟨fun hlt => ?_, fun hge => ?_⟩
  · try (simp)
    repeat ((repeat (first | refine AL.seq ?_ | refine AL.block ?_ | refine AL.skip ?_ | refine AL.blk ?_)); (refine AL.region follows_Try (Nat.le_refl _) (by kernel_rfl) ?_); simp)
    refine ⟨⟨by rw [fours_len]; omega, htk.live⟩, ?_⟩
    try (simp [hw])
    repeat ((repeat (first | refine AL.seq ?_ | refine AL.block ?_ | refine AL.skip ?_ | refine AL.blk ?_)); (refine AL.region follows_Try (Nat.le_refl _) (by kernel_rfl) ?_); simp [hw])
    repeat (first | refine AL.seq ?_ | refine AL.block ?_ | refine AL.skip ?_ | refine AL.blk ?_)
    refine AL.nil ?_
    refine ⟨⟨i + 1, _, _, _⟩, ⟨hlt, htk.app⟩, by simp only; omega, Weaks.mk htk.app.le rfl (by simp [ToL, lk]) (by simp [BoxL, lk, fours_succ])⟩
  · repeat (first | refine AL.seq ?_ | refine AL.block ?_ | refine AL.skip ?_ | refine AL.blk ?_)
    refine AL.exit ?_
    simp only [AU, ↓reduceIte]
    have : i = n := by omega
    subst this
    try (simp)
    repeat ((repeat (first | refine AL.seq ?_ | refine AL.block ?_ | refine AL.skip ?_ | refine AL.blk ?_)); (refine AL.region follows_Try (Nat.le_refl _) (by kernel_rfl) ?_); simp)
    repeat (first | refine AL.seq ?_ | refine AL.block ?_ | refine AL.skip ?_ | refine AL.blk ?_)
    refine AL.ret ?_
    try simp only [AU]
    refine ⟨by simp, Fin.data (by simp [resAs, resA]; rfl) hbox rfl htok htk.old htk.le ?_⟩
    simp [packA, AM.edges]

def anoC : Cd := .mk 5 [trueC] ⟨[0], []⟩ ⟨fours 2, []⟩ [] 0 []
theorem another_c (tok : Nat → Bool) (nt : Nat) : DCall Try.prog 24 [] tok nt anoC.av tok nt := by
  intro box nb
  refine ACalls.of_body Try.func24 rfl (by kernel_rfl) follows_Try (by kernel_rfl) (by simp [Try.ntmps24]) ?_
  intro hbox htok
  simp only at hbox htok
  apply AL.start
  try (simp)
  repeat ((repeat (first | refine AL.seq ?_ | refine AL.block ?_ | refine AL.skip ?_ | refine AL.blk ?_)); (refine AL.region follows_Try (Nat.le_refl _) (by kernel_rfl) ?_); simp)
  refine Stop.of_d (lnodes_c 2 (by omega) _ _) ?_
  simp
  refine Stop.of_d (true33_c _ _) ?_
  simp
  try (simp)
  repeat ((repeat (first | refine AL.seq ?_ | refine AL.block ?_ | refine AL.skip ?_ | refine AL.blk ?_)); (refine AL.region follows_Try (Nat.le_refl _) (by kernel_rfl) ?_); simp)
  repeat (first | refine AL.seq ?_ | refine AL.block ?_ | refine AL.skip ?_ | refine AL.blk ?_)
  refine AL.ret ?_
  try simp only [AU]
  refine ⟨by simp, Fin.data (by simp [resAs, resA]; rfl) hbox rfl htok (fun _ h => h) (Nat.le_refl _) ?_⟩
  simp [packA, anoC, trueC, cdOf, conds, ints, AM.edges, slots, tests, Cd.kind, Cd.kids, Cd.m, Cd.g, Cd.sl, Cd.vars, Cd.te, Cd.cells_eq]

def gF (n : Nat) : Gr := ⟨fours n, []⟩
theorem gF_fit {n : Nat} (h : n ≤ 10) : (gF n).Fit := ⟨by simp [gF, fours_len]; omega, by simp [gF]⟩
theorem ano_fit : anoC.Fit := .mk (by rw [kidN_eq]; simp [anoC, Cd.kids]) ⟨by simp [anoC, Cd.m], by simp [anoC, Cd.m]⟩ (gF_fit (n := 2) (by omega)) (by rw [bigN_eq]; simp [anoC, Cd.sl]) (by rw [bigN_eq]; simp [anoC, Cd.te]) fun x hx => by
  have : x = trueC := by simpa [anoC, Cd.kids] using hx
  subst this
  exact cdOf_fit (by rw [kidN_eq]; simp) (by simp)
theorem ano_shift : (shiftR (gF 1) (gF 2) ⟨[0], []⟩ anoC).2 = 0 ∧ (shiftR (gF 1) (gF 2) ⟨[0], []⟩ anoC).1.kind = 4 ∧ (shiftR (gF 1) (gF 2) ⟨[0], []⟩ anoC).1.kids.length = 2 ∧ ((shiftR (gF 1) (gF 2) ⟨[0], []⟩ anoC).1.kids.getD 1 trueC).g.nodes.length = 2 := by decide +kernel
theorem ano_sat : satR (gF 1) anoC (gF 2) ⟨[1], []⟩ = (true, 0) := by decide +kernel
theorem ano_size : sizeR anoC = (2, 1, 0) := by decide +kernel

set_option maxRecDepth 100000 in
theorem awake33_c (tok : Nat → Bool) (nt : Nat) : DCall Try.prog 8 [] tok nt (B true) tok nt := by
  intro box nb
  have hsh := cdShift_c (gF 1) (gF 2) ⟨[0], []⟩ anoC (gF_fit (by omega)) (gF_fit (by omega)) ⟨by simp, by simp⟩ ano_fit
  have hsa := satisfies_c (gF 1) anoC (gF 2) ⟨[1], []⟩ (gF_fit (by omega)) ano_fit (gF_fit (by omega)) ⟨by simp, by simp⟩
  have hsz := cdSize_c anoC ano_fit.big
  rw [ano_sat] at hsa
  rw [ano_size] at hsz
  obtain ⟨s1, s2, s3, s4⟩ := ano_shift
  generalize shiftR (gF 1) (gF 2) ⟨[0], []⟩ anoC = r at *
  refine ACalls.of_body Try.func8 rfl (by kernel_rfl) follows_Try (by kernel_rfl) (by simp [Try.ntmps8]) ?_
  intro hbox htok
  simp only at hbox htok
  apply AL.start
  try (simp)
  repeat ((repeat (first | refine AL.seq ?_ | refine AL.block ?_ | refine AL.skip ?_ | refine AL.blk ?_)); (refine AL.region follows_Try (Nat.le_refl _) (by kernel_rfl) ?_); simp)
  refine Stop.of_d (lnodes_c 1 (by omega) _ _) ?_
  simp
  refine Stop.of_d (lnodes_c 2 (by omega) _ _) ?_
  simp
  refine Stop.of_d (another_c _ _) ?_
  simp
  refine Stop.sub (args' := [(gF 1).av, (gF 2).av, .agg [.d (ints [0]), .d (ints [])], anoC.av]) ⟨Sub.refl _, Sub.refl _, Sub.agg ⟨Sub.data _ _ _, Sub.nil _ _ _, trivial⟩, Sub.refl _, trivial⟩ ?_
  refine Stop.of_d (hsh _ _) ?_
  simp
  try (simp)
  repeat ((repeat (first | refine AL.seq ?_ | refine AL.block ?_ | refine AL.skip ?_ | refine AL.blk ?_)); (refine AL.region follows_Try (Nat.le_refl _) (by kernel_rfl) ?_); simp)
  refine Stop.of_d (lnodes_c 1 (by omega) _ _) ?_
  simp
  refine Stop.of_d (another_c _ _) ?_
  simp
  refine Stop.of_d (lnodes_c 2 (by omega) _ _) ?_
  simp
  refine Stop.sub (args' := [(gF 1).av, anoC.av, (gF 2).av, .agg [.d (ints [1]), .d (ints [])]]) ⟨Sub.refl _, Sub.refl _, Sub.refl _, Sub.agg ⟨Sub.data _ _ _, Sub.nil _ _ _, trivial⟩, trivial⟩ ?_
  refine Stop.of_d (hsa _ _) ?_
  simp
  try (simp)
  repeat ((repeat (first | refine AL.seq ?_ | refine AL.block ?_ | refine AL.skip ?_ | refine AL.blk ?_)); (refine AL.region follows_Try (Nat.le_refl _) (by kernel_rfl) ?_); simp)
  refine Stop.of_d (another_c _ _) ?_
  simp
  refine Stop.of_d (hsz _ _) ?_
  simp
  have hk : 1 < r.1.kids.length := by omega
  have hk' : r.1.kids[1].g.nodes.length = 2 := by simpa [hk] using s4
  try (simp [s1, s2, s3, hk, Cd.cells_eq, hk'])
  repeat ((repeat (first | refine AL.seq ?_ | refine AL.block ?_ | refine AL.skip ?_ | refine AL.blk ?_)); (refine AL.region follows_Try (Nat.le_refl _) (by kernel_rfl) ?_); simp [s1, s2, s3, hk, Cd.cells_eq, hk'])
  repeat (first | refine AL.seq ?_ | refine AL.block ?_ | refine AL.skip ?_ | refine AL.blk ?_)
  refine AL.ret ?_
  try simp only [AU]
  refine ⟨by simp, Fin.data (by simp [resAs, resA]; rfl) hbox rfl htok (fun _ h => h) (Nat.le_refl _) ?_⟩
  simp [packA]
end Go.AM
/-
  The law about Valid and Size.
-/
namespace Go.AM
open Go Go.Proofs
set_option linter.unusedSimpArgs false
set_option linter.unusedVariables false

theorem light_c (a : Gr) (c : Cd) (hb : c.Big) (tok : Nat → Bool) (nt : Nat) : DCall Try.prog 9 [a.av, c.av] tok nt (B (lightB a c)) tok nt := by
  refine light9_c a c hb ?_ tok nt
  by_cases h1 : c.fits 45 90 = true
  · by_cases h2 : fewG a = true
    · exact .inr (.inr (.inr (validR_c a c (fewG_fit h2) (Cd.fits_fit (n := 45) (m := 90) (by decide) (by decide) _ c (Nat.lt_succ_self _) hb h1))))
    · exact .inr (.inr (.inl (by simpa using h2)))
  · exact .inr (.inl (by simpa using h1))
theorem lightB_fit {a : Gr} {c : Cd} (hb : c.Big) (h : lightB a c = true) : a.Fit ∧ c.Fit := by
  unfold lightB at h
  split at h
  · cases h
  · split at h
    · cases h
    · rename_i h2
      split at h
      · cases h
      · rename_i h3
        exact ⟨fewG_fit (by simpa using h3), Cd.fits_fit (n := 45) (m := 90) (by decide) (by decide) _ c (Nat.lt_succ_self _) hb (by simpa using h2)⟩

set_option maxRecDepth 100000 in
theorem lawValid_c (a : Gr) (c : Cd) (hb : c.Big) (tok : Nat → Bool) (nt : Nat) : ∃ tok' nt', DCall Try.prog 3 [a.av, c.av] tok nt (B true) tok' nt' := by
  refine ⟨tok, nt, ?_⟩
  intro box nb
  have hl := light_c a c hb
  have hs := cdSize_c c hb
  have hr := size11_c c hb
  have hcp := fun ha => copied_c a ha
  refine ACalls.of_body Try.func3 rfl (by kernel_rfl) follows_Try (by kernel_rfl) (by simp [Try.ntmps3]) ?_
  intro hbox htok
  simp only at hbox htok
  apply AL.start
  try (simp)
  repeat ((repeat (first | refine AL.seq ?_ | refine AL.block ?_ | refine AL.skip ?_ | refine AL.blk ?_)); (refine AL.region follows_Try (Nat.le_refl _) (by kernel_rfl) ?_); simp)
  refine Stop.of_d (awake33_c _ _) ?_
  simp
  try (simp)
  repeat ((repeat (first | refine AL.seq ?_ | refine AL.block ?_ | refine AL.skip ?_ | refine AL.blk ?_)); (refine AL.region follows_Try (Nat.le_refl _) (by kernel_rfl) ?_); simp)
  refine Stop.of_d (hl _ _) ?_
  simp
  by_cases h : lightB a c = true
  · obtain ⟨ha, hc⟩ := lightB_fit hb h
    have hv := validC_c a c ha hc
    have hw := validR_c a c ha hc
    have hcp := copied_c a ha
    rw [h]
    try (simp)
    repeat ((repeat (first | refine AL.seq ?_ | refine AL.block ?_ | refine AL.skip ?_ | refine AL.blk ?_)); (refine AL.region follows_Try (Nat.le_refl _) (by kernel_rfl) ?_); simp)
    repeat (first | refine AL.seq ?_ | refine AL.block ?_ | refine AL.skip ?_ | refine AL.blk ?_)
    refine AL.cond ?_
    simp
    try (simp)
    repeat ((repeat (first | refine AL.seq ?_ | refine AL.block ?_ | refine AL.skip ?_ | refine AL.blk ?_)); (refine AL.region follows_Try (Nat.le_refl _) (by kernel_rfl) ?_); simp)
    refine Stop.of_d (hs _ _) ?_
    simp
    try (simp)
    repeat ((repeat (first | refine AL.seq ?_ | refine AL.block ?_ | refine AL.skip ?_ | refine AL.blk ?_)); (refine AL.region follows_Try (Nat.le_refl _) (by kernel_rfl) ?_); simp)
    refine Stop.of_d (hr _ _) ?_
    simp
    try (simp)
    repeat ((repeat (first | refine AL.seq ?_ | refine AL.block ?_ | refine AL.skip ?_ | refine AL.blk ?_)); (refine AL.region follows_Try (Nat.le_refl _) (by kernel_rfl) ?_); simp)
    refine Stop.of_d (hcp _ _) ?_
    simp
    refine Stop.data ?_
    have htk := (TK.start htok).full.app.full.app
    refine Stop.of_d (hv _ _) ?_
    simp
    refine Stop.of_d (hw _ _) ?_
    simp
    try (simp)
    repeat ((repeat (first | refine AL.seq ?_ | refine AL.block ?_ | refine AL.skip ?_ | refine AL.blk ?_)); (refine AL.region follows_Try (Nat.le_refl _) (by kernel_rfl) ?_); simp)
    repeat (first | refine AL.seq ?_ | refine AL.block ?_ | refine AL.skip ?_ | refine AL.blk ?_)
    refine AL.ret ?_
    try simp only [AU]
    refine ⟨by simp, Fin.data (by simp [resAs, resA]; rfl) hbox rfl htok htk.old htk.le ?_⟩
    simp [packA, ]
  · have h' : lightB a c = false := by simpa using h
    rw [h']
    try (simp)
    repeat ((repeat (first | refine AL.seq ?_ | refine AL.block ?_ | refine AL.skip ?_ | refine AL.blk ?_)); (refine AL.region follows_Try (Nat.le_refl _) (by kernel_rfl) ?_); simp)
    repeat (first | refine AL.seq ?_ | refine AL.block ?_ | refine AL.skip ?_ | refine AL.blk ?_)
    refine AL.cond ?_
    simp
    try (simp)
    repeat ((repeat (first | refine AL.seq ?_ | refine AL.block ?_ | refine AL.skip ?_ | refine AL.blk ?_)); (refine AL.region follows_Try (Nat.le_refl _) (by kernel_rfl) ?_); simp)
    refine Stop.of_d (awake33_c _ _) ?_
    simp
    try (simp)
    repeat ((repeat (first | refine AL.seq ?_ | refine AL.block ?_ | refine AL.skip ?_ | refine AL.blk ?_)); (refine AL.region follows_Try (Nat.le_refl _) (by kernel_rfl) ?_); simp)
    repeat (first | refine AL.seq ?_ | refine AL.block ?_ | refine AL.skip ?_ | refine AL.blk ?_)
    refine AL.ret ?_
    try simp only [AU]
    refine ⟨by simp, Fin.data (by simp [resAs, resA]; rfl) hbox rfl htok (fun _ h => h) (Nat.le_refl _) ?_⟩
    simp [packA]
end Go.AM
/-
  The abstract machine, twenty-second part: from a statement's reading of the arguments to slots, and from a contract to the statement.
-/
namespace Go.AM
open Go Go.ChangeShapes
set_option linter.unusedSimpArgs false
set_option linter.unusedVariables false

variable {P : Program}

/-- Cells that read as data. -/
def Rd (w : World) (cs : List Value) (ds : List D) : Prop := cs.length = ds.length ∧ ∀ i (h1 : i < cs.length) (h2 : i < ds.length), RVd w.cell? (fun _ => True) ds[i] cs[i]

theorem Rd.append {w : World} {cs cs' : List Value} {ds ds' : List D} (h : Rd w cs ds) (k : Rd w cs' ds') : Rd w (cs ++ cs') (ds ++ ds') := by
  refine ⟨by simp [h.1, k.1], fun i h1 h2 => ?_⟩
  by_cases hi : i < cs.length
  · rw [List.getElem_append_left hi, List.getElem_append_left (by rw [← h.1]; exact hi)]
    exact h.2 i hi _
  · have hl := h.1
    rw [List.getElem_append_right (by omega), List.getElem_append_right (by omega)]
    have := k.2 (i - cs.length) (by simp at h1; omega) (by have := k.1; simp at h1; omega)
    simpa [hl] using this
theorem Rd.one {w : World} {c : Value} {d : D} (h : RVd w.cell? (fun _ => True) d c) : Rd w [c] [d] := ⟨rfl, fun i h1 h2 => by
  have : i = 0 := by simpa using h1
  subst this
  exact h⟩

/-- What it takes is within reach. -/
def Light {H : Type} (P : Program) (T : TypeId) (d : DataW H) : Prop := (d.weights P T).all (· ≤ reachBytes) = true

/-- How the cells of a type read as data: as the images of values of a Lean type. -/
structure Rdr (P : Program) (T : TypeId) (α : Type) where
  enc : α → List D
  ok : α → Prop
  len : ∀ x, (enc x).length = P.cellsOf T
  sound : ∀ {H : Type} (e : TypeId × Value → H) (w : World) (base : Nat) (spare : Nat → Bool) (held : Bool) (fuel : Nat) (cs : List Value) (x : DataW H × List MemPlace),
    DataW.trod e P w base spare held fuel T cs = some x → ∃ y, Rd w cs (enc y) ∧ (Light P T x.1 → ok y)

def Rdr.int {T : TypeId} {k : IntKind} (h : P.underlying T = some (.int k)) (hc : P.cellsOf T = 1) : Rdr P T Int where
  enc n := [.raw (.int k n)]
  ok n := (Lit.int k n).wf = true
  len _ := by simp [hc]
  sound e w base spare held fuel cs x hx := by
    cases fuel with
    | zero => simp [DataW.trod] at hx
    | succ n =>
      unfold DataW.trod at hx
      rw [h] at hx
      split at hx <;> simp_all
      rename_i k' n' _
      exact ⟨n', Rd.one (.raw rfl), fun _ => hx.1.2⟩

theorem cells_spec {w : World} {base : Nat} {a : Addr} {n : Nat} {l : List Value} (h : w.cells? base a n = some l) : l.length = n ∧ ∀ i (hi : i < l.length), w.cell? (a.add i) = some l[i] := by
  unfold World.cells? at h
  split at h
  · have h1 : l.length = n := by have := mapM_some_length h; simpa using this
    refine ⟨h1, fun i hi => ?_⟩
    have hin : i < n := by omega
    have := mapM_some_get h i i (by simp [hin])
    rw [this]
    exact List.getElem?_eq_getElem hi
  · cases h

theorem light_slice {H : Type} {T E : TypeId} (h : P.underlying T = some (.slice E)) {elems rest : List (DataW H)} (hl : Light P T (.slice elems rest)) : elems.length * P.bytesOf E ≤ reachBytes ∧ ∀ d ∈ elems, Light P E d := by
  unfold Light at hl ⊢
  simp only [DataW.weights, h, List.all_cons, List.all_append, Bool.and_eq_true, decide_eq_true_eq] at hl
  refine ⟨Nat.le_trans (Nat.mul_le_mul_right _ (Nat.le_add_right _ _)) hl.1, ?_⟩
  have key : ∀ l : List (DataW H), (DataW.weightsAll P E l).all (· ≤ reachBytes) = true → ∀ d ∈ l, (d.weights P E).all (· ≤ reachBytes) = true := by
    intro l
    induction l with
    | nil => intro _ d hd; simp at hd
    | cons x l ih =>
      intro hx d hd
      simp only [DataW.weightsAll, List.all_append, Bool.and_eq_true] at hx
      rcases List.mem_cons.1 hd with rfl | hd
      · exact hx.1
      · exact ih hx.2 d hd
  exact key elems hl.2.1

def Rdr.slice {T E : TypeId} {α : Type} (r : Rdr P E α) (h : P.underlying T = some (.slice E)) (hc : P.cellsOf T = 1) : Rdr P T (List α) where
  enc l := [.sl (P.cellsOf E) (l.map r.enc)]
  ok l := (∀ x ∈ l, r.ok x) ∧ l.length * P.bytesOf E ≤ reachBytes
  len _ := by simp [hc]
  sound e w base spare held fuel cs x hx := by
    rcases DataW.trod_slice h hx with ⟨rfl, rfl⟩ | ⟨a, len, cap, elems, rest, n, rfl, rfl, rfl, hb, hl, hm, hel, hat, _⟩
    · exact ⟨[], Rd.one (.sl (es := []) (fun _ _ => default) (Nat.le_refl _) (by decide) (by simp) (by simp) (by simp) (by simp)), fun _ => ⟨by simp, by simp⟩⟩
    · have key : ∀ i (hi : i < elems.length), ∃ cs y, cs.length = P.cellsOf E ∧ (∀ j (hj : j < cs.length), w.cell? (a.add (i * P.cellsOf E + j)) = some cs[j]) ∧ Rd w cs (r.enc y) ∧ (Light P E elems[i].1 → r.ok y) := by
        intro i hi
        have h1 := hat i (by omega)
        have h2 : elems[i]? = some elems[i] := List.getElem?_eq_getElem hi
        rw [h2, Option.bind_eq_some_iff] at h1
        obtain ⟨cs, hcs, htr⟩ := h1
        obtain ⟨hcl, hcc⟩ := cells_spec hcs
        obtain ⟨y, hy, hok⟩ := r.sound e w base spare held n cs _ htr
        refine ⟨cs, y, hcl, fun j hj => ?_, hy, hok⟩
        rw [← Addr.add_add]
        exact hcc j hj
      have pick : ∀ m, m ≤ elems.length → ∃ ys : List α, ys.length = m ∧ (∀ i (hi : i < ys.length) (hi2 : i < elems.length), ∃ cs, cs.length = P.cellsOf E ∧ (∀ j (hj : j < cs.length), w.cell? (a.add (i * P.cellsOf E + j)) = some cs[j]) ∧ Rd w cs (r.enc ys[i]) ∧ (Light P E elems[i].1 → r.ok ys[i])) := by
        intro m
        induction m with
        | zero => intro _; exact ⟨[], rfl, fun i hi => by simp at hi⟩
        | succ m ih =>
          intro hm'
          obtain ⟨ys, hys, hall⟩ := ih (by omega)
          obtain ⟨cs, y, g1, g2, g3, g4⟩ := key m (by omega)
          refine ⟨ys ++ [y], by simp [hys], fun i hi hi2 => ?_⟩
          by_cases him : i < ys.length
          · rw [List.getElem_append_left him]
            exact hall i him hi2
          · have : i = m := by simp at hi; omega
            subst this
            have e1 : (ys ++ [y])[i] = y := by
              rw [List.getElem_append_right (by omega)]
              simp
            rw [e1]
            exact ⟨cs, g1, g2, g3, g4⟩
      obtain ⟨ys, hys, hall⟩ := pick elems.length (Nat.le_refl _)
      refine ⟨ys, Rd.one ?_, fun hli => ?_⟩
      · have hlen : len = ys.length := by omega
        subst hlen
        have hml : ys.length = (ys.map r.enc).length := by simp
        rw [hml]
        refine .sl (fun i j => (w.cell? (a.add (i * P.cellsOf E + j))).getD default) (by simpa using hl) hm (fun e he => ?_) (fun _ => ⟨a, rfl⟩) (fun a' ha' i j hi hj => ?_) (fun i j hi hj => ?_)
        · obtain ⟨y, _, rfl⟩ := List.mem_map.1 he
          exact r.len y
        · cases ha'
          obtain ⟨cs, g1, g2, _⟩ := hall i (by simpa using hi) (by simp at hi; omega)
          rw [g2 j (by omega)]
          exact ⟨trivial, rfl⟩
        · obtain ⟨cs, g1, g2, g3, _⟩ := hall i (by simpa using hi) (by simp at hi; omega)
          simp only [List.getElem_map] at hj ⊢
          have hjc : j < cs.length := by rw [g3.1]; exact hj
          rw [g2 j hjc]
          exact g3.2 j hjc hj
      · obtain ⟨w1, w2⟩ := light_slice h hli
        refine ⟨fun y hy => ?_, by simpa [hys] using w1⟩
        obtain ⟨i, hi, rfl⟩ := List.getElem_of_mem hy
        obtain ⟨_, _, _, _, h4⟩ := hall i hi (by omega)
        exact h4 (w2 _ (List.mem_map.2 ⟨_, List.getElem_mem _, rfl⟩))

def Rdr.map {T : TypeId} {α β : Type} (r : Rdr P T α) (f : α → β) (enc : β → List D) (ok : β → Prop) (he : ∀ x, enc (f x) = r.enc x) (hok : ∀ x, r.ok x → ok (f x)) (hl : ∀ y, (enc y).length = P.cellsOf T) : Rdr P T β where
  enc := enc
  ok := ok
  len := hl
  sound e w base spare held fuel cs x hx := by
    obtain ⟨y, h1, h2⟩ := r.sound e w base spare held fuel cs x hx
    exact ⟨f y, by rw [he]; exact h1, fun hl => hok y (h2 hl)⟩

/-- A slice, its elements' size named. -/
def Rdr.sliceN {T E : TypeId} {α : Type} (r : Rdr P E α) (n : Nat) (h : P.underlying T = some (.slice E)) (hc : P.cellsOf T = 1) (hn : P.cellsOf E = n) : Rdr P T (List α) where
  enc l := [.sl n (l.map r.enc)]
  ok l := (∀ x ∈ l, r.ok x) ∧ l.length * P.bytesOf E ≤ reachBytes
  len _ := by simp [hc]
  sound := by
    subst hn
    exact (Rdr.slice r h hc).sound

theorem list2 {α : Type} {l : List α} (h : l.length = 2) : l = [l[0]'(by omega), l[1]'(by omega)] := by
  match l, h with
  | [p, q], _ => rfl
theorem list3 {α : Type} {l : List α} (h : l.length = 3) : l = [l[0]'(by omega), l[1]'(by omega), l[2]'(by omega)] := by
  match l, h with
  | [p, q, r], _ => rfl

def Rdr.struct2 {T A B : TypeId} {α β : Type} (r : Rdr P A α) (s : Rdr P B β) {f0 f1 : Field} (h : P.underlying T = some (.struct #[f0, f1])) (hA : f0.type = A) (hB : f1.type = B) (h0 : f0.offset = 0) (h1 : f1.offset = P.cellsOf A)
    (hc : P.cellsOf T = P.cellsOf A + P.cellsOf B) : Rdr P T (α × β) where
  enc x := r.enc x.1 ++ s.enc x.2
  ok x := r.ok x.1 ∧ s.ok x.2
  len x := by simp [r.len, s.len, hc]
  sound e w base spare held fuel cs x hx := by
    obtain ⟨xs, n, rfl, rfl, hl, hxs, hat⟩ := DataW.trod_struct h hx
    have hxs' : xs.length = 2 := hxs
    have g0 := hat 0 f0 rfl
    have g1 := hat 1 f1 rfl
    have e0 : xs[0]? = some (xs[0]'(by omega)) := List.getElem?_eq_getElem (by omega)
    have e1 : xs[1]? = some (xs[1]'(by omega)) := List.getElem?_eq_getElem (by omega)
    rw [e0, h0, hA] at g0
    rw [e1, h1, hB] at g1
    obtain ⟨y, k1, k2⟩ := r.sound e w base spare held n _ _ g0
    obtain ⟨z, m1, m2⟩ := s.sound e w base spare held n _ _ g1
    refine ⟨(y, z), ?_, fun hli => ?_⟩
    rotate_left
    · unfold Light at hli k2 m2
      have e2 : xs = [xs[0]'(by omega), xs[1]'(by omega)] := list2 hxs'
      rw [e2] at hli
      simp only [List.map_cons, List.map_nil, DataW.weights, h, DataW.weightsEach, hA, hB, List.all_append, Bool.and_eq_true] at hli
      exact ⟨k2 hli.1, m2 hli.2.1⟩
    have hcs : cs = (cs.drop 0).take (P.cellsOf A) ++ (cs.drop (P.cellsOf A)).take (P.cellsOf B) := by
      have : (cs.drop (P.cellsOf A)).take (P.cellsOf B) = cs.drop (P.cellsOf A) := List.take_of_length_le (by simp; omega)
      rw [this, List.drop_zero, List.take_append_drop]
    rw [hcs]
    exact k1.append m1

def Rdr.struct3 {T A B C : TypeId} {α β γ : Type} (r : Rdr P A α) (s : Rdr P B β) (t : Rdr P C γ) {f0 f1 f2 : Field} (h : P.underlying T = some (.struct #[f0, f1, f2])) (hA : f0.type = A) (hB : f1.type = B) (hC : f2.type = C)
    (h0 : f0.offset = 0) (h1 : f1.offset = P.cellsOf A) (h2 : f2.offset = P.cellsOf A + P.cellsOf B) (hc : P.cellsOf T = P.cellsOf A + P.cellsOf B + P.cellsOf C) : Rdr P T (α × β × γ) where
  enc x := r.enc x.1 ++ (s.enc x.2.1 ++ t.enc x.2.2)
  ok x := r.ok x.1 ∧ s.ok x.2.1 ∧ t.ok x.2.2
  len x := by simp [r.len, s.len, t.len, hc]; omega
  sound e w base spare held fuel cs x hx := by
    obtain ⟨xs, n, rfl, rfl, hl, hxs, hat⟩ := DataW.trod_struct h hx
    have hxs' : xs.length = 3 := hxs
    have g0 := hat 0 f0 rfl
    have g1 := hat 1 f1 rfl
    have g2 := hat 2 f2 rfl
    have e0 : xs[0]? = some (xs[0]'(by omega)) := List.getElem?_eq_getElem (by omega)
    have e1 : xs[1]? = some (xs[1]'(by omega)) := List.getElem?_eq_getElem (by omega)
    have e2 : xs[2]? = some (xs[2]'(by omega)) := List.getElem?_eq_getElem (by omega)
    rw [e0, h0, hA] at g0
    rw [e1, h1, hB] at g1
    rw [e2, h2, hC] at g2
    obtain ⟨y, k1, k2⟩ := r.sound e w base spare held n _ _ g0
    obtain ⟨z, m1, m2⟩ := s.sound e w base spare held n _ _ g1
    obtain ⟨q, p1, p2⟩ := t.sound e w base spare held n _ _ g2
    refine ⟨(y, z, q), ?_, fun hli => ?_⟩
    rotate_left
    · unfold Light at hli k2 m2 p2
      have e2 : xs = [xs[0]'(by omega), xs[1]'(by omega), xs[2]'(by omega)] := list3 hxs'
      rw [e2] at hli
      simp only [List.map_cons, List.map_nil, DataW.weights, h, DataW.weightsEach, hA, hB, hC, List.all_append, Bool.and_eq_true] at hli
      exact ⟨k2 hli.1, m2 hli.2.1, p2 hli.2.2.1⟩
    have hcs : cs = (cs.drop 0).take (P.cellsOf A) ++ ((cs.drop (P.cellsOf A)).take (P.cellsOf B) ++ (cs.drop (P.cellsOf A + P.cellsOf B)).take (P.cellsOf C)) := by
      have : (cs.drop (P.cellsOf A + P.cellsOf B)).take (P.cellsOf C) = cs.drop (P.cellsOf A + P.cellsOf B) := List.take_of_length_le (by simp; omega)
      rw [this, ← List.drop_drop, List.take_append_drop, List.drop_zero, List.take_append_drop]
    rw [hcs]
    exact k1.append (m1.append p1)

/-! ### The start -/
def G0 : Gh := ⟨fun _ => none, fun _ => none, fun _ => .whole, 0⟩
def m0 : AMem := ⟨fun _ => none, 0, fun _ => false, 0⟩
theorem G0_ps (a : Addr) : G0.ps a := trivial
theorem relM_start (W : World) : RelM G0 m0 W := by
  constructor
  case box => intro k rows b sz h; cases h
  case nobox => intro k _; rfl
  case inj => intro k k' b sz sz' h; cases h
  case nb => intro k _; rfl
  case nt => rfl
  case toks => intro t h; cases h
  case tokb => intro t g h; cases h
  case tinj => intro t t' g h; cases h
  case tnt => intro t x h; cases h
  case fresh => intro b _; rfl

theorem RVd.start {W : World} {d : D} {v : Value} (h : RVd W.cell? (fun _ => True) d v) : RVd W.cell? G0.ps d v := h.mono fun a u _ hc => ⟨G0_ps a, hc⟩

/-- A struct that came in. -/
theorem Rdr.agg {T : TypeId} {α : Type} (r : Rdr P T α) {W : World} {base base' : Nat} {sp : Nat → Bool} {held : Bool} {H : Type} {enc : TypeId × Value → H} {v : Value} {d : DataW H} {p : List MemPlace}
    (hs : aggT P T = some true) (hv : Value.okWide P W .any base T v) (h : DataW.Trod enc P W base' sp held T v d p) (hli : Light P T d) : ∃ y, r.ok y ∧ RV G0 W (.agg ((r.enc y).map .d)) v := by
  have hcs : ∃ cs, v = .agg cs := by
    unfold aggT at hs
    unfold Value.okWide at hv
    cases hu : P.underlying T with
    | none => rw [hu] at hs; simp at hs
    | some u =>
      rw [hu] at hs hv
      cases u <;> simp at hs hv <;> exact ⟨_, hv.choose_spec.1⟩
  obtain ⟨cs, rfl⟩ := hcs
  obtain ⟨fuel, h⟩ := h
  obtain ⟨y, ⟨h1, h2⟩, hok⟩ := r.sound enc W base' sp held fuel _ _ h
  refine ⟨y, hok hli, ?_⟩
  simp only [Value.cells] at h1 h2
  have := RV.agg (G := G0) (w := W) (cs := (r.enc y).map .d) (vs := cs.toList) (by simp [h1]) (fun i g1 g2 => by
    simp only [List.getElem_map]
    exact .d (h2 i g2 (by simpa using g1)).start) (fun v hv => by
    obtain ⟨i, hi, rfl⟩ := List.getElem_of_mem hv
    exact (h2 i hi (by omega)).one)
  simpa using this

/-- A number or a slice that came in. -/
theorem Rdr.cell {T : TypeId} {α : Type} (r : Rdr P T α) {W : World} {base base' : Nat} {sp : Nat → Bool} {held : Bool} {H : Type} {enc : TypeId × Value → H} {v : Value} {d : DataW H} {p : List MemPlace} (f : α → D)
    (hs : aggT P T = some false) (hf : ∀ y, r.enc y = [f y]) (hv : Value.okWide P W .any base T v) (h : DataW.Trod enc P W base' sp held T v d p) (hli : Light P T d) : ∃ y, r.ok y ∧ RV G0 W (.d (f y)) v := by
  obtain ⟨fuel, h⟩ := h
  obtain ⟨y, ⟨h1, h2⟩, hok⟩ := r.sound enc W base' sp held fuel _ _ h
  refine ⟨y, hok hli, ?_⟩
  rw [hf] at h1
  have hcs : v.cells.toList = [v] := by
    cases v with
    | agg cs =>
      exfalso
      unfold aggT at hs
      unfold Value.okWide Cell.okWide Cell.ok at hv
      cases hu : P.underlying T with
      | none => rw [hu] at hs; simp at hs
      | some u =>
        rw [hu] at hs hv
        cases u <;> simp_all
    | _ => rfl
  have := h2 0 (by rw [h1]; simp) (by rw [hf]; simp)
  simp only [hf, List.getElem_cons_zero] at this
  have e : v.cells.toList[0]'(by rw [h1]; simp) = v := by simp [hcs]
  rw [e] at this
  exact .d this.start

theorem light_arg {H : Type} {ts : List TypeId} {ds : List (DataW H)} (hz : (DataW.weightsEach P ts ds).all (· ≤ reachBytes) = true) {j : Nat} {T : TypeId} {d : DataW H} (ht : ts[j]? = some T) (hd : ds[j]? = some d) : Light P T d :=
  List.all_eq_true.2 fun x hx => List.all_eq_true.1 hz x (DataW.weights_mem_each ht hd x hx)

theorem arg_agg {ps : Array TypeId} {args : Array Value} {W : World} {base base' : Nat} {sp : Nat → Bool} {held : Bool} {H : Type} {enc : TypeId × Value → H} (hval : ∀ (j : Nat) t v, ps[j]? = some t → args[j]? = some v → Value.okWide P W .any base t v)
    (j : Nat) (T : TypeId) (v : Value) (hp : ps[j]? = some T) (ha : args[j]? = some v) {α : Type} (r : Rdr P T α) {d : DataW H} {p : List MemPlace} (hs : aggT P T = some true) (h : DataW.Trod enc P W base' sp held T v d p) (hli : Light P T d) :
    ∃ y, r.ok y ∧ RV G0 W (.agg ((r.enc y).map .d)) v := r.agg hs (hval j T v hp ha) h hli
theorem arg_cell {ps : Array TypeId} {args : Array Value} {W : World} {base base' : Nat} {sp : Nat → Bool} {held : Bool} {H : Type} {enc : TypeId × Value → H} (hval : ∀ (j : Nat) t v, ps[j]? = some t → args[j]? = some v → Value.okWide P W .any base t v)
    (j : Nat) (T : TypeId) (v : Value) (hp : ps[j]? = some T) (ha : args[j]? = some v) {α : Type} (r : Rdr P T α) (f : α → D) {d : DataW H} {p : List MemPlace} (hs : aggT P T = some false) (hf : ∀ y, r.enc y = [f y]) (h : DataW.Trod enc P W base' sp held T v d p) (hli : Light P T d) :
    ∃ y, r.ok y ∧ RV G0 W (.d (f y)) v := r.cell f hs hf (hval j T v hp ha) h hli

/-! ### The end -/
theorem le_old {W W' : World} {G' : Gh} (h : Le G0 W G' W') (b : Nat) (hb : b < W.heap.size) : W'.heap[b]? = W.heap[b]? := (h.whole b hb rfl).2
theorem le_kept {W W' : World} {G' : Gh} (h : Le G0 W G' W') (may : MemPlace → Prop) : W.keptBut W' may := by
  refine ⟨h.os, h.output, fun i hi => ?_⟩
  rw [le_old h i hi]
  split
  · rename_i c t fr c' t' fr' e1 e2
    rw [e1] at e2
    cases e2
    exact ⟨rfl, rfl, rfl, fun _ _ => rfl⟩
  · rename_i e1 e2
    rw [e1] at e2
    cases e2
    exact .inr ⟨rfl, rfl⟩
  · rfl
theorem le_same {W W' : World} {G' : Gh} (h : Le G0 W G' W') {p : MemPlace} (hp : p.block < W.heap.size) : W.sameAt W' p := by
  cases p with
  | cell b off => exact World.cell?_of_block (w := W) (a := ⟨b, off, none⟩) (le_old h b hp)
  | map b => exact le_old h b hp
theorem le_frozen {W W' : World} {G' : Gh} (h : Le G0 W G' W') {a : Addr} (ha : a.block < W.heap.size) : W'.frozen? a = W.frozen? a := by
  simp only [World.frozen?, le_old h a.block ha]

theorem trodAll_stays {H : Type} {enc : TypeId × Value → H} {W W' : World} {T : TypeId → Prop} {sp' : Nat → Bool} (K : Kids P T) (hsz : ∀ {t e : TypeId}, T t → P.underlying t = some (.slice e) → 0 < P.cellsOf e) :
    ∀ {ts : List TypeId} {vs : List Value} {ds : List (DataW H)} {ps : List MemPlace}, (∀ t ∈ ts, T t) → DataW.TrodAll enc P W 0 (fun _ => true) true ts vs ds ps → (∀ p ∈ ps, W.sameAt W' p) → (∀ p ∈ ps, sp' p.block = true) →
    DataW.TrodAll enc P W' 0 sp' true ts vs ds ps
  | [], [], [], _, _, h, _, _ => h
  | t :: ts, v :: vs, d :: ds, _, hT, ⟨p, q, ⟨n, hn⟩, h2, e⟩, h3, h4 => by
    subst e
    exact ⟨p, q, ⟨n, DataW.trod_stays K hsz (fun h => by cases h) (hT t (by simp)) hn (fun x hx => h3 x (by simp [hx])) (fun x hx => h4 x (by simp [hx]))⟩,
      trodAll_stays K hsz (fun t ht => hT t (by simp [ht])) h2 (fun x hx => h3 x (by simp [hx])) (fun x hx => h4 x (by simp [hx])), rfl⟩

/-- A law: its contract says that it returns true. -/
theorem law_of {f : FuncId} {fn : Func} {s : ChangeSpec} {H : Type} {enc : TypeId × Value → H} {W : World} {args : Array Value} {ds : List (DataW H)} {before : List MemPlace} {avs : List AV} {tok' : Nat → Bool} {nt' : Nat}
    (hl : laidOutB P = true) (hm : mapsRowed P = true) (hz : ((List.range P.types.size).all fun t => match P.underlying t with | some (.slice e) => decide (0 < P.cellsOf e) | _ => true) = true)
    (hpar : fn.params.all (· < P.types.size) = true) {tb : TypeId} (hres : fn.resultTypes = #[tb]) (hb : P.underlying tb = some .bool)
    (hvars : s.vars = []) (hfn : s.fn H ds = { results := [.lit (.bool true)], args := ds })
    (hW : DataW.Whole enc P fn.params.toList s.vars false W args.toList ds [] before) (hr : RVs G0 W avs args.toList) (hc : DCall P f avs (fun _ => false) 0 (B true) tok' nt') :
    Calls P f args W fun e W' => ∃ v, e = .returned v ∧ s.post enc P fn false true false false W args v W' := by
  have hcall := (hc (fun _ => none) 0).2 G0 W args.toList (relM_start W) hr
  simp only [Array.toArray_toList] at hcall
  refine hcall.mono ?_
  rintro e W' ⟨v, av, m', G', rfl, ⟨rfl, rfl⟩, _, _, hv, hle, _⟩
  cases hv with
  | d hv =>
    cases hv with
    | raw =>
      refine ⟨_, rfl, ?_⟩
      have hlt := hW.lt
      have hWW := hW
      obtain ⟨p, q, hA, hV, rfl, hfz, hnd⟩ := hW
      rw [hvars] at hV
      obtain ⟨_, rfl⟩ := trodVars_none hV
      simp only [List.append_nil] at hlt hfz hWW ⊢
      have hT : ∀ t ∈ fn.params.toList, t < P.types.size := fun t ht => by
        have := Array.all_eq_true_iff_forall_mem.1 hpar t (by simpa using ht)
        simpa using this
      have hsz : ∀ {t e : TypeId}, t < P.types.size → P.underlying t = some (.slice e) → 0 < P.cellsOf e := by
        intro t e ht hu
        have := List.all_eq_true.1 hz t (List.mem_range.2 ht)
        rw [hu] at this
        simpa using this
      have hargs : ∀ sp : Nat → Bool, (∀ x ∈ p, sp x.block = true) → DataW.TrodAll enc P W' 0 sp true fn.params.toList args.toList ds p := fun sp hsp =>
        trodAll_stays (kids_rows hl hm) hsz hT hA (fun x hx => le_same hle (hlt x hx)) hsp
      have hnat : (Value.bool true).resultList fn.resultTypes.size = [.bool true] := by rw [hres]; rfl
      have hresb : ∀ (b : Nat) (sp : Nat → Bool) (hd : Bool), DataW.TrodAll enc P W' b sp hd fn.resultTypes.toList ((Value.bool true).resultList fn.resultTypes.size) [.lit (.bool true)] [] := fun b sp hd => by
        rw [hnat, hres]
        exact trodAll_mk1 ⟨1, by simp [DataW.trod, hb, Value.cells]⟩
      have hfn' : s.fn H (ds ++ []) = { results := [.lit (.bool true)], args := ds } := by rw [List.append_nil]; exact hfn
      refine ⟨ds, [], p, [], p, [], hWW, ?_, ?_, ?_, World.keptBut_mono (fun _ f => f.elim) (le_kept hle fun _ => False), fun h => by cases h⟩
      · rw [hfn']; exact hresb _ _ _
      · rw [hfn']; exact hargs _ fun x hx => by simpa using hlt x hx
      · rw [hfn', hvars]; exact rfl
end Go.AM
/-
  What the arguments of this chapter's statements read as: graphs, morphisms, overlaps.
-/
namespace Go.AM
open Go Go.Proofs

theorem own0 : ownKnob Try.prog.godebug = none := by kernel_rfl
theorem laidOut0 : laidOutB Try.prog = true := by kernel_rfl
theorem mapsRowed0 : mapsRowed Try.prog = true := by kernel_rfl
theorem slices0 : ((List.range Try.prog.types.size).all fun t => match Try.prog.underlying t with | some (.slice e) => decide (0 < Try.prog.cellsOf e) | _ => true) = true := by kernel_rfl

def rdInt : Rdr Try.prog 3 Int := Rdr.int (k := .i64) Try.underlying3 (by kernel_rfl)
def rdInts : Rdr Try.prog 22 (List Int) := rdInt.sliceN 1 Try.underlying22 (by kernel_rfl) (by kernel_rfl)
def rdEdge0 : Rdr Try.prog 81 (Int × Int × Int) := Rdr.struct3 rdInt rdInt rdInt Try.underlying81 rfl rfl rfl rfl (by kernel_rfl) (by kernel_rfl) (by kernel_rfl)
def rdEdge : Rdr Try.prog 81 E := rdEdge0.map (fun x => ⟨x.1, x.2.1, x.2.2⟩) E.cells (fun _ => True) (fun _ => rfl) (fun _ _ => trivial) (fun _ => by kernel_rfl)
def rdEdges : Rdr Try.prog 23 (List E) := rdEdge.sliceN 3 Try.underlying23 (by kernel_rfl) (by kernel_rfl)
def rdGraph0 : Rdr Try.prog 25 (List Int × List E) := Rdr.struct2 rdInts rdEdges Try.underlying25 rfl rfl rfl (by kernel_rfl) (by kernel_rfl)
def rdGraph : Rdr Try.prog 25 Gr := rdGraph0.map (fun x => ⟨x.1, x.2⟩) (fun g => [ints g.nodes, AM.edges g.edges]) (fun _ => True) (fun _ => rfl) (fun _ _ => trivial) (fun _ => by kernel_rfl)

theorem rdGraph_enc (g : Gr) : rdGraph.enc g = [ints g.nodes, AM.edges g.edges] := rfl

set_option maxRecDepth 100000 in
theorem arg_graph {ps : Array TypeId} {args : Array Value} {W : World} {base base' : Nat} {sp : Nat → Bool} {held : Bool} {H : Type} {enc : TypeId × Value → H} (hval : ∀ (j : Nat) t v, ps[j]? = some t → args[j]? = some v → Value.okWide Try.prog W .any base t v)
    (j : Nat) (v : Value) (hp : ps[j]? = some 25) (ha : args[j]? = some v) {d : DataW H} {p : List MemPlace} (h : DataW.Trod enc Try.prog W base' sp held 25 v d p) (hli : Light Try.prog 25 d) : ∃ g : Gr, RV G0 W g.av v := by
  refine Exists.elim (arg_agg hval j 25 v hp ha rdGraph aggT_25 h hli) fun g hg => ⟨g, ?_⟩
  exact hg.2
end Go.AM
/-
  What a condition reads as.
-/
namespace Go.AM
open Go Go.Proofs Go.ChangeShapes
set_option linter.unusedSimpArgs false
set_option linter.unusedVariables false

/-- How the cells of a type read as data, where the reading may go so deep. -/
structure RdF (P : Program) (T : TypeId) {α : Type} (en : α → List D) (ok : α → Prop) (n : Nat) : Prop where
  sound : ∀ {H : Type} (e : TypeId × Value → H) (w : World) (base : Nat) (spare : Nat → Bool) (held : Bool) (cs : List Value) (x : DataW H × List MemPlace),
    DataW.trod e P w base spare held n T cs = some x → ∃ y, Rd w cs (en y) ∧ (Light P T x.1 → ok y)
theorem Rdr.f {P : Program} {T : TypeId} {α : Type} (r : Rdr P T α) (n : Nat) : RdF P T r.enc r.ok n := ⟨fun e w base spare held cs x hx => r.sound e w base spare held n cs x hx⟩
theorem RdF.zero {P : Program} {T : TypeId} {α : Type} {en : α → List D} {ok : α → Prop} : RdF P T en ok 0 := ⟨fun e w base spare held cs x hx => by simp [DataW.trod] at hx⟩
def Rdr.ofF {P : Program} {T : TypeId} {α : Type} (en : α → List D) (ok : α → Prop) (len : ∀ x, (en x).length = P.cellsOf T) (h : ∀ n, RdF P T en ok n) : Rdr P T α := ⟨en, ok, len, fun e w base spare held n cs x hx => (h n).sound e w base spare held cs x hx⟩

theorem RdF.slice {P : Program} {T E : TypeId} {α : Type} {en : α → List D} {ok : α → Prop} {n : Nat} (r : RdF P E en ok n) (k : Nat) (hk : P.cellsOf E = k) (hlen : ∀ x, (en x).length = k) (h : P.underlying T = some (.slice E)) :
    RdF P T (fun l : List α => [.sl k (l.map en)]) (fun l => (∀ x ∈ l, ok x) ∧ l.length * P.bytesOf E ≤ reachBytes) (n + 1) := by
  subst hk
  constructor
  intro H e w base spare held cs x hx
  rcases DataW.trod_slice h hx with ⟨rfl, rfl⟩ | ⟨a, len, cap, elems, rest, n', hn', rfl, rfl, hb, hl, hm, hel, hat, _⟩
  · exact ⟨[], Rd.one (.sl (es := []) (fun _ _ => default) (Nat.le_refl _) (by decide) (by simp) (by simp) (by simp) (by simp)), fun _ => ⟨by simp, by simp⟩⟩
  · obtain rfl : n' = n := by omega
    have key : ∀ i (hi : i < elems.length), ∃ cs y, cs.length = P.cellsOf E ∧ (∀ j (hj : j < cs.length), w.cell? (a.add (i * P.cellsOf E + j)) = some cs[j]) ∧ Rd w cs (en y) ∧ (Light P E elems[i].1 → ok y) := by
      intro i hi
      have h1 := hat i (by omega)
      have h2 : elems[i]? = some elems[i] := List.getElem?_eq_getElem hi
      rw [h2, Option.bind_eq_some_iff] at h1
      obtain ⟨cs, hcs, htr⟩ := h1
      obtain ⟨hcl, hcc⟩ := cells_spec hcs
      obtain ⟨y, hy, hok⟩ := r.sound e w base spare held cs _ htr
      refine ⟨cs, y, hcl, fun j hj => ?_, hy, hok⟩
      rw [← Addr.add_add]
      exact hcc j hj
    have pick : ∀ m, m ≤ elems.length → ∃ ys : List α, ys.length = m ∧ (∀ i (hi : i < ys.length) (hi2 : i < elems.length), ∃ cs, cs.length = P.cellsOf E ∧ (∀ j (hj : j < cs.length), w.cell? (a.add (i * P.cellsOf E + j)) = some cs[j]) ∧ Rd w cs (en ys[i]) ∧ (Light P E elems[i].1 → ok ys[i])) := by
      intro m
      induction m with
      | zero => intro _; exact ⟨[], rfl, fun i hi => by simp at hi⟩
      | succ m ih =>
        intro hm'
        obtain ⟨ys, hys, hall⟩ := ih (by omega)
        obtain ⟨cs, y, g1, g2, g3, g4⟩ := key m (by omega)
        refine ⟨ys ++ [y], by simp [hys], fun i hi hi2 => ?_⟩
        by_cases him : i < ys.length
        · rw [List.getElem_append_left him]
          exact hall i him hi2
        · have : i = m := by simp at hi; omega
          subst this
          have e1 : (ys ++ [y])[i] = y := by
            rw [List.getElem_append_right (by omega)]
            simp
          rw [e1]
          exact ⟨cs, g1, g2, g3, g4⟩
    obtain ⟨ys, hys, hall⟩ := pick elems.length (Nat.le_refl _)
    refine ⟨ys, Rd.one ?_, fun hli => ?_⟩
    · have hlen' : len = ys.length := by omega
      subst hlen'
      have hml : ys.length = (ys.map en).length := by simp
      rw [hml]
      refine .sl (fun i j => (w.cell? (a.add (i * P.cellsOf E + j))).getD default) (by simpa using hl) hm (fun e he => ?_) (fun _ => ⟨a, rfl⟩) (fun a' ha' i j hi hj => ?_) (fun i j hi hj => ?_)
      · obtain ⟨y, _, rfl⟩ := List.mem_map.1 he
        exact hlen y
      · cases ha'
        obtain ⟨cs, g1, g2, _⟩ := hall i (by simpa using hi) (by simp at hi; omega)
        rw [g2 j (by omega)]
        exact ⟨trivial, rfl⟩
      · obtain ⟨cs, g1, g2, g3, _⟩ := hall i (by simpa using hi) (by simp at hi; omega)
        simp only [List.getElem_map] at hj ⊢
        have hjc : j < cs.length := by rw [g3.1]; exact hj
        rw [g2 j hjc]
        exact g3.2 j hjc hj
    · obtain ⟨w1, w2⟩ := light_slice h hli
      refine ⟨fun y hy => ?_, by simpa [hys] using w1⟩
      obtain ⟨i, hi, rfl⟩ := List.getElem_of_mem hy
      obtain ⟨_, _, _, _, h4⟩ := hall i hi (by omega)
      exact h4 (w2 _ (List.mem_map.2 ⟨_, List.getElem_mem _, rfl⟩))

theorem list4 {α : Type} {l : List α} (h : l.length = 4) : l = [l[0]'(by omega), l[1]'(by omega), l[2]'(by omega), l[3]'(by omega)] := by
  match l, h with
  | [p, q, r, s], _ => rfl

theorem RdF.struct4 {P : Program} {T A B C E : TypeId} {α β γ δ : Type} {ea : α → List D} {eb : β → List D} {ec : γ → List D} {ed : δ → List D} {oa : α → Prop} {ob : β → Prop} {oc : γ → Prop} {od : δ → Prop} {n : Nat}
    (r : RdF P A ea oa n) (s : RdF P B eb ob n) (t : RdF P C ec oc n) (u : RdF P E ed od n) {f0 f1 f2 f3 : Field} (h : P.underlying T = some (.struct #[f0, f1, f2, f3])) (hA : f0.type = A) (hB : f1.type = B) (hC : f2.type = C) (hE : f3.type = E)
    (h0 : f0.offset = 0) (h1 : f1.offset = P.cellsOf A) (h2 : f2.offset = P.cellsOf A + P.cellsOf B) (h3 : f3.offset = P.cellsOf A + P.cellsOf B + P.cellsOf C) (hc : P.cellsOf T = P.cellsOf A + P.cellsOf B + P.cellsOf C + P.cellsOf E) :
    RdF P T (fun x : α × β × γ × δ => ea x.1 ++ (eb x.2.1 ++ (ec x.2.2.1 ++ ed x.2.2.2))) (fun x => oa x.1 ∧ ob x.2.1 ∧ oc x.2.2.1 ∧ od x.2.2.2) (n + 1) := by
  constructor
  intro H e w base spare held cs x hx
  obtain ⟨xs, n', hn', rfl, hl, hxs, hat⟩ := DataW.trod_struct h hx
  obtain rfl : n' = n := by omega
  have hxs' : xs.length = 4 := hxs
  have g0 := hat 0 f0 rfl
  have g1 := hat 1 f1 rfl
  have g2 := hat 2 f2 rfl
  have g3 := hat 3 f3 rfl
  have e0 : xs[0]? = some (xs[0]'(by omega)) := List.getElem?_eq_getElem (by omega)
  have e1 : xs[1]? = some (xs[1]'(by omega)) := List.getElem?_eq_getElem (by omega)
  have e2 : xs[2]? = some (xs[2]'(by omega)) := List.getElem?_eq_getElem (by omega)
  have e3 : xs[3]? = some (xs[3]'(by omega)) := List.getElem?_eq_getElem (by omega)
  rw [e0, h0, hA] at g0
  rw [e1, h1, hB] at g1
  rw [e2, h2, hC] at g2
  rw [e3, h3, hE] at g3
  obtain ⟨y, k1, k2⟩ := r.sound e w base spare held _ _ g0
  obtain ⟨z, m1, m2⟩ := s.sound e w base spare held _ _ g1
  obtain ⟨q, p1, p2⟩ := t.sound e w base spare held _ _ g2
  obtain ⟨v, q1, q2⟩ := u.sound e w base spare held _ _ g3
  refine ⟨(y, z, q, v), ?_, fun hli => ?_⟩
  rotate_left
  · unfold Light at hli k2 m2 p2 q2
    have e2 : xs = [xs[0]'(by omega), xs[1]'(by omega), xs[2]'(by omega), xs[3]'(by omega)] := list4 hxs'
    rw [e2] at hli
    simp only [List.map_cons, List.map_nil, DataW.weights, h, DataW.weightsEach, hA, hB, hC, hE, List.all_append, Bool.and_eq_true] at hli
    exact ⟨k2 hli.1, m2 hli.2.1, p2 hli.2.2.1, q2 hli.2.2.2.1⟩
  have hcs : cs = (cs.drop 0).take (P.cellsOf A) ++ ((cs.drop (P.cellsOf A)).take (P.cellsOf B) ++ ((cs.drop (P.cellsOf A + P.cellsOf B)).take (P.cellsOf C) ++ (cs.drop (P.cellsOf A + P.cellsOf B + P.cellsOf C)).take (P.cellsOf E))) := by
    have : (cs.drop (P.cellsOf A + P.cellsOf B + P.cellsOf C)).take (P.cellsOf E) = cs.drop (P.cellsOf A + P.cellsOf B + P.cellsOf C) := List.take_of_length_le (by simp; omega)
    rw [this]
    have e3 := List.take_append_drop (P.cellsOf C) (cs.drop (P.cellsOf A + P.cellsOf B))
    have e2 := List.take_append_drop (P.cellsOf B) (cs.drop (P.cellsOf A))
    rw [List.drop_drop] at e3 e2
    rw [e3, e2, List.drop_zero, List.take_append_drop]
  rw [hcs]
  exact k1.append (m1.append (p1.append q1))

theorem by_int : Try.prog.bytesOf 3 = 8 := by kernel_rfl
theorem by_edge : Try.prog.bytesOf 81 = 24 := by kernel_rfl
theorem by_slot : Try.prog.bytesOf 87 = 32 := by kernel_rfl
theorem by_test : Try.prog.bytesOf 89 = 40 := by kernel_rfl
theorem by_cond : Try.prog.bytesOf 34 = 184 := by kernel_rfl
theorem rdInts_ok {l : List Int} (h : rdInts.ok l) : l.length ≤ bigN := by
  have h2 : l.length * Try.prog.bytesOf 3 ≤ reachBytes := h.2
  rw [by_int] at h2; unfold reachBytes at h2; rw [bigN_eq]; omega
theorem rdEdges_ok {l : List E} (h : rdEdges.ok l) : l.length ≤ bigN := by
  have h2 : l.length * Try.prog.bytesOf 81 ≤ reachBytes := h.2
  rw [by_edge] at h2; unfold reachBytes at h2; rw [bigN_eq]; omega
structure Gr.Big (g : Gr) : Prop where
  n : g.nodes.length ≤ bigN
  e : g.edges.length ≤ bigN
def rdGraphB : Rdr Try.prog 25 Gr := rdGraph0.map (fun x => ⟨x.1, x.2⟩) (fun g => [ints g.nodes, AM.edges g.edges]) Gr.Big (fun _ => rfl) (fun _ h => ⟨rdInts_ok h.1, rdEdges_ok h.2⟩) (fun _ => by kernel_rfl)
def rdMorph0 : Rdr Try.prog 28 (List Int × List Int) := Rdr.struct2 rdInts rdInts Try.underlying28 rfl rfl rfl (by kernel_rfl) (by kernel_rfl)
def rdTerm : Rdr Try.prog 85 (Int × Int) := Rdr.struct2 rdInt rdInt Try.underlying85 rfl rfl rfl (by kernel_rfl) (by kernel_rfl)
def rdSlot0 : Rdr Try.prog 87 (Int × Int × Int × Int) := Rdr.struct3 rdInt rdInt rdTerm Try.underlying87 rfl rfl rfl rfl (by kernel_rfl) (by kernel_rfl) (by kernel_rfl)
def rdSlot : Rdr Try.prog 87 Sl := rdSlot0.map (fun x => ⟨x.1, x.2.1, x.2.2.1, x.2.2.2⟩) Sl.cells (fun _ => True) (fun _ => rfl) (fun _ _ => trivial) (fun _ => by kernel_rfl)
def rdSlots : Rdr Try.prog 29 (List Sl) := rdSlot.sliceN 4 Try.underlying29 (by kernel_rfl) (by kernel_rfl)
def rdTest0 : Rdr Try.prog 89 (Int × (Int × Int) × (Int × Int)) := Rdr.struct3 rdInt rdTerm rdTerm Try.underlying89 rfl rfl rfl rfl (by kernel_rfl) (by kernel_rfl) (by kernel_rfl)
def rdTest : Rdr Try.prog 89 Te := rdTest0.map (fun x => ⟨x.1, x.2.1.1, x.2.1.2, x.2.2.1, x.2.2.2⟩) Te.cells (fun _ => True) (fun _ => rfl) (fun _ _ => trivial) (fun _ => by kernel_rfl)
def rdTests : Rdr Try.prog 30 (List Te) := rdTest.sliceN 5 Try.underlying30 (by kernel_rfl) (by kernel_rfl)
theorem rdPat_n (n : Nat) : RdF Try.prog 32 (fun x : Gr × List Sl × Int × List Te => rdGraphB.enc x.1 ++ (rdSlots.enc x.2.1 ++ (rdInt.enc x.2.2.1 ++ rdTests.enc x.2.2.2))) (fun x => rdGraphB.ok x.1 ∧ rdSlots.ok x.2.1 ∧ rdInt.ok x.2.2.1 ∧ rdTests.ok x.2.2.2) n := by
  cases n with
  | zero => exact .zero
  | succ n => exact RdF.struct4 (rdGraphB.f n) (rdSlots.f n) (rdInt.f n) (rdTests.f n) Try.underlying32 rfl rfl rfl rfl rfl (by kernel_rfl) (by kernel_rfl) (by kernel_rfl) (by kernel_rfl)
def rdPat : Rdr Try.prog 32 (Gr × List Sl × Int × List Te) := Rdr.ofF _ _ (fun x => by simp [rdGraphB.len, rdSlots.len, rdInt.len, rdTests.len]; kernel_rfl) rdPat_n

def Cd.rowD (c : Cd) : List D := [.raw (.int .i64 c.kind), conds c.kids, ints c.m.nodes, ints c.m.edges, ints c.g.nodes, AM.edges c.g.edges, slots c.sl, .raw (.int .i64 c.vars), tests c.te]
theorem rdCd_n : ∀ n, RdF Try.prog 34 Cd.cells Cd.Big n
  | 0 => .zero
  | 1 => by
    constructor
    intro H e w base spare held cs x hx
    obtain ⟨xs, n', hn', rfl, hl, hxs, hat⟩ := DataW.trod_struct Try.underlying34 hx
    obtain rfl : n' = 0 := by omega
    have g0 := hat 0 _ rfl
    simp [DataW.trod] at g0
    subst g0
    simp at hxs
  | n + 2 => by
    have ih := rdCd_n n
    have hk := ih.slice 9 (by kernel_rfl) (fun c => by rw [c.cells_eq]; rfl) (T := 26) Try.underlying26
    have hs := RdF.struct4 (rdInt.f (n + 1)) hk (rdMorph0.f (n + 1)) (rdPat.f (n + 1)) Try.underlying34 rfl rfl rfl rfl rfl (by kernel_rfl) (by kernel_rfl) (by kernel_rfl) (by kernel_rfl)
    constructor
    intro H e w base spare held cs x hx
    obtain ⟨y, h1, h2⟩ := hs.sound e w base spare held cs x hx
    refine ⟨.mk y.1 y.2.1 ⟨y.2.2.1.1, y.2.2.1.2⟩ y.2.2.2.1 y.2.2.2.2.1 y.2.2.2.2.2.1 y.2.2.2.2.2.2, ?_, fun hli => ?_⟩
    · rw [Cd.cells_eq]
      exact h1
    · obtain ⟨_, ⟨k1, k2⟩, ⟨m1, m2⟩, g1, s1, _, t1⟩ := h2 hli
      have g2 : y.2.2.2.1.Big := g1
      have s2 : y.2.2.2.2.1.length * Try.prog.bytesOf 87 ≤ reachBytes := s1.2
      have t2 : y.2.2.2.2.2.2.length * Try.prog.bytesOf 89 ≤ reachBytes := t1.2
      rw [by_slot] at s2
      rw [by_test] at t2
      rw [by_cond] at k2
      unfold reachBytes at s2 t2 k2
      exact .mk (by rw [kidN_eq]; simp only [Cd.kids]; omega) (rdInts_ok m1) (rdInts_ok m2) g2.n g2.e (by rw [bigN_eq]; simp only [Cd.sl]; omega) (by rw [bigN_eq]; simp only [Cd.te]; omega) k1
theorem rdCd_len (c : Cd) : c.cells.length = Try.prog.cellsOf 34 := by rw [c.cells_eq]; kernel_rfl
def rdCd : Rdr Try.prog 34 Cd := Rdr.ofF Cd.cells Cd.Big rdCd_len rdCd_n

set_option maxRecDepth 100000 in
theorem arg_cond {ps : Array TypeId} {args : Array Value} {W : World} {base base' : Nat} {sp : Nat → Bool} {held : Bool} {H : Type} {enc : TypeId × Value → H} (hval : ∀ (j : Nat) t v, ps[j]? = some t → args[j]? = some v → Value.okWide Try.prog W .any base t v)
    (j : Nat) (v : Value) (hp : ps[j]? = some 34) (ha : args[j]? = some v) {d : DataW H} {p : List MemPlace} (h : DataW.Trod enc Try.prog W base' sp held 34 v d p) (hli : Light Try.prog 34 d) : ∃ c : Cd, c.Big ∧ RV G0 W c.av v := by
  refine Exists.elim (arg_agg hval j 34 v hp ha rdCd aggT_34 h hli) fun c hc => ⟨c, hc.1, ?_⟩
  have h2 : RV G0 W (.agg (c.cells.map .d)) v := hc.2
  rw [c.cells_eq] at h2
  exact h2
end Go.AM
