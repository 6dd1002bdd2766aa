import Derived.Test.YtgonmjghdkoekaaFacR
namespace Go.AM
open Go Go.Proofs
set_option linter.unusedSimpArgs false
set_option linter.unusedVariables false

/-! ### ref13.quotients.edges, nodes -/
theorem partL_snoc {l : List Int} (hp : PartL l) (x : Nat) (hx : x ≤ l.length) (h : x = l.length ∨ l.getD x 0 = x) : PartL (l ++ [(x : Int)]) := by
  intro i hi
  simp only [List.length_append, List.length_cons, List.length_nil] at hi
  by_cases hil : i < l.length
  · rw [List.getElem_append_left hil]
    obtain ⟨h1, h2, h3⟩ := hp i hil
    refine ⟨h1, h2, ?_⟩
    have : l[i].toNat < l.length := by omega
    rw [List.getD_eq_getElem?_getD, List.getElem?_append_left this, ← List.getD_eq_getElem?_getD]
    exact h3
  · have hi2 : i = l.length := by omega
    subst hi2
    simp only [List.getElem_concat_length]
    refine ⟨by omega, by omega, ?_⟩
    rcases h with rfl | hx2
    · simp
    · by_cases hxl : x < l.length
      · simp only [Int.toNat_natCast]
        rw [List.getD_eq_getElem?_getD, List.getElem?_append_left hxl, ← List.getD_eq_getElem?_getD]
        exact hx2
      · have : x = l.length := by omega
        subst this
        simp

def likeE (a : Gr) (p : List Int) (i n : Nat) : Prop :=
  (a.edges.getD i default).ty = (a.edges.getD n default).ty ∧ p.getD (a.edges.getD i default).fr.toNat 0 = p.getD (a.edges.getD n default).fr.toNat 0 ∧ p.getD (a.edges.getD i default).to.toNat 0 = p.getD (a.edges.getD n default).to.toNat 0
instance (a : Gr) (p : List Int) (i n : Nat) : Decidable (likeE a p i n) := by unfold likeE; infer_instance

def quStepE (a : Gr) (p : List Int) (rec : List Int → List Qu → List Qu) (es : List Int) (out : List Qu) (n : Nat) : List Qu :=
  if n = es.length ∨ (es.getD n 0 = n ∧ likeE a p es.length n) then rec (es ++ [(n : Int)]) out else out
def quE (a : Gr) (p : List Int) : Nat → List Int → List Qu → List Qu
  | 0, es, out => if 2000 < out.length then out else out ++ [quot a p es]
  | n + 1, es, out => if 2000 < out.length then out else (List.range (es.length + 1)).foldl (quStepE a p (quE a p n) es) out

def quStepN (a : Gr) (rec : List Int → List Qu → List Qu) (l : List Int) (out : List Qu) (n : Nat) : List Qu :=
  if n = l.length ∨ (l.getD n 0 = n ∧ a.nodes.getD n 0 = a.nodes.getD l.length 0) then rec (l ++ [(n : Int)]) out else out
def quN (a : Gr) : Nat → List Int → List Qu → List Qu
  | 0, l, out => if 2000 < out.length then out else quE a l a.edges.length [] out
  | n + 1, l, out => if 2000 < out.length then out else (List.range (l.length + 1)).foldl (quStepN a (quN a n) l) out

abbrev quRow (a : Gr) (out : List Qu) (own : Own) : List AV := [.d (ints a.nodes), .d (AM.edges a.edges), .osl 4 (out.map Qu.cells) own]

def QQu (a : Gr) (box : Nat → Option (List (List AV))) (nb k : Nat) (tok : Nat → Bool) (nt : Nat) (own : Own) (out : List Qu) (v : AV) (m : AMem) : Prop :=
  v = .tup [] ∧ ∃ own' tok' nt', m = ⟨upd box k (some [quRow a out own']), nb, tok', nt'⟩ ∧ Adv tok nt own tok' nt' own'

theorem quOk {a : Gr} {out : List Qu} {own : Own} {box : Nat → Option (List (List AV))} {k base : Nat} {p q : Nat → Prop} (hq : q = fun _ => True) : ∀ k' rows, k' < base → (upd box k (some [quRow a out own])) k' = some rows → box k' = some rows ∨ ∀ r ∈ rows, ∀ x ∈ r, OkIn p q x := by
  subst hq
  intro k' rows hk' hr
  by_cases e : k' = k
  · subst e
    rw [upd_same] at hr
    cases hr
    exact .inr (by simp)
  · rw [upd_other _ _ e] at hr
    exact .inl hr

structure QuH (a : Gr) : Prop where
  n : a.nodes.length ≤ 40
  e : a.edges.length ≤ 80
  x : ∀ e ∈ a.edges, 0 ≤ e.fr ∧ e.fr < a.nodes.length ∧ 0 ≤ e.to ∧ e.to < a.nodes.length

structure AccU where
  i : Nat
  out : List Qu
  own : Own
  tok : Nat → Bool
  nt : Nat

def st87 (a : Gr) (nodes es : List Int) (nb k : Nat) (box : Nat → Option (List (List AV))) (x : AccU) : AState :=
  ⟨tl [(0, .ptr k 0 0), (1, .d (ints nodes)), (2, .d (ints es)), (6, I es.length), (7, .ptr (nb + 7) 0 0), (8, I x.i)],
    lb nb (upd box k (some [quRow a x.out x.own])) [(7, [[I (a.edges.getD es.length default).ty, I (a.edges.getD es.length default).fr, I (a.edges.getD es.length default).to]])], x.tok, x.nt⟩

theorem quEdges_c (a : Gr) (nodes : List Int) (h : QuH a) (hpn : PartL nodes) (hnl : nodes.length = a.nodes.length) : ∀ (n : Nat) (es : List Int) (out : List Qu) (own : Own) (box : Nat → Option (List (List AV))) (nb k : Nat) (tok : Nat → Bool) (nt : Nat), es.length + n = a.edges.length → PartL es →
    box k = some [quRow a out own] → own.liveP tok → ACalls Try.prog 87 [.ptr k 0 0, .d (ints nodes), .d (ints es)] ⟨box, nb, tok, nt⟩ (QQu a box nb k tok nt own (quE a nodes n es out)) := by
  intro n
  induction n with
  | zero =>
    intro es out own box nb k tok nt hes hpe hk hlive
    have hself : box = upd box k (some [quRow a out own]) := (upd_self box k _ hk).symm
    refine ACalls.of_body Try.func87 rfl (by kernel_rfl) follows_Try (by kernel_rfl) (by simp [Try.ntmps87]) ?_
    intro hbox htok
    simp only at hbox htok
    apply AL.start
    have hkn := key_lt hbox hk
    repeat (first | refine AL.seq ?_ | refine AL.block ?_ | refine AL.skip ?_ | refine AL.blk ?_)
    refine AL.region follows_Try (Nat.le_refl _) (by kernel_rfl) ?_
    simp [lb_out hkn, hk]
    repeat (first | refine AL.seq ?_ | refine AL.block ?_ | refine AL.skip ?_ | refine AL.blk ?_)
    refine AL.cond ?_
    simp
    refine ⟨fun hbig => ?_, fun hsm => ?_⟩
    · repeat (first | refine AL.seq ?_ | refine AL.block ?_ | refine AL.skip ?_ | refine AL.blk ?_)
      refine AL.ret ?_
      try simp only [AU]
      refine ⟨by simp, (Fin.own (vs := []) (av := .tup []) (by simp [resAs, resA]) hbox rfl (Nat.le_refl _) (by simp [packA])).mono fun v m hq => ⟨hq.1, own, tok, nt, ?_, Adv.refl hlive htok⟩⟩
      have hbig' : 2000 < out.length := by omega
      rw [hq.2, quE, if_pos hbig', ← hself]
    · have hsm' : ¬ 2000 < out.length := by omega
      have hes' : es.length = a.edges.length := by omega
      repeat (first | refine AL.seq ?_ | refine AL.block ?_ | refine AL.skip ?_ | refine AL.blk ?_)
      refine AL.region follows_Try (Nat.le_refl _) (by kernel_rfl) ?_
      simp [lb_out hkn, hk]
      repeat (first | refine AL.seq ?_ | refine AL.block ?_ | refine AL.skip ?_ | refine AL.blk ?_)
      refine AL.region follows_Try (Nat.le_refl _) (by kernel_rfl) ?_
      simp [lb_out hkn, hk]
      repeat (first | refine AL.seq ?_ | refine AL.block ?_ | refine AL.skip ?_ | refine AL.blk ?_)
      refine AL.cond ?_
      simp
      refine ⟨fun _ => ?_, fun hne => absurd (by omega) hne⟩
      have hbe := h.e
      have hbn := h.n
      repeat (first | refine AL.seq ?_ | refine AL.block ?_ | refine AL.skip ?_ | refine AL.blk ?_)
      refine AL.region follows_Try (Nat.le_refl _) (by kernel_rfl) ?_
      simp [lb_out hkn, hk]
      refine Stop.of_d (quotient99_c a nodes es hnl hes' (by omega) (by omega) hpn hpe h.x _ _) ?_
      simp [lb_out hkn, hk, upd_lb_out hkn]
      refine ⟨⟨by omega, hlive⟩, ?_⟩
      repeat (first | refine AL.seq ?_ | refine AL.block ?_ | refine AL.skip ?_ | refine AL.blk ?_)
      refine AL.ret ?_
      try simp only [AU]
      refine ⟨by simp, (Fin.gen (vs := []) (av := .tup []) (tok' := upd (own.kill tok) nt true) (nt' := nt + 1) (by simp [resAs, resA]) ?_ (by omega) (Nat.le_refl _) (fun t h => ⟨h, .inl rfl⟩) ?_ (by simp [packA])).mono fun v m hq => ⟨hq.1, .tok nt, upd (own.kill tok) nt true, nt + 1, ?_, Adv.app hlive htok⟩⟩
      · rw [← upd_lb_out hkn, hbox]
      · intro k' rows hk' hr
        by_cases e : k' = k
        · subst e
          rw [upd_same] at hr
          cases hr
          exact .inr (by simp)
        · rw [upd_other _ _ e] at hr
          exact .inl hr
      · rw [hq.2, quE, if_neg hsm']
        simp [quRow]
  | succ n ih =>
    intro es out own box nb k tok nt hes hpe hk hlive
    have hself : box = upd box k (some [quRow a out own]) := (upd_self box k _ hk).symm
    have hbe := h.e
    have hbn := h.n
    have hlt : es.length < a.edges.length := by omega
    obtain ⟨x1, x2, x3, x4⟩ := h.x a.edges[es.length] (List.getElem_mem hlt)
    have y1 : a.edges[es.length].fr.toNat < nodes.length := by omega
    have y2 : a.edges[es.length].to.toNat < nodes.length := by omega
    rw [← hnl] at x2 x4
    refine ACalls.of_body Try.func87 rfl (by kernel_rfl) follows_Try (by kernel_rfl) (by simp [Try.ntmps87]) ?_
    intro hbox htok
    simp only at hbox htok
    apply AL.start
    have hkn := key_lt hbox hk
    repeat (first | refine AL.seq ?_ | refine AL.block ?_ | refine AL.skip ?_ | refine AL.blk ?_)
    refine AL.region follows_Try (Nat.le_refl _) (by kernel_rfl) ?_
    simp [lb_out hkn, hk]
    repeat (first | refine AL.seq ?_ | refine AL.block ?_ | refine AL.skip ?_ | refine AL.blk ?_)
    refine AL.cond ?_
    simp
    refine ⟨fun hbig => ?_, fun hsm => ?_⟩
    · repeat (first | refine AL.seq ?_ | refine AL.block ?_ | refine AL.skip ?_ | refine AL.blk ?_)
      refine AL.ret ?_
      try simp only [AU]
      refine ⟨by simp, (Fin.own (vs := []) (av := .tup []) (by simp [resAs, resA]) hbox rfl (Nat.le_refl _) (by simp [packA])).mono fun v m hq => ⟨hq.1, own, tok, nt, ?_, Adv.refl hlive htok⟩⟩
      have hbig' : 2000 < out.length := by omega
      rw [hq.2, quE, if_pos hbig', ← hself]
    · have hsm' : ¬ 2000 < out.length := by omega
      repeat (first | refine AL.seq ?_ | refine AL.block ?_ | refine AL.skip ?_ | refine AL.blk ?_)
      refine AL.region follows_Try (Nat.le_refl _) (by kernel_rfl) ?_
      simp [lb_out hkn, hk]
      repeat (first | refine AL.seq ?_ | refine AL.block ?_ | refine AL.skip ?_ | refine AL.blk ?_)
      refine AL.region follows_Try (Nat.le_refl _) (by kernel_rfl) ?_
      simp [lb_out hkn, hk]
      repeat (first | refine AL.seq ?_ | refine AL.block ?_ | refine AL.skip ?_ | refine AL.blk ?_)
      refine AL.cond ?_
      simp
      refine ⟨fun heq => absurd heq (by omega), fun _ => ?_⟩
      repeat (first | refine AL.seq ?_ | refine AL.block ?_ | refine AL.skip ?_ | refine AL.blk ?_)
      refine AL.region follows_Try (Nat.le_refl _) (by kernel_rfl) ?_
      simp [lb_out hkn, hk, hlt]
      repeat (first | refine AL.seq ?_ | refine AL.block ?_ | refine AL.skip ?_ | refine AL.blk ?_)
      refine AL.region follows_Try (Nat.le_refl _) (by kernel_rfl) ?_
      simp [lb_out hkn, hk]
      repeat (first | refine AL.seq ?_ | refine AL.block ?_ | refine AL.skip ?_ | refine AL.blk ?_)
      have hlb : ∀ loc, lb nb box loc = lb nb (upd box k (some [quRow a out own])) loc := fun loc => by rw [← hself]
      rw [hlb]
      refine AL.loopT (st87 a nodes es nb k box) (fun x => x.i ≤ es.length + 1 ∧ x.out = (List.range x.i).foldl (quStepE a nodes (quE a nodes n) es) out ∧ Adv tok nt own x.tok x.nt x.own) (fun x => es.length + 1 - x.i)
        ⟨0, out, own, tok, nt⟩ ⟨Nat.zero_le _, rfl, Adv.refl hlive htok⟩ (Weaks.mk' (Nat.le_refl _) (by simp [ToL, lk, hlt]; exact to_ptr (by rw [lb_out hkn, upd_same]; simp)) (by simp [BoxL, lk, hlt]) (quOk rfl)) ?_
      rintro ⟨i, out2, own2, tok2, nt2⟩ S ⟨hi, hout, hadv2⟩ hS
      simp only [st87] at hS hi hout hadv2
      subst hS
      have hw : IntKind.i64.wrap (↑i + 1) = ((i + 1 : Nat) : Int) := by rw [wrap_in (by omega) (by omega)]; rfl
      repeat (first | refine AL.seq ?_ | refine AL.block ?_ | refine AL.skip ?_ | refine AL.blk ?_)
      refine AL.region follows_Try (Nat.le_refl _) (by kernel_rfl) ?_
      simp
      repeat (first | refine AL.seq ?_ | refine AL.block ?_ | refine AL.skip ?_ | refine AL.blk ?_)
      refine AL.cond ?_
      simp
      refine ⟨fun hli => ?_, fun hge => ?_⟩
      · have hia : i < a.edges.length := by omega
        have hfold : (List.range (i + 1)).foldl (quStepE a nodes (quE a nodes n) es) out = quStepE a nodes (quE a nodes n) es out2 i := by
          rw [List.range_succ, List.foldl_append, ← hout]; rfl
        obtain ⟨z1, z2, z3, z4⟩ := h.x a.edges[i] (List.getElem_mem hia)
        rw [← hnl] at z2 z4
        have w1 : a.edges[i].fr.toNat < nodes.length := by omega
        have w2 : a.edges[i].to.toNat < nodes.length := by omega
        repeat (first | refine AL.seq ?_ | refine AL.block ?_ | refine AL.skip ?_ | refine AL.blk ?_)
        refine AL.region follows_Try (Nat.le_refl _) (by kernel_rfl) ?_
        simp [lb_out hkn, upd_same, hia]
        repeat (first | refine AL.seq ?_ | refine AL.block ?_ | refine AL.skip ?_ | refine AL.blk ?_)
        refine AL.region follows_Try (Nat.le_refl _) (by kernel_rfl) ?_
        simp [lb_out hkn, upd_same]
        by_cases hie : i = es.length
        · have hb : ((i : Int) == (es.length : Int)) = true := by simp [hie]
          simp only [hb]
          simp
          repeat (first | refine AL.seq ?_ | refine AL.block ?_ | refine AL.skip ?_ | refine AL.blk ?_)
          refine AL.cond ?_
          simp
          repeat (first | refine AL.seq ?_ | refine AL.block ?_ | refine AL.skip ?_ | refine AL.blk ?_)
          refine AL.region follows_Try (Nat.le_refl _) (by kernel_rfl) ?_
          simp [lb_out hkn, upd_same]
          refine ⟨by omega, by omega, ?_⟩
          refine Stop.data ?_
          simp only [List.map, AV.asD]
          rw [rI_snoc]
          have had := Adv.fresh hadv2.live hadv2.lt
          refine Stop.of_a (ih (es ++ [(i : Int)]) out2 own2 _ _ k _ _ (by simp; omega) (partL_snoc hpe i (by omega) (.inl hie)) (by simp only [lb_out hkn, upd_same]) had.live) ?_
          rintro v m' ⟨rfl, own3, tok3, nt3, rfl, hadv⟩
          simp [upd_lb_out hkn, upd_upd]
          have had3 : Adv tok nt own tok3 nt3 own3 := hadv2.trans htok (had.trans hadv2.lt hadv)
          clear hadv had
          repeat (first | refine AL.seq ?_ | refine AL.block ?_ | refine AL.skip ?_ | refine AL.blk ?_)
          refine AL.region follows_Try (Nat.le_refl _) (by kernel_rfl) ?_
          simp [hw]
          repeat (first | refine AL.seq ?_ | refine AL.block ?_ | refine AL.skip ?_ | refine AL.blk ?_)
          refine AL.nil ?_
          refine ⟨⟨i + 1, quE a nodes n (es ++ [(i : Int)]) out2, own3, tok3, nt3⟩, ⟨by simp <;> omega, ?_, had3⟩, by simp <;> omega, Weaks.mk' had3.le (by simp [ToL, lk]; exact to_ptr (by rw [lb_out hkn, upd_same]; simp)) (by simp [BoxL, lk, hlt]) (quOk rfl)⟩
          rw [hfold, quStepE, if_pos (.inl hie)]
        · have hb : ((i : Int) == (es.length : Int)) = false := by simp; omega
          have hil : i < es.length := by omega
          have hgi : es.getD i 0 = es[i] := by simp [hil]
          simp only [hb]
          simp [lb_out hkn, upd_same, hil]
          by_cases h1 : es[i] = (i : Int)
          · have hb1 : (es[i] == (i : Int)) = true := by simp [h1]
            simp only [hb1]
            simp [lb_out hkn, upd_same, hlt]
            have hlike : likeE a nodes es.length i ↔ a.edges[es.length].ty = a.edges[i].ty ∧ nodes[a.edges[es.length].fr.toNat] = nodes[a.edges[i].fr.toNat] ∧ nodes[a.edges[es.length].to.toNat] = nodes[a.edges[i].to.toNat] := by
              simp [likeE, hlt, hia, y1, y2, w1, w2]
            by_cases h2 : a.edges[es.length].ty = a.edges[i].ty
            · have hb2 : (a.edges[es.length].ty == a.edges[i].ty) = true := by simp [h2]
              simp only [hb2]
              simp [lb_out hkn, upd_same, hlt, x1, x2, x3, x4, y1, y2, z1, z2, z3, z4, w1, w2]
              by_cases h3 : nodes[a.edges[es.length].fr.toNat] = nodes[a.edges[i].fr.toNat]
              · have hb3 : (nodes[a.edges[es.length].fr.toNat] == nodes[a.edges[i].fr.toNat]) = true := by simp [h3]
                simp only [hb3]
                simp [lb_out hkn, upd_same, hlt, x1, x2, x3, x4, y1, y2, z1, z2, z3, z4, w1, w2]
                repeat (first | refine AL.seq ?_ | refine AL.block ?_ | refine AL.skip ?_ | refine AL.blk ?_)
                refine AL.cond ?_
                simp
                refine ⟨fun h4 => ?_, fun h4 => ?_⟩
                · repeat (first | refine AL.seq ?_ | refine AL.block ?_ | refine AL.skip ?_ | refine AL.blk ?_)
                  refine AL.region follows_Try (Nat.le_refl _) (by kernel_rfl) ?_
                  simp [lb_out hkn, upd_same]
                  refine ⟨by omega, by omega, ?_⟩
                  refine Stop.data ?_
                  simp only [List.map, AV.asD]
                  rw [rI_snoc]
                  have had := Adv.fresh hadv2.live hadv2.lt
                  refine Stop.of_a (ih (es ++ [(i : Int)]) out2 own2 _ _ k _ _ (by simp; omega) (partL_snoc hpe i (by omega) (.inr (by rw [hgi, h1]))) (by simp only [lb_out hkn, upd_same]) had.live) ?_
                  rintro v m' ⟨rfl, own3, tok3, nt3, rfl, hadv⟩
                  simp [upd_lb_out hkn, upd_upd]
                  have had3 : Adv tok nt own tok3 nt3 own3 := hadv2.trans htok (had.trans hadv2.lt hadv)
                  clear hadv had
                  repeat (first | refine AL.seq ?_ | refine AL.block ?_ | refine AL.skip ?_ | refine AL.blk ?_)
                  refine AL.region follows_Try (Nat.le_refl _) (by kernel_rfl) ?_
                  simp [hw]
                  repeat (first | refine AL.seq ?_ | refine AL.block ?_ | refine AL.skip ?_ | refine AL.blk ?_)
                  refine AL.nil ?_
                  refine ⟨⟨i + 1, quE a nodes n (es ++ [(i : Int)]) out2, own3, tok3, nt3⟩, ⟨by simp <;> omega, ?_, had3⟩, by simp <;> omega, Weaks.mk' had3.le (by simp [ToL, lk]; exact to_ptr (by rw [lb_out hkn, upd_same]; simp)) (by simp [BoxL, lk, hlt]) (quOk rfl)⟩
                  rw [hfold, quStepE, if_pos (.inr ⟨by rw [hgi, h1], hlike.2 ⟨h2, h3, h4⟩⟩)]
                · repeat (first | refine AL.seq ?_ | refine AL.block ?_ | refine AL.skip ?_ | refine AL.blk ?_)
                  refine AL.region follows_Try (Nat.le_refl _) (by kernel_rfl) ?_
                  simp [hw]
                  repeat (first | refine AL.seq ?_ | refine AL.block ?_ | refine AL.skip ?_ | refine AL.blk ?_)
                  refine AL.nil ?_
                  refine ⟨⟨i + 1, out2, own2, tok2, nt2⟩, ⟨by simp <;> omega, ?_, hadv2⟩, by simp <;> omega, Weaks.mk' hadv2.le (by simp [ToL, lk]; exact to_ptr (by rw [lb_out hkn, upd_same]; simp)) (by simp [BoxL, lk, hlt]) (quOk rfl)⟩
                  rw [hfold, quStepE, if_neg (by rintro (e | ⟨_, e⟩); exact hie e; exact h4 (hlike.1 e).2.2)]
              · have hb3 : (nodes[a.edges[es.length].fr.toNat] == nodes[a.edges[i].fr.toNat]) = false := by simp [h3]
                simp only [hb3]
                simp
                repeat (first | refine AL.seq ?_ | refine AL.block ?_ | refine AL.skip ?_ | refine AL.blk ?_)
                refine AL.cond ?_
                simp
                repeat (first | refine AL.seq ?_ | refine AL.block ?_ | refine AL.skip ?_ | refine AL.blk ?_)
                refine AL.region follows_Try (Nat.le_refl _) (by kernel_rfl) ?_
                simp [hw]
                repeat (first | refine AL.seq ?_ | refine AL.block ?_ | refine AL.skip ?_ | refine AL.blk ?_)
                refine AL.nil ?_
                refine ⟨⟨i + 1, out2, own2, tok2, nt2⟩, ⟨by simp <;> omega, ?_, hadv2⟩, by simp <;> omega, Weaks.mk' hadv2.le (by simp [ToL, lk]; exact to_ptr (by rw [lb_out hkn, upd_same]; simp)) (by simp [BoxL, lk, hlt]) (quOk rfl)⟩
                rw [hfold, quStepE, if_neg (by rintro (e | ⟨_, e⟩); exact hie e; exact h3 (hlike.1 e).2.1)]
            · have hb2 : (a.edges[es.length].ty == a.edges[i].ty) = false := by simp [h2]
              simp only [hb2]
              simp
              repeat (first | refine AL.seq ?_ | refine AL.block ?_ | refine AL.skip ?_ | refine AL.blk ?_)
              refine AL.cond ?_
              simp
              repeat (first | refine AL.seq ?_ | refine AL.block ?_ | refine AL.skip ?_ | refine AL.blk ?_)
              refine AL.region follows_Try (Nat.le_refl _) (by kernel_rfl) ?_
              simp [hw]
              repeat (first | refine AL.seq ?_ | refine AL.block ?_ | refine AL.skip ?_ | refine AL.blk ?_)
              refine AL.nil ?_
              refine ⟨⟨i + 1, out2, own2, tok2, nt2⟩, ⟨by simp <;> omega, ?_, hadv2⟩, by simp <;> omega, Weaks.mk' hadv2.le (by simp [ToL, lk]; exact to_ptr (by rw [lb_out hkn, upd_same]; simp)) (by simp [BoxL, lk, hlt]) (quOk rfl)⟩
              rw [hfold, quStepE, if_neg (by rintro (e | ⟨_, e⟩); exact hie e; exact h2 (hlike.1 e).1)]
          · have hb1 : (es[i] == (i : Int)) = false := by simp [h1]
            simp only [hb1]
            simp
            repeat (first | refine AL.seq ?_ | refine AL.block ?_ | refine AL.skip ?_ | refine AL.blk ?_)
            refine AL.cond ?_
            simp
            repeat (first | refine AL.seq ?_ | refine AL.block ?_ | refine AL.skip ?_ | refine AL.blk ?_)
            refine AL.region follows_Try (Nat.le_refl _) (by kernel_rfl) ?_
            simp [hw]
            repeat (first | refine AL.seq ?_ | refine AL.block ?_ | refine AL.skip ?_ | refine AL.blk ?_)
            refine AL.nil ?_
            refine ⟨⟨i + 1, out2, own2, tok2, nt2⟩, ⟨by simp <;> omega, ?_, hadv2⟩, by simp <;> omega, Weaks.mk' hadv2.le (by simp [ToL, lk]; exact to_ptr (by rw [lb_out hkn, upd_same]; simp)) (by simp [BoxL, lk, hlt]) (quOk rfl)⟩
            rw [hfold, quStepE, if_neg (by rw [hgi]; rintro (e | ⟨e, _⟩); exact hie e; exact h1 e)]
      · repeat (first | refine AL.seq ?_ | refine AL.block ?_ | refine AL.skip ?_ | refine AL.blk ?_)
        refine AL.exit ?_
        simp only [AU, ↓reduceIte]
        have hin : i = es.length + 1 := by omega
        subst hin
        repeat (first | refine AL.seq ?_ | refine AL.block ?_ | refine AL.skip ?_ | refine AL.blk ?_)
        refine AL.nil ?_
        refine ⟨by simp, (Fin.gen (vs := []) (av := .tup []) (tok' := tok2) (nt' := nt2) (by simp [resAs, resA]) ?_ hadv2.le (Nat.le_refl _) (fun t h => ⟨h, .inl rfl⟩) (quOk (by simp)) (by simp [packA])).mono fun v m hq => ⟨hq.1, own2, tok2, nt2, ?_, hadv2⟩⟩
        · rw [← upd_lb_out hkn, hbox]
        · rw [hq.2, quE, if_neg hsm', hout]
end Go.AM
