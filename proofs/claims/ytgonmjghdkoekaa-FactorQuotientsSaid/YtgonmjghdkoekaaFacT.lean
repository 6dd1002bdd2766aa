import Derived.Test.YtgonmjghdkoekaaFacS
namespace Go.AM
open Go Go.Proofs
set_option linter.unusedSimpArgs false
set_option linter.unusedVariables false

/-! ### ref13.quotients.nodes, Quotients -/
def st50 (a : Gr) (l : List Int) (nb k : Nat) (box : Nat → Option (List (List AV))) (x : AccU) : AState :=
  ⟨tl [(0, .ptr k 0 0), (1, .d (ints l)), (4, I l.length), (5, I x.i)],
    lb nb (upd box k (some [quRow a x.out x.own])) [], x.tok, x.nt⟩

theorem quNodes_c (a : Gr) (h : QuH a) : ∀ (n : Nat) (l : List Int) (out : List Qu) (own : Own) (box : Nat → Option (List (List AV))) (nb k : Nat) (tok : Nat → Bool) (nt : Nat), l.length + n = a.nodes.length → PartL l →
    box k = some [quRow a out own] → own.liveP tok → ACalls Try.prog 50 [.ptr k 0 0, .d (ints l)] ⟨box, nb, tok, nt⟩ (QQu a box nb k tok nt own (quN a n l out)) := by
  intro n
  induction n with
  | zero =>
    intro l out own box nb k tok nt hl hpl hk hlive
    have hself : box = upd box k (some [quRow a out own]) := (upd_self box k _ hk).symm
    refine ACalls.of_body Try.func50 rfl (by kernel_rfl) follows_Try (by kernel_rfl) (by simp [Try.ntmps50]) ?_
    intro hbox htok
    simp only at hbox htok
    apply AL.start
    have hkn := key_lt hbox hk
    repeat (first | refine AL.seq ?_ | refine AL.block ?_ | refine AL.skip ?_ | refine AL.blk ?_)
    refine AL.region follows_Try (Nat.le_refl _) (by kernel_rfl) ?_
    simp [lb_out hkn, hk]
    repeat (first | refine AL.seq ?_ | refine AL.block ?_ | refine AL.skip ?_ | refine AL.blk ?_)
    refine AL.cond ?_
    simp
    refine ⟨fun hbig => ?_, fun hsm => ?_⟩
    · repeat (first | refine AL.seq ?_ | refine AL.block ?_ | refine AL.skip ?_ | refine AL.blk ?_)
      refine AL.ret ?_
      try simp only [AU]
      refine ⟨by simp, (Fin.own (vs := []) (av := .tup []) (by simp [resAs, resA]) hbox rfl (Nat.le_refl _) (by simp [packA])).mono fun v m hq => ⟨hq.1, own, tok, nt, ?_, Adv.refl hlive htok⟩⟩
      have hbig' : 2000 < out.length := by omega
      rw [hq.2, quN, if_pos hbig', ← hself]
    · have hsm' : ¬ 2000 < out.length := by omega
      have hl' : l.length = a.nodes.length := by omega
      repeat (first | refine AL.seq ?_ | refine AL.block ?_ | refine AL.skip ?_ | refine AL.blk ?_)
      refine AL.region follows_Try (Nat.le_refl _) (by kernel_rfl) ?_
      simp [lb_out hkn, hk]
      repeat (first | refine AL.seq ?_ | refine AL.block ?_ | refine AL.skip ?_ | refine AL.blk ?_)
      refine AL.region follows_Try (Nat.le_refl _) (by kernel_rfl) ?_
      simp [lb_out hkn, hk]
      repeat (first | refine AL.seq ?_ | refine AL.block ?_ | refine AL.skip ?_ | refine AL.blk ?_)
      refine AL.cond ?_
      simp
      refine ⟨fun _ => ?_, fun hne => absurd (by omega) hne⟩
      repeat (first | refine AL.seq ?_ | refine AL.block ?_ | refine AL.skip ?_ | refine AL.blk ?_)
      refine AL.region follows_Try (Nat.le_refl _) (by kernel_rfl) ?_
      simp [lb_out hkn, hk]
      refine Stop.sub (args' := [.ptr k 0 0, .d (ints l), .d (ints [])]) ⟨Sub.refl _, Sub.refl _, Sub.nil _ _ _, trivial⟩ ?_
      refine Stop.of_a (quEdges_c a l h hpl hl' a.edges.length [] out own _ _ k _ _ (by simp) (fun i hi => by simp at hi) (by simp only [lb_out hkn, hk]) hlive) ?_
      rintro v m' ⟨rfl, own1, tok1, nt1, rfl, hadv⟩
      simp [upd_lb_out hkn]
      repeat (first | refine AL.seq ?_ | refine AL.block ?_ | refine AL.skip ?_ | refine AL.blk ?_)
      refine AL.ret ?_
      try simp only [AU]
      refine ⟨by simp, (Fin.gen (vs := []) (av := .tup []) (tok' := tok1) (nt' := nt1) (by simp [resAs, resA]) ?_ hadv.le (Nat.le_refl _) (fun t h => ⟨h, .inl rfl⟩) (quOk (by simp)) (by simp [packA])).mono fun v m hq => ⟨hq.1, own1, tok1, nt1, ?_, hadv⟩⟩
      · rw [← upd_lb_out hkn, hbox]
      · rw [hq.2, quN, if_neg hsm']
  | succ n ih =>
    intro l out own box nb k tok nt hl hpl hk hlive
    have hself : box = upd box k (some [quRow a out own]) := (upd_self box k _ hk).symm
    have hbn := h.n
    have hlt : l.length < a.nodes.length := by omega
    refine ACalls.of_body Try.func50 rfl (by kernel_rfl) follows_Try (by kernel_rfl) (by simp [Try.ntmps50]) ?_
    intro hbox htok
    simp only at hbox htok
    apply AL.start
    have hkn := key_lt hbox hk
    repeat (first | refine AL.seq ?_ | refine AL.block ?_ | refine AL.skip ?_ | refine AL.blk ?_)
    refine AL.region follows_Try (Nat.le_refl _) (by kernel_rfl) ?_
    simp [lb_out hkn, hk]
    repeat (first | refine AL.seq ?_ | refine AL.block ?_ | refine AL.skip ?_ | refine AL.blk ?_)
    refine AL.cond ?_
    simp
    refine ⟨fun hbig => ?_, fun hsm => ?_⟩
    · repeat (first | refine AL.seq ?_ | refine AL.block ?_ | refine AL.skip ?_ | refine AL.blk ?_)
      refine AL.ret ?_
      try simp only [AU]
      refine ⟨by simp, (Fin.own (vs := []) (av := .tup []) (by simp [resAs, resA]) hbox rfl (Nat.le_refl _) (by simp [packA])).mono fun v m hq => ⟨hq.1, own, tok, nt, ?_, Adv.refl hlive htok⟩⟩
      have hbig' : 2000 < out.length := by omega
      rw [hq.2, quN, if_pos hbig', ← hself]
    · have hsm' : ¬ 2000 < out.length := by omega
      repeat (first | refine AL.seq ?_ | refine AL.block ?_ | refine AL.skip ?_ | refine AL.blk ?_)
      refine AL.region follows_Try (Nat.le_refl _) (by kernel_rfl) ?_
      simp [lb_out hkn, hk]
      repeat (first | refine AL.seq ?_ | refine AL.block ?_ | refine AL.skip ?_ | refine AL.blk ?_)
      refine AL.region follows_Try (Nat.le_refl _) (by kernel_rfl) ?_
      simp [lb_out hkn, hk]
      repeat (first | refine AL.seq ?_ | refine AL.block ?_ | refine AL.skip ?_ | refine AL.blk ?_)
      refine AL.cond ?_
      simp
      refine ⟨fun heq => absurd heq (by omega), fun _ => ?_⟩
      repeat (first | refine AL.seq ?_ | refine AL.block ?_ | refine AL.skip ?_ | refine AL.blk ?_)
      refine AL.region follows_Try (Nat.le_refl _) (by kernel_rfl) ?_
      simp
      repeat (first | refine AL.seq ?_ | refine AL.block ?_ | refine AL.skip ?_ | refine AL.blk ?_)
      have hlb : ∀ loc, lb nb box loc = lb nb (upd box k (some [quRow a out own])) loc := fun loc => by rw [← hself]
      rw [hlb]
      refine AL.loopT (st50 a l nb k box) (fun x => x.i ≤ l.length + 1 ∧ x.out = (List.range x.i).foldl (quStepN a (quN a n) l) out ∧ Adv tok nt own x.tok x.nt x.own) (fun x => l.length + 1 - x.i)
        ⟨0, out, own, tok, nt⟩ ⟨Nat.zero_le _, rfl, Adv.refl hlive htok⟩ (Weaks.mk' (Nat.le_refl _) (by simp [ToL, lk, hlt]; exact to_ptr (by rw [lb_out hkn, upd_same]; simp)) (by simp [BoxL, lk, hlt]) (quOk rfl)) ?_
      rintro ⟨i, out2, own2, tok2, nt2⟩ S ⟨hi, hout, hadv2⟩ hS
      simp only [st50] at hS hi hout hadv2
      subst hS
      have hw : IntKind.i64.wrap (↑i + 1) = ((i + 1 : Nat) : Int) := by rw [wrap_in (by omega) (by omega)]; rfl
      repeat (first | refine AL.seq ?_ | refine AL.block ?_ | refine AL.skip ?_ | refine AL.blk ?_)
      refine AL.region follows_Try (Nat.le_refl _) (by kernel_rfl) ?_
      simp
      repeat (first | refine AL.seq ?_ | refine AL.block ?_ | refine AL.skip ?_ | refine AL.blk ?_)
      refine AL.cond ?_
      simp
      refine ⟨fun hli => ?_, fun hge => ?_⟩
      · have hia : i < a.nodes.length := by omega
        have hfold : (List.range (i + 1)).foldl (quStepN a (quN a n) l) out = quStepN a (quN a n) l out2 i := by
          rw [List.range_succ, List.foldl_append, ← hout]; rfl
        have hai : a.nodes.getD i 0 = a.nodes[i] := by simp [hia]
        have hal : a.nodes.getD l.length 0 = a.nodes[l.length] := by simp [hlt]
        repeat (first | refine AL.seq ?_ | refine AL.block ?_ | refine AL.skip ?_ | refine AL.blk ?_)
        refine AL.region follows_Try (Nat.le_refl _) (by kernel_rfl) ?_
        simp [lb_out hkn, upd_same, hia]
        by_cases hie : i = l.length
        · have hb : ((i : Int) == (l.length : Int)) = true := by simp [hie]
          simp only [hb]
          simp
          repeat (first | refine AL.seq ?_ | refine AL.block ?_ | refine AL.skip ?_ | refine AL.blk ?_)
          refine AL.cond ?_
          simp
          repeat (first | refine AL.seq ?_ | refine AL.block ?_ | refine AL.skip ?_ | refine AL.blk ?_)
          refine AL.region follows_Try (Nat.le_refl _) (by kernel_rfl) ?_
          simp [lb_out hkn, upd_same]
          refine ⟨by omega, by omega, ?_⟩
          refine Stop.data ?_
          simp only [List.map, AV.asD]
          rw [rI_snoc]
          have had := Adv.fresh hadv2.live hadv2.lt
          refine Stop.of_a (ih (l ++ [(i : Int)]) out2 own2 _ _ k _ _ (by simp; omega) (partL_snoc hpl i (by omega) (.inl hie)) (by simp only [lb_out hkn, upd_same]) had.live) ?_
          rintro v m' ⟨rfl, own3, tok3, nt3, rfl, hadv⟩
          simp [upd_lb_out hkn, upd_upd]
          have had3 : Adv tok nt own tok3 nt3 own3 := hadv2.trans htok (had.trans hadv2.lt hadv)
          clear hadv had
          repeat (first | refine AL.seq ?_ | refine AL.block ?_ | refine AL.skip ?_ | refine AL.blk ?_)
          refine AL.region follows_Try (Nat.le_refl _) (by kernel_rfl) ?_
          simp [hw]
          repeat (first | refine AL.seq ?_ | refine AL.block ?_ | refine AL.skip ?_ | refine AL.blk ?_)
          refine AL.nil ?_
          refine ⟨⟨i + 1, quN a n (l ++ [(i : Int)]) out2, own3, tok3, nt3⟩, ⟨by simp <;> omega, ?_, had3⟩, by simp <;> omega, Weaks.mk' had3.le (by simp [ToL, lk]; exact to_ptr (by rw [lb_out hkn, upd_same]; simp)) (by simp [BoxL, lk]) (quOk rfl)⟩
          rw [hfold, quStepN, if_pos (.inl hie)]
        · have hb : ((i : Int) == (l.length : Int)) = false := by simp; omega
          have hil : i < l.length := by omega
          have hgi : l.getD i 0 = l[i] := by simp [hil]
          simp only [hb]
          simp [lb_out hkn, upd_same, hil]
          by_cases h1 : l[i] = (i : Int)
          · have hb1 : (l[i] == (i : Int)) = true := by simp [h1]
            simp only [hb1]
            simp [lb_out hkn, upd_same, hlt, hia]
            repeat (first | refine AL.seq ?_ | refine AL.block ?_ | refine AL.skip ?_ | refine AL.blk ?_)
            refine AL.cond ?_
            simp
            refine ⟨fun h4 => ?_, fun h4 => ?_⟩
            · repeat (first | refine AL.seq ?_ | refine AL.block ?_ | refine AL.skip ?_ | refine AL.blk ?_)
              refine AL.region follows_Try (Nat.le_refl _) (by kernel_rfl) ?_
              simp [lb_out hkn, upd_same]
              refine ⟨by omega, by omega, ?_⟩
              refine Stop.data ?_
              simp only [List.map, AV.asD]
              rw [rI_snoc]
              have had := Adv.fresh hadv2.live hadv2.lt
              refine Stop.of_a (ih (l ++ [(i : Int)]) out2 own2 _ _ k _ _ (by simp; omega) (partL_snoc hpl i (by omega) (.inr (by rw [hgi, h1]))) (by simp only [lb_out hkn, upd_same]) had.live) ?_
              rintro v m' ⟨rfl, own3, tok3, nt3, rfl, hadv⟩
              simp [upd_lb_out hkn, upd_upd]
              have had3 : Adv tok nt own tok3 nt3 own3 := hadv2.trans htok (had.trans hadv2.lt hadv)
              clear hadv had
              repeat (first | refine AL.seq ?_ | refine AL.block ?_ | refine AL.skip ?_ | refine AL.blk ?_)
              refine AL.region follows_Try (Nat.le_refl _) (by kernel_rfl) ?_
              simp [hw]
              repeat (first | refine AL.seq ?_ | refine AL.block ?_ | refine AL.skip ?_ | refine AL.blk ?_)
              refine AL.nil ?_
              refine ⟨⟨i + 1, quN a n (l ++ [(i : Int)]) out2, own3, tok3, nt3⟩, ⟨by simp <;> omega, ?_, had3⟩, by simp <;> omega, Weaks.mk' had3.le (by simp [ToL, lk]; exact to_ptr (by rw [lb_out hkn, upd_same]; simp)) (by simp [BoxL, lk]) (quOk rfl)⟩
              rw [hfold, quStepN, if_pos (.inr ⟨by rw [hgi, h1], by rw [hai, hal, h4]⟩)]
            · repeat (first | refine AL.seq ?_ | refine AL.block ?_ | refine AL.skip ?_ | refine AL.blk ?_)
              refine AL.region follows_Try (Nat.le_refl _) (by kernel_rfl) ?_
              simp [hw]
              repeat (first | refine AL.seq ?_ | refine AL.block ?_ | refine AL.skip ?_ | refine AL.blk ?_)
              refine AL.nil ?_
              refine ⟨⟨i + 1, out2, own2, tok2, nt2⟩, ⟨by simp <;> omega, ?_, hadv2⟩, by simp <;> omega, Weaks.mk' hadv2.le (by simp [ToL, lk]; exact to_ptr (by rw [lb_out hkn, upd_same]; simp)) (by simp [BoxL, lk]) (quOk rfl)⟩
              rw [hfold, quStepN, if_neg (by rintro (e | e); exact hie e; exact h4 (by rw [← hai, ← hal, e.2]))]
          · have hb1 : (l[i] == (i : Int)) = false := by simp [h1]
            simp only [hb1]
            simp
            repeat (first | refine AL.seq ?_ | refine AL.block ?_ | refine AL.skip ?_ | refine AL.blk ?_)
            refine AL.cond ?_
            simp
            repeat (first | refine AL.seq ?_ | refine AL.block ?_ | refine AL.skip ?_ | refine AL.blk ?_)
            refine AL.region follows_Try (Nat.le_refl _) (by kernel_rfl) ?_
            simp [hw]
            repeat (first | refine AL.seq ?_ | refine AL.block ?_ | refine AL.skip ?_ | refine AL.blk ?_)
            refine AL.nil ?_
            refine ⟨⟨i + 1, out2, own2, tok2, nt2⟩, ⟨by simp <;> omega, ?_, hadv2⟩, by simp <;> omega, Weaks.mk' hadv2.le (by simp [ToL, lk]; exact to_ptr (by rw [lb_out hkn, upd_same]; simp)) (by simp [BoxL, lk]) (quOk rfl)⟩
            rw [hfold, quStepN, if_neg (by rintro (e | e); exact hie e; exact h1 (by rw [← hgi, e.1]))]
      · repeat (first | refine AL.seq ?_ | refine AL.block ?_ | refine AL.skip ?_ | refine AL.blk ?_)
        refine AL.exit ?_
        simp only [AU, ↓reduceIte]
        have hin : i = l.length + 1 := by omega
        subst hin
        repeat (first | refine AL.seq ?_ | refine AL.block ?_ | refine AL.skip ?_ | refine AL.blk ?_)
        refine AL.nil ?_
        refine ⟨by simp, (Fin.gen (vs := []) (av := .tup []) (tok' := tok2) (nt' := nt2) (by simp [resAs, resA]) ?_ hadv2.le (Nat.le_refl _) (fun t h => ⟨h, .inl rfl⟩) (quOk (by simp)) (by simp [packA])).mono fun v m hq => ⟨hq.1, own2, tok2, nt2, ?_, hadv2⟩⟩
        · rw [← upd_lb_out hkn, hbox]
        · rw [hq.2, quN, if_neg hsm', hout]

def quotientsR (a : Gr) : List Qu × Int :=
  if validG a ≠ 0 then ([], validG a) else if 6 < a.nodes.length ∨ 6 < a.edges.length then ([], 3)
  else if 2000 < (quN a a.nodes.length [] []).length then ([], 3) else (quN a a.nodes.length [] [], 0)

theorem quotients13_c (a : Gr) (ha : a.Fit) (tok : Nat → Bool) (nt : Nat) : DCall Try.prog 19 [a.av] tok nt (.tup [.d (qus (quotientsR a).1), I (quotientsR a).2]) tok nt := by
  intro box nb
  have han := ha.n
  have hae := ha.e
  have main : ACalls Try.prog 19 [a.av] ⟨box, nb, tok, nt⟩ fun v m => (v = .tup [.d (qus (quotientsR a).1), I (quotientsR a).2] ∨ (quotientsR a).1 = [] ∧ v = .tup [.osl 0 [] .full, I (quotientsR a).2]) ∧ m = ⟨box, nb, tok, nt⟩ := by
    refine ACalls.of_body Try.func19 rfl (by kernel_rfl) follows_Try (by kernel_rfl) (by simp [Try.ntmps19]) ?_
    intro hbox htok
    simp only at hbox htok
    apply AL.start
    repeat (first | refine AL.seq ?_ | refine AL.block ?_ | refine AL.skip ?_ | refine AL.blk ?_)
    refine AL.region follows_Try (Nat.le_refl _) (by kernel_rfl) ?_
    simp
    repeat (first | refine AL.seq ?_ | refine AL.block ?_ | refine AL.skip ?_ | refine AL.blk ?_)
    refine AL.region follows_Try (Nat.le_refl _) (by kernel_rfl) ?_
    simp
    refine Stop.of_d (valid05_c a ha _ _) ?_
    simp
    by_cases hva : validG a = 0
    · repeat (first | refine AL.seq ?_ | refine AL.block ?_ | refine AL.skip ?_ | refine AL.blk ?_)
      refine AL.region follows_Try (Nat.le_refl _) (by kernel_rfl) ?_
      simp [hva]
      repeat (first | refine AL.seq ?_ | refine AL.block ?_ | refine AL.skip ?_ | refine AL.blk ?_)
      refine AL.cond ?_
      simp
      have big : (6 < a.nodes.length ∨ 6 < a.edges.length) → quotientsR a = ([], 3) := fun hbig => by simp [quotientsR, hva, hbig]
      repeat (first | refine AL.seq ?_ | refine AL.block ?_ | refine AL.skip ?_ | refine AL.blk ?_)
      refine AL.region follows_Try (Nat.le_refl _) (by kernel_rfl) ?_
      simp
      first | refine Gd.dt (fun hs1 => ?_) (fun hs1 => ?_) | refine Gd.df (fun hs1 => ?_) (fun hs1 => ?_) | refine Gd.t (fun hs1 => ?_) (fun hs1 => ?_) | refine Gd.f (fun hs1 => ?_) (fun hs1 => ?_)
      · simp [hs1]
        repeat (first | refine AL.seq ?_ | refine AL.block ?_ | refine AL.skip ?_ | refine AL.blk ?_)
        refine AL.cond ?_
        simp
        repeat (first | refine AL.seq ?_ | refine AL.block ?_ | refine AL.skip ?_ | refine AL.blk ?_)
        refine AL.region follows_Try (Nat.le_refl _) (by kernel_rfl) ?_
        simp
        have hR := big (by omega)
        repeat (first | refine AL.seq ?_ | refine AL.block ?_ | refine AL.skip ?_ | refine AL.blk ?_)
        refine AL.ret ?_
        try simp only [AU]
        refine ⟨by simp, (Fin.data (av := .tup [.osl 0 [] .full, I 3]) (by simp [resAs, resA]; rfl) hbox rfl htok (fun _ h => h) (Nat.le_refl _) (by simp [packA])).mono fun v m hq => ⟨.inr ⟨by rw [hR], by rw [hR, hq.1]⟩, hq.2⟩⟩
      · simp [hs1]
        repeat (first | refine AL.seq ?_ | refine AL.block ?_ | refine AL.skip ?_ | refine AL.blk ?_)
        refine AL.cond ?_
        simp
        refine ⟨fun hs2 => ?_, fun hs2 => ?_⟩
        · repeat (first | refine AL.seq ?_ | refine AL.block ?_ | refine AL.skip ?_ | refine AL.blk ?_)
          refine AL.region follows_Try (Nat.le_refl _) (by kernel_rfl) ?_
          simp
          have hR := big (by omega)
          repeat (first | refine AL.seq ?_ | refine AL.block ?_ | refine AL.skip ?_ | refine AL.blk ?_)
          refine AL.ret ?_
          try simp only [AU]
          refine ⟨by simp, (Fin.data (av := .tup [.osl 0 [] .full, I 3]) (by simp [resAs, resA]; rfl) hbox rfl htok (fun _ h => h) (Nat.le_refl _) (by simp [packA])).mono fun v m hq => ⟨.inr ⟨by rw [hR], by rw [hR, hq.1]⟩, hq.2⟩⟩
        · have hsm : ¬ (6 < a.nodes.length ∨ 6 < a.edges.length) := by omega
          repeat (first | refine AL.seq ?_ | refine AL.block ?_ | refine AL.skip ?_ | refine AL.blk ?_)
          refine AL.region follows_Try (Nat.le_refl _) (by kernel_rfl) ?_
          simp
          have hq : QuH a := ⟨by omega, by omega, validG_edges hva⟩
          refine AL.weak (Weaks.mk (l' := [(5, .ptr (nb + 23) 0 0)]) (loc' := [(23, [quRow a [] .full])]) (Nat.le_refl _) rfl (by simp [ToL, lk]) (by simp [BoxL, lk])) ?_
          repeat (first | refine AL.seq ?_ | refine AL.block ?_ | refine AL.skip ?_ | refine AL.blk ?_)
          refine AL.region follows_Try (Nat.le_refl _) (by kernel_rfl) ?_
          simp
          refine Stop.sub (args' := [.ptr (nb + 23) 0 0, .d (ints [])]) ⟨Sub.refl _, Sub.nil _ _ _, trivial⟩ ?_
          refine Stop.of_a (quNodes_c a hq a.nodes.length [] [] .full _ _ (nb + 23) _ _ (by simp) (fun i hi => by simp at hi) (by simp) trivial) ?_
          rintro v m' ⟨rfl, own1, tok1, nt1, rfl, hadv⟩
          simp
          repeat (first | refine AL.seq ?_ | refine AL.block ?_ | refine AL.skip ?_ | refine AL.blk ?_)
          refine AL.region follows_Try (Nat.le_refl _) (by kernel_rfl) ?_
          simp
          repeat (first | refine AL.seq ?_ | refine AL.block ?_ | refine AL.skip ?_ | refine AL.blk ?_)
          refine AL.cond ?_
          simp
          have hkeep : ∀ t, tok t = true → tok1 t = true := fun t ht => hadv.keep t ht (by simp)
          refine ⟨fun hmany => ?_, fun hfew => ?_⟩
          · have hR : quotientsR a = ([], 3) := by
              have : 2000 < (quN a a.nodes.length [] []).length := by omega
              simp [quotientsR, hva, hsm, this]
            repeat (first | refine AL.seq ?_ | refine AL.block ?_ | refine AL.skip ?_ | refine AL.blk ?_)
            refine AL.region follows_Try (Nat.le_refl _) (by kernel_rfl) ?_
            simp
            repeat (first | refine AL.seq ?_ | refine AL.block ?_ | refine AL.skip ?_ | refine AL.blk ?_)
            refine AL.ret ?_
            try simp only [AU]
            exact ⟨by simp, (Fin.data (av := .tup [.osl 0 [] .full, I 3]) (by simp [resAs, resA]; rfl) hbox rfl htok hkeep hadv.le (by simp [packA])).mono fun v m hq => ⟨.inr ⟨by rw [hR], by rw [hR, hq.1]⟩, hq.2⟩⟩
          · have hR : quotientsR a = (quN a a.nodes.length [] [], 0) := by
              have : ¬ 2000 < (quN a a.nodes.length [] []).length := by omega
              simp [quotientsR, hva, hsm, this]
            repeat (first | refine AL.seq ?_ | refine AL.block ?_ | refine AL.skip ?_ | refine AL.blk ?_)
            refine AL.region follows_Try (Nat.le_refl _) (by kernel_rfl) ?_
            simp
            repeat (first | refine AL.seq ?_ | refine AL.block ?_ | refine AL.skip ?_ | refine AL.blk ?_)
            refine AL.ret ?_
            try simp only [AU]
            exact ⟨by simp, (Fin.data (av := .tup [.d (qus (quN a a.nodes.length [] [])), I 0]) (by simp [resAs, resA]; rfl) hbox rfl htok hkeep hadv.le (by simp [packA])).mono fun v m hq => ⟨.inl (by rw [hR, hq.1]), hq.2⟩⟩
    · repeat (first | refine AL.seq ?_ | refine AL.block ?_ | refine AL.skip ?_ | refine AL.blk ?_)
      refine AL.region follows_Try (Nat.le_refl _) (by kernel_rfl) ?_
      simp
      repeat (first | refine AL.seq ?_ | refine AL.block ?_ | refine AL.skip ?_ | refine AL.blk ?_)
      refine AL.cond ?_
      simp [hva]
      repeat (first | refine AL.seq ?_ | refine AL.block ?_ | refine AL.skip ?_ | refine AL.blk ?_)
      refine AL.region follows_Try (Nat.le_refl _) (by kernel_rfl) ?_
      simp
      have hR : quotientsR a = ([], validG a) := by simp [quotientsR, hva]
      repeat (first | refine AL.seq ?_ | refine AL.block ?_ | refine AL.skip ?_ | refine AL.blk ?_)
      refine AL.ret ?_
      try simp only [AU]
      refine ⟨by simp, (Fin.data (av := .tup [.osl 0 [] .full, I (validG a)]) (by simp [resAs, resA]; rfl) hbox rfl htok (fun _ h => h) (Nat.le_refl _) (by simp [packA])).mono fun v m hq => ⟨.inr ⟨by rw [hR], by rw [hR, hq.1]⟩, hq.2⟩⟩
  refine main.conv fun v m h => ?_
  obtain ⟨rfl | ⟨h1, rfl⟩, rfl⟩ := h
  · exact ⟨_, _, Conv.refl _ _, rfl, rfl⟩
  · refine ⟨_, _, Conv.sub (v' := .tup [.d (qus (quotientsR a).1), I (quotientsR a).2]) (Sub.tup ⟨?_, Sub.refl _, trivial⟩), rfl, rfl⟩
    rw [h1]
    exact Sub.nil _ _ _
end Go.AM
