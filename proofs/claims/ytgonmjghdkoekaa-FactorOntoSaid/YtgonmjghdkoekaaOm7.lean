import Derived.Test.YtgonmjghdkoekaaOm6
namespace Go.AM
open Go Go.Proofs
set_option linter.unusedSimpArgs false
set_option linter.unusedVariables false

/-! ### ref13.quotients.nodes, Quotients -/
def st50 (a : Gr) (l : List Int) (nb k : Nat) (box : Nat → Option (List (List AV))) (x : AccU) : AState :=
  ⟨tl [(0, .ptr k 0 0), (1, .d (ints l)), (4, I l.length), (5, I x.i)],
    lb nb (upd box k (some [quRow a x.out x.own])) [], x.tok, x.nt⟩

theorem quNodes_c (a : Gr) (h : QuH a) : ∀ (n : Nat) (l : List Int) (out : List Qu) (own : Own) (box : Nat → Option (List (List AV))) (nb k : Nat) (tok : Nat → Bool) (nt : Nat), l.length + n = a.nodes.length → PartL l →
    box k = some [quRow a out own] → own.liveP tok → ACalls Try.prog 50 [.ptr k 0 0, .d (ints l)] ⟨box, nb, tok, nt⟩ (QQu a box nb k tok nt own (quN a n l out)) := by
  intro n
  induction n with
  | zero =>
    intro l out own box nb k tok nt hl hpl hk hlive
    have hself : box = upd box k (some [quRow a out own]) := (upd_self box k _ hk).symm
    refine ACalls.of_body Try.func50 rfl (by kernel_rfl) follows_Try (by kernel_rfl) (by simp [Try.ntmps50]) ?_
    intro hbox htok
    simp only at hbox htok
    apply AL.start
    have hkn := key_lt hbox hk
    repeat (first | refine AL.seq ?_ | refine AL.block ?_ | refine AL.skip ?_ | refine AL.blk ?_)
    refine AL.region follows_Try (Nat.le_refl _) (by kernel_rfl) ?_
    simp [lb_out hkn, hk]
    repeat (first | refine AL.seq ?_ | refine AL.block ?_ | refine AL.skip ?_ | refine AL.blk ?_)
    refine AL.cond ?_
    simp
    refine ⟨fun hbig => ?_, fun hsm => ?_⟩
    · repeat (first | refine AL.seq ?_ | refine AL.block ?_ | refine AL.skip ?_ | refine AL.blk ?_)
      refine AL.ret ?_
      try simp only [AU]
      refine ⟨by simp, (Fin.own (vs := []) (av := .tup []) (by simp [resAs, resA]) hbox rfl (Nat.le_refl _) (by simp [packA])).mono fun v m hq => ⟨hq.1, own, tok, nt, ?_, Adv.refl hlive htok⟩⟩
      have hbig' : 2000 < out.length := by omega
      rw [hq.2, quN, if_pos hbig', ← hself]
    · have hsm' : ¬ 2000 < out.length := by omega
      have hl' : l.length = a.nodes.length := by omega
      repeat (first | refine AL.seq ?_ | refine AL.block ?_ | refine AL.skip ?_ | refine AL.blk ?_)
      refine AL.region follows_Try (Nat.le_refl _) (by kernel_rfl) ?_
      simp [lb_out hkn, hk]
      repeat (first | refine AL.seq ?_ | refine AL.block ?_ | refine AL.skip ?_ | refine AL.blk ?_)
      refine AL.region follows_Try (Nat.le_refl _) (by kernel_rfl) ?_
      simp [lb_out hkn, hk]
      repeat (first | refine AL.seq ?_ | refine AL.block ?_ | refine AL.skip ?_ | refine AL.blk ?_)
      refine AL.cond ?_
      simp
      refine ⟨fun _ => ?_, fun hne => absurd (by omega) hne⟩
      repeat (first | refine AL.seq ?_ | refine AL.block ?_ | refine AL.skip ?_ | refine AL.blk ?_)
      refine AL.region follows_Try (Nat.le_refl _) (by kernel_rfl) ?_
      simp [lb_out hkn, hk]
      refine Stop.sub (args' := [.ptr k 0 0, .d (ints l), .d (ints [])]) ⟨Sub.refl _, Sub.refl _, Sub.nil _ _ _, trivial⟩ ?_
      refine Stop.of_a (quEdges_c a l h hpl hl' a.edges.length [] out own _ _ k _ _ (by simp) (fun i hi => by simp at hi) (by simp only [lb_out hkn, hk]) hlive) ?_
      rintro v m' ⟨rfl, own1, tok1, nt1, rfl, hadv⟩
      simp [upd_lb_out hkn]
      repeat (first | refine AL.seq ?_ | refine AL.block ?_ | refine AL.skip ?_ | refine AL.blk ?_)
      refine AL.ret ?_
      try simp only [AU]
      refine ⟨by simp, (Fin.gen (vs := []) (av := .tup []) (tok' := tok1) (nt' := nt1) (by simp [resAs, resA]) ?_ hadv.le (Nat.le_refl _) (fun t h => ⟨h, .inl rfl⟩) (quOk (by simp)) (by simp [packA])).mono fun v m hq => ⟨hq.1, own1, tok1, nt1, ?_, hadv⟩⟩
      · rw [← upd_lb_out hkn, hbox]
      · rw [hq.2, quN, if_neg hsm']
  | succ n ih =>
    intro l out own box nb k tok nt hl hpl hk hlive
    have hself : box = upd box k (some [quRow a out own]) := (upd_self box k _ hk).symm
    have hbn := h.n
    have hlt : l.length < a.nodes.length := by omega
    refine ACalls.of_body Try.func50 rfl (by kernel_rfl) follows_Try (by kernel_rfl) (by simp [Try.ntmps50]) ?_
    intro hbox htok
    simp only at hbox htok
    apply AL.start
    have hkn := key_lt hbox hk
    repeat (first | refine AL.seq ?_ | refine AL.block ?_ | refine AL.skip ?_ | refine AL.blk ?_)
    refine AL.region follows_Try (Nat.le_refl _) (by kernel_rfl) ?_
    simp [lb_out hkn, hk]
    repeat (first | refine AL.seq ?_ | refine AL.block ?_ | refine AL.skip ?_ | refine AL.blk ?_)
    refine AL.cond ?_
    simp
    refine ⟨fun hbig => ?_, fun hsm => ?_⟩
    · repeat (first | refine AL.seq ?_ | refine AL.block ?_ | refine AL.skip ?_ | refine AL.blk ?_)
      refine AL.ret ?_
      try simp only [AU]
      refine ⟨by simp, (Fin.own (vs := []) (av := .tup []) (by simp [resAs, resA]) hbox rfl (Nat.le_refl _) (by simp [packA])).mono fun v m hq => ⟨hq.1, own, tok, nt, ?_, Adv.refl hlive htok⟩⟩
      have hbig' : 2000 < out.length := by omega
      rw [hq.2, quN, if_pos hbig', ← hself]
    · have hsm' : ¬ 2000 < out.length := by omega
      repeat (first | refine AL.seq ?_ | refine AL.block ?_ | refine AL.skip ?_ | refine AL.blk ?_)
      refine AL.region follows_Try (Nat.le_refl _) (by kernel_rfl) ?_
      simp [lb_out hkn, hk]
      repeat (first | refine AL.seq ?_ | refine AL.block ?_ | refine AL.skip ?_ | refine AL.blk ?_)
      refine AL.region follows_Try (Nat.le_refl _) (by kernel_rfl) ?_
      simp [lb_out hkn, hk]
      repeat (first | refine AL.seq ?_ | refine AL.block ?_ | refine AL.skip ?_ | refine AL.blk ?_)
      refine AL.cond ?_
      simp
      refine ⟨fun heq => absurd heq (by omega), fun _ => ?_⟩
      repeat (first | refine AL.seq ?_ | refine AL.block ?_ | refine AL.skip ?_ | refine AL.blk ?_)
      refine AL.region follows_Try (Nat.le_refl _) (by kernel_rfl) ?_
      simp
      repeat (first | refine AL.seq ?_ | refine AL.block ?_ | refine AL.skip ?_ | refine AL.blk ?_)
      have hlb : ∀ loc, lb nb box loc = lb nb (upd box k (some [quRow a out own])) loc := fun loc => by rw [← hself]
      rw [hlb]
      refine AL.loopT (st50 a l nb k box) (fun x => x.i ≤ l.length + 1 ∧ x.out = (List.range x.i).foldl (quStepN a (quN a n) l) out ∧ Adv tok nt own x.tok x.nt x.own) (fun x => l.length + 1 - x.i)
        ⟨0, out, own, tok, nt⟩ ⟨Nat.zero_le _, rfl, Adv.refl hlive htok⟩ (Weaks.mk' (Nat.le_refl _) (by simp [ToL, lk, hlt]; exact to_ptr (by rw [lb_out hkn, upd_same]; simp)) (by simp [BoxL, lk, hlt]) (quOk rfl)) ?_
      rintro ⟨i, out2, own2, tok2, nt2⟩ S ⟨hi, hout, hadv2⟩ hS
      simp only [st50] at hS hi hout hadv2
      subst hS
      have hw : IntKind.i64.wrap (↑i + 1) = ((i + 1 : Nat) : Int) := by rw [wrap_in (by omega) (by omega)]; rfl
      repeat (first | refine AL.seq ?_ | refine AL.block ?_ | refine AL.skip ?_ | refine AL.blk ?_)
      refine AL.region follows_Try (Nat.le_refl _) (by kernel_rfl) ?_
      simp
      repeat (first | refine AL.seq ?_ | refine AL.block ?_ | refine AL.skip ?_ | refine AL.blk ?_)
      refine AL.cond ?_
      simp
      refine ⟨fun hli => ?_, fun hge => ?_⟩
      · have hia : i < a.nodes.length := by omega
        have hfold : (List.range (i + 1)).foldl (quStepN a (quN a n) l) out = quStepN a (quN a n) l out2 i := by
          rw [List.range_succ, List.foldl_append, ← hout]; rfl
        have hai : a.nodes.getD i 0 = a.nodes[i] := by simp [hia]
        have hal : a.nodes.getD l.length 0 = a.nodes[l.length] := by simp [hlt]
        repeat (first | refine AL.seq ?_ | refine AL.block ?_ | refine AL.skip ?_ | refine AL.blk ?_)
        refine AL.region follows_Try (Nat.le_refl _) (by kernel_rfl) ?_
        simp [lb_out hkn, upd_same, hia]
        by_cases hie : i = l.length
        · have hb : ((i : Int) == (l.length : Int)) = true := by simp [hie]
          simp only [hb]
          simp
          repeat (first | refine AL.seq ?_ | refine AL.block ?_ | refine AL.skip ?_ | refine AL.blk ?_)
          refine AL.cond ?_
          simp
          repeat (first | refine AL.seq ?_ | refine AL.block ?_ | refine AL.skip ?_ | refine AL.blk ?_)
          refine AL.region follows_Try (Nat.le_refl _) (by kernel_rfl) ?_
          simp [lb_out hkn, upd_same]
          refine ⟨by omega, by omega, ?_⟩
          refine Stop.data ?_
          simp only [List.map, AV.asD]
          rw [rI_snoc]
          have had := Adv.fresh hadv2.live hadv2.lt
          refine Stop.of_a (ih (l ++ [(i : Int)]) out2 own2 _ _ k _ _ (by simp; omega) (partL_snoc hpl i (by omega) (.inl hie)) (by simp only [lb_out hkn, upd_same]) had.live) ?_
          rintro v m' ⟨rfl, own3, tok3, nt3, rfl, hadv⟩
          simp [upd_lb_out hkn, upd_upd]
          have had3 : Adv tok nt own tok3 nt3 own3 := hadv2.trans htok (had.trans hadv2.lt hadv)
          clear hadv had
          repeat (first | refine AL.seq ?_ | refine AL.block ?_ | refine AL.skip ?_ | refine AL.blk ?_)
          refine AL.region follows_Try (Nat.le_refl _) (by kernel_rfl) ?_
          simp [hw]
          repeat (first | refine AL.seq ?_ | refine AL.block ?_ | refine AL.skip ?_ | refine AL.blk ?_)
          refine AL.nil ?_
          refine ⟨⟨i + 1, quN a n (l ++ [(i : Int)]) out2, own3, tok3, nt3⟩, ⟨by simp <;> omega, ?_, had3⟩, by simp <;> omega, Weaks.mk' had3.le (by simp [ToL, lk]; exact to_ptr (by rw [lb_out hkn, upd_same]; simp)) (by simp [BoxL, lk]) (quOk rfl)⟩
          rw [hfold, quStepN, if_pos (.inl hie)]
        · have hb : ((i : Int) == (l.length : Int)) = false := by simp; omega
          have hil : i < l.length := by omega
          have hgi : l.getD i 0 = l[i] := by simp [hil]
          simp only [hb]
          simp [lb_out hkn, upd_same, hil]
          by_cases h1 : l[i] = (i : Int)
          · have hb1 : (l[i] == (i : Int)) = true := by simp [h1]
            simp only [hb1]
            simp [lb_out hkn, upd_same, hlt, hia]
            repeat (first | refine AL.seq ?_ | refine AL.block ?_ | refine AL.skip ?_ | refine AL.blk ?_)
            refine AL.cond ?_
            simp
            refine ⟨fun h4 => ?_, fun h4 => ?_⟩
            · repeat (first | refine AL.seq ?_ | refine AL.block ?_ | refine AL.skip ?_ | refine AL.blk ?_)
              refine AL.region follows_Try (Nat.le_refl _) (by kernel_rfl) ?_
              simp [lb_out hkn, upd_same]
              refine ⟨by omega, by omega, ?_⟩
              refine Stop.data ?_
              simp only [List.map, AV.asD]
              rw [rI_snoc]
              have had := Adv.fresh hadv2.live hadv2.lt
              refine Stop.of_a (ih (l ++ [(i : Int)]) out2 own2 _ _ k _ _ (by simp; omega) (partL_snoc hpl i (by omega) (.inr (by rw [hgi, h1]))) (by simp only [lb_out hkn, upd_same]) had.live) ?_
              rintro v m' ⟨rfl, own3, tok3, nt3, rfl, hadv⟩
              simp [upd_lb_out hkn, upd_upd]
              have had3 : Adv tok nt own tok3 nt3 own3 := hadv2.trans htok (had.trans hadv2.lt hadv)
              clear hadv had
              repeat (first | refine AL.seq ?_ | refine AL.block ?_ | refine AL.skip ?_ | refine AL.blk ?_)
              refine AL.region follows_Try (Nat.le_refl _) (by kernel_rfl) ?_
              simp [hw]
              repeat (first | refine AL.seq ?_ | refine AL.block ?_ | refine AL.skip ?_ | refine AL.blk ?_)
              refine AL.nil ?_
              refine ⟨⟨i + 1, quN a n (l ++ [(i : Int)]) out2, own3, tok3, nt3⟩, ⟨by simp <;> omega, ?_, had3⟩, by simp <;> omega, Weaks.mk' had3.le (by simp [ToL, lk]; exact to_ptr (by rw [lb_out hkn, upd_same]; simp)) (by simp [BoxL, lk]) (quOk rfl)⟩
              rw [hfold, quStepN, if_pos (.inr ⟨by rw [hgi, h1], by rw [hai, hal, h4]⟩)]
            · repeat (first | refine AL.seq ?_ | refine AL.block ?_ | refine AL.skip ?_ | refine AL.blk ?_)
              refine AL.region follows_Try (Nat.le_refl _) (by kernel_rfl) ?_
              simp [hw]
              repeat (first | refine AL.seq ?_ | refine AL.block ?_ | refine AL.skip ?_ | refine AL.blk ?_)
              refine AL.nil ?_
              refine ⟨⟨i + 1, out2, own2, tok2, nt2⟩, ⟨by simp <;> omega, ?_, hadv2⟩, by simp <;> omega, Weaks.mk' hadv2.le (by simp [ToL, lk]; exact to_ptr (by rw [lb_out hkn, upd_same]; simp)) (by simp [BoxL, lk]) (quOk rfl)⟩
              rw [hfold, quStepN, if_neg (by rintro (e | e); exact hie e; exact h4 (by rw [← hai, ← hal, e.2]))]
          · have hb1 : (l[i] == (i : Int)) = false := by simp [h1]
            simp only [hb1]
            simp
            repeat (first | refine AL.seq ?_ | refine AL.block ?_ | refine AL.skip ?_ | refine AL.blk ?_)
            refine AL.cond ?_
            simp
            repeat (first | refine AL.seq ?_ | refine AL.block ?_ | refine AL.skip ?_ | refine AL.blk ?_)
            refine AL.region follows_Try (Nat.le_refl _) (by kernel_rfl) ?_
            simp [hw]
            repeat (first | refine AL.seq ?_ | refine AL.block ?_ | refine AL.skip ?_ | refine AL.blk ?_)
            refine AL.nil ?_
            refine ⟨⟨i + 1, out2, own2, tok2, nt2⟩, ⟨by simp <;> omega, ?_, hadv2⟩, by simp <;> omega, Weaks.mk' hadv2.le (by simp [ToL, lk]; exact to_ptr (by rw [lb_out hkn, upd_same]; simp)) (by simp [BoxL, lk]) (quOk rfl)⟩
            rw [hfold, quStepN, if_neg (by rintro (e | e); exact hie e; exact h1 (by rw [← hgi, e.1]))]
      · repeat (first | refine AL.seq ?_ | refine AL.block ?_ | refine AL.skip ?_ | refine AL.blk ?_)
        refine AL.exit ?_
        simp only [AU, ↓reduceIte]
        have hin : i = l.length + 1 := by omega
        subst hin
        repeat (first | refine AL.seq ?_ | refine AL.block ?_ | refine AL.skip ?_ | refine AL.blk ?_)
        refine AL.nil ?_
        refine ⟨by simp, (Fin.gen (vs := []) (av := .tup []) (tok' := tok2) (nt' := nt2) (by simp [resAs, resA]) ?_ hadv2.le (Nat.le_refl _) (fun t h => ⟨h, .inl rfl⟩) (quOk (by simp)) (by simp [packA])).mono fun v m hq => ⟨hq.1, own2, tok2, nt2, ?_, hadv2⟩⟩
        · rw [← upd_lb_out hkn, hbox]
        · rw [hq.2, quN, if_neg hsm', hout]

def quotientsR (a : Gr) : List Qu × Int :=
  if validG a ≠ 0 then ([], validG a) else if 6 < a.nodes.length ∨ 6 < a.edges.length then ([], 3)
  else if 2000 < (quN a a.nodes.length [] []).length then ([], 3) else (quN a a.nodes.length [] [], 0)

theorem quotients13_c (a : Gr) (ha : a.Fit) (tok : Nat → Bool) (nt : Nat) : DCall Try.prog 19 [a.av] tok nt (.tup [.d (qus (quotientsR a).1), I (quotientsR a).2]) tok nt := by
  intro box nb
  have han := ha.n
  have hae := ha.e
  have main : ACalls Try.prog 19 [a.av] ⟨box, nb, tok, nt⟩ fun v m => (v = .tup [.d (qus (quotientsR a).1), I (quotientsR a).2] ∨ (quotientsR a).1 = [] ∧ v = .tup [.osl 0 [] .full, I (quotientsR a).2]) ∧ m = ⟨box, nb, tok, nt⟩ := by
    refine ACalls.of_body Try.func19 rfl (by kernel_rfl) follows_Try (by kernel_rfl) (by simp [Try.ntmps19]) ?_
    intro hbox htok
    simp only at hbox htok
    apply AL.start
    repeat (first | refine AL.seq ?_ | refine AL.block ?_ | refine AL.skip ?_ | refine AL.blk ?_)
    refine AL.region follows_Try (Nat.le_refl _) (by kernel_rfl) ?_
    simp
    repeat (first | refine AL.seq ?_ | refine AL.block ?_ | refine AL.skip ?_ | refine AL.blk ?_)
    refine AL.region follows_Try (Nat.le_refl _) (by kernel_rfl) ?_
    simp
    refine Stop.of_d (valid05_c a ha _ _) ?_
    simp
    by_cases hva : validG a = 0
    · repeat (first | refine AL.seq ?_ | refine AL.block ?_ | refine AL.skip ?_ | refine AL.blk ?_)
      refine AL.region follows_Try (Nat.le_refl _) (by kernel_rfl) ?_
      simp [hva]
      repeat (first | refine AL.seq ?_ | refine AL.block ?_ | refine AL.skip ?_ | refine AL.blk ?_)
      refine AL.cond ?_
      simp
      have big : (6 < a.nodes.length ∨ 6 < a.edges.length) → quotientsR a = ([], 3) := fun hbig => by simp [quotientsR, hva, hbig]
      repeat (first | refine AL.seq ?_ | refine AL.block ?_ | refine AL.skip ?_ | refine AL.blk ?_)
      refine AL.region follows_Try (Nat.le_refl _) (by kernel_rfl) ?_
      simp
      first | refine Gd.dt (fun hs1 => ?_) (fun hs1 => ?_) | refine Gd.df (fun hs1 => ?_) (fun hs1 => ?_) | refine Gd.t (fun hs1 => ?_) (fun hs1 => ?_) | refine Gd.f (fun hs1 => ?_) (fun hs1 => ?_)
      · simp [hs1]
        repeat (first | refine AL.seq ?_ | refine AL.block ?_ | refine AL.skip ?_ | refine AL.blk ?_)
        refine AL.cond ?_
        simp
        repeat (first | refine AL.seq ?_ | refine AL.block ?_ | refine AL.skip ?_ | refine AL.blk ?_)
        refine AL.region follows_Try (Nat.le_refl _) (by kernel_rfl) ?_
        simp
        have hR := big (by omega)
        repeat (first | refine AL.seq ?_ | refine AL.block ?_ | refine AL.skip ?_ | refine AL.blk ?_)
        refine AL.ret ?_
        try simp only [AU]
        refine ⟨by simp, (Fin.data (av := .tup [.osl 0 [] .full, I 3]) (by simp [resAs, resA]; rfl) hbox rfl htok (fun _ h => h) (Nat.le_refl _) (by simp [packA])).mono fun v m hq => ⟨.inr ⟨by rw [hR], by rw [hR, hq.1]⟩, hq.2⟩⟩
      · simp [hs1]
        repeat (first | refine AL.seq ?_ | refine AL.block ?_ | refine AL.skip ?_ | refine AL.blk ?_)
        refine AL.cond ?_
        simp
        refine ⟨fun hs2 => ?_, fun hs2 => ?_⟩
        · repeat (first | refine AL.seq ?_ | refine AL.block ?_ | refine AL.skip ?_ | refine AL.blk ?_)
          refine AL.region follows_Try (Nat.le_refl _) (by kernel_rfl) ?_
          simp
          have hR := big (by omega)
          repeat (first | refine AL.seq ?_ | refine AL.block ?_ | refine AL.skip ?_ | refine AL.blk ?_)
          refine AL.ret ?_
          try simp only [AU]
          refine ⟨by simp, (Fin.data (av := .tup [.osl 0 [] .full, I 3]) (by simp [resAs, resA]; rfl) hbox rfl htok (fun _ h => h) (Nat.le_refl _) (by simp [packA])).mono fun v m hq => ⟨.inr ⟨by rw [hR], by rw [hR, hq.1]⟩, hq.2⟩⟩
        · have hsm : ¬ (6 < a.nodes.length ∨ 6 < a.edges.length) := by omega
          repeat (first | refine AL.seq ?_ | refine AL.block ?_ | refine AL.skip ?_ | refine AL.blk ?_)
          refine AL.region follows_Try (Nat.le_refl _) (by kernel_rfl) ?_
          simp
          have hq : QuH a := ⟨by omega, by omega, validG_edges hva⟩
          refine AL.weak (Weaks.mk (l' := [(5, .ptr (nb + 23) 0 0)]) (loc' := [(23, [quRow a [] .full])]) (Nat.le_refl _) rfl (by simp [ToL, lk]) (by simp [BoxL, lk])) ?_
          repeat (first | refine AL.seq ?_ | refine AL.block ?_ | refine AL.skip ?_ | refine AL.blk ?_)
          refine AL.region follows_Try (Nat.le_refl _) (by kernel_rfl) ?_
          simp
          refine Stop.sub (args' := [.ptr (nb + 23) 0 0, .d (ints [])]) ⟨Sub.refl _, Sub.nil _ _ _, trivial⟩ ?_
          refine Stop.of_a (quNodes_c a hq a.nodes.length [] [] .full _ _ (nb + 23) _ _ (by simp) (fun i hi => by simp at hi) (by simp) trivial) ?_
          rintro v m' ⟨rfl, own1, tok1, nt1, rfl, hadv⟩
          simp
          repeat (first | refine AL.seq ?_ | refine AL.block ?_ | refine AL.skip ?_ | refine AL.blk ?_)
          refine AL.region follows_Try (Nat.le_refl _) (by kernel_rfl) ?_
          simp
          repeat (first | refine AL.seq ?_ | refine AL.block ?_ | refine AL.skip ?_ | refine AL.blk ?_)
          refine AL.cond ?_
          simp
          have hkeep : ∀ t, tok t = true → tok1 t = true := fun t ht => hadv.keep t ht (by simp)
          refine ⟨fun hmany => ?_, fun hfew => ?_⟩
          · have hR : quotientsR a = ([], 3) := by
              have : 2000 < (quN a a.nodes.length [] []).length := by omega
              simp [quotientsR, hva, hsm, this]
            repeat (first | refine AL.seq ?_ | refine AL.block ?_ | refine AL.skip ?_ | refine AL.blk ?_)
            refine AL.region follows_Try (Nat.le_refl _) (by kernel_rfl) ?_
            simp
            repeat (first | refine AL.seq ?_ | refine AL.block ?_ | refine AL.skip ?_ | refine AL.blk ?_)
            refine AL.ret ?_
            try simp only [AU]
            exact ⟨by simp, (Fin.data (av := .tup [.osl 0 [] .full, I 3]) (by simp [resAs, resA]; rfl) hbox rfl htok hkeep hadv.le (by simp [packA])).mono fun v m hq => ⟨.inr ⟨by rw [hR], by rw [hR, hq.1]⟩, hq.2⟩⟩
          · have hR : quotientsR a = (quN a a.nodes.length [] [], 0) := by
              have : ¬ 2000 < (quN a a.nodes.length [] []).length := by omega
              simp [quotientsR, hva, hsm, this]
            repeat (first | refine AL.seq ?_ | refine AL.block ?_ | refine AL.skip ?_ | refine AL.blk ?_)
            refine AL.region follows_Try (Nat.le_refl _) (by kernel_rfl) ?_
            simp
            repeat (first | refine AL.seq ?_ | refine AL.block ?_ | refine AL.skip ?_ | refine AL.blk ?_)
            refine AL.ret ?_
            try simp only [AU]
            exact ⟨by simp, (Fin.data (av := .tup [.d (qus (quN a a.nodes.length [] [])), I 0]) (by simp [resAs, resA]; rfl) hbox rfl htok hkeep hadv.le (by simp [packA])).mono fun v m hq => ⟨.inl (by rw [hR, hq.1]), hq.2⟩⟩
    · repeat (first | refine AL.seq ?_ | refine AL.block ?_ | refine AL.skip ?_ | refine AL.blk ?_)
      refine AL.region follows_Try (Nat.le_refl _) (by kernel_rfl) ?_
      simp
      repeat (first | refine AL.seq ?_ | refine AL.block ?_ | refine AL.skip ?_ | refine AL.blk ?_)
      refine AL.cond ?_
      simp [hva]
      repeat (first | refine AL.seq ?_ | refine AL.block ?_ | refine AL.skip ?_ | refine AL.blk ?_)
      refine AL.region follows_Try (Nat.le_refl _) (by kernel_rfl) ?_
      simp
      have hR : quotientsR a = ([], validG a) := by simp [quotientsR, hva]
      repeat (first | refine AL.seq ?_ | refine AL.block ?_ | refine AL.skip ?_ | refine AL.blk ?_)
      refine AL.ret ?_
      try simp only [AU]
      refine ⟨by simp, (Fin.data (av := .tup [.osl 0 [] .full, I (validG a)]) (by simp [resAs, resA]; rfl) hbox rfl htok (fun _ h => h) (Nat.le_refl _) (by simp [packA])).mono fun v m hq => ⟨.inr ⟨by rw [hR], by rw [hR, hq.1]⟩, hq.2⟩⟩
  refine main.conv fun v m h => ?_
  obtain ⟨rfl | ⟨h1, rfl⟩, rfl⟩ := h
  · exact ⟨_, _, Conv.refl _ _, rfl, rfl⟩
  · refine ⟨_, _, Conv.sub (v' := .tup [.d (qus (quotientsR a).1), I (quotientsR a).2]) (Sub.tup ⟨?_, Sub.refl _, trivial⟩), rfl, rfl⟩
    rw [h1]
    exact Sub.nil _ _ _
end Go.AM
namespace Go.AM
open Go Go.Proofs
set_option linter.unusedSimpArgs false
set_option linter.unusedVariables false

/-! ### factor.alike, its closures -/
/-- Whether all that a list says holds, so far and in all. -/
def alikeK (g : Nat → Int → Bool) (p : List Int) (i : Nat) : Bool := (List.range i).all fun j => g j (p.getD j 0)
def alikeB (g : Nat → Int → Bool) (p : List Int) : Bool := alikeK g p p.length
theorem alikeK_succ (g : Nat → Int → Bool) (p : List Int) (i : Nat) : alikeK g p (i + 1) = (alikeK g p i && g i (p.getD i 0)) := by
  simp [alikeK, List.range_succ]
theorem alikeK_stop {g : Nat → Int → Bool} {p : List Int} {i : Nat} (hi : i < p.length) (h : g i (p.getD i 0) = false) : alikeB g p = false := by
  unfold alikeB alikeK
  rw [List.all_eq_false]
  exact ⟨i, by simp [hi], by simpa using h⟩

def st46 (p : List Int) (f : FuncId) (caps : List AV) (nb : Nat) (box : Nat → Option (List (List AV))) (tok : Nat → Bool) (nt : Nat) (i : Nat) : AState := ⟨tl [(1, .fn (.func f) caps), (7, .d (ints p)), (8, I p.length), (9, I i)], lb nb box [], tok, nt⟩

theorem alike_c (p : List Int) (f : FuncId) (caps : List AV) (g : Nat → Int → Bool) (hx : p.length ≤ 1000000) (box : Nat → Option (List (List AV))) (nb : Nat) (tok : Nat → Bool) (nt : Nat) (hc : ∀ c ∈ caps, OkIn (fun k => box k ≠ none) (fun _ => True) c)
    (hf : ∀ i (hi : i < p.length), ∀ box' nb', Ext box box' → ACalls Try.prog f (I i :: I p[i] :: caps) ⟨box', nb', tok, nt⟩ fun v m => v = B (g i p[i]) ∧ m = ⟨box', nb', tok, nt⟩) :
    ACalls Try.prog 46 [.d (ints p), .fn (.func f) caps] ⟨box, nb, tok, nt⟩ fun v m => v = B (alikeB g p) ∧ m = ⟨box, nb, tok, nt⟩ := by
  refine ACalls.of_body Try.func46 rfl (by kernel_rfl) follows_Try (by kernel_rfl) (by simp [Try.ntmps46]) ?_
  intro hbox htok
  simp only at hbox htok
  apply AL.start
  repeat (first | refine AL.seq ?_ | refine AL.block ?_ | refine AL.skip ?_ | refine AL.blk ?_)
  refine AL.region follows_Try (Nat.le_refl _) (by kernel_rfl) ?_
  simp
  repeat (first | refine AL.seq ?_ | refine AL.block ?_ | refine AL.skip ?_ | refine AL.blk ?_)
  refine AL.region follows_Try (Nat.le_refl _) (by kernel_rfl) ?_
  simp
  repeat (first | refine AL.seq ?_ | refine AL.block ?_ | refine AL.skip ?_ | refine AL.blk ?_)
  refine AL.loopT (st46 p f caps nb box tok nt) (fun i => i ≤ p.length ∧ alikeK g p i = true) (fun i => p.length - i) 0 ⟨Nat.zero_le _, by simp [alikeK]⟩ (Weaks.mk (Nat.le_refl _) rfl (by simp [ToL]; exact .same (okFn hc hbox [] (by simp) rfl _)) trivial) ?_
  rintro i S ⟨hi, htk⟩ hS
  simp only [st46] at hS
  subst hS
  have hw : IntKind.i64.wrap (↑i + 1) = ((i + 1 : Nat) : Int) := by rw [wrap_in (by omega) (by omega)]; rfl
  repeat (first | refine AL.seq ?_ | refine AL.block ?_ | refine AL.skip ?_ | refine AL.blk ?_)
  refine AL.region follows_Try (Nat.le_refl _) (by kernel_rfl) ?_
  simp
  repeat (first | refine AL.seq ?_ | refine AL.block ?_ | refine AL.skip ?_ | refine AL.blk ?_)
  refine AL.cond ?_
  simp
  refine ⟨fun hlt => ?_, fun hge => ?_⟩
  · have hgi : p.getD i 0 = p[i] := by simp [hlt]
    repeat (first | refine AL.seq ?_ | refine AL.block ?_ | refine AL.skip ?_ | refine AL.blk ?_)
    refine AL.region follows_Try (Nat.le_refl _) (by kernel_rfl) ?_
    simp [hlt]
    repeat (first | refine AL.seq ?_ | refine AL.block ?_ | refine AL.skip ?_ | refine AL.blk ?_)
    refine AL.region follows_Try (Nat.le_refl _) (by kernel_rfl) ?_
    simp
    refine Stop.of_b (hf i hlt _ _ ((Ext.refl box).lb hbox [])) ?_
    simp
    repeat (first | refine AL.seq ?_ | refine AL.block ?_ | refine AL.skip ?_ | refine AL.blk ?_)
    refine AL.cond ?_
    simp
    refine ⟨fun he => ?_, fun hne => ?_⟩
    · repeat (first | refine AL.seq ?_ | refine AL.block ?_ | refine AL.skip ?_ | refine AL.blk ?_)
      refine AL.region follows_Try (Nat.le_refl _) (by kernel_rfl) ?_
      simp
      have h2 := alikeK_stop hlt (g := g) (by rw [hgi]; exact he)
      repeat (first | refine AL.seq ?_ | refine AL.block ?_ | refine AL.skip ?_ | refine AL.blk ?_)
      refine AL.ret ?_
      try simp only [AU]
      refine ⟨by simp, Fin.data (by simp [resAs, resA]; rfl) hbox rfl htok (fun _ h => h) (Nat.le_refl _) ?_⟩
      simp [packA, h2]
    · repeat (first | refine AL.seq ?_ | refine AL.block ?_ | refine AL.skip ?_ | refine AL.blk ?_)
      refine AL.region follows_Try (Nat.le_refl _) (by kernel_rfl) ?_
      simp [hw]
      repeat (first | refine AL.seq ?_ | refine AL.block ?_ | refine AL.skip ?_ | refine AL.blk ?_)
      refine AL.nil ?_
      refine ⟨i + 1, ⟨hlt, ?_⟩, by omega, Weaks.mk (Nat.le_refl _) rfl (by simp [ToL]; exact .same (okFn hc hbox [] (by simp) rfl _)) trivial⟩
      rw [alikeK_succ, htk, hgi, hne]
      rfl
  · repeat (first | refine AL.seq ?_ | refine AL.block ?_ | refine AL.skip ?_ | refine AL.blk ?_)
    refine AL.exit ?_
    simp only [AU, ↓reduceIte]
    repeat (first | refine AL.seq ?_ | refine AL.block ?_ | refine AL.skip ?_ | refine AL.blk ?_)
    refine AL.region follows_Try (Nat.le_refl _) (by kernel_rfl) ?_
    simp
    have hn : alikeB g p = true := by
      have : i = p.length := by omega
      subst this
      exact htk
    repeat (first | refine AL.seq ?_ | refine AL.block ?_ | refine AL.skip ?_ | refine AL.blk ?_)
    refine AL.ret ?_
    try simp only [AU]
    refine ⟨by simp, Fin.data (by simp [resAs, resA]; rfl) hbox rfl htok (fun _ h => h) (Nat.le_refl _) ?_⟩
    simp [packA, hn]

theorem same47_c (a : Gr) (i k : Nat) (hi : i < a.nodes.length) (hk : k < a.nodes.length) (hb : a.nodes.length ≤ 1000000) (box : Nat → Option (List (List AV))) (nb q : Nat) (tok : Nat → Bool) (nt : Nat) (hq : box q = some [[.d (ints a.nodes), .d (AM.edges a.edges)]]) :
    ACalls Try.prog 47 [I i, I k, .ptr q 0 0] ⟨box, nb, tok, nt⟩ fun v m => v = B (decide (a.nodes[i] = a.nodes[k])) ∧ m = ⟨box, nb, tok, nt⟩ := by
  refine ACalls.of_body Try.func47 rfl (by kernel_rfl) follows_Try (by kernel_rfl) (by simp [Try.ntmps47]) ?_
  intro hbox htok
  simp only at hbox htok
  apply AL.start
  have hkn := key_lt hbox hq
  repeat (first | refine AL.seq ?_ | refine AL.block ?_ | refine AL.skip ?_ | refine AL.blk ?_)
  refine AL.region follows_Try (Nat.le_refl _) (by kernel_rfl) ?_
  simp
  repeat (first | refine AL.seq ?_ | refine AL.block ?_ | refine AL.skip ?_ | refine AL.blk ?_)
  refine AL.region follows_Try (Nat.le_refl _) (by kernel_rfl) ?_
  simp [lb_out hkn, hq, hi, hk]
  repeat (first | refine AL.seq ?_ | refine AL.block ?_ | refine AL.skip ?_ | refine AL.blk ?_)
  refine AL.ret ?_
  try simp only [AU]
  refine ⟨by simp, Fin.data (by simp [resAs, resA]; rfl) hbox rfl htok (fun _ h => h) (Nat.le_refl _) ?_⟩
  simp [packA, beqD]

theorem same48_c (a : Gr) (p : List Int) (i k : Nat) (hi : i < a.edges.length) (hk : k < a.edges.length) (hb : a.edges.length ≤ 1000000) (hx : ∀ e ∈ a.edges, 0 ≤ e.fr ∧ e.fr < p.length ∧ 0 ≤ e.to ∧ e.to < p.length) (box : Nat → Option (List (List AV))) (nb q r : Nat) (tok : Nat → Bool) (nt : Nat)
    (hq : box q = some [[.d (ints a.nodes), .d (AM.edges a.edges)]]) (hr : box r = some [[.d (ints p)]]) :
    ACalls Try.prog 48 [I i, I k, .ptr q 0 0, .ptr r 0 0] ⟨box, nb, tok, nt⟩ fun v m => v = B (decide (likeE a p i k)) ∧ m = ⟨box, nb, tok, nt⟩ := by
  refine ACalls.of_body Try.func48 rfl (by kernel_rfl) follows_Try (by kernel_rfl) (by simp [Try.ntmps48]) ?_
  intro hbox htok
  simp only at hbox htok
  apply AL.start
  have hkn := key_lt hbox hq
  have hrn := key_lt hbox hr
  repeat (first | refine AL.seq ?_ | refine AL.block ?_ | refine AL.skip ?_ | refine AL.blk ?_)
  refine AL.region follows_Try (Nat.le_refl _) (by kernel_rfl) ?_
  simp
  have hq7 : ∀ s, q ≠ nb + s := fun s => by omega
  repeat (first | refine AL.seq ?_ | refine AL.block ?_ | refine AL.skip ?_ | refine AL.blk ?_)
  refine AL.region2 follows_Try (Nat.le_refl _) (by kernel_rfl) (Side.of (by simp)) ?_
  simp [lb_out hkn, hq, hi, hk, hq7]
  obtain ⟨x1, x2, x3, x4⟩ := hx _ (List.getElem_mem hi)
  obtain ⟨z1, z2, z3, z4⟩ := hx _ (List.getElem_mem hk)
  have y1 : a.edges[i].fr.toNat < p.length := by omega
  have y2 : a.edges[i].to.toNat < p.length := by omega
  have w1 : a.edges[k].fr.toNat < p.length := by omega
  have w2 : a.edges[k].to.toNat < p.length := by omega
  have hlike : likeE a p i k ↔ a.edges[i].ty = a.edges[k].ty ∧ p[a.edges[i].fr.toNat] = p[a.edges[k].fr.toNat] ∧ p[a.edges[i].to.toNat] = p[a.edges[k].to.toNat] := by
    simp [likeE, hi, hk, y1, y2, w1, w2]
  repeat (first | refine AL.seq ?_ | refine AL.block ?_ | refine AL.skip ?_ | refine AL.blk ?_)
  refine AL.region follows_Try (Nat.le_refl _) (by kernel_rfl) ?_
  simp [lb_out hrn, hr]
  by_cases h1 : a.edges[i].ty = a.edges[k].ty
  · have hb1 : (a.edges[i].ty == a.edges[k].ty) = true := by simp [h1]
    simp only [hb1]
    simp [lb_out hrn, hr, x1, x2, x3, x4, y1, y2, z1, z2, z3, z4, w1, w2]
    by_cases h2 : p[a.edges[i].fr.toNat] = p[a.edges[k].fr.toNat]
    · have hb2 : (p[a.edges[i].fr.toNat] == p[a.edges[k].fr.toNat]) = true := by simp [h2]
      simp only [hb2]
      simp [lb_out hrn, hr, x1, x2, x3, x4, y1, y2, z1, z2, z3, z4, w1, w2]
      have hl : decide (likeE a p i k) = (p[a.edges[i].to.toNat] == p[a.edges[k].to.toNat]) := by rw [beqD]; simp [hlike, h1, h2]
      repeat (first | refine AL.seq ?_ | refine AL.block ?_ | refine AL.skip ?_ | refine AL.blk ?_)
      refine AL.ret ?_
      try simp only [AU]
      refine ⟨by simp, Fin.data (by simp [resAs, resA]; rfl) hbox rfl htok (fun _ h => h) (Nat.le_refl _) ?_⟩
      simp [packA, hl]
    · have hb2 : (p[a.edges[i].fr.toNat] == p[a.edges[k].fr.toNat]) = false := by simp [h2]
      simp only [hb2]
      have hl : decide (likeE a p i k) = false := by simp [hlike, h1, h2]
      simp
      repeat (first | refine AL.seq ?_ | refine AL.block ?_ | refine AL.skip ?_ | refine AL.blk ?_)
      refine AL.ret ?_
      try simp only [AU]
      refine ⟨by simp, Fin.data (by simp [resAs, resA]; rfl) hbox rfl htok (fun _ h => h) (Nat.le_refl _) ?_⟩
      simp [packA, hl]
  · have hb1 : (a.edges[i].ty == a.edges[k].ty) = false := by simp [h1]
    simp only [hb1]
    have hl : decide (likeE a p i k) = false := by simp [hlike, h1]
    simp
    repeat (first | refine AL.seq ?_ | refine AL.block ?_ | refine AL.skip ?_ | refine AL.blk ?_)
    refine AL.ret ?_
    try simp only [AU]
    refine ⟨by simp, Fin.data (by simp [resAs, resA]; rfl) hbox rfl htok (fun _ h => h) (Nat.le_refl _) ?_⟩
    simp [packA, hl]
end Go.AM
namespace Go.AM
open Go Go.Proofs
set_option linter.unusedSimpArgs false
set_option linter.unusedVariables false

/-! ### factor.quotient -/
def fillN (p an : List Int) (n : Nat) : Nat → List Int
  | 0 => List.replicate n 0
  | i + 1 => (fillN p an n i).set (p.getD i 0).toNat (an.getD i 0)
def fillE (q p : List Int) (ae : List E) (m : Nat) : Nat → List E
  | 0 => List.replicate m ⟨0, 0, 0⟩
  | i + 1 => (fillE q p ae m i).set (q.getD i 0).toNat ⟨(ae.getD i default).ty, p.getD (ae.getD i default).fr.toNat 0, p.getD (ae.getD i default).to.toNat 0⟩
theorem fillN_len (p an : List Int) (n : Nat) : ∀ i, (fillN p an n i).length = n
  | 0 => by simp [fillN]
  | i + 1 => by simp [fillN, fillN_len p an n i]
theorem fillE_len (q p : List Int) (ae : List E) (m : Nat) : ∀ i, (fillE q p ae m i).length = m
  | 0 => by simp [fillE]
  | i + 1 => by simp [fillE, fillE_len q p ae m i]

def quF (a : Gr) (nodes edges : List Int) : Qu :=
  let p := (numN nodes nodes.length).1
  let q := (numN edges edges.length).1
  ⟨⟨fillN p a.nodes (numN nodes nodes.length).2.toNat a.nodes.length, fillE q p a.edges (numN edges edges.length).2.toNat a.edges.length⟩, ⟨p, q⟩⟩

theorem numN_range {l : List Int} (hp : PartL l) : ∀ i, i ≤ l.length → ∀ j (h : j < (numN l i).1.length), 0 ≤ (numN l i).1[j] ∧ (numN l i).1[j] < (numN l i).2
  | 0, _ => by intro j h; simp [numN] at h
  | i + 1, hi => by
    intro j h
    have ih := numN_range hp i (by omega)
    have hlen := numN_len l i
    have hil : i < l.length := by omega
    have hg : l.getD i 0 = l[i] := by simp [hil]
    obtain ⟨p1, p2, p3⟩ := hp i hil
    simp only [numN, hg] at h ⊢
    split
    · rename_i he
      simp only [he, ↓reduceIte] at h
      by_cases hj : j < (numN l i).1.length
      · rw [List.getElem_append_left hj]
        have := ih j hj
        exact ⟨this.1, by omega⟩
      · have hj2 : j = (numN l i).1.length := by simp at h; omega
        subst hj2
        rw [List.getElem_concat_length (by simp)]
        exact ⟨hlen.2.1, by omega⟩
    · rename_i he
      simp only [he, ↓reduceIte] at h
      by_cases hj : j < (numN l i).1.length
      · rw [List.getElem_append_left hj]
        exact ih j hj
      · have hj2 : j = (numN l i).1.length := by simp at h; omega
        subst hj2
        rw [List.getElem_concat_length (by simp)]
        have h4 : l[i].toNat < (numN l i).1.length := by omega
        rw [List.getD_eq_getElem?_getD, List.getElem?_eq_getElem h4]
        exact ih _ h4

def st49a (a : Gr) (p q : List Int) (n m : Nat) (nb : Nat) (box : Nat → Option (List (List AV))) (tok : Nat → Bool) (nt : Nat) (i : Nat) : AState :=
  ⟨tl [(3, .ptr (nb + 3) 0 0), (6, .ptr (nb + 6) 0 0), (7, .d (ints p)), (10, .d (ints q)), (13, .ptr (nb + 13) 0 0), (40, .d (ints a.nodes)), (41, I a.nodes.length), (42, I i)],
    lb nb box [(3, [[.d (ints a.nodes), .d (AM.edges a.edges)]]), (6, [[.bot, .bot, .bot, .bot]]), (13, [[.msl (nb + 31) 0 n 1, .msl (nb + 33) 0 m 3, .d (ints p), .d (ints q)]]), (31, rowsI (fillN p a.nodes n i)), (33, rowsE (List.replicate m ⟨0, 0, 0⟩))], tok, nt⟩

def st49b (a : Gr) (l p q : List Int) (n m : Nat) (nb : Nat) (box : Nat → Option (List (List AV))) (tok : Nat → Bool) (nt : Nat) (i : Nat) : AState :=
  ⟨tl [(6, .ptr (nb + 6) 0 0), (7, .d (ints p)), (10, .d (ints q)), (13, .ptr (nb + 13) 0 0), (58, .d (AM.edges a.edges)), (59, I a.edges.length), (60, I i)],
    lb nb box [(6, [[.bot, .bot, .bot, .bot]]), (13, [[.msl (nb + 31) 0 n 1, .msl (nb + 33) 0 m 3, .d (ints p), .d (ints q)]]), (31, rowsI (fillN p a.nodes n a.nodes.length)), (33, rowsE (fillE q p a.edges m i))], tok, nt⟩

theorem quotient49_c (a : Gr) (l k : List Int) (hl : l.length = a.nodes.length) (hk : k.length = a.edges.length) (hl8 : l.length ≤ 80) (hk8 : k.length ≤ 80) (hpl : PartL l) (hpk : PartL k)
    (hx : ∀ e ∈ a.edges, 0 ≤ e.fr ∧ e.fr < a.nodes.length ∧ 0 ≤ e.to ∧ e.to < a.nodes.length) (tok : Nat → Bool) (nt : Nat) :
    DCall Try.prog 49 [a.av, .d (ints l), .d (ints k)] tok nt (quF a l k).av tok nt := by
  intro box nb
  have hnl := numN_len l l.length
  have hnk := numN_len k k.length
  have hrl := numN_range hpl l.length (Nat.le_refl _)
  have hrk := numN_range hpk k.length (Nat.le_refl _)
  refine ACalls.of_body Try.func49 rfl (by kernel_rfl) follows_Try (by kernel_rfl) (by simp [Try.ntmps49]) ?_
  intro hbox htok
  simp only at hbox htok
  apply AL.start
  repeat (first | refine AL.seq ?_ | refine AL.block ?_ | refine AL.skip ?_ | refine AL.blk ?_)
  refine AL.region follows_Try (Nat.le_refl _) (by kernel_rfl) ?_
  simp
  repeat (first | refine AL.seq ?_ | refine AL.block ?_ | refine AL.skip ?_ | refine AL.blk ?_)
  refine AL.region follows_Try (Nat.le_refl _) (by kernel_rfl) ?_
  simp
  refine Stop.of_d (quotient86_c l hl8 hpl _ _) ?_
  simp
  repeat (first | refine AL.seq ?_ | refine AL.block ?_ | refine AL.skip ?_ | refine AL.blk ?_)
  refine AL.region follows_Try (Nat.le_refl _) (by kernel_rfl) ?_
  simp
  refine Stop.of_d (quotient86_c k hk8 hpk _ _) ?_
  simp
  generalize hp : (numN l l.length).1 = p at *
  generalize hq : (numN k k.length).1 = q at *
  generalize hn : (numN l l.length).2 = n at *
  generalize hm : (numN k k.length).2 = m at *
  repeat (first | refine AL.seq ?_ | refine AL.block ?_ | refine AL.skip ?_ | refine AL.blk ?_)
  refine AL.region follows_Try (Nat.le_refl _) (by kernel_rfl) ?_
  simp
  refine ⟨⟨hnl.2.1, by omega⟩, ⟨hnk.2.1, by omega⟩, ?_⟩
  obtain ⟨nn, hnn⟩ : ∃ nn : Nat, n = nn := ⟨n.toNat, by omega⟩
  obtain ⟨mm, hmm⟩ : ∃ mm : Nat, m = mm := ⟨m.toNat, by omega⟩
  subst hnn; subst hmm
  simp only [Int.toNat_natCast]
  repeat (first | refine AL.seq ?_ | refine AL.block ?_ | refine AL.skip ?_ | refine AL.blk ?_)
  refine AL.region follows_Try (Nat.le_refl _) (by kernel_rfl) ?_
  simp
  repeat (first | refine AL.seq ?_ | refine AL.block ?_ | refine AL.skip ?_ | refine AL.blk ?_)
  refine AL.loopT (st49a a p q nn mm nb box tok nt) (fun i => i ≤ a.nodes.length) (fun i => a.nodes.length - i) 0 (Nat.zero_le _) (Weaks.mk (Nat.le_refl _) rfl (by simp [ToL, lk]) (by simp [BoxL, lk, fillN])) ?_
  rintro i S hi hS
  simp only [st49a] at hS
  subst hS
  have hw : IntKind.i64.wrap (↑i + 1) = ((i + 1 : Nat) : Int) := by rw [wrap_in (by omega) (by omega)]; rfl
  have hfl := fillN_len p a.nodes nn i
  repeat (first | refine AL.seq ?_ | refine AL.block ?_ | refine AL.skip ?_ | refine AL.blk ?_)
  refine AL.region follows_Try (Nat.le_refl _) (by kernel_rfl) ?_
  simp
  repeat (first | refine AL.seq ?_ | refine AL.block ?_ | refine AL.skip ?_ | refine AL.blk ?_)
  refine AL.cond ?_
  simp
  refine ⟨fun hlt => ?_, fun hge => ?_⟩
  · have hip : i < p.length := by omega
    obtain ⟨r1, r2⟩ := hrl i hip
    have r3 : p[i].toNat < nn := by omega
    repeat (first | refine AL.seq ?_ | refine AL.block ?_ | refine AL.skip ?_ | refine AL.blk ?_)
    refine AL.region follows_Try (Nat.le_refl _) (by kernel_rfl) ?_
    simp [hlt]
    repeat (first | refine AL.seq ?_ | refine AL.block ?_ | refine AL.skip ?_ | refine AL.blk ?_)
    refine AL.region follows_Try (Nat.le_refl _) (by kernel_rfl) ?_
    simp [hlt, hip, r1, r2, r3, hfl]
    repeat (first | refine AL.seq ?_ | refine AL.block ?_ | refine AL.skip ?_ | refine AL.blk ?_)
    refine AL.region follows_Try (Nat.le_refl _) (by kernel_rfl) ?_
    simp [hw]
    repeat (first | refine AL.seq ?_ | refine AL.block ?_ | refine AL.skip ?_ | refine AL.blk ?_)
    refine AL.nil ?_
    refine ⟨i + 1, hlt, by omega, Weaks.mk (Nat.le_refl _) rfl (by simp [ToL, lk]) (by simp [BoxL, lk, fillN, hip, hlt])⟩
  · repeat (first | refine AL.seq ?_ | refine AL.block ?_ | refine AL.skip ?_ | refine AL.blk ?_)
    refine AL.exit ?_
    simp only [AU, ↓reduceIte]
    have : i = a.nodes.length := by omega
    subst this
    repeat (first | refine AL.seq ?_ | refine AL.block ?_ | refine AL.skip ?_ | refine AL.blk ?_)
    refine AL.region follows_Try (Nat.le_refl _) (by kernel_rfl) ?_
    simp
    repeat (first | refine AL.seq ?_ | refine AL.block ?_ | refine AL.skip ?_ | refine AL.blk ?_)
    have hfl2 := fillN_len p a.nodes nn a.nodes.length
    refine AL.loopT (st49b a l p q nn mm nb box tok nt) (fun i => i ≤ a.edges.length) (fun i => a.edges.length - i) 0 (Nat.zero_le _) (Weaks.mk (Nat.le_refl _) rfl (by simp [ToL, lk]) (by simp [BoxL, lk, fillE])) ?_
    rintro i S hi hS
    simp only [st49b] at hS
    subst hS
    have hw : IntKind.i64.wrap (↑i + 1) = ((i + 1 : Nat) : Int) := by rw [wrap_in (by omega) (by omega)]; rfl
    have hfl := fillE_len q p a.edges mm i
    repeat (first | refine AL.seq ?_ | refine AL.block ?_ | refine AL.skip ?_ | refine AL.blk ?_)
    refine AL.region follows_Try (Nat.le_refl _) (by kernel_rfl) ?_
    simp
    repeat (first | refine AL.seq ?_ | refine AL.block ?_ | refine AL.skip ?_ | refine AL.blk ?_)
    refine AL.cond ?_
    simp
    refine ⟨fun hlt => ?_, fun hge => ?_⟩
    · have hiq : i < q.length := by omega
      obtain ⟨r1, r2⟩ := hrk i hiq
      have r3 : q[i].toNat < mm := by omega
      obtain ⟨x1, x2, x3, x4⟩ := hx _ (List.getElem_mem hlt)
      have hpl' : p.length = a.nodes.length := by omega
      have y1 : a.edges[i].fr.toNat < p.length := by omega
      have y2 : a.edges[i].to.toNat < p.length := by omega
      rw [← hpl'] at x2 x4
      repeat (first | refine AL.seq ?_ | refine AL.block ?_ | refine AL.skip ?_ | refine AL.blk ?_)
      refine AL.region follows_Try (Nat.le_refl _) (by kernel_rfl) ?_
      simp [hlt]
      repeat (first | refine AL.seq ?_ | refine AL.block ?_ | refine AL.skip ?_ | refine AL.blk ?_)
      refine AL.region follows_Try (Nat.le_refl _) (by kernel_rfl) ?_
      simp [hlt, hiq, r1, r2, r3, hfl, x1, x2, x3, x4, y1, y2]
      repeat (first | refine AL.seq ?_ | refine AL.block ?_ | refine AL.skip ?_ | refine AL.blk ?_)
      refine AL.region follows_Try (Nat.le_refl _) (by kernel_rfl) ?_
      simp [hw]
      repeat (first | refine AL.seq ?_ | refine AL.block ?_ | refine AL.skip ?_ | refine AL.blk ?_)
      refine AL.nil ?_
      refine ⟨i + 1, hlt, by omega, Weaks.mk (Nat.le_refl _) rfl (by simp [ToL, lk]) (by simp [BoxL, lk, fillE, hiq, hlt, y1, y2])⟩
    · repeat (first | refine AL.seq ?_ | refine AL.block ?_ | refine AL.skip ?_ | refine AL.blk ?_)
      refine AL.exit ?_
      simp only [AU, ↓reduceIte]
      have : i = a.edges.length := by omega
      subst this
      refine AL.weak (Weaks.frz (l' := [(6, .ptr (nb + 6) 0 0), (13, .ptr (nb + 13) 0 0)]) (loc' := [(6, [[.bot, .bot, .bot, .bot]]), (13, [[.d (ints (fillN p a.nodes nn a.nodes.length)), .msl (nb + 33) 0 mm 3, .d (ints p), .d (ints q)]]), (33, rowsE (fillE q p a.edges mm a.edges.length))])
        31 1 (rI (fillN p a.nodes nn a.nodes.length)) (Nat.le_refl _) rfl (by simp [lk, rowsI_eq]) (by simp [lk]) (by simp) (by simp [ToL, lk]) (by simp [BoxL, lk, hfl2])) ?_
      refine AL.weak (Weaks.frz (l' := [(6, .ptr (nb + 6) 0 0), (13, .ptr (nb + 13) 0 0)]) (loc' := [(6, [[.bot, .bot, .bot, .bot]]), (13, [[.d (ints (fillN p a.nodes nn a.nodes.length)), .d (AM.edges (fillE q p a.edges mm a.edges.length)), .d (ints p), .d (ints q)]])])
        33 3 (rE (fillE q p a.edges mm a.edges.length)) (Nat.le_refl _) rfl (by simp [lk, rowsE_eq]) (by simp [lk]) (by simp) (by simp [ToL, lk]) (by simp [BoxL, lk, fillE_len])) ?_
      repeat (first | refine AL.seq ?_ | refine AL.block ?_ | refine AL.skip ?_ | refine AL.blk ?_)
      refine AL.region follows_Try (Nat.le_refl _) (by kernel_rfl) ?_
      simp
      repeat (first | refine AL.seq ?_ | refine AL.block ?_ | refine AL.skip ?_ | refine AL.blk ?_)
      refine AL.ret ?_
      try simp only [AU]
      refine ⟨by simp, Fin.data (by simp [resAs, resA]; rfl) hbox rfl htok (fun _ h => h) (Nat.le_refl _) ?_⟩
      simp [packA, quF, hp, hq, hn, hm]
end Go.AM
/-
  The plain law of the standard quotients: listing all partitions and choosing those that fit is going on from the least elements, class by class. No program in sight.
-/
namespace Go.AM
open Go
set_option linter.unusedSimpArgs false
set_option linter.unusedVariables false

/-! ### Lists that grow up to 2001 -/
def lim {α : Type} (out L : List α) : List α := out ++ L.take (2001 - out.length)
theorem lim_nil {α : Type} (out : List α) : lim out [] = out := by simp [lim]
theorem lim_append {α : Type} (out A B : List α) : lim (lim out A) B = lim out (A ++ B) := by
  unfold lim
  rw [List.take_append, List.append_assoc]
  congr 2
  simp only [List.length_append, List.length_take]
  congr 1
  omega
theorem lim_full {α : Type} (out L : List α) (h : 2000 < out.length) : lim out L = out := by
  unfold lim
  have : 2001 - out.length = 0 := by omega
  simp [this]
theorem lim_one {α : Type} (out : List α) (x : α) (h : ¬ 2000 < out.length) : lim out [x] = out ++ [x] := by
  unfold lim
  have : 2001 - out.length = (2001 - out.length - 1) + 1 := by omega
  rw [this]
  simp
theorem foldl_lim {α : Type} (c : Nat → Bool) (f : Nat → List α → List α) (g : Nat → List α) : ∀ (ks : List Nat) (out : List α), (∀ k ∈ ks, ∀ out, f k out = lim out (g k)) →
    ks.foldl (fun out k => if c k = true then f k out else out) out = lim out ((ks.filter c).flatMap g)
  | [], out, _ => by simp [lim_nil]
  | k :: ks, out, h => by
    rw [List.foldl_cons, foldl_lim c f g ks _ (fun k hk => h k (by simp [hk]))]
    by_cases hk : c k = true
    · rw [List.filter_cons_of_pos hk, List.flatMap_cons, if_pos hk, h k (by simp), lim_append]
    · rw [List.filter_cons_of_neg hk, if_neg hk]

/-! ### One element after the other -/
def nextsG (g : Nat → Int → Bool) (l : List Int) : List (List Int) := ((List.range (l.length + 1)).filter fun x => decide (x = l.length ∨ (l.getD x 0 = x ∧ g l.length x = true))).map fun (x : Nat) => l ++ [(x : Int)]
def dfsG (g : Nat → Int → Bool) : Nat → List Int → List (List Int)
  | 0, l => [l]
  | n + 1, l => (nextsG g l).flatMap (dfsG g n)
def reachG (g : Nat → Int → Bool) : Nat → List Int → List (List Int)
  | 0, l => [l]
  | n + 1, l => (reachG g n l).flatMap (nextsG g)

theorem reach_comm (g : Nat → Int → Bool) : ∀ (n : Nat) (l : List Int), (nextsG g l).flatMap (reachG g n) = reachG g (n + 1) l
  | 0, l => by simp [reachG]
  | n + 1, l => by
    have : (fun l => reachG g (n + 1) l) = fun l => (reachG g n l).flatMap (nextsG g) := rfl
    show (nextsG g l).flatMap (fun l => (reachG g n l).flatMap (nextsG g)) = (reachG g (n + 1) l).flatMap (nextsG g)
    rw [← reach_comm g n l, List.flatMap_assoc]
theorem dfs_reach (g : Nat → Int → Bool) : ∀ (n : Nat) (l : List Int), dfsG g n l = reachG g n l
  | 0, l => rfl
  | n + 1, l => by
    have : dfsG g n = reachG g n := funext fun l => dfs_reach g n l
    rw [dfsG, this, reach_comm]

theorem alikeB_snoc (g : Nat → Int → Bool) (l : List Int) (x : Int) : alikeB g (l ++ [x]) = (alikeB g l && g l.length x) := by
  unfold alikeB
  simp only [List.length_append, List.length_cons, List.length_nil, Nat.zero_add]
  rw [alikeK_succ]
  congr 1
  · unfold alikeK
    rw [Bool.eq_iff_iff, List.all_eq_true, List.all_eq_true]
    constructor <;> intro h j hj <;> have := h j hj <;> have hj' : j < l.length := by simpa using hj
    · rw [List.getD_eq_getElem?_getD, List.getElem?_append_left hj', ← List.getD_eq_getElem?_getD] at this
      exact this
    · rw [List.getD_eq_getElem?_getD, List.getElem?_append_left hj', ← List.getD_eq_getElem?_getD]
      exact this
  · simp

theorem reach_filter (g : Nat → Int → Bool) (hg : ∀ i : Nat, g i i = true) : ∀ n, reachG g n [] = (partsN n).filter (alikeB g)
  | 0 => by simp [reachG, partsN, alikeB, alikeK]
  | n + 1 => by
    rw [reachG, reach_filter g hg n, partsN, List.filter_flatMap]
    have key : ∀ L : List (List Int), (∀ l ∈ L, l.length = n) → (L.filter (alikeB g)).flatMap (nextsG g) = L.flatMap fun l => (nextsK l (n + 1)).filter (alikeB g) := by
      intro L
      induction L with
      | nil => intro _; rfl
      | cons l L ih =>
        intro hL
        have hl := hL l (by simp)
        have hone : (nextsK l (n + 1)).filter (alikeB g) = if alikeB g l = true then nextsG g l else [] := by
          unfold nextsK nextsG
          rw [List.filter_map, List.filter_filter, hl]
          by_cases ha : alikeB g l = true
          · rw [if_pos ha]
            congr 1
            apply List.filter_congr
            intro x hx
            simp only [Function.comp, alikeB_snoc, ha, Bool.true_and, hl]
            rw [Bool.eq_iff_iff]
            simp only [Bool.and_eq_true, Bool.or_eq_true, decide_eq_true_eq]
            constructor
            · rintro ⟨h1, h2 | h2⟩
              · exact .inl h2
              · exact .inr ⟨h2, h1⟩
            · rintro (h1 | ⟨h1, h2⟩)
              · subst h1; exact ⟨hg _, .inl rfl⟩
              · exact ⟨h2, .inr h1⟩
          · rw [if_neg ha]
            have : ((List.range (n + 1)).filter fun a => ((alikeB g) ∘ fun (x : Nat) => l ++ [(x : Int)]) a && (decide (a = n) || decide (l.getD a 0 = ↑a))) = [] := by
              rw [List.filter_eq_nil_iff]
              intro x hx
              simp only [Function.comp, alikeB_snoc]
              simp [ha]
            rw [this]
            rfl
        rw [List.flatMap_cons, hone]
        by_cases ha : alikeB g l = true
        · rw [List.filter_cons_of_pos ha, List.flatMap_cons, if_pos ha, ih fun l hl => hL l (by simp [hl])]
        · rw [List.filter_cons_of_neg ha, if_neg ha, ih fun l hl => hL l (by simp [hl])]
          rfl
    exact key _ (partsN_len n)

/-! ### The reference's lists -/
def gE (a : Gr) (p : List Int) (i : Nat) (k : Int) : Bool := decide (likeE a p i k.toNat)
def gN (a : Gr) (i : Nat) (k : Int) : Bool := decide (a.nodes.getD i 0 = a.nodes.getD k.toNat 0)

theorem quE_lim (a : Gr) (p : List Int) : ∀ (n : Nat) (es : List Int) (out : List Qu), quE a p n es out = lim out ((dfsG (gE a p) n es).map (quot a p))
  | 0, es, out => by
    unfold quE
    split
    · rename_i h; rw [lim_full _ _ h]
    · rename_i h; simp only [dfsG, List.map_cons, List.map_nil]; rw [lim_one _ _ h]
  | n + 1, es, out => by
    unfold quE
    split
    · rename_i h; rw [lim_full _ _ h]
    · have h1 : (quStepE a p (quE a p n) es) = fun out k => if (decide (k = es.length ∨ (es.getD k 0 = k ∧ gE a p es.length k = true))) = true then quE a p n (es ++ [(k : Int)]) out else out := by
        funext out k
        simp only [quStepE, gE, decide_eq_true_eq, Int.toNat_natCast]
      rw [h1, foldl_lim _ (fun (k : Nat) out => quE a p n (es ++ [(k : Int)]) out) (fun (k : Nat) => (dfsG (gE a p) n (es ++ [(k : Int)])).map (quot a p)) _ _ (fun k _ out => quE_lim a p n _ out)]
      congr 1
      simp only [dfsG, nextsG, List.map_flatMap, List.flatMap_map]

theorem quN_lim (a : Gr) : ∀ (n : Nat) (l : List Int) (out : List Qu), quN a n l out = lim out ((dfsG (gN a) n l).flatMap fun p => (dfsG (gE a p) a.edges.length []).map (quot a p))
  | 0, l, out => by
    unfold quN
    split
    · rename_i h; rw [lim_full _ _ h]
    · simp only [dfsG, List.flatMap_cons, List.flatMap_nil, List.append_nil]; rw [quE_lim]
  | n + 1, l, out => by
    unfold quN
    split
    · rename_i h; rw [lim_full _ _ h]
    · have h1 : (quStepN a (quN a n) l) = fun out k => if (decide (k = l.length ∨ (l.getD k 0 = k ∧ gN a l.length k = true))) = true then quN a n (l ++ [(k : Int)]) out else out := by
        funext out k
        simp only [quStepN, gN, decide_eq_true_eq, Int.toNat_natCast]
        congr 1
        rw [eq_comm (a := a.nodes.getD k 0)]
      rw [h1, foldl_lim _ (fun (k : Nat) out => quN a n (l ++ [(k : Int)]) out) (fun (k : Nat) => (dfsG (gN a) n (l ++ [(k : Int)])).flatMap fun p => (dfsG (gE a p) a.edges.length []).map (quot a p)) _ _ (fun k _ out => quN_lim a n _ out)]
      congr 1
      simp only [dfsG, nextsG, List.flatMap_assoc, List.flatMap_map]

/-- All standard quotients, as the program lists them. -/
def listQ (a : Gr) : List Qu := ((partsN a.nodes.length).filter (alikeB (gN a))).flatMap fun p => ((partsN a.edges.length).filter (alikeB (gE a p))).map (quF a p)

/-! ### Numbers by least elements -/
section
variable {α : Type}
def repG (f : Nat → α) (l : List Int) : Nat → List α
  | 0 => []
  | i + 1 => if l.getD i 0 = i then repG f l i ++ [f i] else repG f l i
def fillG (p : List Int) (f : Nat → α) (n : Nat) (d : α) : Nat → List α
  | 0 => List.replicate n d
  | i + 1 => (fillG p f n d i).set (p.getD i 0).toNat (f i)

theorem numN_pre (l : List Int) : ∀ (i j k : Nat), j ≤ i → k < j → (numN l i).1.getD k 0 = (numN l j).1.getD k 0 := by
  intro i j k hji hkj
  induction i with
  | zero => have : j = 0 := by omega
            subst this; rfl
  | succ i ih =>
    by_cases h : j = i + 1
    · subst h; rfl
    · rw [← ih (by omega)]
      have hl := (numN_len l i).1
      simp only [numN]
      split <;> simp only [List.getD_eq_getElem?_getD] <;> rw [List.getElem?_append_left (by omega)]

theorem numN_rep (f : Nat → α) (l : List Int) : ∀ i, (repG f l i).length = (numN l i).2.toNat
  | 0 => rfl
  | i + 1 => by
    have ih := numN_rep f l i
    have h := numN_len l i
    simp only [repG, numN]
    split
    · simp only [List.length_append, List.length_cons, List.length_nil]; omega
    · exact ih

theorem numN_get {l : List Int} (hp : PartL l) (f : Nat → α) (hf : ∀ i (h : i < l.length), f l[i].toNat = f i) : ∀ i, i ≤ l.length → ∀ j, j < i → (repG f l i)[((numN l i).1.getD j 0).toNat]? = some (f j)
  | 0, _ => by intro j h; omega
  | i + 1, hi => by
    intro j hj
    have ih := numN_get hp f hf i (by omega)
    have hlen := numN_len l i
    have hil : i < l.length := by omega
    have hg : l.getD i 0 = l[i] := by simp [hil]
    obtain ⟨p1, p2, p3⟩ := hp i hil
    have hrep := numN_rep f l i
    by_cases hji : j < i
    · rw [numN_pre l (i + 1) i j (by omega) hji]
      have h1 := ih j hji
      simp only [repG]
      split
      · have hlt : ((numN l i).1.getD j 0).toNat < (repG f l i).length := (List.getElem?_eq_some_iff.1 h1).1
        rw [List.getElem?_append_left hlt]
        exact h1
      · exact h1
    · have hji2 : j = i := by omega
      subst hji2
      simp only [repG, numN, hg]
      split
      · rename_i he
        have : ((numN l j).1 ++ [(numN l j).2]).getD j 0 = (numN l j).2 := by
          rw [List.getD_eq_getElem?_getD, List.getElem?_append_right (by omega)]
          simp [hlen.1]
        rw [this, ← hrep]
        simp
      · rename_i he
        have : ((numN l j).1 ++ [(numN l j).1.getD l[j].toNat 0]).getD j 0 = (numN l j).1.getD l[j].toNat 0 := by
          rw [List.getD_eq_getElem?_getD, List.getElem?_append_right (by omega)]
          simp [hlen.1]
        rw [this, ih l[j].toNat (by omega), hf j hil]

theorem numN_mono (l : List Int) : ∀ i j, i ≤ j → (numN l i).2 ≤ (numN l j).2 := by
  intro i j h
  induction j with
  | zero => have : i = 0 := by omega
            subst this; exact Int.le_refl _
  | succ j ih =>
    by_cases e : i = j + 1
    · subst e; exact Int.le_refl _
    · have := ih (by omega)
      simp only [numN]
      split <;> simp only <;> omega

theorem fill_rep {l : List Int} (hp : PartL l) (f : Nat → α) (d : α) (hf : ∀ i (h : i < l.length), f l[i].toNat = f i) : ∀ i, i ≤ l.length →
    fillG (numN l l.length).1 f (numN l l.length).2.toNat d i = repG f l i ++ List.replicate ((numN l l.length).2.toNat - (numN l i).2.toNat) d
  | 0, _ => by simp [fillG, repG, numN]
  | i + 1, hi => by
    have ih := fill_rep hp f d hf i (by omega)
    have hil : i < l.length := by omega
    have hg : l.getD i 0 = l[i] := by simp [hil]
    have hlen := numN_len l i
    have hrep := numN_rep f l i
    rw [fillG, ih, numN_pre l l.length (i + 1) i hi (by omega)]
    have hm := numN_mono l (i + 1) l.length hi
    simp only [repG, numN, hg] at hm ⊢
    split
    · rename_i he
      simp only [he, ↓reduceIte] at hm
      have e1 : ((numN l i).1 ++ [(numN l i).2]).getD i 0 = (numN l i).2 := by
        rw [List.getD_eq_getElem?_getD, List.getElem?_append_right (by omega)]
        simp [hlen.1]
      rw [e1, List.set_append, ← hrep]
      simp only [Nat.lt_irrefl, ↓reduceIte, Nat.sub_self]
      have e2 : (numN l l.length).2.toNat - (repG f l i).length = ((numN l l.length).2.toNat - ((numN l i).2 + 1).toNat) + 1 := by omega
      rw [e2, List.replicate_succ, List.set_cons_zero, List.append_assoc]
      rfl
    · rename_i he
      have e1 : ((numN l i).1 ++ [(numN l i).1.getD l[i].toNat 0]).getD i 0 = (numN l i).1.getD l[i].toNat 0 := by
        rw [List.getD_eq_getElem?_getD, List.getElem?_append_right (by omega)]
        simp [hlen.1]
      obtain ⟨p1, p2, p3⟩ := hp i hil
      have h3 := numN_get hp f hf i (by omega) l[i].toNat (by omega)
      rw [hf i hil] at h3
      obtain ⟨h4, h5⟩ := List.getElem?_eq_some_iff.1 h3
      rw [e1, List.set_append, if_pos h4, ← h5, List.set_getElem_self]

theorem fill_rep_all {l : List Int} (hp : PartL l) (f : Nat → α) (d : α) (hf : ∀ i (h : i < l.length), f l[i].toNat = f i) :
    fillG (numN l l.length).1 f (numN l l.length).2.toNat d l.length = repG f l l.length := by
  rw [fill_rep hp f d hf l.length (Nat.le_refl _), Nat.sub_self]
  simp
end

theorem fillN_eq (p an : List Int) (n : Nat) : ∀ i, fillN p an n i = fillG p (fun j => an.getD j 0) n 0 i
  | 0 => rfl
  | i + 1 => by rw [fillN, fillG, fillN_eq p an n i]
theorem repN_eq (an l : List Int) : ∀ i, repN an l i = repG (fun j => an.getD j 0) l i
  | 0 => rfl
  | i + 1 => by rw [repN, repG, repN_eq an l i]
def edgeAt (ae : List E) (p : List Int) (j : Nat) : E := ⟨(ae.getD j default).ty, p.getD (ae.getD j default).fr.toNat 0, p.getD (ae.getD j default).to.toNat 0⟩
theorem fillE_eq (q p : List Int) (ae : List E) (n : Nat) : ∀ i, fillE q p ae n i = fillG q (edgeAt ae p) n ⟨0, 0, 0⟩ i
  | 0 => rfl
  | i + 1 => by rw [fillE, fillG, fillE_eq q p ae n i]; rfl
theorem repE_eq (ae : List E) (p l : List Int) : ∀ i, repE ae p l i = repG (edgeAt ae p) l i
  | 0 => rfl
  | i + 1 => by rw [repE, repG, repE_eq ae p l i]; rfl

/-- What one class has is one number. -/
theorem numN_class {l : List Int} (hp : PartL l) (x : Nat) (hx : x < l.length) : (numN l l.length).1.getD x 0 = (numN l l.length).1.getD l[x].toNat 0 := by
  obtain ⟨p1, p2, p3⟩ := hp x hx
  by_cases he : l[x] = x
  · rw [he]; rfl
  · rw [numN_pre l l.length (x + 1) x (by omega) (by omega), numN_pre l l.length x l[x].toNat (by omega) (by omega)]
    have hlen := numN_len l x
    have hg : l.getD x 0 = l[x] := by simp [hx]
    simp only [numN, hg, he, ↓reduceIte]
    rw [List.getD_eq_getElem?_getD, List.getElem?_append_right (by omega)]
    simp [hlen.1]

theorem alikeB_all {g : Nat → Int → Bool} {l : List Int} (h : alikeB g l = true) (i : Nat) (hi : i < l.length) : g i l[i] = true := by
  unfold alikeB alikeK at h
  have := List.all_eq_true.1 h i (by simpa using hi)
  simpa [hi] using this

theorem quF_quot (a : Gr) (l k : List Int) (hl : l.length = a.nodes.length) (hk : k.length = a.edges.length) (hpl : PartL l) (hpk : PartL k) (hx : ∀ e ∈ a.edges, 0 ≤ e.fr ∧ e.fr < a.nodes.length ∧ 0 ≤ e.to ∧ e.to < a.nodes.length)
    (h1 : alikeB (gN a) l = true) (h2 : alikeB (gE a l) k = true) : quF a l k = quot a l k := by
  unfold quF quot
  simp only
  congr 1
  congr 1
  · rw [← hl, fillN_eq, repN_eq]
    refine fill_rep_all hpl _ _ fun i hi => ?_
    have := alikeB_all h1 i hi
    simp only [gN, decide_eq_true_eq] at this
    exact this.symm
  · rw [← hk, fillE_eq, repE_eq]
    refine fill_rep_all hpk _ _ fun i hi => ?_
    have := alikeB_all h2 i hi
    simp only [gE, decide_eq_true_eq] at this
    obtain ⟨t1, t2, t3⟩ := this
    have hia : i < a.edges.length := by omega
    obtain ⟨q1, q2, q3⟩ := hpk i hi
    have hka : k[i].toNat < a.edges.length := by omega
    have g1 : a.edges.getD i default = a.edges[i] := by simp [hia]
    have g2 : a.edges.getD k[i].toNat default = a.edges[k[i].toNat] := by simp [hka]
    obtain ⟨x1, x2, x3, x4⟩ := hx _ (List.getElem_mem hia)
    obtain ⟨z1, z2, z3, z4⟩ := hx _ (List.getElem_mem hka)
    have cls : ∀ x y : Nat, x < l.length → y < l.length → l.getD x 0 = l.getD y 0 → (numN l l.length).1.getD x 0 = (numN l l.length).1.getD y 0 := by
      intro x y hx hy he
      have e1 : l.getD x 0 = l[x] := by simp [hx]
      have e2 : l.getD y 0 = l[y] := by simp [hy]
      rw [numN_class hpl x hx, numN_class hpl y hy, ← e1, ← e2, he]
    rw [g1, g2] at t1 t2 t3
    simp only [edgeAt, g1, g2, E.mk.injEq]
    exact ⟨t1.symm, (cls _ _ (by omega) (by omega) t2).symm, (cls _ _ (by omega) (by omega) t3).symm⟩

theorem quN_list (a : Gr) (hx : ∀ e ∈ a.edges, 0 ≤ e.fr ∧ e.fr < a.nodes.length ∧ 0 ≤ e.to ∧ e.to < a.nodes.length) : quN a a.nodes.length [] [] = (listQ a).take 2001 := by
  rw [quN_lim, dfs_reach, reach_filter _ (fun i => by simp [gN])]
  have e : (((partsN a.nodes.length).filter (alikeB (gN a))).flatMap fun p => (dfsG (gE a p) a.edges.length []).map (quot a p)) = listQ a := by
    unfold listQ
    have key : ∀ L : List (List Int), (∀ p ∈ L, p ∈ partsN a.nodes.length ∧ alikeB (gN a) p = true) → (L.flatMap fun p => (dfsG (gE a p) a.edges.length []).map (quot a p)) = L.flatMap fun p => ((partsN a.edges.length).filter (alikeB (gE a p))).map (quF a p) := by
      intro L
      induction L with
      | nil => intro _; rfl
      | cons p L ih =>
        intro hL
        obtain ⟨hp, ha⟩ := hL p (by simp)
        rw [List.flatMap_cons, List.flatMap_cons, ih fun p hp => hL p (by simp [hp]), dfs_reach, reach_filter _ (fun i => by simp [gE, likeE])]
        congr 1
        apply List.map_congr_left
        intro q hq
        rw [List.mem_filter] at hq
        exact (quF_quot a p q (partsN_len _ p hp) (partsN_len _ q hq.1) (partsN_partL _ p hp) (partsN_partL _ q hq.1) hx ha hq.2).symm
    exact key _ fun p hp => by simpa using List.mem_filter.1 hp
  rw [e]
  simp [lim]
end Go.AM
namespace Go.AM
open Go Go.Proofs
set_option linter.unusedSimpArgs false
set_option linter.unusedVariables false

/-! ### factor.Quotients -/
def qsOf (a : Gr) (L M : List (List Int)) (p : List Int) : List Qu := (M.filter (alikeB (gE a p))).map (quF a p)
def goneQ (a : Gr) (j : Nat) : List Qu := (((partsN a.nodes.length).take j).filter (alikeB (gN a))).flatMap (qsOf a [] (partsN a.edges.length))
def goneE (a : Gr) (p : List Int) (i : Nat) : List Qu := qsOf a [] ((partsN a.edges.length).take i) p

theorem goneQ_all (a : Gr) : goneQ a (partsN a.nodes.length).length = listQ a := by
  unfold goneQ listQ qsOf
  rw [List.take_length]
theorem goneE_all (a : Gr) (p : List Int) : goneE a p (partsN a.edges.length).length = qsOf a [] (partsN a.edges.length) p := by
  unfold goneE
  rw [List.take_length]
theorem goneQ_no (a : Gr) (j : Nat) (h : j < (partsN a.nodes.length).length) (hp : alikeB (gN a) (partsN a.nodes.length)[j] = false) : goneQ a (j + 1) = goneQ a j := by
  unfold goneQ
  rw [List.take_succ_eq_append_getElem h, List.filter_append]
  simp [hp]
theorem goneQ_yes (a : Gr) (j : Nat) (h : j < (partsN a.nodes.length).length) (hp : alikeB (gN a) (partsN a.nodes.length)[j] = true) : goneQ a (j + 1) = goneQ a j ++ qsOf a [] (partsN a.edges.length) (partsN a.nodes.length)[j] := by
  unfold goneQ
  rw [List.take_succ_eq_append_getElem h, List.filter_append, List.flatMap_append]
  simp [hp]
theorem goneE_no (a : Gr) (p : List Int) (i : Nat) (h : i < (partsN a.edges.length).length) (hp : alikeB (gE a p) (partsN a.edges.length)[i] = false) : goneE a p (i + 1) = goneE a p i := by
  unfold goneE qsOf
  rw [List.take_succ_eq_append_getElem h, List.filter_append]
  simp [hp]
theorem goneE_yes (a : Gr) (p : List Int) (i : Nat) (h : i < (partsN a.edges.length).length) (hp : alikeB (gE a p) (partsN a.edges.length)[i] = true) : goneE a p (i + 1) = goneE a p i ++ [quF a p (partsN a.edges.length)[i]] := by
  unfold goneE qsOf
  rw [List.take_succ_eq_append_getElem h, List.filter_append, List.map_append]
  simp [hp]
theorem goneE_le (a : Gr) (p : List Int) (i : Nat) (h : i ≤ (partsN a.edges.length).length) : (goneE a p i).length ≤ (qsOf a [] (partsN a.edges.length) p).length := by
  exact (((List.take_sublist i (partsN a.edges.length)).filter (alikeB (gE a p))).map (quF a p)).length_le
theorem goneQ_le (a : Gr) (j : Nat) : (goneQ a j).length ≤ (listQ a).length := by
  have : partsN a.nodes.length = (partsN a.nodes.length).take j ++ (partsN a.nodes.length).drop j := by simp
  have e : listQ a = goneQ a j ++ (((partsN a.nodes.length).drop j).filter (alikeB (gN a))).flatMap (qsOf a [] (partsN a.edges.length)) := by
    unfold goneQ
    rw [← List.flatMap_append, ← List.filter_append, ← this]
    rfl
  rw [e]
  simp

theorem quotientsR_list (a : Gr) (hv : validG a = 0) (hs : ¬ (6 < a.nodes.length ∨ 6 < a.edges.length)) : quotientsR a = if 2000 < (listQ a).length then ([], 3) else (listQ a, 0) := by
  have h := quN_list a (validG_edges hv)
  unfold quotientsR
  simp only [hv, hs, h, ne_eq, not_true_eq_false, ↓reduceIte]
  by_cases hb : 2000 < (listQ a).length
  · have : 2000 < ((listQ a).take 2001).length := by simp; omega
    rw [if_pos this, if_pos hb]
  · have : (listQ a).take 2001 = listQ a := List.take_of_length_le (by omega)
    rw [this]

structure AccQ where
  i : Nat
  own : Own
  tok : Nat → Bool
  nt : Nat

def st18a (a : Gr) (nb : Nat) (box : Nat → Option (List (List AV))) (x : AccQ) : AState :=
  ⟨tl [(1, .ptr (nb + 1) 0 0), (7, .d (lists (partsN a.edges.length))), (9, .osl 4 ((goneQ a x.i).map Qu.cells) x.own), (44, .d (lists (partsN a.nodes.length))), (45, I (partsN a.nodes.length).length), (46, I x.i)],
    lb nb box [(1, [[.d (ints a.nodes), .d (AM.edges a.edges)]])], x.tok, x.nt⟩

def st18b (a : Gr) (p : List Int) (j : Nat) (nb : Nat) (box : Nat → Option (List (List AV))) (x : AccQ) : AState :=
  ⟨tl [(1, .ptr (nb + 1) 0 0), (7, .d (lists (partsN a.edges.length))), (9, .osl 4 ((goneQ a j ++ goneE a p x.i).map Qu.cells) x.own), (11, .ptr (nb + 11) 0 0), (12, .fn (.func 48) [.ptr (nb + 1) 0 0, .ptr (nb + 11) 0 0]),
      (44, .d (lists (partsN a.nodes.length))), (45, I (partsN a.nodes.length).length), (46, I j), (55, .d (lists (partsN a.edges.length))), (56, I (partsN a.edges.length).length), (57, I x.i)],
    lb nb box [(1, [[.d (ints a.nodes), .d (AM.edges a.edges)]]), (11, [[.d (ints p)]])], x.tok, x.nt⟩

theorem quotientsF_c (a : Gr) (ha : a.Fit) (tok : Nat → Bool) (nt : Nat) : DCall Try.prog 18 [a.av] tok nt (.tup [.d (qus (quotientsR a).1), I (quotientsR a).2]) tok nt := by
  intro box nb
  have han := ha.n
  have hae := ha.e
  have main : ACalls Try.prog 18 [a.av] ⟨box, nb, tok, nt⟩ fun v m => (v = .tup [.d (qus (quotientsR a).1), I (quotientsR a).2] ∨ (quotientsR a).1 = [] ∧ v = .tup [.osl 0 [] .full, I (quotientsR a).2]) ∧ m = ⟨box, nb, tok, nt⟩ := by
    refine ACalls.of_body Try.func18 rfl (by kernel_rfl) follows_Try (by kernel_rfl) (by simp [Try.ntmps18]) ?_
    intro hbox htok
    simp only at hbox htok
    apply AL.start
    repeat (first | refine AL.seq ?_ | refine AL.block ?_ | refine AL.skip ?_ | refine AL.blk ?_)
    refine AL.region follows_Try (Nat.le_refl _) (by kernel_rfl) ?_
    simp
    repeat (first | refine AL.seq ?_ | refine AL.block ?_ | refine AL.skip ?_ | refine AL.blk ?_)
    refine AL.region follows_Try (Nat.le_refl _) (by kernel_rfl) ?_
    simp
    refine Stop.of_d (graphValid_c a ha _ _) ?_
    simp
    by_cases hva : validG a = 0
    · repeat (first | refine AL.seq ?_ | refine AL.block ?_ | refine AL.skip ?_ | refine AL.blk ?_)
      refine AL.region follows_Try (Nat.le_refl _) (by kernel_rfl) ?_
      simp [hva]
      repeat (first | refine AL.seq ?_ | refine AL.block ?_ | refine AL.skip ?_ | refine AL.blk ?_)
      refine AL.cond ?_
      simp
      have big : (6 < a.nodes.length ∨ 6 < a.edges.length) → quotientsR a = ([], 3) := fun hbig => by simp [quotientsR, hva, hbig]
      repeat (first | refine AL.seq ?_ | refine AL.block ?_ | refine AL.skip ?_ | refine AL.blk ?_)
      refine AL.region follows_Try (Nat.le_refl _) (by kernel_rfl) ?_
      simp
      first | refine Gd.dt (fun hs1 => ?_) (fun hs1 => ?_) | refine Gd.df (fun hs1 => ?_) (fun hs1 => ?_) | refine Gd.t (fun hs1 => ?_) (fun hs1 => ?_) | refine Gd.f (fun hs1 => ?_) (fun hs1 => ?_)
      · simp [hs1]
        repeat (first | refine AL.seq ?_ | refine AL.block ?_ | refine AL.skip ?_ | refine AL.blk ?_)
        refine AL.cond ?_
        simp
        repeat (first | refine AL.seq ?_ | refine AL.block ?_ | refine AL.skip ?_ | refine AL.blk ?_)
        refine AL.region follows_Try (Nat.le_refl _) (by kernel_rfl) ?_
        simp
        have hR := big (by omega)
        repeat (first | refine AL.seq ?_ | refine AL.block ?_ | refine AL.skip ?_ | refine AL.blk ?_)
        refine AL.ret ?_
        try simp only [AU]
        refine ⟨by simp, (Fin.data (av := .tup [.osl 0 [] .full, I 3]) (by simp [resAs, resA]; rfl) hbox rfl htok (fun _ h => h) (Nat.le_refl _) (by simp [packA])).mono fun v m hq => ⟨.inr ⟨by rw [hR], by rw [hR, hq.1]⟩, hq.2⟩⟩
      · simp [hs1]
        repeat (first | refine AL.seq ?_ | refine AL.block ?_ | refine AL.skip ?_ | refine AL.blk ?_)
        refine AL.cond ?_
        simp
        refine ⟨fun hs2 => ?_, fun hs2 => ?_⟩
        · repeat (first | refine AL.seq ?_ | refine AL.block ?_ | refine AL.skip ?_ | refine AL.blk ?_)
          refine AL.region follows_Try (Nat.le_refl _) (by kernel_rfl) ?_
          simp
          have hR := big (by omega)
          repeat (first | refine AL.seq ?_ | refine AL.block ?_ | refine AL.skip ?_ | refine AL.blk ?_)
          refine AL.ret ?_
          try simp only [AU]
          refine ⟨by simp, (Fin.data (av := .tup [.osl 0 [] .full, I 3]) (by simp [resAs, resA]; rfl) hbox rfl htok (fun _ h => h) (Nat.le_refl _) (by simp [packA])).mono fun v m hq => ⟨.inr ⟨by rw [hR], by rw [hR, hq.1]⟩, hq.2⟩⟩
        · have hsm : ¬ (6 < a.nodes.length ∨ 6 < a.edges.length) := by omega
          have hRl := quotientsR_list a hva hsm
          repeat (first | refine AL.seq ?_ | refine AL.block ?_ | refine AL.skip ?_ | refine AL.blk ?_)
          refine AL.region follows_Try (Nat.le_refl _) (by kernel_rfl) ?_
          simp
          refine Stop.of_d (all45_c a.nodes.length (by omega) _ _) ?_
          simp
          repeat (first | refine AL.seq ?_ | refine AL.block ?_ | refine AL.skip ?_ | refine AL.blk ?_)
          refine AL.region follows_Try (Nat.le_refl _) (by kernel_rfl) ?_
          simp
          refine Stop.of_d (all45_c a.edges.length (by omega) _ _) ?_
          simp
          repeat (first | refine AL.seq ?_ | refine AL.block ?_ | refine AL.skip ?_ | refine AL.blk ?_)
          refine AL.region follows_Try (Nat.le_refl _) (by kernel_rfl) ?_
          simp
          repeat (first | refine AL.seq ?_ | refine AL.block ?_ | refine AL.skip ?_ | refine AL.blk ?_)
          refine AL.region follows_Try (Nat.le_refl _) (by kernel_rfl) ?_
          simp
          repeat (first | refine AL.seq ?_ | refine AL.block ?_ | refine AL.skip ?_ | refine AL.blk ?_)
          have hfew := partsN_few a.nodes.length (by omega)
          have hfewE := partsN_few a.edges.length (by omega)
          refine AL.loopT (st18a a nb box) (fun x => x.i ≤ (partsN a.nodes.length).length ∧ TK tok nt x.tok x.nt [x.own] ∧ (goneQ a x.i).length ≤ 2000) (fun x => (partsN a.nodes.length).length - x.i) ⟨0, .full, tok, nt⟩ ⟨Nat.zero_le _, (TK.start htok).full, by simp [goneQ]⟩ (Weaks.mk (Nat.le_refl _) rfl (by simp [ToL, lk, goneQ]) (by simp [BoxL, lk])) ?_
          rintro ⟨j, own, tok1, nt1⟩ S ⟨hj, htk, hle⟩ hS
          simp only [st18a] at hS hj htk hle
          subst hS
          have hwj : IntKind.i64.wrap (↑j + 1) = ((j + 1 : Nat) : Int) := by rw [wrap_in (by omega) (by omega)]; rfl
          repeat (first | refine AL.seq ?_ | refine AL.block ?_ | refine AL.skip ?_ | refine AL.blk ?_)
          refine AL.region follows_Try (Nat.le_refl _) (by kernel_rfl) ?_
          simp
          repeat (first | refine AL.seq ?_ | refine AL.block ?_ | refine AL.skip ?_ | refine AL.blk ?_)
          refine AL.cond ?_
          simp
          refine ⟨fun hlt => ?_, fun hge => ?_⟩
          · have hpl := partsN_len _ _ (List.getElem_mem hlt)
            have hpp := partsN_partL _ _ (List.getElem_mem hlt)
            have hyes := goneQ_yes a j hlt
            have hno := goneQ_no a j hlt
            repeat (first | refine AL.seq ?_ | refine AL.block ?_ | refine AL.skip ?_ | refine AL.blk ?_)
            refine AL.region follows_Try (Nat.le_refl _) (by kernel_rfl) ?_
            simp [hlt]
            generalize hp : (partsN a.nodes.length)[j] = p at *
            repeat (first | refine AL.seq ?_ | refine AL.block ?_ | refine AL.skip ?_ | refine AL.blk ?_)
            refine AL.region follows_Try (Nat.le_refl _) (by kernel_rfl) ?_
            simp
            have hp7 : p.length ≤ 7 := by omega
            have hf47 : ∀ i (hi : i < p.length), ∀ box' nb', Ext (lb nb box [(11, [[.d (ints p)]]), (11, [[.osl 0 [] .full]]), (1, [[.d (ints a.nodes), .d (AM.edges a.edges)]])]) box' → ACalls Try.prog 47 (I i :: I p[i] :: [.ptr (nb + 1) 0 0]) ⟨box', nb', tok1, nt1⟩ fun v m => v = B (gN a i p[i]) ∧ m = ⟨box', nb', tok1, nt1⟩ := by
              intro i hi box' nb' he
              obtain ⟨q1, q2, q3⟩ := hpp i hi
              have hk : p[i] = ((p[i].toNat : Nat) : Int) := by omega
              have := same47_c a i p[i].toNat (by omega) (by omega) han box' nb' (nb + 1) tok1 nt1 (he _ _ (by simp [lb_at, lk]))
              rw [← hk] at this
              have hg : gN a i p[i] = decide (a.nodes[i]'(by omega) = a.nodes[p[i].toNat]'(by omega)) := by
                have h1 : i < a.nodes.length := by omega
                have h2 : p[i].toNat < a.nodes.length := by omega
                simp [gN, h1, h2]
              rw [hg]
              exact this
            refine Stop.of_b (alike_c p 47 [.ptr (nb + 1) 0 0] (gN a) (by omega) _ _ _ _ (by simp [lb_at, lk]) hf47) ?_
            simp
            repeat (first | refine AL.seq ?_ | refine AL.block ?_ | refine AL.skip ?_ | refine AL.blk ?_)
            refine AL.cond ?_
            simp
            refine ⟨fun hal => ?_, fun hal => ?_⟩
            · have hq : goneQ a (j + 1) = goneQ a j := hno (by simpa using hal)
              repeat (first | refine AL.seq ?_ | refine AL.block ?_ | refine AL.skip ?_ | refine AL.blk ?_)
              repeat (first | refine AL.seq ?_ | refine AL.block ?_ | refine AL.skip ?_ | refine AL.blk ?_)
              refine AL.exit ?_
              simp only [AU, ↓reduceIte]
              repeat (first | refine AL.seq ?_ | refine AL.block ?_ | refine AL.skip ?_ | refine AL.blk ?_)
              refine AL.region follows_Try (Nat.le_refl _) (by kernel_rfl) ?_
              simp [hwj]
              repeat (first | refine AL.seq ?_ | refine AL.block ?_ | refine AL.skip ?_ | refine AL.blk ?_)
              refine AL.nil ?_
              refine ⟨⟨j + 1, own, tok1, nt1⟩, ⟨hlt, htk, by rw [hq]; exact hle⟩, by simp; omega, Weaks.mk htk.le rfl (by simp [ToL, lk, hq]) (by simp [BoxL, lk])⟩
            · have hq := hyes (by simpa using hal)
              repeat (first | refine AL.seq ?_ | refine AL.block ?_ | refine AL.skip ?_ | refine AL.blk ?_)
              refine AL.region follows_Try (Nat.le_refl _) (by kernel_rfl) ?_
              simp
              repeat (first | refine AL.seq ?_ | refine AL.block ?_ | refine AL.skip ?_ | refine AL.blk ?_)
              refine AL.region follows_Try (Nat.le_refl _) (by kernel_rfl) ?_
              simp
              repeat (first | refine AL.seq ?_ | refine AL.block ?_ | refine AL.skip ?_ | refine AL.blk ?_)
              have hlist : (goneQ a j).length + (qsOf a [] (partsN a.edges.length) p).length ≤ (listQ a).length := by
                have := goneQ_le a (j + 1)
                rw [hq, List.length_append] at this
                exact this
              refine AL.loopT (st18b a p j nb box) (fun x => x.i ≤ (partsN a.edges.length).length ∧ TK tok nt x.tok x.nt [x.own] ∧ (goneQ a j).length + (goneE a p x.i).length ≤ 2000) (fun x => (partsN a.edges.length).length - x.i) ⟨0, own, tok1, nt1⟩ ⟨Nat.zero_le _, htk, by simpa [goneE, qsOf] using hle⟩ (Weaks.mk htk.le rfl (by simp [ToL, lk, goneE, qsOf]; exact .same (okIn_fn.2 (by simp [lb_at, lk]))) (by simp [BoxL, lk])) ?_
              rintro ⟨i, own, tok2, nt2⟩ S ⟨hi, htk, hle⟩ hS
              simp only [st18b] at hS hi htk hle
              subst hS
              have hwi : IntKind.i64.wrap (↑i + 1) = ((i + 1 : Nat) : Int) := by rw [wrap_in (by omega) (by omega)]; rfl
              repeat (first | refine AL.seq ?_ | refine AL.block ?_ | refine AL.skip ?_ | refine AL.blk ?_)
              refine AL.region follows_Try (Nat.le_refl _) (by kernel_rfl) ?_
              simp
              repeat (first | refine AL.seq ?_ | refine AL.block ?_ | refine AL.skip ?_ | refine AL.blk ?_)
              refine AL.cond ?_
              simp
              refine ⟨fun hlt2 => ?_, fun hge2 => ?_⟩
              · have hel := partsN_len _ _ (List.getElem_mem hlt2)
                have hep := partsN_partL _ _ (List.getElem_mem hlt2)
                have heyes := goneE_yes a p i hlt2
                have heno := goneE_no a p i hlt2
                have hmore := goneE_le a p (i + 1) (by omega)
                repeat (first | refine AL.seq ?_ | refine AL.block ?_ | refine AL.skip ?_ | refine AL.blk ?_)
                refine AL.region follows_Try (Nat.le_refl _) (by kernel_rfl) ?_
                simp [hlt2]
                generalize he : (partsN a.edges.length)[i] = q at *
                repeat (first | refine AL.seq ?_ | refine AL.block ?_ | refine AL.skip ?_ | refine AL.blk ?_)
                refine AL.region follows_Try (Nat.le_refl _) (by kernel_rfl) ?_
                simp
                have hx' : ∀ e ∈ a.edges, 0 ≤ e.fr ∧ e.fr < p.length ∧ 0 ≤ e.to ∧ e.to < p.length := by rw [hpl]; exact validG_edges hva
                have hf48 : ∀ i (hi : i < q.length), ∀ box' nb', Ext (lb nb box [(1, [[.d (ints a.nodes), .d (AM.edges a.edges)]]), (11, [[.d (ints p)]])]) box' → ACalls Try.prog 48 (I i :: I q[i] :: [.ptr (nb + 1) 0 0, .ptr (nb + 11) 0 0]) ⟨box', nb', tok2, nt2⟩ fun v m => v = B (gE a p i q[i]) ∧ m = ⟨box', nb', tok2, nt2⟩ := by
                  intro i hi box' nb' he
                  obtain ⟨q1, q2, q3⟩ := hep i hi
                  have hk : q[i] = ((q[i].toNat : Nat) : Int) := by omega
                  have := same48_c a p i q[i].toNat (by omega) (by omega) hae hx' box' nb' (nb + 1) (nb + 11) tok2 nt2 (he _ _ (by simp [lb_at, lk])) (he _ _ (by simp [lb_at, lk]))
                  rw [← hk] at this
                  exact this
                refine Stop.of_b (alike_c q 48 [.ptr (nb + 1) 0 0, .ptr (nb + 11) 0 0] (gE a p) (by omega) _ _ _ _ (by simp [lb_at, lk]) hf48) ?_
                simp
                repeat (first | refine AL.seq ?_ | refine AL.block ?_ | refine AL.skip ?_ | refine AL.blk ?_)
                refine AL.cond ?_
                simp
                refine ⟨fun hal => ?_, fun hal => ?_⟩
                · have heq : goneE a p (i + 1) = goneE a p i := heno (by simpa using hal)
                  repeat (first | refine AL.seq ?_ | refine AL.block ?_ | refine AL.skip ?_ | refine AL.blk ?_)
                  repeat (first | refine AL.seq ?_ | refine AL.block ?_ | refine AL.skip ?_ | refine AL.blk ?_)
                  refine AL.exit ?_
                  simp only [AU, ↓reduceIte]
                  repeat (first | refine AL.seq ?_ | refine AL.block ?_ | refine AL.skip ?_ | refine AL.blk ?_)
                  refine AL.region follows_Try (Nat.le_refl _) (by kernel_rfl) ?_
                  simp [hwi]
                  repeat (first | refine AL.seq ?_ | refine AL.block ?_ | refine AL.skip ?_ | refine AL.blk ?_)
                  refine AL.nil ?_
                  refine ⟨⟨i + 1, own, tok2, nt2⟩, ⟨hlt2, htk, by rw [heq]; exact hle⟩, by simp; omega, Weaks.mk htk.le rfl (by simp [ToL, lk, heq]; exact .same (okIn_fn.2 (by simp [lb_at, lk]))) (by simp [BoxL, lk])⟩
                · have heq := heyes (by simpa using hal)
                  have hlen1 : (goneE a p (i + 1)).length = (goneE a p i).length + 1 := by rw [heq]; simp
                  repeat (first | refine AL.seq ?_ | refine AL.block ?_ | refine AL.skip ?_ | refine AL.blk ?_)
                  refine AL.region follows_Try (Nat.le_refl _) (by kernel_rfl) ?_
                  simp
                  repeat (first | refine AL.seq ?_ | refine AL.block ?_ | refine AL.skip ?_ | refine AL.blk ?_)
                  refine AL.cond ?_
                  simp
                  refine ⟨fun hful => ?_, fun hful => ?_⟩
                  · have hR : quotientsR a = ([], 3) := by rw [hRl, if_pos (by omega)]
                    repeat (first | refine AL.seq ?_ | refine AL.block ?_ | refine AL.skip ?_ | refine AL.blk ?_)
                    refine AL.region follows_Try (Nat.le_refl _) (by kernel_rfl) ?_
                    simp
                    repeat (first | refine AL.seq ?_ | refine AL.block ?_ | refine AL.skip ?_ | refine AL.blk ?_)
                    refine AL.ret ?_
                    simp only [AU]
                    refine ⟨by simp, (Fin.data (av := .tup [.osl 0 [] .full, I 3]) (by simp [resAs, resA]; rfl) hbox rfl htok htk.old htk.le (by simp [packA])).mono fun v m hq => ⟨.inr ⟨by rw [hR], by rw [hR, hq.1]⟩, hq.2⟩⟩
                  · repeat (first | refine AL.seq ?_ | refine AL.block ?_ | refine AL.skip ?_ | refine AL.blk ?_)
                    refine AL.region follows_Try (Nat.le_refl _) (by kernel_rfl) ?_
                    simp
                    refine Stop.of_d (quotient49_c a p q hpl hel (by omega) (by omega) hpp hep (validG_edges hva) _ _) ?_
                    simp
                    refine ⟨⟨by omega, htk.live⟩, ?_⟩
                    have hcell : (quF a p q).cells = Qu.cells (quF a p q) := rfl
                    repeat (first | refine AL.seq ?_ | refine AL.block ?_ | refine AL.skip ?_ | refine AL.blk ?_)
                    refine AL.region follows_Try (Nat.le_refl _) (by kernel_rfl) ?_
                    simp [hwi]
                    repeat (first | refine AL.seq ?_ | refine AL.block ?_ | refine AL.skip ?_ | refine AL.blk ?_)
                    refine AL.nil ?_
                    refine ⟨⟨i + 1, _, _, _⟩, ⟨hlt2, htk.app, by simp only []; omega⟩, by simp; omega, Weaks.mk htk.app.le rfl (by simp [ToL, lk, heq]; exact .same (okIn_fn.2 (by simp [lb_at, lk]))) (by simp [BoxL, lk])⟩
              · repeat (first | refine AL.seq ?_ | refine AL.block ?_ | refine AL.skip ?_ | refine AL.blk ?_)
                refine AL.exit ?_
                simp only [AU, ↓reduceIte]
                have : i = (partsN a.edges.length).length := by omega
                subst this
                rw [goneE_all] at hle ⊢
                repeat (first | refine AL.seq ?_ | refine AL.block ?_ | refine AL.skip ?_ | refine AL.blk ?_)
                refine AL.region follows_Try (Nat.le_refl _) (by kernel_rfl) ?_
                simp [hwj]
                repeat (first | refine AL.seq ?_ | refine AL.block ?_ | refine AL.skip ?_ | refine AL.blk ?_)
                refine AL.nil ?_
                refine ⟨⟨j + 1, own, tok2, nt2⟩, ⟨hlt, htk, by rw [hq, List.length_append]; exact hle⟩, by simp; omega, Weaks.mk htk.le rfl (by simp [ToL, lk, hq]) (by simp [BoxL, lk])⟩
          · repeat (first | refine AL.seq ?_ | refine AL.block ?_ | refine AL.skip ?_ | refine AL.blk ?_)
            refine AL.exit ?_
            simp only [AU, ↓reduceIte]
            have : j = (partsN a.nodes.length).length := by omega
            subst this
            rw [goneQ_all] at hle ⊢
            have hR : quotientsR a = (listQ a, 0) := by rw [hRl, if_neg (by omega)]
            repeat (first | refine AL.seq ?_ | refine AL.block ?_ | refine AL.skip ?_ | refine AL.blk ?_)
            refine AL.region follows_Try (Nat.le_refl _) (by kernel_rfl) ?_
            simp
            repeat (first | refine AL.seq ?_ | refine AL.block ?_ | refine AL.skip ?_ | refine AL.blk ?_)
            refine AL.ret ?_
            try simp only [AU]
            refine ⟨by simp, (Fin.data (av := .tup [.d (qus (listQ a)), I 0]) (by simp [resAs, resA]; rfl) hbox rfl htok htk.old htk.le (by simp [packA])).mono fun v m hq => ⟨.inl (by rw [hR, hq.1]), hq.2⟩⟩
    · repeat (first | refine AL.seq ?_ | refine AL.block ?_ | refine AL.skip ?_ | refine AL.blk ?_)
      refine AL.region follows_Try (Nat.le_refl _) (by kernel_rfl) ?_
      simp
      repeat (first | refine AL.seq ?_ | refine AL.block ?_ | refine AL.skip ?_ | refine AL.blk ?_)
      refine AL.cond ?_
      simp [hva]
      repeat (first | refine AL.seq ?_ | refine AL.block ?_ | refine AL.skip ?_ | refine AL.blk ?_)
      refine AL.region follows_Try (Nat.le_refl _) (by kernel_rfl) ?_
      simp
      have hR : quotientsR a = ([], validG a) := by simp [quotientsR, hva]
      repeat (first | refine AL.seq ?_ | refine AL.block ?_ | refine AL.skip ?_ | refine AL.blk ?_)
      refine AL.ret ?_
      try simp only [AU]
      refine ⟨by simp, (Fin.data (av := .tup [.osl 0 [] .full, I (validG a)]) (by simp [resAs, resA]; rfl) hbox rfl htok (fun _ h => h) (Nat.le_refl _) (by simp [packA])).mono fun v m hq => ⟨.inr ⟨by rw [hR], by rw [hR, hq.1]⟩, hq.2⟩⟩
  refine main.conv fun v m h => ?_
  obtain ⟨rfl | ⟨h1, rfl⟩, rfl⟩ := h
  · exact ⟨_, _, Conv.refl _ _, rfl, rfl⟩
  · refine ⟨_, _, Conv.sub (v' := .tup [.d (qus (quotientsR a).1), I (quotientsR a).2]) (Sub.tup ⟨?_, Sub.refl _, trivial⟩), rfl, rfl⟩
    rw [h1]
    exact Sub.nil _ _ _
end Go.AM
namespace Go.AM
open Go Go.Proofs
set_option linter.unusedSimpArgs false
set_option linter.unusedVariables false

/-! ### awake -/
def gOne : Gr := ⟨[4], []⟩
def gTwo : Gr := ⟨[4, 4], [⟨1, 0, 1⟩]⟩
def gThree : Gr := ⟨[4, 4], []⟩
theorem one_ov : (overlapsR gOne gOne).1.length = 2 ∧ (overlapsR gOne gOne).2 = 0 := by decide +kernel
theorem two_ov : (overlapsR gTwo gTwo).1.length = 8 ∧ (overlapsR gTwo gTwo).2 = 0 := by decide +kernel
theorem three_qu : ∃ x y, (quotientsR gThree) = ([x, y], 0) ∧ x.g.nodes.length = 1 := ⟨(quotientsR gThree).1.getD 0 default, (quotientsR gThree).1.getD 1 default, by decide +kernel, by decide +kernel⟩

theorem Sub.agg {xs ys : List AV} (h : SubL xs ys) : Sub (.agg xs) (.agg ys) := fun G w v r => by
  cases r with
  | agg hl hh h1 => have := h.rvs ⟨hl, hh⟩; exact .agg this.1 this.2 h1

theorem awake_c (tok : Nat → Bool) (nt : Nat) : DCall Try.prog 11 [] tok nt (B true) tok nt := by
  intro box nb
  refine ACalls.of_body Try.func11 rfl (by kernel_rfl) follows_Try (by kernel_rfl) (by simp [Try.ntmps11]) ?_
  intro hbox htok
  simp only at hbox htok
  apply AL.start
  repeat (first | refine AL.seq ?_ | refine AL.block ?_ | refine AL.skip ?_ | refine AL.blk ?_)
  refine AL.region follows_Try (Nat.le_refl _) (by kernel_rfl) ?_
  simp
  repeat (first | refine AL.seq ?_ | refine AL.block ?_ | refine AL.skip ?_ | refine AL.blk ?_)
  refine AL.region follows_Try (Nat.le_refl _) (by kernel_rfl) ?_
  simp
  refine ⟨rfl, ?_⟩
  refine AL.weak (Weaks.mk (l' := [(1, .ptr (nb + 1) 0 0), (2, .ptr (nb + 2) 0 0)]) (loc' := [(1, [[.d (ints gOne.nodes), .d (AM.edges gOne.edges)]]), (2, [[.d (ints gTwo.nodes), .d (AM.edges gTwo.edges)]])]) (Nat.le_refl _) rfl (by simp [ToL, lk]) (by simp [BoxL, lk, gOne, gTwo, ints, AM.edges])) ?_
  obtain ⟨h1, h2⟩ := one_ov
  obtain ⟨h3, h4⟩ := two_ov
  obtain ⟨x, y, h5, h6⟩ := three_qu
  repeat (first | refine AL.seq ?_ | refine AL.block ?_ | refine AL.skip ?_ | refine AL.blk ?_)
  refine AL.region follows_Try (Nat.le_refl _) (by kernel_rfl) ?_
  simp
  refine Stop.of_d (overlapsF_c gOne gOne ⟨by decide, by decide⟩ ⟨by decide, by decide⟩ _ _) ?_
  simp
  repeat (first | refine AL.seq ?_ | refine AL.block ?_ | refine AL.skip ?_ | refine AL.blk ?_)
  refine AL.region follows_Try (Nat.le_refl _) (by kernel_rfl) ?_
  simp
  refine Stop.of_d (overlapsF_c gTwo gTwo ⟨by decide, by decide⟩ ⟨by decide, by decide⟩ _ _) ?_
  simp
  generalize (overlapsR gOne gOne) = r1 at *
  generalize (overlapsR gTwo gTwo) = r2 at *
  obtain ⟨l1, e1⟩ := r1
  obtain ⟨l2, e2⟩ := r2
  simp only at h1 h2 h3 h4
  subst h2; subst h4
  repeat (first | refine AL.seq ?_ | refine AL.block ?_ | refine AL.skip ?_ | refine AL.blk ?_)
  refine AL.region follows_Try (Nat.le_refl _) (by kernel_rfl) ?_
  simp
  refine ⟨rfl, ?_⟩
  refine Stop.sub (args' := [gThree.av]) ⟨Sub.agg ⟨Sub.data _ _ _, Sub.nil _ _ _, trivial⟩, trivial⟩ ?_
  · refine Stop.of_d (quotientsF_c gThree ⟨by decide, by decide⟩ _ _) ?_
    rw [h5]
    simp
    repeat (first | refine AL.seq ?_ | refine AL.block ?_ | refine AL.skip ?_ | refine AL.blk ?_)
    refine AL.region follows_Try (Nat.le_refl _) (by kernel_rfl) ?_
    simp [h1, h3, h6]
    repeat (first | refine AL.seq ?_ | refine AL.block ?_ | refine AL.skip ?_ | refine AL.blk ?_)
    refine AL.ret ?_
    try simp only [AU]
    refine ⟨by simp, Fin.data (by simp [resAs, resA]; rfl) hbox rfl htok (fun _ h => h) (Nat.le_refl _) ?_⟩
    simp [packA]
end Go.AM
namespace Go.AM
open Go Go.Proofs
set_option linter.unusedSimpArgs false
set_option linter.unusedVariables false

/-! ### What the lists hold is small -/
theorem foldl_all {α β : Type} {P : α → Prop} (f : List α → β → List α) : ∀ (l : List β) (out : List α), (∀ out b, b ∈ l → (∀ o ∈ out, P o) → ∀ o ∈ f out b, P o) → (∀ o ∈ out, P o) → ∀ o ∈ l.foldl f out, P o
  | [], out, _, h => h
  | b :: l, out, hf, h => foldl_all f l _ (fun out b hb => hf out b (by simp [hb])) (hf out b (by simp) h)

theorem ovE_all {P : Ov → Prop} (a b : Gr) (nodes : List Int) : ∀ (n : Nat) (es : List Int) (out : List Ov), (∀ o ∈ out, P o) → (∀ es', es'.length = es.length + n → P (glue a b nodes es')) → ∀ o ∈ ovE a b nodes n es out, P o
  | 0, es, out, h, hg => by
    unfold ovE
    split
    · exact h
    · intro o ho
      rcases List.mem_append.1 ho with ho | ho
      · exact h o ho
      · simp at ho; subst ho; exact hg es (by simp)
  | n + 1, es, out, h, hg => by
    unfold ovE
    split
    · exact h
    · refine foldl_all _ _ _ (fun out k _ ho => ?_) (ovE_all a b nodes n _ _ h fun es' he => hg es' (by simp at he; omega))
      split
      · exact ovE_all a b nodes n _ _ ho fun es' he => hg es' (by simp at he; omega)
      · exact ho

theorem ovN_all {P : Ov → Prop} (a b : Gr) : ∀ (n : Nat) (l : List Int) (out : List Ov), (∀ o ∈ out, P o) → (∀ l' es', l'.length = l.length + n → es'.length = b.edges.length → P (glue a b l' es')) → ∀ o ∈ ovN a b n l out, P o
  | 0, l, out, h, hg => by
    unfold ovN
    split
    · exact h
    · exact ovE_all a b l _ _ _ h fun es' he => hg l es' (by simp) (by simpa using he)
  | n + 1, l, out, h, hg => by
    unfold ovN
    split
    · exact h
    · refine foldl_all _ _ _ (fun out k _ ho => ?_) (ovN_all a b n _ _ h fun l' es' hl he => hg l' es' (by simp at hl; omega) he)
      unfold ovStepN
      split
      · exact ovN_all a b n _ _ ho fun l' es' hl he => hg l' es' (by simp at hl; omega) he
      · exact ho

theorem glue_fit (a b : Gr) (l k : List Int) (ha : a.nodes.length ≤ 90 ∧ a.edges.length ≤ 90) (hl : l.length ≤ 90) (hk : k.length ≤ 90) : (glue a b l k).Fit := by
  have h1 := glueN_len a.nodes b.nodes l l.length
  have h2 := glueE_len a.edges b.edges (glueN a.nodes b.nodes l l.length).2 k k.length
  exact ⟨⟨by simp only [glue]; omega, by simp only [glue]; omega⟩, ⟨by simp [glue, idM]; omega, by simp [glue, idM]; omega⟩, ⟨by simp only [glue]; omega, by simp only [glue]; omega⟩⟩

theorem overlapsR_fit (a b : Gr) (ha : a.nodes.length ≤ 90 ∧ a.edges.length ≤ 90) (hb : b.nodes.length ≤ 90 ∧ b.edges.length ≤ 90) : (overlapsR a b).1.length ≤ 1000000 ∧ ∀ o ∈ (overlapsR a b).1, o.Fit := by
  have key : ∀ o ∈ ovN a b b.nodes.length [] [], o.Fit := ovN_all a b _ _ _ (by simp) fun l' es' h1 h2 => glue_fit a b l' es' ha (by simp at h1; omega) (by omega)
  unfold overlapsR
  split
  · simp
  · split
    · simp
    · split
      · simp
      · split
        · simp
        · exact ⟨by simp only; omega, key⟩

theorem quF_fit (a : Gr) (l k : List Int) (hl : l.length ≤ 90) (hk : k.length ≤ 90) : (quF a l k).Fit := by
  have h1 := numN_len l l.length
  have h2 := numN_len k k.length
  exact ⟨⟨by simp only [quF, fillN_len]; omega, by simp only [quF, fillE_len]; omega⟩, ⟨by simp only [quF]; omega, by simp only [quF]; omega⟩⟩

theorem quotientsR_fit (a : Gr) : (quotientsR a).1.length ≤ 1000000 ∧ ∀ o ∈ (quotientsR a).1, o.Fit := by
  by_cases hv : validG a = 0
  · by_cases hs : 6 < a.nodes.length ∨ 6 < a.edges.length
    · have : quotientsR a = ([], 3) := by simp [quotientsR, hv, hs]
      rw [this]
      simp
    · rw [quotientsR_list a hv hs]
      split
      · simp
      · refine ⟨by simp only; omega, fun o ho => ?_⟩
        simp only [listQ, List.mem_flatMap, List.mem_map, List.mem_filter] at ho
        obtain ⟨p, ⟨hp, _⟩, q, ⟨hq, _⟩, rfl⟩ := ho
        have h1 := partsN_len _ p hp
        have h2 := partsN_len _ q hq
        exact quF_fit a p q (by omega) (by omega)
  · have : quotientsR a = ([], validG a) := by simp [quotientsR, hv]
    rw [this]
    simp

/-! ### The first two laws -/
theorem law3_c (a b : Gr) (tok : Nat → Bool) (nt : Nat) : ∃ tok' nt', DCall Try.prog 3 [a.av, b.av] tok nt (B true) tok' nt' := by
  refine ⟨tok, nt, ?_⟩
  intro box nb
  refine ACalls.of_body Try.func3 rfl (by kernel_rfl) follows_Try (by kernel_rfl) (by simp [Try.ntmps3]) ?_
  intro hbox htok
  simp only at hbox htok
  apply AL.start
  repeat (first | refine AL.seq ?_ | refine AL.block ?_ | refine AL.skip ?_ | refine AL.blk ?_)
  refine AL.region follows_Try (Nat.le_refl _) (by kernel_rfl) ?_
  simp
  repeat (first | refine AL.seq ?_ | refine AL.block ?_ | refine AL.skip ?_ | refine AL.blk ?_)
  refine AL.region follows_Try (Nat.le_refl _) (by kernel_rfl) ?_
  simp
  refine Stop.of_d (awake_c _ _) ?_
  simp
  refine Stop.of_d (small_c a 4 4 _ _) ?_
  simp
  by_cases h1 : smallG a 4 4 = true
  · simp [h1]
    refine Stop.of_d (small_c b 4 4 _ _) ?_
    simp [h1]
    by_cases h2 : smallG b 4 4 = true
    · simp [h1, h2]
      have hfa : fewG a = true := by simp [smallG] at h1; exact h1.1
      have hfb : fewG b = true := by simp [smallG] at h2; exact h2.1
      have hsa : a.nodes.length ≤ 90 ∧ a.edges.length ≤ 90 := by simp [fewG] at hfa; omega
      have hsb : b.nodes.length ≤ 90 ∧ b.edges.length ≤ 90 := by simp [fewG] at hfb; omega
      obtain ⟨f1, f2⟩ := overlapsR_fit a b hsa hsb
      repeat (first | refine AL.seq ?_ | refine AL.block ?_ | refine AL.skip ?_ | refine AL.blk ?_)
      refine AL.cond ?_
      simp
      repeat (first | refine AL.seq ?_ | refine AL.block ?_ | refine AL.skip ?_ | refine AL.blk ?_)
      refine AL.region follows_Try (Nat.le_refl _) (by kernel_rfl) ?_
      simp
      refine Stop.of_d (copied_c a (fewG_fit hfa) _ _) ?_
      simp
      refine Stop.of_d (copied_c b (fewG_fit hfb) _ _) ?_
      simp
      refine Stop.data ?_
      have htk := (TK.start htok).full.app.full.app.full.app.full.app
      refine Stop.of_d (overlapsF_c a b (fewG_fit hfa) (fewG_fit hfb) _ _) ?_
      simp
      repeat (first | refine AL.seq ?_ | refine AL.block ?_ | refine AL.skip ?_ | refine AL.blk ?_)
      refine AL.region follows_Try (Nat.le_refl _) (by kernel_rfl) ?_
      simp
      refine Stop.of_d (overlaps13_c a b (fewG_fit hfa) (fewG_fit hfb) _ _) ?_
      simp
      repeat (first | refine AL.seq ?_ | refine AL.block ?_ | refine AL.skip ?_ | refine AL.blk ?_)
      refine AL.region follows_Try (Nat.le_refl _) (by kernel_rfl) ?_
      simp
      refine Stop.of_d (sameOverlaps_c (overlapsR a b).1 (overlapsR a b).1 f1 f2 _ _) ?_
      simp
      repeat (first | refine AL.seq ?_ | refine AL.block ?_ | refine AL.skip ?_ | refine AL.blk ?_)
      refine AL.ret ?_
      try simp only [AU]
      refine ⟨by simp, Fin.data (by simp [resAs, resA]; rfl) hbox rfl htok htk.old htk.le ?_⟩
      simp [packA, ]
    · simp [h1, h2]
      repeat (first | refine AL.seq ?_ | refine AL.block ?_ | refine AL.skip ?_ | refine AL.blk ?_)
      refine AL.cond ?_
      simp
      repeat (first | refine AL.seq ?_ | refine AL.block ?_ | refine AL.skip ?_ | refine AL.blk ?_)
      refine AL.region follows_Try (Nat.le_refl _) (by kernel_rfl) ?_
      simp
      refine Stop.of_d (awake_c _ _) ?_
      simp
      repeat (first | refine AL.seq ?_ | refine AL.block ?_ | refine AL.skip ?_ | refine AL.blk ?_)
      refine AL.ret ?_
      try simp only [AU]
      refine ⟨by simp, Fin.data (by simp [resAs, resA]; rfl) hbox rfl htok (fun _ h => h) (Nat.le_refl _) ?_⟩
      simp [packA]
  · simp [h1]
    repeat (first | refine AL.seq ?_ | refine AL.block ?_ | refine AL.skip ?_ | refine AL.blk ?_)
    refine AL.cond ?_
    simp
    repeat (first | refine AL.seq ?_ | refine AL.block ?_ | refine AL.skip ?_ | refine AL.blk ?_)
    refine AL.region follows_Try (Nat.le_refl _) (by kernel_rfl) ?_
    simp
    refine Stop.of_d (awake_c _ _) ?_
    simp
    repeat (first | refine AL.seq ?_ | refine AL.block ?_ | refine AL.skip ?_ | refine AL.blk ?_)
    refine AL.ret ?_
    try simp only [AU]
    refine ⟨by simp, Fin.data (by simp [resAs, resA]; rfl) hbox rfl htok (fun _ h => h) (Nat.le_refl _) ?_⟩
    simp [packA]

theorem law4_c (a : Gr) (tok : Nat → Bool) (nt : Nat) : ∃ tok' nt', DCall Try.prog 4 [a.av] tok nt (B true) tok' nt' := by
  refine ⟨tok, nt, ?_⟩
  intro box nb
  refine ACalls.of_body Try.func4 rfl (by kernel_rfl) follows_Try (by kernel_rfl) (by simp [Try.ntmps4]) ?_
  intro hbox htok
  simp only at hbox htok
  apply AL.start
  repeat (first | refine AL.seq ?_ | refine AL.block ?_ | refine AL.skip ?_ | refine AL.blk ?_)
  refine AL.region follows_Try (Nat.le_refl _) (by kernel_rfl) ?_
  simp
  repeat (first | refine AL.seq ?_ | refine AL.block ?_ | refine AL.skip ?_ | refine AL.blk ?_)
  refine AL.region follows_Try (Nat.le_refl _) (by kernel_rfl) ?_
  simp
  refine Stop.of_d (awake_c _ _) ?_
  simp
  refine Stop.of_d (small_c a 5 4 _ _) ?_
  simp
  by_cases hs : smallG a 5 4 = true
  · simp [hs]
    refine Stop.of_d (few05_c a _ _) ?_
    simp [hs]
    by_cases hf : fewG a = true
    · simp [hs, hf]
      have hfit := fewG_fit hf
      obtain ⟨f1, f2⟩ := quotientsR_fit a
      repeat (first | refine AL.seq ?_ | refine AL.block ?_ | refine AL.skip ?_ | refine AL.blk ?_)
      refine AL.cond ?_
      simp
      repeat (first | refine AL.seq ?_ | refine AL.block ?_ | refine AL.skip ?_ | refine AL.blk ?_)
      refine AL.region follows_Try (Nat.le_refl _) (by kernel_rfl) ?_
      simp
      refine Stop.of_d (copied_c a hfit _ _) ?_
      simp
      refine Stop.data ?_
      have htk := (TK.start htok).full.app.full.app
      refine Stop.of_d (quotientsF_c a hfit _ _) ?_
      simp
      repeat (first | refine AL.seq ?_ | refine AL.block ?_ | refine AL.skip ?_ | refine AL.blk ?_)
      refine AL.region follows_Try (Nat.le_refl _) (by kernel_rfl) ?_
      simp
      refine Stop.of_d (quotients13_c a hfit _ _) ?_
      simp
      repeat (first | refine AL.seq ?_ | refine AL.block ?_ | refine AL.skip ?_ | refine AL.blk ?_)
      refine AL.region follows_Try (Nat.le_refl _) (by kernel_rfl) ?_
      simp
      refine Stop.of_d (sameQuotients_c (quotientsR a).1 (quotientsR a).1 f1 f2 _ _) ?_
      simp
      repeat (first | refine AL.seq ?_ | refine AL.block ?_ | refine AL.skip ?_ | refine AL.blk ?_)
      refine AL.ret ?_
      try simp only [AU]
      refine ⟨by simp, Fin.data (by simp [resAs, resA]; rfl) hbox rfl htok htk.old htk.le ?_⟩
      simp [packA, ]
    · simp [hs, hf]
      repeat (first | refine AL.seq ?_ | refine AL.block ?_ | refine AL.skip ?_ | refine AL.blk ?_)
      refine AL.cond ?_
      simp
      repeat (first | refine AL.seq ?_ | refine AL.block ?_ | refine AL.skip ?_ | refine AL.blk ?_)
      refine AL.region follows_Try (Nat.le_refl _) (by kernel_rfl) ?_
      simp
      refine Stop.of_d (awake_c _ _) ?_
      simp
      repeat (first | refine AL.seq ?_ | refine AL.block ?_ | refine AL.skip ?_ | refine AL.blk ?_)
      refine AL.ret ?_
      try simp only [AU]
      refine ⟨by simp, Fin.data (by simp [resAs, resA]; rfl) hbox rfl htok (fun _ h => h) (Nat.le_refl _) ?_⟩
      simp [packA]
  · simp [hs]
    by_cases h1 : (a.nodes.length : Int) ≤ 6
    · simp [hs, h1]
      by_cases h2 : (a.edges.length : Int) ≤ 6
      · simp [hs, h1, h2]
        repeat (first | refine AL.seq ?_ | refine AL.block ?_ | refine AL.skip ?_ | refine AL.blk ?_)
        refine AL.cond ?_
        simp
        repeat (first | refine AL.seq ?_ | refine AL.block ?_ | refine AL.skip ?_ | refine AL.blk ?_)
        refine AL.region follows_Try (Nat.le_refl _) (by kernel_rfl) ?_
        simp
        refine Stop.of_d (awake_c _ _) ?_
        simp
        repeat (first | refine AL.seq ?_ | refine AL.block ?_ | refine AL.skip ?_ | refine AL.blk ?_)
        refine AL.ret ?_
        try simp only [AU]
        refine ⟨by simp, Fin.data (by simp [resAs, resA]; rfl) hbox rfl htok (fun _ h => h) (Nat.le_refl _) ?_⟩
        simp [packA]
      · simp [hs, h1, h2]
        refine Stop.of_d (few05_c a _ _) ?_
        simp [hs, h1, h2]
        by_cases hf : fewG a = true
        · simp [hs, h1, h2, hf]
          have hfit := fewG_fit hf
          obtain ⟨f1, f2⟩ := quotientsR_fit a
          repeat (first | refine AL.seq ?_ | refine AL.block ?_ | refine AL.skip ?_ | refine AL.blk ?_)
          refine AL.cond ?_
          simp
          repeat (first | refine AL.seq ?_ | refine AL.block ?_ | refine AL.skip ?_ | refine AL.blk ?_)
          refine AL.region follows_Try (Nat.le_refl _) (by kernel_rfl) ?_
          simp
          refine Stop.of_d (copied_c a hfit _ _) ?_
          simp
          refine Stop.data ?_
          have htk := (TK.start htok).full.app.full.app
          refine Stop.of_d (quotientsF_c a hfit _ _) ?_
          simp
          repeat (first | refine AL.seq ?_ | refine AL.block ?_ | refine AL.skip ?_ | refine AL.blk ?_)
          refine AL.region follows_Try (Nat.le_refl _) (by kernel_rfl) ?_
          simp
          refine Stop.of_d (quotients13_c a hfit _ _) ?_
          simp
          repeat (first | refine AL.seq ?_ | refine AL.block ?_ | refine AL.skip ?_ | refine AL.blk ?_)
          refine AL.region follows_Try (Nat.le_refl _) (by kernel_rfl) ?_
          simp
          refine Stop.of_d (sameQuotients_c (quotientsR a).1 (quotientsR a).1 f1 f2 _ _) ?_
          simp
          repeat (first | refine AL.seq ?_ | refine AL.block ?_ | refine AL.skip ?_ | refine AL.blk ?_)
          refine AL.ret ?_
          try simp only [AU]
          refine ⟨by simp, Fin.data (by simp [resAs, resA]; rfl) hbox rfl htok htk.old htk.le ?_⟩
          simp [packA, ]
        · simp [hs, h1, h2, hf]
          repeat (first | refine AL.seq ?_ | refine AL.block ?_ | refine AL.skip ?_ | refine AL.blk ?_)
          refine AL.cond ?_
          simp
          repeat (first | refine AL.seq ?_ | refine AL.block ?_ | refine AL.skip ?_ | refine AL.blk ?_)
          refine AL.region follows_Try (Nat.le_refl _) (by kernel_rfl) ?_
          simp
          refine Stop.of_d (awake_c _ _) ?_
          simp
          repeat (first | refine AL.seq ?_ | refine AL.block ?_ | refine AL.skip ?_ | refine AL.blk ?_)
          refine AL.ret ?_
          try simp only [AU]
          refine ⟨by simp, Fin.data (by simp [resAs, resA]; rfl) hbox rfl htok (fun _ h => h) (Nat.le_refl _) ?_⟩
          simp [packA]
    · simp [hs, h1]
      refine Stop.of_d (few05_c a _ _) ?_
      simp [hs, h1]
      by_cases hf : fewG a = true
      · simp [hs, h1, hf]
        have hfit := fewG_fit hf
        obtain ⟨f1, f2⟩ := quotientsR_fit a
        repeat (first | refine AL.seq ?_ | refine AL.block ?_ | refine AL.skip ?_ | refine AL.blk ?_)
        refine AL.cond ?_
        simp
        repeat (first | refine AL.seq ?_ | refine AL.block ?_ | refine AL.skip ?_ | refine AL.blk ?_)
        refine AL.region follows_Try (Nat.le_refl _) (by kernel_rfl) ?_
        simp
        refine Stop.of_d (copied_c a hfit _ _) ?_
        simp
        refine Stop.data ?_
        have htk := (TK.start htok).full.app.full.app
        refine Stop.of_d (quotientsF_c a hfit _ _) ?_
        simp
        repeat (first | refine AL.seq ?_ | refine AL.block ?_ | refine AL.skip ?_ | refine AL.blk ?_)
        refine AL.region follows_Try (Nat.le_refl _) (by kernel_rfl) ?_
        simp
        refine Stop.of_d (quotients13_c a hfit _ _) ?_
        simp
        repeat (first | refine AL.seq ?_ | refine AL.block ?_ | refine AL.skip ?_ | refine AL.blk ?_)
        refine AL.region follows_Try (Nat.le_refl _) (by kernel_rfl) ?_
        simp
        refine Stop.of_d (sameQuotients_c (quotientsR a).1 (quotientsR a).1 f1 f2 _ _) ?_
        simp
        repeat (first | refine AL.seq ?_ | refine AL.block ?_ | refine AL.skip ?_ | refine AL.blk ?_)
        refine AL.ret ?_
        try simp only [AU]
        refine ⟨by simp, Fin.data (by simp [resAs, resA]; rfl) hbox rfl htok htk.old htk.le ?_⟩
        simp [packA, ]
      · simp [hs, h1, hf]
        repeat (first | refine AL.seq ?_ | refine AL.block ?_ | refine AL.skip ?_ | refine AL.blk ?_)
        refine AL.cond ?_
        simp
        repeat (first | refine AL.seq ?_ | refine AL.block ?_ | refine AL.skip ?_ | refine AL.blk ?_)
        refine AL.region follows_Try (Nat.le_refl _) (by kernel_rfl) ?_
        simp
        refine Stop.of_d (awake_c _ _) ?_
        simp
        repeat (first | refine AL.seq ?_ | refine AL.block ?_ | refine AL.skip ?_ | refine AL.blk ?_)
        refine AL.ret ?_
        try simp only [AU]
        refine ⟨by simp, Fin.data (by simp [resAs, resA]; rfl) hbox rfl htok (fun _ h => h) (Nat.le_refl _) ?_⟩
        simp [packA]
end Go.AM
namespace Go.AM
open Go Go.Proofs
set_option linter.unusedSimpArgs false
set_option linter.unusedVariables false

/-! ### morphism.Valid, ref06.Valid -/
/-- The first error of a list. -/
def firstE (f : Nat → Int) : Nat → Int
  | 0 => 0
  | n + 1 => if firstE f n = 0 then f n else firstE f n
theorem firstE_stop {f : Nat → Int} {i : Nat} (h0 : firstE f i = 0) (h : f i ≠ 0) : ∀ n, i < n → firstE f n = f i
  | 0, hn => by omega
  | n + 1, hn => by
    simp only [firstE]
    by_cases e : i = n
    · subst e; rw [if_pos h0]
    · rw [firstE_stop h0 h n (by omega), if_neg h]

def nodeE (a b : Gr) (m : Mo) (i : Nat) : Int :=
  if m.nodes.getD i 0 < 0 ∨ (b.nodes.length : Int) ≤ m.nodes.getD i 0 then 6 else if b.nodes.getD (m.nodes.getD i 0).toNat 0 = a.nodes.getD i 0 then 0 else 13
def edgeE (a b : Gr) (m : Mo) (i : Nat) : Int :=
  if m.edges.getD i 0 < 0 ∨ (b.edges.length : Int) ≤ m.edges.getD i 0 then 6 else
    let x := a.edges.getD i default
    let y := b.edges.getD (m.edges.getD i 0).toNat default
    if x.ty ≠ y.ty then 13 else if m.nodes.getD x.fr.toNat 0 ≠ y.fr ∨ m.nodes.getD x.to.toNat 0 ≠ y.to then 11 else 0

def validM (a b : Gr) (m : Mo) : Int :=
  if validG a ≠ 0 then validG a else if validG b ≠ 0 then validG b else if m.nodes.length ≠ a.nodes.length ∨ m.edges.length ≠ a.edges.length then 20
  else if firstE (nodeE a b m) a.nodes.length ≠ 0 then firstE (nodeE a b m) a.nodes.length else firstE (edgeE a b m) a.edges.length

def st51a (a b : Gr) (m : Mo) (nb : Nat) (box : Nat → Option (List (List AV))) (tok : Nat → Bool) (nt : Nat) (i : Nat) : AState :=
  ⟨tl [(3, .ptr (nb + 3) 0 0), (4, .ptr (nb + 4) 0 0), (5, .ptr (nb + 5) 0 0), (42, .d (ints m.nodes)), (43, I m.nodes.length), (44, I i)],
    lb nb box [(3, [[.d (ints a.nodes), .d (AM.edges a.edges)]]), (4, [[.d (ints b.nodes), .d (AM.edges b.edges)]]), (5, [[.d (ints m.nodes), .d (ints m.edges)]])], tok, nt⟩

def st51b (a b : Gr) (m : Mo) (nb : Nat) (box : Nat → Option (List (List AV))) (tok : Nat → Bool) (nt : Nat) (i : Nat) : AState :=
  ⟨tl [(3, .ptr (nb + 3) 0 0), (4, .ptr (nb + 4) 0 0), (5, .ptr (nb + 5) 0 0), (71, .d (ints m.edges)), (72, I m.edges.length), (73, I i)],
    lb nb box [(3, [[.d (ints a.nodes), .d (AM.edges a.edges)]]), (4, [[.d (ints b.nodes), .d (AM.edges b.edges)]]), (5, [[.d (ints m.nodes), .d (ints m.edges)]])], tok, nt⟩

def boxAB (a b : Gr) (m : Mo) : List (List AV) × List (List AV) × List (List AV) := ([[.d (ints a.nodes), .d (AM.edges a.edges)]], [[.d (ints b.nodes), .d (AM.edges b.edges)]], [[.d (ints m.nodes), .d (ints m.edges)]])

theorem valid51_c (a b : Gr) (m : Mo) (ha : a.Fit) (hb : b.Fit) (tok : Nat → Bool) (nt : Nat) : DCall Try.prog 51 [a.av, b.av, m.av] tok nt (I (validM a b m)) tok nt := by
  intro box nb
  have han := ha.n
  have hae := ha.e
  have hbn := hb.n
  have hbe := hb.e
  refine ACalls.of_body Try.func51 rfl (by kernel_rfl) follows_Try (by kernel_rfl) (by simp [Try.ntmps51]) ?_
  intro hbox htok
  simp only at hbox htok
  apply AL.start
  repeat (first | refine AL.seq ?_ | refine AL.block ?_ | refine AL.skip ?_ | refine AL.blk ?_)
  refine AL.region follows_Try (Nat.le_refl _) (by kernel_rfl) ?_
  simp
  repeat (first | refine AL.seq ?_ | refine AL.block ?_ | refine AL.skip ?_ | refine AL.blk ?_)
  refine AL.region follows_Try (Nat.le_refl _) (by kernel_rfl) ?_
  simp
  refine Stop.of_d (graphValid_c a ha _ _) ?_
  simp
  by_cases hva : validG a = 0
  · repeat (first | refine AL.seq ?_ | refine AL.block ?_ | refine AL.skip ?_ | refine AL.blk ?_)
    refine AL.region follows_Try (Nat.le_refl _) (by kernel_rfl) ?_
    simp [hva]
    repeat (first | refine AL.seq ?_ | refine AL.block ?_ | refine AL.skip ?_ | refine AL.blk ?_)
    refine AL.cond ?_
    simp
    repeat (first | refine AL.seq ?_ | refine AL.block ?_ | refine AL.skip ?_ | refine AL.blk ?_)
    refine AL.region follows_Try (Nat.le_refl _) (by kernel_rfl) ?_
    simp
    refine Stop.of_d (graphValid_c b hb _ _) ?_
    simp
    by_cases hvb : validG b = 0
    · repeat (first | refine AL.seq ?_ | refine AL.block ?_ | refine AL.skip ?_ | refine AL.blk ?_)
      refine AL.region follows_Try (Nat.le_refl _) (by kernel_rfl) ?_
      simp [hvb]
      repeat (first | refine AL.seq ?_ | refine AL.block ?_ | refine AL.skip ?_ | refine AL.blk ?_)
      refine AL.cond ?_
      simp
      have hxa := validG_edges hva
      have hxb := validG_edges hvb
      repeat (first | refine AL.seq ?_ | refine AL.block ?_ | refine AL.skip ?_ | refine AL.blk ?_)
      refine AL.region follows_Try (Nat.le_refl _) (by kernel_rfl) ?_
      simp
      by_cases hl1 : m.nodes.length = a.nodes.length
      · simp [hl1]
        repeat (first | refine AL.seq ?_ | refine AL.block ?_ | refine AL.skip ?_ | refine AL.blk ?_)
        refine AL.cond ?_
        simp
        refine ⟨fun hl2 => ?_, fun hl2 => ?_⟩
        · repeat (first | refine AL.seq ?_ | refine AL.block ?_ | refine AL.skip ?_ | refine AL.blk ?_)
          refine AL.region follows_Try (Nat.le_refl _) (by kernel_rfl) ?_
          simp
          have hR : validM a b m = 20 := by
            have : ¬ m.edges.length = a.edges.length := by omega
            simp [validM, hva, hvb, this]
          repeat (first | refine AL.seq ?_ | refine AL.block ?_ | refine AL.skip ?_ | refine AL.blk ?_)
          refine AL.ret ?_
          try simp only [AU]
          refine ⟨by simp, Fin.data (by simp [resAs, resA]; rfl) hbox rfl htok (fun _ h => h) (Nat.le_refl _) ?_⟩
          simp [packA, hR]
        · repeat (first | refine AL.seq ?_ | refine AL.block ?_ | refine AL.skip ?_ | refine AL.blk ?_)
          refine AL.region follows_Try (Nat.le_refl _) (by kernel_rfl) ?_
          simp
          repeat (first | refine AL.seq ?_ | refine AL.block ?_ | refine AL.skip ?_ | refine AL.blk ?_)
          have hl2' : m.edges.length = a.edges.length := by omega
          have hRn : ∀ i, i < a.nodes.length → firstE (nodeE a b m) i = 0 → nodeE a b m i ≠ 0 → validM a b m = nodeE a b m i := fun i hi h0 hne => by
            have := firstE_stop h0 hne a.nodes.length hi
            simp [validM, hva, hvb, hl1, hl2', this, hne]
          refine AL.loopT (st51a a b m nb box tok nt) (fun i => i ≤ m.nodes.length ∧ firstE (nodeE a b m) i = 0) (fun i => m.nodes.length - i) 0 ⟨Nat.zero_le _, rfl⟩ (Weaks.mk (Nat.le_refl _) rfl (by simp [ToL, lk]) (by simp [BoxL, lk])) ?_
          rintro i S ⟨hi, hok⟩ hS
          simp only [st51a] at hS
          subst hS
          have hw : IntKind.i64.wrap (↑i + 1) = ((i + 1 : Nat) : Int) := by rw [wrap_in (by omega) (by omega)]; rfl
          repeat (first | refine AL.seq ?_ | refine AL.block ?_ | refine AL.skip ?_ | refine AL.blk ?_)
          refine AL.region follows_Try (Nat.le_refl _) (by kernel_rfl) ?_
          simp
          repeat (first | refine AL.seq ?_ | refine AL.block ?_ | refine AL.skip ?_ | refine AL.blk ?_)
          refine AL.cond ?_
          simp
          refine ⟨fun hlt => ?_, fun hge => ?_⟩
          · have hia : i < a.nodes.length := by omega
            have hgm : m.nodes.getD i 0 = m.nodes[i] := by simp [hlt]
            have hga : a.nodes.getD i 0 = a.nodes[i] := by simp [hia]
            repeat (first | refine AL.seq ?_ | refine AL.block ?_ | refine AL.skip ?_ | refine AL.blk ?_)
            refine AL.region follows_Try (Nat.le_refl _) (by kernel_rfl) ?_
            simp [hlt]
            by_cases hneg : m.nodes[i] < 0
            · repeat (first | refine AL.seq ?_ | refine AL.block ?_ | refine AL.skip ?_ | refine AL.blk ?_)
              refine AL.region follows_Try (Nat.le_refl _) (by kernel_rfl) ?_
              simp [hneg]
              repeat (first | refine AL.seq ?_ | refine AL.block ?_ | refine AL.skip ?_ | refine AL.blk ?_)
              refine AL.cond ?_
              simp
              repeat (first | refine AL.seq ?_ | refine AL.block ?_ | refine AL.skip ?_ | refine AL.blk ?_)
              refine AL.region follows_Try (Nat.le_refl _) (by kernel_rfl) ?_
              simp
              have hN : nodeE a b m i = 6 := by simp only [nodeE, hgm]; rw [if_pos (.inl hneg)]
              have hR := hRn i hia hok (by rw [hN]; decide)
              repeat (first | refine AL.seq ?_ | refine AL.block ?_ | refine AL.skip ?_ | refine AL.blk ?_)
              refine AL.ret ?_
              try simp only [AU]
              refine ⟨by simp, Fin.data (by simp [resAs, resA]; rfl) hbox rfl htok (fun _ h => h) (Nat.le_refl _) ?_⟩
              simp [packA, hR, hN]
            · repeat (first | refine AL.seq ?_ | refine AL.block ?_ | refine AL.skip ?_ | refine AL.blk ?_)
              refine AL.region follows_Try (Nat.le_refl _) (by kernel_rfl) ?_
              simp [hneg]
              repeat (first | refine AL.seq ?_ | refine AL.block ?_ | refine AL.skip ?_ | refine AL.blk ?_)
              refine AL.cond ?_
              simp
              refine ⟨fun hbig => ?_, fun hsm => ?_⟩
              · repeat (first | refine AL.seq ?_ | refine AL.block ?_ | refine AL.skip ?_ | refine AL.blk ?_)
                refine AL.region follows_Try (Nat.le_refl _) (by kernel_rfl) ?_
                simp
                have hN : nodeE a b m i = 6 := by simp only [nodeE, hgm]; rw [if_pos (.inr (by omega))]
                have hR := hRn i hia hok (by rw [hN]; decide)
                repeat (first | refine AL.seq ?_ | refine AL.block ?_ | refine AL.skip ?_ | refine AL.blk ?_)
                refine AL.ret ?_
                try simp only [AU]
                refine ⟨by simp, Fin.data (by simp [resAs, resA]; rfl) hbox rfl htok (fun _ h => h) (Nat.le_refl _) ?_⟩
                simp [packA, hR, hN]
              · have hkb : m.nodes[i].toNat < b.nodes.length := by omega
                have h0 : 0 ≤ m.nodes[i] := by omega
                have hgb : b.nodes.getD m.nodes[i].toNat 0 = b.nodes[m.nodes[i].toNat] := by simp [hkb]
                have hnb : ¬ (b.nodes.length : Int) ≤ m.nodes[i] := by omega
                repeat (first | refine AL.seq ?_ | refine AL.block ?_ | refine AL.skip ?_ | refine AL.blk ?_)
                refine AL.region follows_Try (Nat.le_refl _) (by kernel_rfl) ?_
                simp [hkb, h0, hsm, hia]
                repeat (first | refine AL.seq ?_ | refine AL.block ?_ | refine AL.skip ?_ | refine AL.blk ?_)
                refine AL.cond ?_
                simp
                refine ⟨fun hne => ?_, fun heq => ?_⟩
                · repeat (first | refine AL.seq ?_ | refine AL.block ?_ | refine AL.skip ?_ | refine AL.blk ?_)
                  refine AL.region follows_Try (Nat.le_refl _) (by kernel_rfl) ?_
                  simp
                  have hN : nodeE a b m i = 13 := by simp only [nodeE, hgm, hga, hgb]; rw [if_neg (by omega), if_neg hne]
                  have hR := hRn i hia hok (by rw [hN]; decide)
                  repeat (first | refine AL.seq ?_ | refine AL.block ?_ | refine AL.skip ?_ | refine AL.blk ?_)
                  refine AL.ret ?_
                  try simp only [AU]
                  refine ⟨by simp, Fin.data (by simp [resAs, resA]; rfl) hbox rfl htok (fun _ h => h) (Nat.le_refl _) ?_⟩
                  simp [packA, hR, hN]
                · repeat (first | refine AL.seq ?_ | refine AL.block ?_ | refine AL.skip ?_ | refine AL.blk ?_)
                  refine AL.region follows_Try (Nat.le_refl _) (by kernel_rfl) ?_
                  simp [hw]
                  repeat (first | refine AL.seq ?_ | refine AL.block ?_ | refine AL.skip ?_ | refine AL.blk ?_)
                  refine AL.nil ?_
                  refine ⟨i + 1, ⟨hlt, ?_⟩, by omega, Weaks.mk (Nat.le_refl _) rfl (by simp [ToL, lk]) (by simp [BoxL, lk])⟩
                  have hN : nodeE a b m i = 0 := by simp only [nodeE, hgm, hga, hgb]; rw [if_neg (by omega), if_pos heq]
                  simp only [firstE, hok, hN, ↓reduceIte]
          · repeat (first | refine AL.seq ?_ | refine AL.block ?_ | refine AL.skip ?_ | refine AL.blk ?_)
            refine AL.exit ?_
            simp only [AU, ↓reduceIte]
            have hin : i = a.nodes.length := by omega
            subst hin
            repeat (first | refine AL.seq ?_ | refine AL.block ?_ | refine AL.skip ?_ | refine AL.blk ?_)
            refine AL.region follows_Try (Nat.le_refl _) (by kernel_rfl) ?_
            simp
            repeat (first | refine AL.seq ?_ | refine AL.block ?_ | refine AL.skip ?_ | refine AL.blk ?_)
            have hRe : ∀ i, i < a.edges.length → firstE (edgeE a b m) i = 0 → edgeE a b m i ≠ 0 → validM a b m = edgeE a b m i := fun i hi h0 hne => by
              have := firstE_stop h0 hne a.edges.length hi
              simp [validM, hva, hvb, hl1, hl2', hok, this]
            refine AL.loopT (st51b a b m nb box tok nt) (fun i => i ≤ m.edges.length ∧ firstE (edgeE a b m) i = 0) (fun i => m.edges.length - i) 0 ⟨Nat.zero_le _, rfl⟩ (Weaks.mk (Nat.le_refl _) rfl (by simp [ToL, lk]) (by simp [BoxL, lk])) ?_
            rintro i S ⟨hi, hoke⟩ hS
            simp only [st51b] at hS
            subst hS
            have hw : IntKind.i64.wrap (↑i + 1) = ((i + 1 : Nat) : Int) := by rw [wrap_in (by omega) (by omega)]; rfl
            repeat (first | refine AL.seq ?_ | refine AL.block ?_ | refine AL.skip ?_ | refine AL.blk ?_)
            refine AL.region follows_Try (Nat.le_refl _) (by kernel_rfl) ?_
            simp
            repeat (first | refine AL.seq ?_ | refine AL.block ?_ | refine AL.skip ?_ | refine AL.blk ?_)
            refine AL.cond ?_
            simp
            refine ⟨fun hlt => ?_, fun hge => ?_⟩
            · have hia : i < a.edges.length := by omega
              have hgm : m.edges.getD i 0 = m.edges[i] := by simp [hlt]
              have hga : a.edges.getD i default = a.edges[i] := by simp [hia]
              obtain ⟨x1, x2, x3, x4⟩ := hxa _ (List.getElem_mem hia)
              rw [← hl1] at x2 x4
              have y1 : a.edges[i].fr.toNat < m.nodes.length := by omega
              have y2 : a.edges[i].to.toNat < m.nodes.length := by omega
              have hg1 : m.nodes.getD a.edges[i].fr.toNat 0 = m.nodes[a.edges[i].fr.toNat] := by simp [y1]
              have hg2 : m.nodes.getD a.edges[i].to.toNat 0 = m.nodes[a.edges[i].to.toNat] := by simp [y2]
              repeat (first | refine AL.seq ?_ | refine AL.block ?_ | refine AL.skip ?_ | refine AL.blk ?_)
              refine AL.region follows_Try (Nat.le_refl _) (by kernel_rfl) ?_
              simp [hlt]
              by_cases hneg : m.edges[i] < 0
              · repeat (first | refine AL.seq ?_ | refine AL.block ?_ | refine AL.skip ?_ | refine AL.blk ?_)
                refine AL.region follows_Try (Nat.le_refl _) (by kernel_rfl) ?_
                simp [hneg]
                repeat (first | refine AL.seq ?_ | refine AL.block ?_ | refine AL.skip ?_ | refine AL.blk ?_)
                refine AL.cond ?_
                simp
                repeat (first | refine AL.seq ?_ | refine AL.block ?_ | refine AL.skip ?_ | refine AL.blk ?_)
                refine AL.region follows_Try (Nat.le_refl _) (by kernel_rfl) ?_
                simp
                have hN : edgeE a b m i = 6 := by simp only [edgeE, hgm]; rw [if_pos (.inl hneg)]
                have hR := hRe i hia hoke (by rw [hN]; decide)
                repeat (first | refine AL.seq ?_ | refine AL.block ?_ | refine AL.skip ?_ | refine AL.blk ?_)
                refine AL.ret ?_
                try simp only [AU]
                refine ⟨by simp, Fin.data (by simp [resAs, resA]; rfl) hbox rfl htok (fun _ h => h) (Nat.le_refl _) ?_⟩
                simp [packA, hR, hN]
              · repeat (first | refine AL.seq ?_ | refine AL.block ?_ | refine AL.skip ?_ | refine AL.blk ?_)
                refine AL.region follows_Try (Nat.le_refl _) (by kernel_rfl) ?_
                simp [hneg]
                repeat (first | refine AL.seq ?_ | refine AL.block ?_ | refine AL.skip ?_ | refine AL.blk ?_)
                refine AL.cond ?_
                simp
                refine ⟨fun hbig => ?_, fun hsm => ?_⟩
                · repeat (first | refine AL.seq ?_ | refine AL.block ?_ | refine AL.skip ?_ | refine AL.blk ?_)
                  refine AL.region follows_Try (Nat.le_refl _) (by kernel_rfl) ?_
                  simp
                  have hN : edgeE a b m i = 6 := by simp only [edgeE, hgm]; rw [if_pos (.inr (by omega))]
                  have hR := hRe i hia hoke (by rw [hN]; decide)
                  repeat (first | refine AL.seq ?_ | refine AL.block ?_ | refine AL.skip ?_ | refine AL.blk ?_)
                  refine AL.ret ?_
                  try simp only [AU]
                  refine ⟨by simp, Fin.data (by simp [resAs, resA]; rfl) hbox rfl htok (fun _ h => h) (Nat.le_refl _) ?_⟩
                  simp [packA, hR, hN]
                · have hkb : m.edges[i].toNat < b.edges.length := by omega
                  have h0 : 0 ≤ m.edges[i] := by omega
                  have hgb : b.edges.getD m.edges[i].toNat default = b.edges[m.edges[i].toNat] := by simp [hkb]
                  have hnn : ¬ (m.edges[i] < 0 ∨ (b.edges.length : Int) ≤ m.edges[i]) := by omega
                  repeat (first | refine AL.seq ?_ | refine AL.block ?_ | refine AL.skip ?_ | refine AL.blk ?_)
                  refine AL.region2 follows_Try (Nat.le_refl _) (by kernel_rfl) (Side.of (by simp)) ?_
                  simp [hkb, h0, hsm, hia]
                  generalize hy : b.edges[m.edges[i].toNat] = y at *
                  repeat (first | refine AL.seq ?_ | refine AL.block ?_ | refine AL.skip ?_ | refine AL.blk ?_)
                  refine AL.region follows_Try (Nat.le_refl _) (by kernel_rfl) ?_
                  simp
                  repeat (first | refine AL.seq ?_ | refine AL.block ?_ | refine AL.skip ?_ | refine AL.blk ?_)
                  refine AL.cond ?_
                  simp
                  refine ⟨fun hty => ?_, fun hty => ?_⟩
                  · repeat (first | refine AL.seq ?_ | refine AL.block ?_ | refine AL.skip ?_ | refine AL.blk ?_)
                    refine AL.region follows_Try (Nat.le_refl _) (by kernel_rfl) ?_
                    simp
                    have hN : edgeE a b m i = 13 := by simp only [edgeE, hgm, hga, hgb]; rw [if_neg hnn, if_pos hty]
                    have hR := hRe i hia hoke (by rw [hN]; decide)
                    repeat (first | refine AL.seq ?_ | refine AL.block ?_ | refine AL.skip ?_ | refine AL.blk ?_)
                    refine AL.ret ?_
                    try simp only [AU]
                    refine ⟨by simp, Fin.data (by simp [resAs, resA]; rfl) hbox rfl htok (fun _ h => h) (Nat.le_refl _) ?_⟩
                    simp [packA, hR, hN]
                  · repeat (first | refine AL.seq ?_ | refine AL.block ?_ | refine AL.skip ?_ | refine AL.blk ?_)
                    refine AL.region follows_Try (Nat.le_refl _) (by kernel_rfl) ?_
                    simp [x1, x2, x3, x4, y1, y2]
                    by_cases hfr : m.nodes[a.edges[i].fr.toNat] = y.fr
                    · have hb1 : (m.nodes[a.edges[i].fr.toNat] != y.fr) = false := by simp [hfr]
                      simp only [hb1]
                      simp [x1, x2, x3, x4, y1, y2]
                      repeat (first | refine AL.seq ?_ | refine AL.block ?_ | refine AL.skip ?_ | refine AL.blk ?_)
                      refine AL.cond ?_
                      simp
                      refine ⟨fun hto => ?_, fun hto => ?_⟩
                      · repeat (first | refine AL.seq ?_ | refine AL.block ?_ | refine AL.skip ?_ | refine AL.blk ?_)
                        refine AL.region follows_Try (Nat.le_refl _) (by kernel_rfl) ?_
                        simp
                        have hN : edgeE a b m i = 11 := by simp only [edgeE, hgm, hga, hgb, hg1, hg2]; rw [if_neg hnn, if_neg (by simp [hty]), if_pos (.inr hto)]
                        have hR := hRe i hia hoke (by rw [hN]; decide)
                        repeat (first | refine AL.seq ?_ | refine AL.block ?_ | refine AL.skip ?_ | refine AL.blk ?_)
                        refine AL.ret ?_
                        try simp only [AU]
                        refine ⟨by simp, Fin.data (by simp [resAs, resA]; rfl) hbox rfl htok (fun _ h => h) (Nat.le_refl _) ?_⟩
                        simp [packA, hR, hN]
                      · repeat (first | refine AL.seq ?_ | refine AL.block ?_ | refine AL.skip ?_ | refine AL.blk ?_)
                        refine AL.region follows_Try (Nat.le_refl _) (by kernel_rfl) ?_
                        simp [hw]
                        repeat (first | refine AL.seq ?_ | refine AL.block ?_ | refine AL.skip ?_ | refine AL.blk ?_)
                        refine AL.nil ?_
                        refine ⟨i + 1, ⟨hlt, ?_⟩, by omega, Weaks.mk (Nat.le_refl _) rfl (by simp [ToL, lk]) (by simp [BoxL, lk])⟩
                        have hN : edgeE a b m i = 0 := by simp only [edgeE, hgm, hga, hgb, hg1, hg2]; rw [if_neg hnn, if_neg (by simp [hty]), if_neg (by simp [hfr, hto])]
                        simp only [firstE, hoke, hN, ↓reduceIte]
                    · have hb1 : (m.nodes[a.edges[i].fr.toNat] != y.fr) = true := by simp [hfr]
                      simp only [hb1]
                      simp
                      repeat (first | refine AL.seq ?_ | refine AL.block ?_ | refine AL.skip ?_ | refine AL.blk ?_)
                      refine AL.cond ?_
                      simp
                      repeat (first | refine AL.seq ?_ | refine AL.block ?_ | refine AL.skip ?_ | refine AL.blk ?_)
                      refine AL.region follows_Try (Nat.le_refl _) (by kernel_rfl) ?_
                      simp
                      have hN : edgeE a b m i = 11 := by simp only [edgeE, hgm, hga, hgb, hg1, hg2]; rw [if_neg hnn, if_neg (by simp [hty]), if_pos (.inl hfr)]
                      have hR := hRe i hia hoke (by rw [hN]; decide)
                      repeat (first | refine AL.seq ?_ | refine AL.block ?_ | refine AL.skip ?_ | refine AL.blk ?_)
                      refine AL.ret ?_
                      try simp only [AU]
                      refine ⟨by simp, Fin.data (by simp [resAs, resA]; rfl) hbox rfl htok (fun _ h => h) (Nat.le_refl _) ?_⟩
                      simp [packA, hR, hN]
            · repeat (first | refine AL.seq ?_ | refine AL.block ?_ | refine AL.skip ?_ | refine AL.blk ?_)
              refine AL.exit ?_
              simp only [AU, ↓reduceIte]
              have hin : i = a.edges.length := by omega
              subst hin
              repeat (first | refine AL.seq ?_ | refine AL.block ?_ | refine AL.skip ?_ | refine AL.blk ?_)
              refine AL.region follows_Try (Nat.le_refl _) (by kernel_rfl) ?_
              simp
              have hR : validM a b m = 0 := by simp [validM, hva, hvb, hl1, hl2', hok, hoke]
              repeat (first | refine AL.seq ?_ | refine AL.block ?_ | refine AL.skip ?_ | refine AL.blk ?_)
              refine AL.ret ?_
              try simp only [AU]
              refine ⟨by simp, Fin.data (by simp [resAs, resA]; rfl) hbox rfl htok (fun _ h => h) (Nat.le_refl _) ?_⟩
              simp [packA, hR]
      · have hb1 : ((m.nodes.length : Int) != (a.nodes.length : Int)) = true := by simp; omega
        simp only [hb1]
        simp
        repeat (first | refine AL.seq ?_ | refine AL.block ?_ | refine AL.skip ?_ | refine AL.blk ?_)
        refine AL.cond ?_
        simp
        repeat (first | refine AL.seq ?_ | refine AL.block ?_ | refine AL.skip ?_ | refine AL.blk ?_)
        refine AL.region follows_Try (Nat.le_refl _) (by kernel_rfl) ?_
        simp
        have hR : validM a b m = 20 := by simp [validM, hva, hvb, hl1]
        repeat (first | refine AL.seq ?_ | refine AL.block ?_ | refine AL.skip ?_ | refine AL.blk ?_)
        refine AL.ret ?_
        try simp only [AU]
        refine ⟨by simp, Fin.data (by simp [resAs, resA]; rfl) hbox rfl htok (fun _ h => h) (Nat.le_refl _) ?_⟩
        simp [packA, hR]
    · repeat (first | refine AL.seq ?_ | refine AL.block ?_ | refine AL.skip ?_ | refine AL.blk ?_)
      refine AL.region follows_Try (Nat.le_refl _) (by kernel_rfl) ?_
      simp
      repeat (first | refine AL.seq ?_ | refine AL.block ?_ | refine AL.skip ?_ | refine AL.blk ?_)
      refine AL.cond ?_
      simp [hvb]
      repeat (first | refine AL.seq ?_ | refine AL.block ?_ | refine AL.skip ?_ | refine AL.blk ?_)
      refine AL.region follows_Try (Nat.le_refl _) (by kernel_rfl) ?_
      simp
      repeat (first | refine AL.seq ?_ | refine AL.block ?_ | refine AL.skip ?_ | refine AL.blk ?_)
      refine AL.ret ?_
      try simp only [AU]
      refine ⟨by simp, Fin.data (by simp [resAs, resA]; rfl) hbox rfl htok (fun _ h => h) (Nat.le_refl _) ?_⟩
      simp [packA, validM, hva, hvb]
  · repeat (first | refine AL.seq ?_ | refine AL.block ?_ | refine AL.skip ?_ | refine AL.blk ?_)
    refine AL.region follows_Try (Nat.le_refl _) (by kernel_rfl) ?_
    simp
    repeat (first | refine AL.seq ?_ | refine AL.block ?_ | refine AL.skip ?_ | refine AL.blk ?_)
    refine AL.cond ?_
    simp [hva]
    repeat (first | refine AL.seq ?_ | refine AL.block ?_ | refine AL.skip ?_ | refine AL.blk ?_)
    refine AL.region follows_Try (Nat.le_refl _) (by kernel_rfl) ?_
    simp
    repeat (first | refine AL.seq ?_ | refine AL.block ?_ | refine AL.skip ?_ | refine AL.blk ?_)
    refine AL.ret ?_
    try simp only [AU]
    refine ⟨by simp, Fin.data (by simp [resAs, resA]; rfl) hbox rfl htok (fun _ h => h) (Nat.le_refl _) ?_⟩
    simp [packA, validM, hva]
end Go.AM
