import Derived.Test.YtgonmjghdkoekaaFacJ
namespace Go.AM
open Go Go.Proofs
set_option linter.unusedSimpArgs false
set_option linter.unusedVariables false

theorem beqD (x y : Int) : (x == y) = decide (x = y) := by by_cases h : x = y <;> simp [h]

/-! ### overlaps.nodes -/
def ovStepN (a b : Gr) (rec : List Int → List Ov → List Ov) (l : List Int) (out : List Ov) (k : Nat) : List Ov := if a.nodes.getD k 0 = b.nodes.getD l.length 0 ∧ (k : Int) ∉ l then rec (l ++ [(k : Int)]) out else out

def ovN (a b : Gr) : Nat → List Int → List Ov → List Ov
  | 0, l, out => if 2000 < out.length then out else ovE a b l b.edges.length [] out
  | n + 1, l, out => if 2000 < out.length then out else (List.range a.nodes.length).foldl (ovStepN a b (ovN a b n) l) (ovN a b n (l ++ [-1]) out)

structure NoH (a b : Gr) : Prop where
  fa : a.Fit
  va : validG a = 0
  fb : b.Fit
  x : ∀ e ∈ b.edges, 0 ≤ e.fr ∧ e.fr < b.nodes.length ∧ 0 ≤ e.to ∧ e.to < b.nodes.length

def st43 (a b : Gr) (l : List Int) (nb k : Nat) (box : Nat → Option (List (List AV))) (x : AccO) : AState :=
  ⟨tl [(0, .ptr k 0 0), (1, .d (ints l)), (34, .d (ints a.nodes)), (35, I a.nodes.length), (36, I x.i)],
    lb nb (upd box k (some [ovRow a b x.out x.own])) [], x.tok, x.nt⟩

theorem nodes_c (a b : Gr) (h : NoH a b) : ∀ (n : Nat) (l : List Int) (out : List Ov) (own : Own) (box : Nat → Option (List (List AV))) (nb k : Nat) (tok : Nat → Bool) (nt : Nat), l.length + n = b.nodes.length →
    box k = some [ovRow a b out own] → own.liveP tok → ACalls Try.prog 43 [.ptr k 0 0, .d (ints l)] ⟨box, nb, tok, nt⟩ (QOv a b box nb k tok nt own (ovN a b n l out)) := by
  intro n
  induction n with
  | zero =>
    intro l out own box nb k tok nt hl hk hlive
    have hself : box = upd box k (some [ovRow a b out own]) := (upd_self box k _ hk).symm
    refine ACalls.of_body Try.func43 rfl (by kernel_rfl) follows_Try (by kernel_rfl) (by simp [Try.ntmps43]) ?_
    intro hbox htok
    simp only at hbox htok
    apply AL.start
    have hkn := key_lt hbox hk
    repeat (first | refine AL.seq ?_ | refine AL.block ?_ | refine AL.skip ?_ | refine AL.blk ?_)
    refine AL.region follows_Try (Nat.le_refl _) (by kernel_rfl) ?_
    simp [lb_out hkn, hk]
    repeat (first | refine AL.seq ?_ | refine AL.block ?_ | refine AL.skip ?_ | refine AL.blk ?_)
    refine AL.cond ?_
    simp
    refine ⟨fun hbig => ?_, fun hsm => ?_⟩
    · repeat (first | refine AL.seq ?_ | refine AL.block ?_ | refine AL.skip ?_ | refine AL.blk ?_)
      refine AL.ret ?_
      try simp only [AU]
      refine ⟨by simp, (Fin.own (vs := []) (av := .tup []) (by simp [resAs, resA]) hbox rfl (Nat.le_refl _) (by simp [packA])).mono fun v m hq => ⟨hq.1, own, tok, nt, ?_, Adv.refl hlive htok⟩⟩
      have hbig' : 2000 < out.length := by omega
      rw [hq.2, ovN, if_pos hbig', ← hself]
    · have hsm' : ¬ 2000 < out.length := by omega
      have hl' : l.length = b.nodes.length := by omega
      repeat (first | refine AL.seq ?_ | refine AL.block ?_ | refine AL.skip ?_ | refine AL.blk ?_)
      refine AL.region follows_Try (Nat.le_refl _) (by kernel_rfl) ?_
      simp [lb_out hkn, hk]
      repeat (first | refine AL.seq ?_ | refine AL.block ?_ | refine AL.skip ?_ | refine AL.blk ?_)
      refine AL.cond ?_
      simp
      refine ⟨fun _ => ?_, fun hne => absurd (by omega) hne⟩
      have hbe := h.fb.e
      have hbn := h.fb.n
      repeat (first | refine AL.seq ?_ | refine AL.block ?_ | refine AL.skip ?_ | refine AL.blk ?_)
      refine AL.region follows_Try (Nat.le_refl _) (by kernel_rfl) ?_
      simp [lb_out hkn, hk]
      refine Stop.sub (args' := [.ptr k 0 0, .d (ints l), .d (ints [])]) ⟨Sub.refl _, Sub.refl _, Sub.nil _ _ _, trivial⟩ ?_
      refine Stop.of_a (edges_c a b l ⟨h.fa, h.va, h.fb, hl', by rw [hl']; exact h.x⟩ b.edges.length [] out own _ _ k _ _ (by simp) (by simp only [lb_out hkn, hk]) hlive) ?_
      rintro v m' ⟨rfl, own1, tok1, nt1, rfl, hadv⟩
      simp [upd_lb_out hkn]
      repeat (first | refine AL.seq ?_ | refine AL.block ?_ | refine AL.skip ?_ | refine AL.blk ?_)
      refine AL.ret ?_
      try simp only [AU]
      refine ⟨by simp, (Fin.gen (vs := []) (av := .tup []) (tok' := tok1) (nt' := nt1) (by simp [resAs, resA]) ?_ hadv.le (Nat.le_refl _) (fun t h => ⟨h, .inl rfl⟩) (outOk (by simp)) (by simp [packA])).mono fun v m hq => ⟨hq.1, own1, tok1, nt1, ?_, hadv⟩⟩
      · rw [← upd_lb_out hkn, hbox]
      · rw [hq.2, ovN, if_neg hsm']
  | succ n ih =>
    intro l out own box nb k tok nt hl hk hlive
    have hself : box = upd box k (some [ovRow a b out own]) := (upd_self box k _ hk).symm
    have han := h.fa.n
    have hbn := h.fb.n
    have hlt : l.length < b.nodes.length := by omega
    refine ACalls.of_body Try.func43 rfl (by kernel_rfl) follows_Try (by kernel_rfl) (by simp [Try.ntmps43]) ?_
    intro hbox htok
    simp only at hbox htok
    apply AL.start
    have hkn := key_lt hbox hk
    repeat (first | refine AL.seq ?_ | refine AL.block ?_ | refine AL.skip ?_ | refine AL.blk ?_)
    refine AL.region follows_Try (Nat.le_refl _) (by kernel_rfl) ?_
    simp [lb_out hkn, hk]
    repeat (first | refine AL.seq ?_ | refine AL.block ?_ | refine AL.skip ?_ | refine AL.blk ?_)
    refine AL.cond ?_
    simp
    refine ⟨fun hbig => ?_, fun hsm => ?_⟩
    · repeat (first | refine AL.seq ?_ | refine AL.block ?_ | refine AL.skip ?_ | refine AL.blk ?_)
      refine AL.ret ?_
      try simp only [AU]
      refine ⟨by simp, (Fin.own (vs := []) (av := .tup []) (by simp [resAs, resA]) hbox rfl (Nat.le_refl _) (by simp [packA])).mono fun v m hq => ⟨hq.1, own, tok, nt, ?_, Adv.refl hlive htok⟩⟩
      have hbig' : 2000 < out.length := by omega
      rw [hq.2, ovN, if_pos hbig', ← hself]
    · have hsm' : ¬ 2000 < out.length := by omega
      repeat (first | refine AL.seq ?_ | refine AL.block ?_ | refine AL.skip ?_ | refine AL.blk ?_)
      refine AL.region follows_Try (Nat.le_refl _) (by kernel_rfl) ?_
      simp [lb_out hkn, hk]
      repeat (first | refine AL.seq ?_ | refine AL.block ?_ | refine AL.skip ?_ | refine AL.blk ?_)
      refine AL.cond ?_
      simp
      refine ⟨fun heq => absurd heq (by omega), fun _ => ?_⟩
      repeat (first | refine AL.seq ?_ | refine AL.block ?_ | refine AL.skip ?_ | refine AL.blk ?_)
      refine AL.region follows_Try (Nat.le_refl _) (by kernel_rfl) ?_
      simp [lb_out hkn, hk]
      refine Stop.of_d (clone_c l (by omega) _ _) ?_
      simp
      refine ⟨⟨by omega, by simp [upd_same]⟩, ?_⟩
      refine Stop.data ?_
      simp only [List.map, AV.asD]
      rw [rI_snoc]
      have had := Adv.fresh hlive htok
      refine Stop.of_a (ih (l ++ [-1]) out own _ _ k _ _ (by simp; omega) (by simp only [lb_out hkn, hk]) had.live) ?_
      rintro v m' ⟨rfl, own1, tok1, nt1, rfl, hadv⟩
      simp [upd_lb_out hkn]
      have had1 : Adv tok nt own tok1 nt1 own1 := had.trans htok hadv
      clear hadv had
      repeat (first | refine AL.seq ?_ | refine AL.block ?_ | refine AL.skip ?_ | refine AL.blk ?_)
      refine AL.region follows_Try (Nat.le_refl _) (by kernel_rfl) ?_
      simp [lb_out hkn, upd_same]
      repeat (first | refine AL.seq ?_ | refine AL.block ?_ | refine AL.skip ?_ | refine AL.blk ?_)
      refine AL.loopT (st43 a b l nb k box) (fun x => x.i ≤ a.nodes.length ∧ x.out = (List.range x.i).foldl (ovStepN a b (ovN a b n) l) (ovN a b n (l ++ [-1]) out) ∧ Adv tok nt own x.tok x.nt x.own) (fun x => a.nodes.length - x.i)
        ⟨0, ovN a b n (l ++ [-1]) out, own1, tok1, nt1⟩ ⟨Nat.zero_le _, rfl, had1⟩ (Weaks.mk' had1.le (by simp [ToL, lk]; exact to_ptr (by rw [lb_out hkn, upd_same]; simp)) (by simp [BoxL, lk]) (outOk rfl)) ?_
      rintro ⟨i, out2, own2, tok2, nt2⟩ S ⟨hi, hout, hadv2⟩ hS
      simp only [st43] at hS hi hout hadv2
      subst hS
      have hw : IntKind.i64.wrap (↑i + 1) = ((i + 1 : Nat) : Int) := by rw [wrap_in (by omega) (by omega)]; rfl
      repeat (first | refine AL.seq ?_ | refine AL.block ?_ | refine AL.skip ?_ | refine AL.blk ?_)
      refine AL.region follows_Try (Nat.le_refl _) (by kernel_rfl) ?_
      simp
      repeat (first | refine AL.seq ?_ | refine AL.block ?_ | refine AL.skip ?_ | refine AL.blk ?_)
      refine AL.cond ?_
      simp
      refine ⟨fun hli => ?_, fun hge => ?_⟩
      · repeat (first | refine AL.seq ?_ | refine AL.block ?_ | refine AL.skip ?_ | refine AL.blk ?_)
        refine AL.region follows_Try (Nat.le_refl _) (by kernel_rfl) ?_
        simp [hli]
        repeat (first | refine AL.seq ?_ | refine AL.block ?_ | refine AL.skip ?_ | refine AL.blk ?_)
        refine AL.region follows_Try (Nat.le_refl _) (by kernel_rfl) ?_
        simp [lb_out hkn, upd_same, hlt]
        have hfold : (List.range (i + 1)).foldl (ovStepN a b (ovN a b n) l) (ovN a b n (l ++ [-1]) out) = ovStepN a b (ovN a b n) l out2 i := by
          rw [List.range_succ, List.foldl_append, ← hout]; rfl
        have hgi : a.nodes.getD i 0 = a.nodes[i] := by simp [hli]
        have hgl : b.nodes.getD l.length 0 = b.nodes[l.length] := by simp [hlt]
        simp only [beqD]
        first | refine Gd.dt (fun hE => ?_) (fun hE => ?_) | refine Gd.df (fun hE => ?_) (fun hE => ?_) | refine Gd.t (fun hE => ?_) (fun hE => ?_) | refine Gd.f (fun hE => ?_) (fun hE => ?_)
        · simp [hE]
          refine Stop.of_d (contains_c l i (by omega) _ _) ?_
          simp [hE]
          repeat (first | refine AL.seq ?_ | refine AL.block ?_ | refine AL.skip ?_ | refine AL.blk ?_)
          refine AL.cond ?_
          simp
          refine ⟨fun hni => ?_, fun hin => ?_⟩
          · repeat (first | refine AL.seq ?_ | refine AL.block ?_ | refine AL.skip ?_ | refine AL.blk ?_)
            refine AL.region follows_Try (Nat.le_refl _) (by kernel_rfl) ?_
            simp [lb_out hkn, upd_same]
            refine Stop.of_d (clone_c l (by omega) _ _) ?_
            simp
            refine ⟨⟨by omega, by simp [upd_same]⟩, ?_⟩
            refine Stop.data ?_
            simp only [List.map, AV.asD]
            rw [rI_snoc]
            have had := Adv.fresh hadv2.live hadv2.lt
            refine Stop.of_a (ih (l ++ [(i : Int)]) out2 own2 _ _ k _ _ (by simp; omega) (by simp only [lb_out hkn, upd_same]) had.live) ?_
            rintro v m' ⟨rfl, own3, tok3, nt3, rfl, hadv⟩
            simp [upd_lb_out hkn, upd_upd]
            have had3 : Adv tok nt own tok3 nt3 own3 := hadv2.trans htok (had.trans hadv2.lt hadv)
            clear hadv had
            repeat (first | refine AL.seq ?_ | refine AL.block ?_ | refine AL.skip ?_ | refine AL.blk ?_)
            refine AL.region follows_Try (Nat.le_refl _) (by kernel_rfl) ?_
            simp [hw]
            repeat (first | refine AL.seq ?_ | refine AL.block ?_ | refine AL.skip ?_ | refine AL.blk ?_)
            refine AL.nil ?_
            refine ⟨⟨i + 1, ovN a b n (l ++ [(i : Int)]) out2, own3, tok3, nt3⟩, ⟨hli, ?_, had3⟩, by simp; omega, Weaks.mk' had3.le (by simp [ToL, lk]; exact to_ptr (by rw [lb_out hkn, upd_same]; simp)) (by simp [BoxL, lk]) (outOk rfl)⟩
            rw [hfold, ovStepN, if_pos ⟨by rw [hgi, hgl, hE], hni⟩]
          · repeat (first | refine AL.seq ?_ | refine AL.block ?_ | refine AL.skip ?_ | refine AL.blk ?_)
            refine AL.region follows_Try (Nat.le_refl _) (by kernel_rfl) ?_
            simp [hw]
            repeat (first | refine AL.seq ?_ | refine AL.block ?_ | refine AL.skip ?_ | refine AL.blk ?_)
            refine AL.nil ?_
            refine ⟨⟨i + 1, out2, own2, tok2, nt2⟩, ⟨hli, ?_, hadv2⟩, by simp; omega, Weaks.mk' hadv2.le (by simp [ToL, lk]; exact to_ptr (by rw [lb_out hkn, upd_same]; simp)) (by simp [BoxL, lk]) (outOk rfl)⟩
            rw [hfold, ovStepN, if_neg (fun hh => hh.2 hin)]
        · simp [hE]
          repeat (first | refine AL.seq ?_ | refine AL.block ?_ | refine AL.skip ?_ | refine AL.blk ?_)
          refine AL.cond ?_
          simp
          repeat (first | refine AL.seq ?_ | refine AL.block ?_ | refine AL.skip ?_ | refine AL.blk ?_)
          refine AL.region follows_Try (Nat.le_refl _) (by kernel_rfl) ?_
          simp [hw]
          repeat (first | refine AL.seq ?_ | refine AL.block ?_ | refine AL.skip ?_ | refine AL.blk ?_)
          refine AL.nil ?_
          refine ⟨⟨i + 1, out2, own2, tok2, nt2⟩, ⟨hli, ?_, hadv2⟩, by simp; omega, Weaks.mk' hadv2.le (by simp [ToL, lk]; exact to_ptr (by rw [lb_out hkn, upd_same]; simp)) (by simp [BoxL, lk]) (outOk rfl)⟩
          rw [hfold, ovStepN, if_neg (fun hh => hE (by rw [← hgi, hh.1, hgl]))]
      · repeat (first | refine AL.seq ?_ | refine AL.block ?_ | refine AL.skip ?_ | refine AL.blk ?_)
        refine AL.exit ?_
        simp only [AU, ↓reduceIte]
        have hin : i = a.nodes.length := by omega
        subst hin
        repeat (first | refine AL.seq ?_ | refine AL.block ?_ | refine AL.skip ?_ | refine AL.blk ?_)
        refine AL.nil ?_
        refine ⟨by simp, (Fin.gen (vs := []) (av := .tup []) (tok' := tok2) (nt' := nt2) (by simp [resAs, resA]) ?_ hadv2.le (Nat.le_refl _) (fun t h => ⟨h, .inl rfl⟩) (outOk (by simp)) (by simp [packA])).mono fun v m hq => ⟨hq.1, own2, tok2, nt2, ?_, hadv2⟩⟩
        · rw [← upd_lb_out hkn, hbox]
        · rw [hq.2, ovN, if_neg hsm', hout]
end Go.AM
