import Derived.Test.YtgonmjghdkoekaaFacK
namespace Go.AM
open Go Go.Proofs
set_option linter.unusedSimpArgs false
set_option linter.unusedVariables false

theorem E.eq_and3 (x : E) (p q r : Int) : (decide (x.ty = p) && (decide (x.fr = q) && decide (x.to = r))) = decide (x = ⟨p, q, r⟩) := E.eq_and x ⟨p, q, r⟩

/-! ### ref13.overlaps.edges -/
/-- What has been listed when the loop from -1 stands at i - 1. -/
def accE (a b : Gr) (nodes : List Int) (n : Nat) (es : List Int) (out : List Ov) : Nat → List Ov
  | 0 => out
  | i + 1 => (List.range i).foldl (ovStep a b nodes n es) (ovE a b nodes n (es ++ [-1]) out)

structure AccR where
  i : Nat
  out : List Ov
  own : Own
  tok : Nat → Bool
  nt : Nat

def st85 (a b : Gr) (nodes es : List Int) (nb k : Nat) (box : Nat → Option (List (List AV))) (x : AccR) : AState :=
  ⟨tl [(0, .ptr k 0 0), (1, .d (ints nodes)), (2, .d (ints es)), (7, .ptr (nb + 7) 0 0), (8, I (x.i - 1))],
    lb nb (upd box k (some [ovRow a b x.out x.own])) [(7, [[I (b.edges.getD es.length default).ty, I (b.edges.getD es.length default).fr, I (b.edges.getD es.length default).to]])], x.tok, x.nt⟩

theorem edges13_c (a b : Gr) (nodes : List Int) (h : OvH a b nodes) : ∀ (n : Nat) (es : List Int) (out : List Ov) (own : Own) (box : Nat → Option (List (List AV))) (nb k : Nat) (tok : Nat → Bool) (nt : Nat), es.length + n = b.edges.length →
    box k = some [ovRow a b out own] → own.liveP tok → ACalls Try.prog 85 [.ptr k 0 0, .d (ints nodes), .d (ints es)] ⟨box, nb, tok, nt⟩ (QOv a b box nb k tok nt own (ovE a b nodes n es out)) := by
  intro n
  induction n with
  | zero =>
    intro es out own box nb k tok nt hes hk hlive
    have hself : box = upd box k (some [ovRow a b out own]) := (upd_self box k _ hk).symm
    refine ACalls.of_body Try.func85 rfl (by kernel_rfl) follows_Try (by kernel_rfl) (by simp [Try.ntmps85]) ?_
    intro hbox htok
    simp only at hbox htok
    apply AL.start
    have hkn := key_lt hbox hk
    repeat (first | refine AL.seq ?_ | refine AL.block ?_ | refine AL.skip ?_ | refine AL.blk ?_)
    refine AL.region follows_Try (Nat.le_refl _) (by kernel_rfl) ?_
    simp [lb_out hkn, hk]
    repeat (first | refine AL.seq ?_ | refine AL.block ?_ | refine AL.skip ?_ | refine AL.blk ?_)
    refine AL.cond ?_
    simp
    refine ⟨fun hbig => ?_, fun hsm => ?_⟩
    · repeat (first | refine AL.seq ?_ | refine AL.block ?_ | refine AL.skip ?_ | refine AL.blk ?_)
      refine AL.ret ?_
      try simp only [AU]
      refine ⟨by simp, (Fin.own (vs := []) (av := .tup []) (by simp [resAs, resA]) hbox rfl (Nat.le_refl _) (by simp [packA])).mono fun v m hq => ⟨hq.1, own, tok, nt, ?_, Adv.refl hlive htok⟩⟩
      have hbig' : 2000 < out.length := by omega
      rw [hq.2, ovE, if_pos hbig', ← hself]
    · have hsm' : ¬ 2000 < out.length := by omega
      have hes' : es.length = b.edges.length := by omega
      repeat (first | refine AL.seq ?_ | refine AL.block ?_ | refine AL.skip ?_ | refine AL.blk ?_)
      refine AL.region follows_Try (Nat.le_refl _) (by kernel_rfl) ?_
      simp [lb_out hkn, hk]
      repeat (first | refine AL.seq ?_ | refine AL.block ?_ | refine AL.skip ?_ | refine AL.blk ?_)
      refine AL.region follows_Try (Nat.le_refl _) (by kernel_rfl) ?_
      simp [lb_out hkn, hk]
      repeat (first | refine AL.seq ?_ | refine AL.block ?_ | refine AL.skip ?_ | refine AL.blk ?_)
      refine AL.cond ?_
      simp
      refine ⟨fun _ => ?_, fun hne => absurd (by omega) hne⟩
      have hbe := h.fb.e
      have hbn := h.fb.n
      repeat (first | refine AL.seq ?_ | refine AL.block ?_ | refine AL.skip ?_ | refine AL.blk ?_)
      refine AL.region follows_Try (Nat.le_refl _) (by kernel_rfl) ?_
      simp [lb_out hkn, hk]
      refine Stop.of_d (overlap_c a b nodes es h.fa (by rw [h.n]; exact Nat.le_refl _) (by omega) (by rw [h.n]; omega) (by omega) (fun i _ h2 _ => h.x _ (List.getElem_mem h2)) _ _) ?_
      simp [lb_out hkn, hk, upd_lb_out hkn]
      refine ⟨⟨by omega, hlive⟩, ?_⟩
      repeat (first | refine AL.seq ?_ | refine AL.block ?_ | refine AL.skip ?_ | refine AL.blk ?_)
      refine AL.ret ?_
      try simp only [AU]
      refine ⟨by simp, (Fin.gen (vs := []) (av := .tup []) (tok' := upd (own.kill tok) nt true) (nt' := nt + 1) (by simp [resAs, resA]) ?_ (by omega) (Nat.le_refl _) (fun t h => ⟨h, .inl rfl⟩) ?_ (by simp [packA])).mono fun v m hq => ⟨hq.1, .tok nt, upd (own.kill tok) nt true, nt + 1, ?_, Adv.app hlive htok⟩⟩
      · rw [← upd_lb_out hkn, hbox]
      · intro k' rows hk' hr
        by_cases e : k' = k
        · subst e
          rw [upd_same] at hr
          cases hr
          exact .inr (by simp)
        · rw [upd_other _ _ e] at hr
          exact .inl hr
      · rw [hq.2, ovE, if_neg hsm']
        simp [ovRow]
  | succ n ih =>
    intro es out own box nb k tok nt hes hk hlive
    have hself : box = upd box k (some [ovRow a b out own]) := (upd_self box k _ hk).symm
    have hae := h.fa.e
    have hbe := h.fb.e
    have hbn := h.fb.n
    have hlt : es.length < b.edges.length := by omega
    obtain ⟨x1, x2, x3, x4⟩ := h.x b.edges[es.length] (List.getElem_mem hlt)
    have y1 : b.edges[es.length].fr.toNat < nodes.length := by omega
    have y2 : b.edges[es.length].to.toNat < nodes.length := by omega
    refine ACalls.of_body Try.func85 rfl (by kernel_rfl) follows_Try (by kernel_rfl) (by simp [Try.ntmps85]) ?_
    intro hbox htok
    simp only at hbox htok
    apply AL.start
    have hkn := key_lt hbox hk
    repeat (first | refine AL.seq ?_ | refine AL.block ?_ | refine AL.skip ?_ | refine AL.blk ?_)
    refine AL.region follows_Try (Nat.le_refl _) (by kernel_rfl) ?_
    simp [lb_out hkn, hk]
    repeat (first | refine AL.seq ?_ | refine AL.block ?_ | refine AL.skip ?_ | refine AL.blk ?_)
    refine AL.cond ?_
    simp
    refine ⟨fun hbig => ?_, fun hsm => ?_⟩
    · repeat (first | refine AL.seq ?_ | refine AL.block ?_ | refine AL.skip ?_ | refine AL.blk ?_)
      refine AL.ret ?_
      try simp only [AU]
      refine ⟨by simp, (Fin.own (vs := []) (av := .tup []) (by simp [resAs, resA]) hbox rfl (Nat.le_refl _) (by simp [packA])).mono fun v m hq => ⟨hq.1, own, tok, nt, ?_, Adv.refl hlive htok⟩⟩
      have hbig' : 2000 < out.length := by omega
      rw [hq.2, ovE, if_pos hbig', ← hself]
    · have hsm' : ¬ 2000 < out.length := by omega
      repeat (first | refine AL.seq ?_ | refine AL.block ?_ | refine AL.skip ?_ | refine AL.blk ?_)
      refine AL.region follows_Try (Nat.le_refl _) (by kernel_rfl) ?_
      simp [lb_out hkn, hk]
      repeat (first | refine AL.seq ?_ | refine AL.block ?_ | refine AL.skip ?_ | refine AL.blk ?_)
      refine AL.region follows_Try (Nat.le_refl _) (by kernel_rfl) ?_
      simp [lb_out hkn, hk]
      repeat (first | refine AL.seq ?_ | refine AL.block ?_ | refine AL.skip ?_ | refine AL.blk ?_)
      refine AL.cond ?_
      simp
      refine ⟨fun heq => absurd heq (by omega), fun _ => ?_⟩
      repeat (first | refine AL.seq ?_ | refine AL.block ?_ | refine AL.skip ?_ | refine AL.blk ?_)
      refine AL.region follows_Try (Nat.le_refl _) (by kernel_rfl) ?_
      simp [lb_out hkn, hk, hlt]
      repeat (first | refine AL.seq ?_ | refine AL.block ?_ | refine AL.skip ?_ | refine AL.blk ?_)
      refine AL.region follows_Try (Nat.le_refl _) (by kernel_rfl) ?_
      simp [lb_out hkn, hk]
      repeat (first | refine AL.seq ?_ | refine AL.block ?_ | refine AL.skip ?_ | refine AL.blk ?_)
      have hlb : ∀ loc, lb nb box loc = lb nb (upd box k (some [ovRow a b out own])) loc := fun loc => by rw [← hself]
      rw [hlb]
      have hwant : wantE b nodes es = ⟨b.edges[es.length].ty, nodes[b.edges[es.length].fr.toNat], nodes[b.edges[es.length].to.toNat]⟩ := by simp [wantE, hlt, y1, y2]
      refine AL.loopT (st85 a b nodes es nb k box) (fun x => x.i ≤ a.edges.length + 1 ∧ x.out = accE a b nodes n es out x.i ∧ Adv tok nt own x.tok x.nt x.own) (fun x => a.edges.length + 1 - x.i)
        ⟨0, out, own, tok, nt⟩ ⟨Nat.zero_le _, rfl, Adv.refl hlive htok⟩ (Weaks.mk' (Nat.le_refl _) (by simp [ToL, lk, hlt]; exact to_ptr (by rw [lb_out hkn, upd_same]; simp)) (by simp [BoxL, lk, hlt]) (outOk rfl)) ?_
      rintro ⟨i, out2, own2, tok2, nt2⟩ S ⟨hi, hout, hadv2⟩ hS
      simp only [st85] at hS hi hout hadv2
      subst hS
      have hw : IntKind.i64.wrap (↑i - 1 + 1) = ((i + 1 : Nat) : Int) - 1 := by rw [wrap_in (by omega) (by omega)]; omega
      repeat (first | refine AL.seq ?_ | refine AL.block ?_ | refine AL.skip ?_ | refine AL.blk ?_)
      refine AL.region follows_Try (Nat.le_refl _) (by kernel_rfl) ?_
      simp [lb_out hkn, upd_same]
      repeat (first | refine AL.seq ?_ | refine AL.block ?_ | refine AL.skip ?_ | refine AL.blk ?_)
      refine AL.cond ?_
      simp
      refine ⟨fun hli => ?_, fun hge => ?_⟩
      · cases i with
        | zero =>
          repeat (first | refine AL.seq ?_ | refine AL.block ?_ | refine AL.skip ?_ | refine AL.blk ?_)
          refine AL.region follows_Try (Nat.le_refl _) (by kernel_rfl) ?_
          simp [lb_out hkn, upd_same]
          repeat (first | refine AL.seq ?_ | refine AL.block ?_ | refine AL.skip ?_ | refine AL.blk ?_)
          refine AL.cond ?_
          simp
          repeat (first | refine AL.seq ?_ | refine AL.block ?_ | refine AL.skip ?_ | refine AL.blk ?_)
          refine AL.region follows_Try (Nat.le_refl _) (by kernel_rfl) ?_
          simp [lb_out hkn, upd_same]
          refine ⟨by omega, by omega, ?_⟩
          refine Stop.data ?_
          simp only [List.map, AV.asD]
          rw [rI_snoc]
          have had := Adv.fresh hadv2.live hadv2.lt
          refine Stop.of_a (ih (es ++ [-1]) out2 own2 _ _ k _ _ (by simp; omega) (by simp only [lb_out hkn, upd_same]) had.live) ?_
          rintro v m' ⟨rfl, own3, tok3, nt3, rfl, hadv⟩
          simp [upd_lb_out hkn, upd_upd]
          have had3 : Adv tok nt own tok3 nt3 own3 := hadv2.trans htok (had.trans hadv2.lt hadv)
          clear hadv had
          repeat (first | refine AL.seq ?_ | refine AL.block ?_ | refine AL.skip ?_ | refine AL.blk ?_)
          refine AL.region follows_Try (Nat.le_refl _) (by kernel_rfl) ?_
          simp [show IntKind.i64.wrap 0 = 0 from rfl]
          repeat (first | refine AL.seq ?_ | refine AL.block ?_ | refine AL.skip ?_ | refine AL.blk ?_)
          refine AL.nil ?_
          refine ⟨⟨1, ovE a b nodes n (es ++ [-1]) out2, own3, tok3, nt3⟩, ⟨by simp, ?_, had3⟩, by simp, Weaks.mk' had3.le (by simp [ToL, lk]; exact to_ptr (by rw [lb_out hkn, upd_same]; simp)) (by simp [BoxL, lk, hlt]) (outOk rfl)⟩
          rw [hout]; rfl
        | succ i =>
          have hli' : i < a.edges.length := by omega
          have hneg : ¬ (i : Int) < 0 := by omega
          have hw' : IntKind.i64.wrap (↑i + 1) = (i : Int) + 1 := by rw [wrap_in (by omega) (by omega)]
          have hfold : accE a b nodes n es out (i + 1 + 1) = ovStep a b nodes n es out2 i := by
            rw [hout, accE, accE, List.range_succ, List.foldl_append]; rfl
          have hgi : a.edges.getD i default = a.edges[i] := by simp [hli']
          repeat (first | refine AL.seq ?_ | refine AL.block ?_ | refine AL.skip ?_ | refine AL.blk ?_)
          refine AL.region follows_Try (Nat.le_refl _) (by kernel_rfl) ?_
          simp [lb_out hkn, upd_same, hneg]
          refine Stop.of_d (in_c es i (by omega) _ _) ?_
          simp [lb_out hkn, upd_same, hneg]
          by_cases hin : (i : Int) ∈ es
          · simp [hin]
            repeat (first | refine AL.seq ?_ | refine AL.block ?_ | refine AL.skip ?_ | refine AL.blk ?_)
            refine AL.cond ?_
            simp
            repeat (first | refine AL.seq ?_ | refine AL.block ?_ | refine AL.skip ?_ | refine AL.blk ?_)
            refine AL.region follows_Try (Nat.le_refl _) (by kernel_rfl) ?_
            simp [hw']
            repeat (first | refine AL.seq ?_ | refine AL.block ?_ | refine AL.skip ?_ | refine AL.blk ?_)
            refine AL.nil ?_
            refine ⟨⟨i + 1 + 1, out2, own2, tok2, nt2⟩, ⟨by simp; omega, ?_, hadv2⟩, by simp; omega, Weaks.mk' hadv2.le (by simp [ToL, lk]; exact to_ptr (by rw [lb_out hkn, upd_same]; simp)) (by simp [BoxL, lk, hlt]) (outOk rfl)⟩
            rw [hfold, ovStep, if_neg (fun hh => hh.2 hin)]
          · simp [hin, lb_out hkn, upd_same, hli', hlt, x1, x2, x3, x4, y1, y2]
            simp only [E.eq_and3]
            repeat (first | refine AL.seq ?_ | refine AL.block ?_ | refine AL.skip ?_ | refine AL.blk ?_)
            refine AL.cond ?_
            simp
            refine ⟨fun hE => ?_, fun hE => ?_⟩
            · repeat (first | refine AL.seq ?_ | refine AL.block ?_ | refine AL.skip ?_ | refine AL.blk ?_)
              refine AL.region follows_Try (Nat.le_refl _) (by kernel_rfl) ?_
              simp [lb_out hkn, upd_same]
              refine ⟨by omega, by omega, ?_⟩
              refine Stop.data ?_
              simp only [List.map, AV.asD]
              rw [rI_snoc]
              have had := Adv.fresh hadv2.live hadv2.lt
              refine Stop.of_a (ih (es ++ [(i : Int)]) out2 own2 _ _ k _ _ (by simp; omega) (by simp only [lb_out hkn, upd_same]) had.live) ?_
              rintro v m' ⟨rfl, own3, tok3, nt3, rfl, hadv⟩
              simp [upd_lb_out hkn, upd_upd]
              have had3 : Adv tok nt own tok3 nt3 own3 := hadv2.trans htok (had.trans hadv2.lt hadv)
              clear hadv had
              repeat (first | refine AL.seq ?_ | refine AL.block ?_ | refine AL.skip ?_ | refine AL.blk ?_)
              refine AL.region follows_Try (Nat.le_refl _) (by kernel_rfl) ?_
              simp [hw']
              repeat (first | refine AL.seq ?_ | refine AL.block ?_ | refine AL.skip ?_ | refine AL.blk ?_)
              refine AL.nil ?_
              refine ⟨⟨i + 1 + 1, ovE a b nodes n (es ++ [(i : Int)]) out2, own3, tok3, nt3⟩, ⟨by simp; omega, ?_, had3⟩, by simp; omega, Weaks.mk' had3.le (by simp [ToL, lk]; exact to_ptr (by rw [lb_out hkn, upd_same]; simp)) (by simp [BoxL, lk, hlt]) (outOk rfl)⟩
              rw [hfold, ovStep, if_pos ⟨by rw [hgi, hwant, hE], hin⟩]
            · repeat (first | refine AL.seq ?_ | refine AL.block ?_ | refine AL.skip ?_ | refine AL.blk ?_)
              refine AL.region follows_Try (Nat.le_refl _) (by kernel_rfl) ?_
              simp [hw']
              repeat (first | refine AL.seq ?_ | refine AL.block ?_ | refine AL.skip ?_ | refine AL.blk ?_)
              refine AL.nil ?_
              refine ⟨⟨i + 1 + 1, out2, own2, tok2, nt2⟩, ⟨by simp; omega, ?_, hadv2⟩, by simp; omega, Weaks.mk' hadv2.le (by simp [ToL, lk]; exact to_ptr (by rw [lb_out hkn, upd_same]; simp)) (by simp [BoxL, lk, hlt]) (outOk rfl)⟩
              rw [hfold, ovStep, if_neg (fun hh => hE (by rw [← hgi, hh.1, hwant]))]
      · repeat (first | refine AL.seq ?_ | refine AL.block ?_ | refine AL.skip ?_ | refine AL.blk ?_)
        refine AL.exit ?_
        simp only [AU, ↓reduceIte]
        have hin : i = a.edges.length + 1 := by omega
        subst hin
        repeat (first | refine AL.seq ?_ | refine AL.block ?_ | refine AL.skip ?_ | refine AL.blk ?_)
        refine AL.nil ?_
        refine ⟨by simp, (Fin.gen (vs := []) (av := .tup []) (tok' := tok2) (nt' := nt2) (by simp [resAs, resA]) ?_ hadv2.le (Nat.le_refl _) (fun t h => ⟨h, .inl rfl⟩) (outOk (by simp)) (by simp [packA])).mono fun v m hq => ⟨hq.1, own2, tok2, nt2, ?_, hadv2⟩⟩
        · rw [← upd_lb_out hkn, hbox]
        · rw [hq.2, ovE, if_neg hsm', hout]; rfl
end Go.AM
