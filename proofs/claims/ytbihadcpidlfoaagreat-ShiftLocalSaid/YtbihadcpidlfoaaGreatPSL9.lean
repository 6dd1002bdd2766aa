import Derived.Test.YtbihadcpidlfoaaGreatPSL8
/-
  shift.shifter.shift.
-/
namespace Go.AM
open Go Go.Proofs
set_option linter.unusedSimpArgs false
set_option linter.unusedVariables false

def QSh (r : Cd × St2) (ks : Nat) (box : Nat → Option (List (List AV))) (nb : Nat) (tok : Nat → Bool) (nt : Nat) (v : AV) (m : AMem) : Prop :=
  v = r.1.av ∧ m = ⟨upd box ks (some [[I r.2.1, I r.2.2]]), nb, tok, nt⟩

theorem shF_len (b : Gr) (m : Mo) : ∀ (l : List Cd) (st : St2), (seqL (shF b m) l st).1.length = l.length
  | [], st => rfl
  | x :: r, st => by
    simp only [seqL, shF, List.length_append, List.length_cons, List.length_nil, shF_len b m r]
    omega

theorem outS {a b : Int} {box : Nat → Option (List (List AV))} {k base : Nat} {p q : Nat → Prop} : ∀ k' rows, k' < base → (upd box k (some [[I a, I b]])) k' = some rows → box k' = some rows ∨ ∀ r ∈ rows, ∀ x ∈ r, OkIn p q x := by
  intro k' rows hk' hr
  by_cases e : k' = k
  · subst e
    rw [upd_same] at hr
    cases hr
    exact .inr (by simp)
  · rw [upd_other _ _ e] at hr
    exact .inl hr

abbrev nilS : AV := .osl 0 [] .full
abbrev z0i : AV := .d (.raw (.int .i64 0))
def stSk (c : Cd) (b : Gr) (m : Mo) (u : St2) (ks nb : Nat) (box : Nat → Option (List (List AV))) (x : Acc) : AState :=
  ⟨tl [(45, .d (conds c.kids)), (46, I c.kids.length), (47, I x.i), (9, .ptr (nb + 9) 0 0), (0, .ptr ks 0 0), (5, .ptr (nb + 5) 0 0), (6, .ptr (nb + 6) 0 0), (8, .ptr (nb + 8) 0 0)],
    lb nb (upd box ks (some [[I (seqL (shF b m) (c.kids.take x.i) u).2.1, I (seqL (shF b m) (c.kids.take x.i) u).2.2]]))
      [(9, [[I c.kind, .osl 9 ((seqL (shF b m) (c.kids.take x.i) u).1.map Cd.cells) x.own, nilS, nilS, nilS, nilS, nilS, z0i, nilS]]), (5, [b.cells2]), (6, [m.cells2]), (8, [[z0i, nilS, nilS, nilS, nilS, nilS, nilS, z0i, nilS]])], x.tok, x.nt⟩

theorem ovF_yes {m mm : Mo} {H : Gr → Mo → St2 → Cd × St2} {o : Ov} {st : St2} (h : agrO m mm o = true) : ovF m mm H o st = ([exOf o (H o.g o.r (inc st.1, st.2)).1], (H o.g o.r (inc st.1, st.2)).2) := if_pos h
theorem ovF_no {m mm : Mo} {H : Gr → Mo → St2 → Cd × St2} {o : Ov} {st : St2} (h : ¬ agrO m mm o = true) : ovF m mm H o st = ([], st) := if_neg h
theorem Cd.shfH_get {l : List Cd} (h : 0 < l.length) (b : Gr) (m : Mo) (st : St2) : Cd.shfH l b m st = Cd.shf l[0] b m st := by
  match l, h with
  | x :: r, _ => simp [Cd.shfH]
def stSo (H : Gr → Mo → St2 → Cd × St2) (c : Cd) (b : Gr) (m : Mo) (u : St2) (ks nb : Nat) (box : Nat → Option (List (List AV))) (L : List Ov) (x : Acc) : AState :=
  ⟨tl [(81, I x.i), (80, I L.length), (79, .d (ovs L)), (9, .ptr (nb + 9) 0 0), (0, .ptr ks 0 0), (5, .ptr (nb + 5) 0 0), (6, .ptr (nb + 6) 0 0), (7, .ptr (nb + 7) 0 0), (8, .ptr (nb + 8) 0 0)],
    lb nb (upd box ks (some [[I (seqL (ovF m c.m H) (L.take x.i) u).2.1, I (seqL (ovF m c.m H) (L.take x.i) u).2.2]]))
      [(9, [[I 4, .osl 9 ((seqL (ovF m c.m H) (L.take x.i) u).1.map Cd.cells) x.own, nilS, nilS, nilS, nilS, nilS, z0i, nilS]]), (5, [b.cells2]), (6, [m.cells2]), (7, [c.row]), (8, [[z0i, nilS, nilS, nilS, nilS, nilS, nilS, z0i, nilS]])], x.tok, x.nt⟩
theorem ovs_ok {b p : Gr} {q : List Ov × Int} (hb : b.Fit) (hbv : validG b = 0) (hp : p.Fit) (h : overlapsR b p = q) : (∀ o ∈ q.1, OvOk b p o) ∧ ∀ o ∈ q.1, o.Fit := by
  subst h
  refine ⟨fun o ho => overlapsR_ok ho, fun o ho => ?_⟩
  have hk := overlapsR_ok ho
  have hvp : validG p = 0 := (validM_VM hk.r).va
  have h1 := (validG_types hbv).1
  have h2 := (validG_types hvp).1
  exact (overlapsR_fit b p ⟨by omega, by omega⟩ ⟨by omega, by omega⟩).2 o ho
theorem ovs_few {b p : Gr} {q : List Ov × Int} (hbv : validG b = 0) (h : overlapsR b p = q) : q.1.length ≤ 1000000 := by
  subst h
  by_cases hp : validG p = 0
  · have h1 := (validG_types hbv).1
    have h2 := (validG_types hp).1
    exact (overlapsR_fit b p ⟨by omega, by omega⟩ ⟨by omega, by omega⟩).1
  · simp [overlapsR, hbv, hp]
theorem ovF_len (m mm : Mo) (H : Gr → Mo → St2 → Cd × St2) : ∀ (l : List Ov) (st : St2), (seqL (ovF m mm H) l st).1.length ≤ l.length
  | [], st => by simp [seqL]
  | o :: r, st => by
    have h1 : (ovF m mm H o st).1.length ≤ 1 := by unfold ovF; split <;> simp
    have h2 := ovF_len m mm H r (ovF m mm H o st).2
    simp only [seqL, List.length_append, List.length_cons]
    omega

set_option maxRecDepth 100000 in
theorem shift62_c : ∀ (n : Nat) (c : Cd), SizeOf.sizeOf c < n → c.Fit → ∀ a, c.ovr a = 0 → ∀ b : Gr, b.Fit → validG b = 0 → ∀ m : Mo, Inn m a b → ∀ (st : St2) (ks : Nat) (box : Nat → Option (List (List AV))), box ks = some [[I st.1, I st.2]] → ∀ (nb : Nat) (tok : Nat → Bool) (nt : Nat),
   ACalls Tryz.prog 56 [.ptr ks 0 0, b.av, m.av, c.av] ⟨box, nb, tok, nt⟩ (QSh (c.shf b m st) ks box nb tok nt)
  | 0, c, hn, _, _, _, _, _, _, _, _, _, _, _, _, _, tok, nt => absurd hn (Nat.not_lt_zero _)
  | n + 1, c, hn, hc, a, hv, b, hbf, hbv, m, hm, st, ks, box, hk, nb, tok, nt => by
    have ih := fun x (hx : x ∈ c.kids) => shift62_c n x (by have := Cd.kid_lt hx; omega) (hc.kid x hx) (c.inn a) ((Cd.ovr_zero hv).2.2 x hx)
    obtain ⟨hs0, hst, _⟩ := Cd.ovr_zero hv
    have hkb := hc.kids
    have hR := c.shf_eq b m st
    refine ACalls.of_body Tryz.func56 rfl (by kernel_rfl) follows_Tryz (by kernel_rfl) (by simp [Tryz.ntmps56]) ?_
    intro hbox htok
    simp only at hbox htok
    apply AL.start
    have kn := key_lt hbox hk
    have hw : IntKind.i64.wrap (st.1 + 1) = inc st.1 := rfl
    try (simp [lb_out kn, hk, upd_lb_out kn, upd_same, hw])
    repeat ((repeat (first | refine AL.seq ?_ | refine AL.block ?_ | refine AL.skip ?_ | refine AL.blk ?_)); (refine AL.region follows_Tryz (Nat.le_refl _) (by kernel_rfl) ?_); simp [lb_out kn, hk, upd_lb_out kn, upd_same, hw])
    have ht0 := TK.start htok
    obtain ⟨u, hu⟩ : ∃ u, st1 st = u := ⟨_, rfl⟩
    have hu1 : u.1 = inc st.1 := by rw [← hu]; rfl
    have hu2 : u.2 = if 2000 < inc st.1 then 3 else st.2 := by rw [← hu]; rfl
    refine AL.mid ⟨tl [(0, .ptr ks 0 0), (5, .ptr (nb + 5) 0 0), (6, .ptr (nb + 6) 0 0), (7, .ptr (nb + 7) 0 0), (8, .ptr (nb + 8) 0 0)],
      lb nb (upd box ks (some [[I u.1, I u.2]])) [(5, [b.cells2]), (6, [m.cells2]), (7, [c.row]), (8, [[.d (.raw (.int .i64 0)), .osl 0 [] .full, .osl 0 [] .full, .osl 0 [] .full, .osl 0 [] .full, .osl 0 [] .full, .osl 0 [] .full, .d (.raw (.int .i64 0)), .osl 0 [] .full]])], tok, nt⟩ ?_ ?_
    · by_cases h1 : 2000 < inc st.1
      · rw [if_pos h1] at hu2
        have d1 : decide (2000 < inc st.1) = true := decide_eq_true h1
        simp only [d1]
        repeat (first | refine AL.seq ?_ | refine AL.block ?_ | refine AL.skip ?_ | refine AL.blk ?_)
        refine AL.cond ?_
        simp
        try (simp [lb_out kn, upd_lb_out kn, upd_same, upd_upd])
        repeat ((repeat (first | refine AL.seq ?_ | refine AL.block ?_ | refine AL.skip ?_ | refine AL.blk ?_)); (refine AL.region follows_Tryz (Nat.le_refl _) (by kernel_rfl) ?_); simp [lb_out kn, upd_lb_out kn, upd_same, upd_upd])
        repeat (first | refine AL.seq ?_ | refine AL.block ?_ | refine AL.skip ?_ | refine AL.blk ?_)
        refine AL.nil ?_
        simp only [hu1, hu2]
        exact Weaks.mk' (Nat.le_refl _) (by simp [ToL, lk]; exact to_ptr (by rw [lb_out kn, upd_same]; simp)) (by simp [BoxL, lk]) outS
      · rw [if_neg h1] at hu2
        have d1 : decide (2000 < inc st.1) = false := decide_eq_false h1
        simp only [d1]
        repeat (first | refine AL.seq ?_ | refine AL.block ?_ | refine AL.skip ?_ | refine AL.blk ?_)
        refine AL.cond ?_
        simp
        repeat (first | refine AL.seq ?_ | refine AL.block ?_ | refine AL.skip ?_ | refine AL.blk ?_)
        refine AL.nil ?_
        simp only [hu1, hu2]
        exact Weaks.mk' (Nat.le_refl _) (by simp [ToL, lk]; exact to_ptr (by rw [lb_out kn, upd_same]; simp)) (by simp [BoxL, lk]) outS
    · rw [shStep, hu] at hR
      by_cases h2 : u.2 = 0
      · rw [if_neg (by simp [h2])] at hR
        have b2n : (u.2 != 0) = false := by simp [h2]
        try (simp [lb_out kn, upd_lb_out kn, upd_same, upd_upd, b2n])
        repeat ((repeat (first | refine AL.seq ?_ | refine AL.block ?_ | refine AL.skip ?_ | refine AL.blk ?_)); (refine AL.region follows_Tryz (Nat.le_refl _) (by kernel_rfl) ?_); simp [lb_out kn, upd_lb_out kn, upd_same, upd_upd, b2n])
        repeat (first | refine AL.seq ?_ | refine AL.block ?_ | refine AL.skip ?_ | refine AL.blk ?_)
        refine AL.cond ?_
        simp
        try (simp [lb_out kn, upd_lb_out kn, upd_same, upd_upd, b2n])
        repeat ((repeat (first | refine AL.seq ?_ | refine AL.block ?_ | refine AL.skip ?_ | refine AL.blk ?_)); (refine AL.region follows_Tryz (Nat.le_refl _) (by kernel_rfl) ?_); simp [lb_out kn, upd_lb_out kn, upd_same, upd_upd, b2n])
        by_cases k5 : c.kind = 5
        · have b5 : (c.kind != 5) = false := by simp [k5]
          rw [if_neg (by simp [k5])] at hR
          obtain ⟨H, hH⟩ : ∃ H, (fun (b : Gr) (m : Mo) (st : St2) => Cd.shfH c.kids b m st) = H := ⟨_, rfl⟩
          rw [hH] at hR
          simp only [b5]
          repeat (first | refine AL.seq ?_ | refine AL.block ?_ | refine AL.skip ?_ | refine AL.blk ?_)
          refine AL.cond ?_
          simp
          have hso := overlapsF_c b c.g hbf hc.g tok nt
          obtain ⟨ov, hov⟩ : ∃ q, overlapsR b c.g = q := ⟨_, rfl⟩
          rw [hov] at hR hso
          try (simp [lb_out kn, upd_lb_out kn, upd_same, upd_upd])
          repeat ((repeat (first | refine AL.seq ?_ | refine AL.block ?_ | refine AL.skip ?_ | refine AL.blk ?_)); (refine AL.region follows_Tryz (Nat.le_refl _) (by kernel_rfl) ?_); simp [lb_out kn, upd_lb_out kn, upd_same, upd_upd])
          refine Stop.of_d (hso) ?_
          simp
          try (simp)
          repeat ((repeat (first | refine AL.seq ?_ | refine AL.block ?_ | refine AL.skip ?_ | refine AL.blk ?_)); (refine AL.region follows_Tryz (Nat.le_refl _) (by kernel_rfl) ?_); simp)
          by_cases he : ov.2 = 0
          · rw [if_neg (by simp [he])] at hR
            have be : (ov.2 != 0) = false := by simp [he]
            simp only [be]
            repeat (first | refine AL.seq ?_ | refine AL.block ?_ | refine AL.skip ?_ | refine AL.blk ?_)
            refine AL.cond ?_
            simp
            try (simp [lb_out kn, upd_lb_out kn, upd_same, upd_upd])
            repeat ((repeat (first | refine AL.seq ?_ | refine AL.block ?_ | refine AL.skip ?_ | refine AL.blk ?_)); (refine AL.region follows_Tryz (Nat.le_refl _) (by kernel_rfl) ?_); simp [lb_out kn, upd_lb_out kn, upd_same, upd_upd])
            repeat (first | refine AL.seq ?_ | refine AL.block ?_ | refine AL.skip ?_ | refine AL.blk ?_)
            have hcm : Inn c.m a c.g := Inn.of (by
              have h5 := hst
              rw [ovrStep, if_pos k5] at h5
              split at h5
              · contradiction
              · rename_i h6; exact Decidable.not_not.1 h6)
            have hva : a.nodes.length ≤ 1000000 ∧ a.edges.length ≤ 1000000 := by
              have h5 := hst
              rw [ovrStep, if_pos k5] at h5
              split at h5
              · contradiction
              · rename_i h6
                have := (validG_types (validM_VM (Decidable.not_not.1 h6)).va).1
                omega
            obtain ⟨hok, hfit⟩ := ovs_ok hbf hbv hc.g hov
            have hfew := ovs_few hbv hov
            refine AL.loopT (stSo H c b m u ks nb box ov.1) (fun x => x.i ≤ ov.1.length ∧ TK tok nt x.tok x.nt [x.own]) (fun x => ov.1.length - x.i) ⟨0, .full, tok, nt⟩ ⟨Nat.zero_le _, ht0.full⟩
              (Weaks.mk' (Nat.le_refl _) (by simp [ToL, lk]; exact to_ptr (by rw [lb_out kn, upd_same]; simp)) (by simp [BoxL, lk, seqL]) outS) ?_
            rintro ⟨i, own, tok1, nt1⟩ S ⟨hi, htk⟩ hS
            simp only [stSo] at hS hi htk
            subst hS
            have hw1 : IntKind.i64.wrap (↑i + 1) = ((i + 1 : Nat) : Int) := by rw [wrap_in (by omega) (by omega)]; rfl
            try (simp)
            repeat ((repeat (first | refine AL.seq ?_ | refine AL.block ?_ | refine AL.skip ?_ | refine AL.blk ?_)); (refine AL.region follows_Tryz (Nat.le_refl _) (by kernel_rfl) ?_); simp)
            repeat (first | refine AL.seq ?_ | refine AL.block ?_ | refine AL.skip ?_ | refine AL.blk ?_)
            refine AL.cond ?_
            simp
            refine ⟨fun hlt => ?_, fun hge => ?_⟩
            · have hS := seqL_take (ovF m c.m H) ov.1 u hlt
              have hoo := hok _ (List.getElem_mem hlt)
              have hof := hfit _ (List.getElem_mem hlt)
              repeat (first | refine AL.seq ?_ | refine AL.block ?_ | refine AL.skip ?_ | refine AL.blk ?_)
              refine AL.region follows_Tryz (Nat.le_refl _) (by kernel_rfl) ?_
              simp [hlt]
              generalize ov.1[i] = o at *
              have vl := validM_VM hoo.l
              have vr := validM_VM hoo.r
              have ag1 := agree_c m.nodes o.l.nodes c.m.nodes o.r.nodes (by rw [hm.ln]; exact hva.1) (fun x hx => by rw [vl.ln]; exact hm.n x hx) (by rw [hm.ln, hcm.ln]; exact Nat.le_refl _) (fun x hx => by rw [vr.ln]; exact hcm.n x hx)
              have ag2 := agree_c m.edges o.l.edges c.m.edges o.r.edges (by rw [hm.le]; exact hva.2) (fun x hx => by rw [vl.le]; exact hm.e x hx) (by rw [hm.le, hcm.le]; exact Nat.le_refl _) (fun x hx => by rw [vr.le]; exact hcm.e x hx)
              try (simp)
              repeat ((repeat (first | refine AL.seq ?_ | refine AL.block ?_ | refine AL.skip ?_ | refine AL.blk ?_)); (refine AL.region follows_Tryz (Nat.le_refl _) (by kernel_rfl) ?_); simp)
              refine Stop.of_d (ag1 _ _) ?_
              simp
              cases g1 : agrK m.nodes o.l.nodes c.m.nodes o.r.nodes m.nodes.length
              · try (simp)
                repeat ((repeat (first | refine AL.seq ?_ | refine AL.block ?_ | refine AL.skip ?_ | refine AL.blk ?_)); (refine AL.region follows_Tryz (Nat.le_refl _) (by kernel_rfl) ?_); simp)
                repeat (first | refine AL.seq ?_ | refine AL.block ?_ | refine AL.skip ?_ | refine AL.blk ?_)
                refine AL.cond ?_
                simp
                repeat (first | refine AL.seq ?_ | refine AL.block ?_ | refine AL.skip ?_ | refine AL.blk ?_)
                refine AL.exit ?_
                simp only [AU, ↓reduceIte]
                try (simp [hw1])
                repeat ((repeat (first | refine AL.seq ?_ | refine AL.block ?_ | refine AL.skip ?_ | refine AL.blk ?_)); (refine AL.region follows_Tryz (Nat.le_refl _) (by kernel_rfl) ?_); simp [hw1])
                repeat (first | refine AL.seq ?_ | refine AL.block ?_ | refine AL.skip ?_ | refine AL.blk ?_)
                refine AL.nil ?_
                rw [ovF_no (by simp [agrO, g1])] at hS
                refine ⟨⟨i + 1, own, tok1, nt1⟩, ⟨hlt, htk⟩, by simp only; omega, ?_⟩
                simp only [stSo, hS]
                refine Weaks.mk' htk.le ?_ ?_ outS
                · simp [ToL, lk]
                  exact to_ptr (by rw [lb_out kn, upd_same]; simp)
                · simp [BoxL, lk]
              · try (simp)
                repeat ((repeat (first | refine AL.seq ?_ | refine AL.block ?_ | refine AL.skip ?_ | refine AL.blk ?_)); (refine AL.region follows_Tryz (Nat.le_refl _) (by kernel_rfl) ?_); simp)
                refine Stop.of_d (ag2 _ _) ?_
                simp
                cases g2 : agrK m.edges o.l.edges c.m.edges o.r.edges m.edges.length
                · try (simp)
                  repeat ((repeat (first | refine AL.seq ?_ | refine AL.block ?_ | refine AL.skip ?_ | refine AL.blk ?_)); (refine AL.region follows_Tryz (Nat.le_refl _) (by kernel_rfl) ?_); simp)
                  repeat (first | refine AL.seq ?_ | refine AL.block ?_ | refine AL.skip ?_ | refine AL.blk ?_)
                  refine AL.cond ?_
                  simp
                  repeat (first | refine AL.seq ?_ | refine AL.block ?_ | refine AL.skip ?_ | refine AL.blk ?_)
                  refine AL.exit ?_
                  simp only [AU, ↓reduceIte]
                  try (simp [hw1])
                  repeat ((repeat (first | refine AL.seq ?_ | refine AL.block ?_ | refine AL.skip ?_ | refine AL.blk ?_)); (refine AL.region follows_Tryz (Nat.le_refl _) (by kernel_rfl) ?_); simp [hw1])
                  repeat (first | refine AL.seq ?_ | refine AL.block ?_ | refine AL.skip ?_ | refine AL.blk ?_)
                  refine AL.nil ?_
                  rw [ovF_no (by simp [agrO, g1, g2])] at hS
                  refine ⟨⟨i + 1, own, tok1, nt1⟩, ⟨hlt, htk⟩, by simp only; omega, ?_⟩
                  simp only [stSo, hS]
                  refine Weaks.mk' htk.le ?_ ?_ outS
                  · simp [ToL, lk]
                    exact to_ptr (by rw [lb_out kn, upd_same]; simp)
                  · simp [BoxL, lk]
                · try (simp)
                  repeat ((repeat (first | refine AL.seq ?_ | refine AL.block ?_ | refine AL.skip ?_ | refine AL.blk ?_)); (refine AL.region follows_Tryz (Nat.le_refl _) (by kernel_rfl) ?_); simp)
                  have h0lt : 0 < c.kids.length := shape_one hs0 (.inr k5)
                  have hii : c.inn a = c.g := if_pos k5
                  rw [hii] at ih
                  rw [ovF_yes (by simp [agrO, g1, g2])] at hS
                  generalize hst0 : (seqL (ovF m c.m H) (ov.1.take i) u).2 = s0 at *
                  have hwi : IntKind.i64.wrap (s0.1 + 1) = inc s0.1 := rfl
                  have ihx := ih _ (List.getElem_mem h0lt) o.g hof.g vl.vb o.r (Inn.of hoo.r) (inc s0.1, s0.2) ks
                  rw [← Cd.shfH_get h0lt, show ∀ b m st, Cd.shfH c.kids b m st = H b m st from fun b m st => by rw [← hH]] at ihx
                  repeat (first | refine AL.seq ?_ | refine AL.block ?_ | refine AL.skip ?_ | refine AL.blk ?_)
                  refine AL.cond ?_
                  simp
                  repeat (first | refine AL.seq ?_ | refine AL.block ?_ | refine AL.skip ?_ | refine AL.blk ?_)
                  refine AL.region follows_Tryz (Nat.le_refl _) (by kernel_rfl) ?_
                  simp [lb_out kn, upd_lb_out kn, upd_same, upd_upd]
                  repeat (first | refine AL.seq ?_ | refine AL.block ?_ | refine AL.skip ?_ | refine AL.blk ?_)
                  refine AL.region3 follows_Tryz (Nat.le_refl _) (by kernel_rfl) (Side.of (by simp)) [] (by kernel_rfl) ?_
                  simp [lb_out kn, upd_lb_out kn, upd_same, upd_upd, h0lt, Cd.cells_eq, hwi]
                  refine StopW.of_w rfl rfl (by simp only; rw [lb_out kn, upd_same]; simp) (fun box' nb' hb' => (ihx box' (by rw [hb']; simp only; rw [lb_out kn, upd_same]) nb' tok1 nt1).mono fun v m1 hq => ⟨hq.1, hq.2⟩) ?_
                  simp [lb_out kn, upd_lb_out kn, upd_same, upd_upd]
                  try (simp [lb_out kn, upd_lb_out kn, upd_same, upd_upd])
                  repeat ((repeat (first | refine AL.seq ?_ | refine AL.block ?_ | refine AL.skip ?_ | refine AL.blk ?_)); (refine AL.region follows_Tryz (Nat.le_refl _) (by kernel_rfl) ?_); simp [lb_out kn, upd_lb_out kn, upd_same, upd_upd])
                  refine ⟨⟨?_, htk.live⟩, ?_⟩
                  · have := ovF_len m c.m H (ov.1.take i) u
                    rw [List.length_take] at this
                    omega
                  try (simp [hw1])
                  repeat ((repeat (first | refine AL.seq ?_ | refine AL.block ?_ | refine AL.skip ?_ | refine AL.blk ?_)); (refine AL.region follows_Tryz (Nat.le_refl _) (by kernel_rfl) ?_); simp [hw1])
                  repeat (first | refine AL.seq ?_ | refine AL.block ?_ | refine AL.skip ?_ | refine AL.blk ?_)
                  refine AL.nil ?_
                  refine ⟨⟨i + 1, .tok nt1, upd (own.kill tok1) nt1 true, nt1 + 1⟩, ⟨hlt, htk.app⟩, by simp only; omega, ?_⟩
                  simp only [stSo, hS]
                  refine Weaks.mk' (by have := htk.le; omega) ?_ ?_ outS
                  · simp [ToL, lk]
                    exact to_ptr (by rw [lb_out kn, upd_same]; simp)
                  · simp [BoxL, lk]
                    refine to_snoc ?_ _
                    simp [exOf, Cd.cells_eq, Cd.kind, Cd.kids, Cd.m, Cd.g, Cd.sl, Cd.vars, Cd.te, slots, tests]
            · repeat (first | refine AL.seq ?_ | refine AL.block ?_ | refine AL.skip ?_ | refine AL.blk ?_)
              refine AL.exit ?_
              simp only [AU, ↓reduceIte]
              have : i = ov.1.length := by omega
              subst this
              try (simp)
              repeat ((repeat (first | refine AL.seq ?_ | refine AL.block ?_ | refine AL.skip ?_ | refine AL.blk ?_)); (refine AL.region follows_Tryz (Nat.le_refl _) (by kernel_rfl) ?_); simp)
              repeat (first | refine AL.seq ?_ | refine AL.block ?_ | refine AL.skip ?_ | refine AL.blk ?_)
              refine AL.ret ?_
              try simp only [AU]
              refine ⟨by simp, (Fin.gen (av := (cdOf 4 (seqL (ovF m c.m H) ov.1 u).1).av) (tok' := tok) (nt' := nt) (by simp [resAs, resA, lk]; rfl) (by rw [← upd_lb_out kn, hbox]) (Nat.le_refl _) htk.le (fun t ht => ⟨htk.old t ht, .inr (htok t ht)⟩) outS (by simp [packA, cdOf, conds, ints, AM.edges, slots, tests, Cd.kind, Cd.kids, Cd.m, Cd.g, Cd.sl, Cd.vars, Cd.te])).mono fun v m hq => by rw [hR]; exact hq⟩
          · rw [if_pos (by simp [he])] at hR
            have be : (ov.2 != 0) = true := by simp [he]
            simp only [be]
            repeat (first | refine AL.seq ?_ | refine AL.block ?_ | refine AL.skip ?_ | refine AL.blk ?_)
            refine AL.cond ?_
            simp
            try (simp [lb_out kn, upd_lb_out kn, upd_same, upd_upd])
            repeat ((repeat (first | refine AL.seq ?_ | refine AL.block ?_ | refine AL.skip ?_ | refine AL.blk ?_)); (refine AL.region follows_Tryz (Nat.le_refl _) (by kernel_rfl) ?_); simp [lb_out kn, upd_lb_out kn, upd_same, upd_upd])
            repeat (first | refine AL.seq ?_ | refine AL.block ?_ | refine AL.skip ?_ | refine AL.blk ?_)
            refine AL.ret ?_
            try simp only [AU]
            refine ⟨by simp, (Fin.gen (av := (cdOf 4 []).av) (tok' := tok) (nt' := nt) (by simp [resAs, resA, lk]; rfl) (by rw [← upd_lb_out kn, hbox]) (Nat.le_refl _) (Nat.le_refl _) (fun t ht => ⟨ht, .inl rfl⟩) outS (by simp [packA, cdOf, conds, ints, AM.edges, slots, tests, Cd.kind, Cd.kids, Cd.m, Cd.g, Cd.sl, Cd.vars, Cd.te])).mono fun v m hq => by rw [hR]; exact hq⟩
        · have b5 : (c.kind != 5) = true := by simp [k5]
          rw [if_pos k5] at hR
          simp only [b5]
          repeat (first | refine AL.seq ?_ | refine AL.block ?_ | refine AL.skip ?_ | refine AL.blk ?_)
          refine AL.cond ?_
          simp
          try (simp [lb_out kn, upd_lb_out kn, upd_same, upd_upd])
          repeat ((repeat (first | refine AL.seq ?_ | refine AL.block ?_ | refine AL.skip ?_ | refine AL.blk ?_)); (refine AL.region follows_Tryz (Nat.le_refl _) (by kernel_rfl) ?_); simp [lb_out kn, upd_lb_out kn, upd_same, upd_upd])
          repeat (first | refine AL.seq ?_ | refine AL.block ?_ | refine AL.skip ?_ | refine AL.blk ?_)
          rw [kidN_eq] at hkb
          refine AL.loopT (stSk c b m u ks nb box) (fun x => x.i ≤ c.kids.length ∧ TK tok nt x.tok x.nt [x.own]) (fun x => c.kids.length - x.i) ⟨0, .full, tok, nt⟩ ⟨Nat.zero_le _, ht0.full⟩
            (Weaks.mk' (Nat.le_refl _) (by simp [ToL, lk]; exact to_ptr (by rw [lb_out kn, upd_same]; simp)) (by simp [BoxL, lk, seqL]) outS) ?_
          rintro ⟨i, own, tok1, nt1⟩ S ⟨hi, htk⟩ hS
          simp only [stSk] at hS hi htk
          subst hS
          have hw1 : IntKind.i64.wrap (↑i + 1) = ((i + 1 : Nat) : Int) := by rw [wrap_in (by omega) (by omega)]; rfl
          have hii : c.inn a = a := if_neg k5
          rw [hii] at ih
          try (simp)
          repeat ((repeat (first | refine AL.seq ?_ | refine AL.block ?_ | refine AL.skip ?_ | refine AL.blk ?_)); (refine AL.region follows_Tryz (Nat.le_refl _) (by kernel_rfl) ?_); simp)
          repeat (first | refine AL.seq ?_ | refine AL.block ?_ | refine AL.skip ?_ | refine AL.blk ?_)
          refine AL.cond ?_
          simp
          refine ⟨fun hlt => ?_, fun hge => ?_⟩
          · have hS := seqL_take (shF b m) c.kids u hlt
            have ihx := ih _ (List.getElem_mem hlt) b hbf hbv m hm (seqL (shF b m) (c.kids.take i) u).2 ks
            have hsh : ∀ q, shF b m c.kids[i] q = ([(c.kids[i].shf b m q).1], (c.kids[i].shf b m q).2) := fun q => rfl
            rw [hsh] at hS
            repeat (first | refine AL.seq ?_ | refine AL.block ?_ | refine AL.skip ?_ | refine AL.blk ?_)
            refine AL.region follows_Tryz (Nat.le_refl _) (by kernel_rfl) ?_
            simp [hlt, Cd.cells_eq, lb_out kn, upd_lb_out kn, upd_same]
            generalize c.kids[i] = x at *
            have hne9 : nb + 9 ≠ ks := by omega
            repeat (first | refine AL.seq ?_ | refine AL.block ?_ | refine AL.skip ?_ | refine AL.blk ?_)
            refine AL.region3 follows_Tryz (Nat.le_refl _) (by kernel_rfl) (Side.of (by simp)) [(Operand.tmp 51, Operand.tmp 53)] (by kernel_rfl) ?_
            simp [lb_out kn, upd_lb_out kn, upd_same]
            refine StopW.of_w rfl rfl (by simp only; rw [lb_out kn, upd_same]; simp) (fun box' nb' hb' => (ihx box' (by rw [hb']; simp only; rw [lb_out kn, upd_same]) nb' tok1 nt1).mono fun v m1 hq => ⟨hq.1, hq.2⟩) ?_
            simp [lb_out kn, upd_lb_out kn, upd_same, upd_upd, NK, hne9]
            refine ⟨⟨?_, htk.live⟩, ?_⟩
            · have := shF_len b m (c.kids.take i) u
              rw [List.length_take] at this
              omega
            try (simp [hw1])
            repeat ((repeat (first | refine AL.seq ?_ | refine AL.block ?_ | refine AL.skip ?_ | refine AL.blk ?_)); (refine AL.region follows_Tryz (Nat.le_refl _) (by kernel_rfl) ?_); simp [hw1])
            repeat (first | refine AL.seq ?_ | refine AL.block ?_ | refine AL.skip ?_ | refine AL.blk ?_)
            refine AL.nil ?_
            refine ⟨⟨i + 1, .tok nt1, upd (own.kill tok1) nt1 true, nt1 + 1⟩, ⟨hlt, htk.app⟩, by simp only; omega, ?_⟩
            simp only [stSk, hS]
            refine Weaks.mk' (by have := htk.le; omega) ?_ ?_ outS
            · simp [ToL, lk]
              exact to_ptr (by rw [lb_out kn, upd_same]; simp)
            · simp [BoxL, lk, hS, Cd.cells_eq]
          · repeat (first | refine AL.seq ?_ | refine AL.block ?_ | refine AL.skip ?_ | refine AL.blk ?_)
            refine AL.exit ?_
            simp only [AU, ↓reduceIte]
            have : i = c.kids.length := by omega
            subst this
            try (simp)
            repeat ((repeat (first | refine AL.seq ?_ | refine AL.block ?_ | refine AL.skip ?_ | refine AL.blk ?_)); (refine AL.region follows_Tryz (Nat.le_refl _) (by kernel_rfl) ?_); simp)
            repeat (first | refine AL.seq ?_ | refine AL.block ?_ | refine AL.skip ?_ | refine AL.blk ?_)
            refine AL.ret ?_
            try simp only [AU]
            refine ⟨by simp, (Fin.gen (av := (cdOf c.kind (seqL (shF b m) c.kids u).1).av) (tok' := tok) (nt' := nt) (by simp [resAs, resA, lk]; rfl) (by rw [← upd_lb_out kn, hbox]) (Nat.le_refl _) htk.le (fun t ht => ⟨htk.old t ht, .inr (htok t ht)⟩) outS (by simp [packA, cdOf, conds, ints, AM.edges, slots, tests, Cd.kind, Cd.kids, Cd.m, Cd.g, Cd.sl, Cd.vars, Cd.te])).mono fun v m hq => by rw [hR]; exact hq⟩
      · rw [if_pos h2] at hR
        have b2 : (u.2 != 0) = true := by simp [h2]
        try (simp [lb_out kn, upd_lb_out kn, upd_same, upd_upd, b2])
        repeat ((repeat (first | refine AL.seq ?_ | refine AL.block ?_ | refine AL.skip ?_ | refine AL.blk ?_)); (refine AL.region follows_Tryz (Nat.le_refl _) (by kernel_rfl) ?_); simp [lb_out kn, upd_lb_out kn, upd_same, upd_upd, b2])
        repeat (first | refine AL.seq ?_ | refine AL.block ?_ | refine AL.skip ?_ | refine AL.blk ?_)
        refine AL.cond ?_
        simp
        try (simp [lb_out kn, upd_lb_out kn, upd_same, upd_upd, b2])
        repeat ((repeat (first | refine AL.seq ?_ | refine AL.block ?_ | refine AL.skip ?_ | refine AL.blk ?_)); (refine AL.region follows_Tryz (Nat.le_refl _) (by kernel_rfl) ?_); simp [lb_out kn, upd_lb_out kn, upd_same, upd_upd, b2])
        repeat (first | refine AL.seq ?_ | refine AL.block ?_ | refine AL.skip ?_ | refine AL.blk ?_)
        refine AL.ret ?_
        try simp only [AU]
        refine ⟨by simp, (Fin.gen (av := (cdOf c.kind []).av) (tok' := tok) (nt' := nt) (by simp [resAs, resA, lk]; rfl) (by rw [← upd_lb_out kn, hbox]) (Nat.le_refl _) (Nat.le_refl _) (fun t ht => ⟨ht, .inl rfl⟩) outS (by simp [packA, cdOf, conds, ints, AM.edges, slots, tests, Cd.kind, Cd.kids, Cd.m, Cd.g, Cd.sl, Cd.vars, Cd.te])).mono fun v m hq => by rw [hR]; exact hq⟩
end Go.AM
namespace Go.AM
open Go Go.Proofs
set_option linter.unusedSimpArgs false
set_option linter.unusedVariables false

/-! ### Through -/
end Go.AM
namespace Go.AM
open Go Go.Proofs
set_option linter.unusedSimpArgs false
set_option linter.unusedVariables false

/-! ### ref13.Through -/
end Go.AM
/-
  The plain law of Through: the two morphisms go through the gluing along the places that they share, and what is left is injective. No program in sight.
-/
namespace Go.AM
open Go
set_option linter.unusedSimpArgs false
set_option linter.unusedVariables false

theorem getD_inj {h : List Int} (hn : h.Nodup) {i j : Nat} (hi : i < h.length) (hj : j < h.length) (e : h.getD i 0 = h.getD j 0) : i = j := by
  rw [List.getD_eq_getElem?_getD, List.getD_eq_getElem?_getD, List.getElem?_eq_getElem hi, List.getElem?_eq_getElem hj] at e
  rcases Nat.lt_trichotomy i j with h1 | h1 | h1
  · exact absurd e (List.pairwise_iff_getElem.1 hn i j hi hj h1)
  · exact h1
  · exact absurd e.symm (List.pairwise_iff_getElem.1 hn j i hj hi h1)
theorem injM_iff (a b : Gr) (m : Mo) : injM a b m = true ↔ validM a b m = 0 ∧ m.nodes.Nodup ∧ m.edges.Nodup := by
  simp only [injM, Bool.and_eq_true, decide_eq_true_eq, distK_nodup]

theorem validM_of {a b : Gr} {m : Mo} (h : VM a b m) : validM a b m = 0 := by
  have z1 : firstE (nodeE a b m) a.nodes.length = 0 := firstE_zero _ fun i hi => by
    have := h.n _ (getD_mem (d := 0) (show i < m.nodes.length by rw [h.ln]; exact hi))
    unfold nodeE
    rw [if_neg (by omega), if_pos (h.nt i hi)]
  have z2 : firstE (edgeE a b m) a.edges.length = 0 := firstE_zero _ fun i hi => by
    have := h.e _ (getD_mem (d := 0) (show i < m.edges.length by rw [h.le]; exact hi))
    unfold edgeE
    rw [if_neg (by omega)]
    simp only [h.et i hi, ne_eq, not_true_eq_false, or_self, ↓reduceIte]
  unfold validM
  rw [if_neg (by simp [h.va]), if_neg (by simp [h.vb]), if_neg (by have := h.ln; have := h.le; omega), if_neg (by simp [z1]), z2]

theorem mem_getD {l : List Int} {v : Int} (h : v ∈ l) : ∃ j, j < l.length ∧ l.getD j 0 = v := by
  obtain ⟨j, hj, e⟩ := List.getElem_of_mem h
  exact ⟨j, hj, by rw [List.getD_eq_getElem?_getD, List.getElem?_eq_getElem hj]; exact e⟩

end Go.AM
namespace Go.AM
open Go Go.Proofs
set_option linter.unusedSimpArgs false
set_option linter.unusedVariables false

end Go.AM
namespace Go.AM
open Go Go.Proofs
set_option linter.unusedSimpArgs false
set_option linter.unusedVariables false

/-! ### chosen -/
/-- The nodes chosen of the first i, and where they stand. -/
def chN (ns : List Int) (bit : Nat → Bool) : Nat → List Int × List Int
  | 0 => ([], [])
  | i + 1 => if bit i = true then ((chN ns bit i).1 ++ [ns.getD i 0], (chN ns bit i).2 ++ [(i : Int)]) else chN ns bit i
def atK (ns : List Int) (bit : Nat → Bool) : Nat → List Int
  | 0 => []
  | i + 1 => if bit i = true then atK ns bit i ++ [((chN ns bit i).1.length : Int)] else atK ns bit i ++ [-1]
def atR (ns : List Int) (bit : Nat → Bool) (i : Nat) : List Int := atK ns bit i ++ List.replicate (ns.length - i) 0
theorem atK_len (ns : List Int) (bit : Nat → Bool) : ∀ i, (atK ns bit i).length = i
  | 0 => rfl
  | i + 1 => by
    simp only [atK]
    split <;> simp [atK_len ns bit i]
@[simp] theorem atR_len (ns : List Int) (bit : Nat → Bool) {i : Nat} (h : i ≤ ns.length) : (atR ns bit i).length = ns.length := by simp [atR, atK_len]; omega
end Go.AM
/-
  The plain law of the parts of a graph that bits describe: valid graphs, with injective inclusions; and the gluing along shared places is among the standard overlaps. No program in sight.
-/
namespace Go.AM
open Go
set_option linter.unusedSimpArgs false
set_option linter.unusedVariables false

end Go.AM
/-
  The gluing along shared places is among the standard overlaps.
-/
namespace Go.AM
open Go
set_option linter.unusedSimpArgs false
set_option linter.unusedVariables false

end Go.AM
/-
  Extensions of embeddings, and what a condition says: plain laws.
-/
namespace Go.AM
open Go Go.Proofs
set_option linter.unusedSimpArgs false
set_option linter.unusedVariables false

theorem nodup_getD {l : List Int} : l.Nodup ↔ ∀ i j, i < j → j < l.length → l.getD i 0 ≠ l.getD j 0 := by
  unfold List.Nodup
  rw [List.pairwise_iff_getElem]
  constructor
  · intro h i j hij hj
    have := h i j (by omega) hj hij
    simpa [hj, show i < l.length by omega] using this
  · intro h i j hi hj hij
    have := h i j hij hj
    simpa [hi, hj] using this
theorem ext_getD {l l' : List Int} (h : l.length = l'.length) (h2 : ∀ j, j < l.length → l.getD j 0 = l'.getD j 0) : l = l' :=
  List.ext_getElem h fun i h1 h3 => by have := h2 i h1; simpa [h1, h3] using this
theorem set_getD_same {l : List Int} {i : Nat} (h : i < l.length) (v : Int) : (l.set i v).getD i 0 = v := by simp [h]
theorem set_getD_other {l : List Int} {i j : Nat} (h : j ≠ i) (v : Int) : (l.set i v).getD j 0 = l.getD j 0 := by
  simp [List.getElem?_set, show ¬ i = j by omega]

/-! ### A search that fills places -/
def NN (L : List Int) : Prop := ∀ i j, i < j → j < L.length → 0 ≤ L.getD i 0 → L.getD i 0 ≠ L.getD j 0

/-! ### Images of a map and what is behind it -/
theorem img_spec {n : Nat} {by' m : List Int} (hr : ∀ x ∈ by', 0 ≤ x ∧ x < n) (hnd : by'.Nodup) : ∀ i, i ≤ by'.length →
    (∀ j, j < i → (imgK n by' m i).getD (by'.getD j 0).toNat 0 = m.getD j 0) ∧ ∀ x : Nat, x < n → (∀ j, j < i → by'.getD j 0 ≠ x) → (imgK n by' m i).getD x 0 = -1
  | 0, _ => ⟨fun j hj => absurd hj (Nat.not_lt_zero _), fun x hx _ => by simp [imgK, hx]⟩
  | i + 1, hi => by
    obtain ⟨h1, h2⟩ := img_spec (m := m) hr hnd i (by omega)
    have hb := hr _ (getD_mem (d := 0) (show i < by'.length by omega))
    have hlt : (by'.getD i 0).toNat < (imgK n by' m i).length := by rw [imgK_len]; omega
    refine ⟨fun j hj => ?_, fun x hx hno => ?_⟩
    · simp only [imgK]
      by_cases e : j = i
      · subst e; exact set_getD_same hlt _
      · have hb' := hr _ (getD_mem (d := 0) (show j < by'.length by omega))
        have hne : (by'.getD j 0).toNat ≠ (by'.getD i 0).toNat := fun e' => e (getD_inj hnd (by omega) (by omega) (by omega))
        rw [set_getD_other hne]
        exact h1 j (by omega)
    · simp only [imgK]
      have := hno i (by omega)
      rw [set_getD_other (by omega)]
      exact h2 x hx fun j hj => hno j (by omega)

/-- Of a place: it is an image, or it is empty. -/
theorem img_cases {n : Nat} {by' m : List Int} (hr : ∀ x ∈ by', 0 ≤ x ∧ x < n) (hnd : by'.Nodup) (x : Nat) (hx : x < n) :
    (∃ j, j < by'.length ∧ by'.getD j 0 = x ∧ (imgK n by' m by'.length).getD x 0 = m.getD j 0) ∨ (∀ j, j < by'.length → by'.getD j 0 ≠ x) ∧ (imgK n by' m by'.length).getD x 0 = -1 := by
  obtain ⟨h1, h2⟩ := img_spec (m := m) hr hnd by'.length (Nat.le_refl _)
  by_cases h : ∃ j, j < by'.length ∧ by'.getD j 0 = x
  · obtain ⟨j, hj, e⟩ := h
    refine .inl ⟨j, hj, e, ?_⟩
    have := h1 j hj
    rwa [e, Int.toNat_natCast] at this
  · have h' : ∀ j, j < by'.length → by'.getD j 0 ≠ x := fun j hj e => h ⟨j, hj, e⟩
    exact .inr ⟨h', h2 x hx h'⟩
theorem img_NN {n : Nat} {by' m : List Int} (hr : ∀ x ∈ by', 0 ≤ x ∧ x < n) (hnd : by'.Nodup) (hl : by'.length = m.length) (hm : m.Nodup) (hp : ∀ x ∈ m, 0 ≤ x) : NN (imgK n by' m by'.length) := fun i j hij hj h0 he => by
  rw [imgK_len] at hj
  rcases img_cases (m := m) hr hnd i (by omega) with ⟨k, k1, k2, k3⟩ | ⟨_, k3⟩
  · rcases img_cases (m := m) hr hnd j hj with ⟨q, q1, q2, q3⟩ | ⟨_, q3⟩
    · rw [k3, q3] at he
      have := getD_inj hm (by omega) (by omega) he
      subst this
      omega
    · have := hp _ (getD_mem (d := 0) (show k < m.length by omega))
      omega
  · omega

/-! ### Embeddings -/
structure Emb (a b : Gr) (m : Mo) : Prop where
  v : validM a b m = 0
  n : m.nodes.Nodup
  e : m.edges.Nodup
theorem Emb.vm {a b : Gr} {m : Mo} (h : Emb a b m) : VM a b m := validM_VM h.v
theorem Emb.inj {a b : Gr} {m : Mo} (h : Emb a b m) : injM a b m = true := (injM_iff a b m).2 ⟨h.v, h.n, h.e⟩
theorem Emb.of {a b : Gr} {m : Mo} (h : injM a b m = true) : Emb a b m := have h := (injM_iff a b m).1 h; ⟨h.1, h.2.1, h.2.2⟩
theorem Emb.inn {a b : Gr} {m : Mo} (h : Emb a b m) : Inn m a b := have V := h.vm; ⟨V.ln, V.le, V.n, V.e⟩
theorem byK_all (l h : List Int) : (byK l h l.length).length = l.length := by simp
theorem byK_getD {l h : List Int} {i : Nat} (hi : i < l.length) : (byK l h l.length).getD i 0 = h.getD (l.getD i 0).toNat 0 := by simp [byK, hi]
theorem nat_of {x : Int} {n : Nat} (h : 0 ≤ x ∧ x < n) : x.toNat < n ∧ ((x.toNat : Nat) : Int) = x := by omega
end Go.AM
/-
  Shifting keeps what a condition says.
-/
namespace Go.AM
open Go Go.Proofs
set_option linter.unusedSimpArgs false
set_option linter.unusedVariables false

theorem overlapsR_all {b p : Gr} (hb : validG b = 0) (hp : validG p = 0) (he : (overlapsR b p).2 = 0) : (overlapsR b p).1 = listO b p ∧ b.nodes.length + p.nodes.length ≤ 40 ∧ b.edges.length + p.edges.length ≤ 80 := by
  by_cases hs : 40 < b.nodes.length + p.nodes.length ∨ 80 < b.edges.length + p.edges.length
  · simp [overlapsR, hb, hp, hs] at he
  · have h := overlapsR_list b p hb hp hs
    rw [h] at he ⊢
    split
    · rename_i h1; rw [if_pos h1] at he; cases he
    · exact ⟨rfl, by omega, by omega⟩

/-! ### An error stays -/
theorem st1_zero {st : St2} (h : (st1 st).2 = 0) : st.2 = 0 ∧ inc st.1 ≤ 2000 := by
  unfold st1 at h
  simp only at h
  split at h
  · cases h
  · exact ⟨h, by omega⟩
theorem shf_sticky {c : Cd} {b : Gr} {m : Mo} {st : St2} (h : (c.shf b m st).2.2 = 0) : (st1 st).2 = 0 := by
  by_cases h1 : (st1 st).2 = 0
  · exact h1
  · rw [c.shf_eq, shStep, if_pos h1] at h
    exact h
theorem shfH_sticky {l : List Cd} {b : Gr} {m : Mo} {st : St2} (h : (Cd.shfH l b m st).2.2 = 0) : st.2 = 0 := by
  cases l with
  | nil => exact h
  | cons x r => exact (st1_zero (shf_sticky h)).1
theorem ovF_sticky {m mm : Mo} {l : List Cd} {o : Ov} {st : St2} (h : (ovF m mm (fun b m st => Cd.shfH l b m st) o st).2.2 = 0) : st.2 = 0 := by
  unfold ovF at h
  split at h
  · have h' : (Cd.shfH l o.g o.r (inc st.1, st.2)).2.2 = 0 := h
    have h2 := shfH_sticky h'
    exact h2
  · exact h
theorem shF_sticky {b : Gr} {m : Mo} {x : Cd} {st : St2} (h : (shF b m x st).2.2 = 0) : st.2 = 0 := (st1_zero (shf_sticky h)).1

section
variable {α : Type} {f : α → St2 → List Cd × St2} (hs : ∀ x s, (f x s).2.2 = 0 → s.2 = 0)
include hs
theorem seqL_sticky : ∀ (l : List α) s, (seqL f l s).2.2 = 0 → s.2 = 0
  | [], s, h => h
  | x :: r, s, h => hs _ _ (seqL_sticky r _ h)
end
theorem agrO_iff {a b p : Gr} {m x : Mo} {o : Ov} (hm : Inn m a b) (hx : Inn x a p) : agrO m x o = true ↔ thenM m o.l = thenM x o.r := by
  have key : ∀ (l l' h h' : List Int), l.length = l'.length → ((∀ j, j < l.length → h.getD (l.getD j 0).toNat 0 = h'.getD (l'.getD j 0).toNat 0) ↔ byK l h l.length = byK l' h' l'.length) := fun l l' h h' hl => by
    constructor
    · intro e
      refine ext_getD (by simp [hl]) fun j hj => ?_
      rw [byK_all] at hj
      rw [byK_getD hj, byK_getD (by omega)]
      exact e j hj
    · intro e j hj
      have : (byK l h l.length).getD j 0 = (byK l' h' l'.length).getD j 0 := by rw [e]
      rwa [byK_getD hj, byK_getD (by omega)] at this
  simp only [agrO, agrK, Bool.and_eq_true, decide_eq_true_eq, thenM, Mo.mk.injEq]
  rw [key _ _ _ _ (by rw [hm.ln, hx.ln]), key _ _ _ _ (by rw [hm.le, hx.le])]

theorem ovr_ex {c : Cd} {a : Gr} (h : c.ovr a = 0) (k5 : c.kind = 5) : Emb a c.g c.m ∧ ∃ x, c.kids = [x] := by
  obtain ⟨h0, h1, _⟩ := Cd.ovr_zero h
  have hl := shape_kind h0 k5
  rw [ovrStep, if_pos k5] at h1
  split at h1
  · contradiction
  · split at h1
    · rename_i h2
      exact ⟨Emb.of h2, List.length_eq_one_iff.1 hl⟩
    · cases h1
theorem ovs_emb {b p : Gr} {o : Ov} (ho : o ∈ (overlapsR b p).1) : Emb b o.g o.l ∧ Emb p o.g o.r := ⟨Emb.of (overlapsR_ok ho).il, Emb.of (overlapsR_ok ho).ir⟩

/-! ### The law -/
end Go.AM
/-
  What shifting makes is valid, and as great as was counted.
-/
namespace Go.AM
open Go Go.Proofs
set_option linter.unusedSimpArgs false
set_option linter.unusedVariables false

/-! ### Size and depth as natural numbers -/
mutual
def Cd.cnt : Cd → Nat
  | .mk _ c _ _ _ _ _ => 1 + Cd.cntL c
def Cd.cntL : List Cd → Nat
  | [] => 0
  | x :: r => Cd.cnt x + Cd.cntL r
end
mutual
def Cd.dep : Cd → Nat
  | .mk k c _ _ _ _ _ => Cd.depL c + if k = 5 then 1 else 0
def Cd.depL : List Cd → Nat
  | [] => 0
  | x :: r => max (Cd.dep x) (Cd.depL r)
end
theorem Cd.cnt_eq (c : Cd) : c.cnt = 1 + Cd.cntL c.kids := by cases c; rw [Cd.cnt]; rfl
theorem Cd.dep_eq (c : Cd) : c.dep = Cd.depL c.kids + if c.kind = 5 then 1 else 0 := by cases c; rw [Cd.dep]; rfl
theorem Cd.cntL_append : ∀ l r : List Cd, Cd.cntL (l ++ r) = Cd.cntL l + Cd.cntL r
  | [], r => by simp [Cd.cntL]
  | x :: l, r => by simp only [List.cons_append, Cd.cntL, Cd.cntL_append l r]; omega
theorem Cd.cnt_mem : ∀ {l : List Cd} {x : Cd}, x ∈ l → x.cnt ≤ Cd.cntL l
  | y :: r, x, h => by
    simp only [Cd.cntL]
    rcases List.mem_cons.1 h with rfl | h
    · omega
    · have := Cd.cnt_mem h; omega
theorem Cd.depL_le {n : Nat} : ∀ {l : List Cd}, (∀ x ∈ l, x.dep ≤ n) → Cd.depL l ≤ n
  | [], _ => by simp [Cd.depL]
  | x :: r, h => by
    simp only [Cd.depL]
    have h1 := h x (by simp)
    have h2 := Cd.depL_le (l := r) fun y hy => h y (by simp [hy])
    omega
mutual
theorem Cd.dep_cnt : ∀ c : Cd, c.dep ≤ c.cnt
  | .mk k c _ _ _ _ _ => by
    have := Cd.depL_cntL c
    simp only [Cd.dep, Cd.cnt]
    split <;> omega
theorem Cd.depL_cntL : ∀ l : List Cd, Cd.depL l ≤ Cd.cntL l
  | [] => by simp [Cd.depL]
  | x :: r => by
    have h1 := Cd.dep_cnt x
    have h2 := Cd.depL_cntL r
    simp only [Cd.depL, Cd.cntL]
    omega
end
mutual
theorem Cd.meas_cnt : ∀ c : Cd, c.cnt ≤ 4611686018427387904 → c.meas = ((c.cnt : Int), (c.dep : Int))
  | .mk k c _ _ _ _ _, h => by
    simp only [Cd.cnt] at h
    have h1 := Cd.measL_cnt c 1 0 h
    have h2 := Cd.depL_cntL c
    have h3 : Cd.measL c (1, 0) = (((1 + Cd.cntL c : Nat) : Int), ((max 0 (Cd.depL c) : Nat) : Int)) := h1
    rw [Cd.meas]
    simp only [h3, Cd.cnt, Cd.dep, Nat.zero_max]
    split
    · rw [wrap_in (by omega) (by omega)]; rfl
    · rfl
theorem Cd.measL_cnt : ∀ (l : List Cd) (s d : Nat), s + Cd.cntL l ≤ 4611686018427387904 → Cd.measL l ((s : Int), (d : Int)) = (((s + Cd.cntL l : Nat) : Int), ((max d (Cd.depL l) : Nat) : Int))
  | [], s, d, _ => by simp [Cd.measL, Cd.cntL, Cd.depL]
  | x :: r, s, d, h => by
    simp only [Cd.cntL] at h
    have h1 := Cd.meas_cnt x (by omega)
    have hw : IntKind.i64.wrap ((s : Int) + (x.cnt : Int)) = ((s + x.cnt : Nat) : Int) := by rw [wrap_in (by omega) (by omega)]; rfl
    have hm : max (d : Int) (x.dep : Int) = ((max d x.dep : Nat) : Int) := by omega
    have h2 := Cd.measL_cnt r (s + x.cnt) (max d x.dep) (by omega)
    simp only [Cd.measL, h1, hw, hm, h2, Cd.cntL, Cd.depL]
    rw [Nat.add_assoc, Nat.max_assoc]
end

/-! ### There is an overlap that agrees -/
theorem img_isM {n q : Nat} {by' m : List Int} (hr : ∀ x ∈ by', 0 ≤ x ∧ x < n) (hnd : by'.Nodup) (hl : by'.length = m.length) (hm : m.Nodup) (hp : ∀ x ∈ m, 0 ≤ x ∧ x < q) (ok : Nat → Nat → Bool)
    (hok : ∀ j i k, j < by'.length → by'.getD j 0 = (i : Nat) → m.getD j 0 = (k : Nat) → i < n → k < q → ok i k = true) : isM ok q n (imgK n by' m by'.length) := by
  refine ⟨imgK_len _ _ _ _, fun i hi => ?_⟩
  rcases img_cases (m := m) hr hnd i hi with ⟨j, hj, e1, e2⟩ | ⟨_, e2⟩
  · have hb := hp _ (getD_mem (d := 0) (show j < m.length by omega))
    refine .inr ⟨(m.getD j 0).toNat, by rw [e2]; omega, by omega, hok j i _ hj e1 (by omega) hi (by omega), fun hmem => ?_⟩
    obtain ⟨k, hk, hke⟩ := mem_getD hmem
    have hki : k < i := by simp at hk; omega
    have h1 : (imgK n by' m by'.length).getD k 0 = (imgK n by' m by'.length).getD i 0 := by
      rw [e2]
      have : (List.take i (imgK n by' m by'.length)).getD k 0 = (imgK n by' m by'.length).getD k 0 := by
        simp only [List.getD_eq_getElem?_getD]
        rw [List.getElem?_take_of_lt hki]
      rw [← this, hke]; omega
    exact img_NN hr hnd hl hm (fun x hx => (hp x hx).1) k i hki (by rw [imgK_len]; exact hi) (by rw [h1, e2]; omega) h1
  · exact .inl e2
theorem agr_ex {a b p : Gr} {m x : Mo} (hm : Emb a b m) (hx : Emb a p x) (he : (overlapsR b p).2 = 0) : ∃ o ∈ (overlapsR b p).1, agrO m x o = true := by
  have v := hm.vm
  have w := hx.vm
  obtain ⟨h1, h2, h3⟩ := overlapsR_all v.vb w.vb he
  have ea := validG_edges v.va
  have imn := (img_spec (m := m.nodes) w.n hx.n _ (Nat.le_refl _)).1
  have ime := (img_spec (m := m.edges) w.e hx.e _ (Nat.le_refl _)).1
  have hpr : isPair b p (imgK p.nodes.length x.nodes m.nodes x.nodes.length, imgK p.edges.length x.edges m.edges x.edges.length) := by
    refine ⟨img_isM w.n hx.n (by rw [v.ln, w.ln]) hm.n v.n _ fun j i k hj e1 e2 hi hk => ?_, img_isM w.e hx.e (by rw [v.le, w.le]) hm.e v.e _ fun j i k hj e1 e2 hi hk => ?_⟩
    · have hj' : j < a.nodes.length := by rw [← w.ln]; exact hj
      have g1 := v.nt j hj'
      have g2 := w.nt j hj'
      rw [e2, Int.toNat_natCast] at g1
      rw [e1, Int.toNat_natCast] at g2
      unfold okN
      rw [decide_eq_true_eq, g1, g2]
    · have hj' : j < a.edges.length := by rw [← w.le]; exact hj
      have g1 := v.et j hj'
      have g2 := w.et j hj'
      rw [e2, Int.toNat_natCast] at g1
      rw [e1, Int.toNat_natCast] at g2
      have hx' := ea (a.edges.getD j default) (getD_mem hj')
      unfold okE
      rw [decide_eq_true_eq, g1, g2]
      simp only
      have f1 := imn (a.edges.getD j default).fr.toNat (by rw [w.ln]; omega)
      have f2 := imn (a.edges.getD j default).to.toNat (by rw [w.ln]; omega)
      rw [f1, f2]
  have hg := glued_of (validG_edges v.vb) (validG_edges w.vb) hpr
  have hmem : glue b p (imgK p.nodes.length x.nodes m.nodes x.nodes.length) (imgK p.edges.length x.edges m.edges x.edges.length) ∈ (overlapsR b p).1 := by
    rw [h1]
    exact List.mem_map.2 ⟨_, (pairsM_mem b p _).2 hpr, rfl⟩
  refine ⟨_, hmem, ?_⟩
  rw [agrO_iff hm.inn hx.inn]
  have key : ∀ (n : Nat) (l l' I R : List Int), l.length = l'.length → I = iota n → (∀ y ∈ l, 0 ≤ y ∧ y < n) → (∀ j, j < l.length → R.getD (l'.getD j 0).toNat 0 = l.getD j 0) → byK l I l.length = byK l' R l'.length := fun n l l' I R hl hI hr hR => by
    subst hI
    refine ext_getD (by simp [hl]) fun j hj => ?_
    rw [byK_all] at hj
    have := hr _ (getD_mem (d := 0) hj)
    rw [byK_getD hj, byK_getD (by omega), hR j hj, iota_getD (nat_of this).1]
    omega
  have en := hg.n.pos
  have ee := hg.e.pos
  have l1 : (glue b p (imgK p.nodes.length x.nodes m.nodes x.nodes.length) (imgK p.edges.length x.edges m.edges x.edges.length)).l.nodes = iota b.nodes.length := rfl
  have l2 : (glue b p (imgK p.nodes.length x.nodes m.nodes x.nodes.length) (imgK p.edges.length x.edges m.edges x.edges.length)).l.edges = iota b.edges.length := rfl
  generalize glue b p (imgK p.nodes.length x.nodes m.nodes x.nodes.length) (imgK p.edges.length x.edges m.edges x.edges.length) = o at *
  have kn := key b.nodes.length m.nodes x.nodes o.l.nodes o.r.nodes (by rw [v.ln, w.ln]) l1 v.n fun j hj => by
    have hj' : j < x.nodes.length := by rw [w.ln, ← v.ln]; exact hj
    have g0 := imn j hj'
    have g1 := w.n _ (getD_mem (d := 0) hj')
    have g2 := (v.n _ (getD_mem (d := 0) hj)).1
    rw [en _ (nat_of g1).1 (by rw [g0]; omega), g0]
  have ke := key b.edges.length m.edges x.edges o.l.edges o.r.edges (by rw [v.le, w.le]) l2 v.e fun j hj => by
    have hj' : j < x.edges.length := by rw [w.le, ← v.le]; exact hj
    have g0 := ime j hj'
    have g1 := w.e _ (getD_mem (d := 0) hj')
    have g2 := (v.e _ (getD_mem (d := 0) hj)).1
    rw [ee _ (nat_of g1).1 (by rw [g0]; omega), g0]
  simp only [thenM]
  rw [kn, ke]

/-! ### What is made is over the graph -/
theorem Cd.ovr_of {c : Cd} {a : Gr} (h1 : shapeC c = 0) (h2 : ovrStep a c.kind c.m c.g = 0) (h3 : ∀ x ∈ c.kids, x.ovr (c.inn a) = 0) : c.ovr a = 0 := by
  rw [Cd.ovr_eq, if_pos h1, if_pos h2]
  exact errL_all h3
theorem unused_cdOf (k : Int) (l : List Cd) : unusedC (cdOf k l) = true := rfl
theorem plain_cdOf (k : Int) (l : List Cd) : plainC (cdOf k l) = true := rfl
theorem shape_cdOf {c : Cd} (h : shapeC c = 0) (k5 : c.kind ≠ 5) {l : List Cd} (hl : l.length = c.kids.length) : shapeC (cdOf c.kind l) = 0 := by
  unfold shapeC at h
  split at h
  · rename_i ho
    rw [shapeC, if_pos, if_pos (plain_cdOf _ _)]
    simp only [okC, unused_cdOf, Bool.and_true] at ho ⊢
    have e1 : (cdOf c.kind l).kind = c.kind := rfl
    have e2 : (cdOf c.kind l).kids = l := rfl
    rw [e1, e2, hl]
    split at ho
    · rename_i q; rw [if_pos q]; exact (Bool.and_eq_true _ _ ▸ ho).1
    · rename_i q
      rw [if_neg q]
      split at ho
      · rename_i q; rw [if_pos q]; exact (Bool.and_eq_true _ _ ▸ ho).1
      · rename_i q
        rw [if_neg q]
        split at ho
        · rename_i q; rw [if_pos q]; exact (Bool.and_eq_true _ _ ▸ ho).1
        · rename_i q
          first | cases ho | (rw [if_neg k5] at ho; cases ho)
  · cases h
theorem shape_or {l : List Cd} (h : 0 < l.length) : shapeC (cdOf 4 l) = 0 := by
  rw [shapeC, if_pos, if_pos (plain_cdOf _ _)]
  have e2 : (cdOf 4 l).kids = l := rfl
  have e1 : (cdOf 4 l).kind = 4 := rfl
  simp [okC, unused_cdOf, e1, e2, h]
theorem shape_exOf (o : Ov) (y : Cd) : shapeC (exOf o y) = 0 := rfl

structure Made (c : Cd) (b : Gr) (st : St2) (r : Cd × St2) : Prop where
  ovr : r.1.ovr b = 0
  cnt : r.2.1 = st.1 + r.1.cnt
  le : r.2.1 ≤ 2000
  ge : c.cnt ≤ r.1.cnt
  dep : r.1.dep ≤ c.dep
theorem inc_in {n : Int} (h0 : 0 ≤ n) (h1 : n ≤ 2000) : inc n = n + 1 := wrap_in (by omega) (by omega)

theorem seqL_cnt {α : Type} {f : α → St2 → List Cd × St2} (hs : ∀ x s, (f x s).2.2 = 0 → s.2 = 0) : ∀ (l : List α) (s : St2), 0 ≤ s.1 → s.1 ≤ 2000 → (∀ x ∈ l, ∀ s, 0 ≤ s.1 → s.1 ≤ 2000 → (f x s).2.2 = 0 → (f x s).2.1 = s.1 + Cd.cntL (f x s).1 ∧ (f x s).2.1 ≤ 2000) → (seqL f l s).2.2 = 0 →
    (seqL f l s).2.1 = s.1 + Cd.cntL (seqL f l s).1 ∧ (seqL f l s).2.1 ≤ 2000
  | [], s, _, h1, _, _ => ⟨by simp [seqL, Cd.cntL], h1⟩
  | x :: r, s, h0, h1, h, hz => by
    have hz1 : (f x s).2.2 = 0 := seqL_sticky hs r _ hz
    obtain ⟨g1, g2⟩ := h x (by simp) s h0 h1 hz1
    have ih := seqL_cnt hs r (f x s).2 (by omega) g2 (fun y hy => h y (by simp [hy])) hz
    simp only [seqL, Cd.cntL_append]
    omega
theorem shF_cnt {b : Gr} {m : Mo} : ∀ (l : List Cd) (s : St2), 0 ≤ s.1 → s.1 ≤ 2000 → (∀ x ∈ l, ∀ s, 0 ≤ s.1 → s.1 ≤ 2000 → (x.shf b m s).2.2 = 0 → Made x b s (x.shf b m s)) → (seqL (shF b m) l s).2.2 = 0 →
    Cd.cntL l ≤ Cd.cntL (seqL (shF b m) l s).1 ∧ Cd.depL (seqL (shF b m) l s).1 ≤ Cd.depL l ∧ (∀ y ∈ (seqL (shF b m) l s).1, y.ovr b = 0) ∧ (seqL (shF b m) l s).1.length = l.length
  | [], s, _, _, _, _ => ⟨by simp [Cd.cntL], by simp [seqL, Cd.depL], by simp [seqL], rfl⟩
  | x :: r, s, h0, h1, h, hz => by
    have hz1 : (x.shf b m s).2.2 = 0 := seqL_sticky (f := shF b m) (fun _ _ => shF_sticky) r _ hz
    have hx := h x (by simp) s h0 h1 hz1
    have e1 := hx.cnt
    have e2 := hx.le
    have ih := shF_cnt r (x.shf b m s).2 (by omega) e2 (fun y hy => h y (by simp [hy])) hz
    have e3 := hx.ge
    have e4 := hx.dep
    simp only [seqL, shF, List.singleton_append, Cd.cntL, Cd.depL, List.length_cons]
    obtain ⟨i1, i2, i3, i4⟩ := ih
    refine ⟨by omega, by omega, fun y hy => ?_, by omega⟩
    rcases List.mem_cons.1 hy with rfl | hy
    · exact hx.ovr
    · exact i3 y hy

theorem shf_made : ∀ (n : Nat) (c : Cd), SizeOf.sizeOf c < n → ∀ a, c.ovr a = 0 → ∀ b m, Emb a b m → ∀ st, 0 ≤ st.1 → st.1 ≤ 2000 → (c.shf b m st).2.2 = 0 → Made c b st (c.shf b m st)
  | 0, c, hn, _, _, _, _, _, _, _, _, _ => absurd hn (Nat.not_lt_zero _)
  | n + 1, c, hn, a, hv, b, m, hm, st, hs0, hs1, hz => by
    have ih := fun x (hx : x ∈ c.kids) => shf_made n x (by have := Cd.kid_lt hx; omega) (c.inn a) ((Cd.ovr_zero hv).2.2 x hx)
    have h1 := shf_sticky hz
    have h2 := (st1_zero h1).2
    have hin := inc_in hs0 hs1
    have hu : (st1 st).1 = st.1 + 1 := hin
    rw [hin] at h2
    rw [c.shf_eq] at hz ⊢
    unfold shStep at hz ⊢
    rw [if_neg (by simp [h1])] at hz ⊢
    by_cases k5 : c.kind = 5
    · rw [if_neg (by simp [k5])] at hz ⊢
      have hii : c.inn a = c.g := if_pos k5
      rw [hii] at ih
      obtain ⟨hx, x, hkx⟩ := ovr_ex hv k5
      by_cases he : (overlapsR b c.g).2 = 0
      · rw [if_neg (by simp [he])] at hz ⊢
        have hH : ∀ b m st, Cd.shfH c.kids b m st = x.shf b m st := fun b m st => by rw [hkx, Cd.shfH]
        have ihx := ih x (by rw [hkx]; simp)
        simp only at hz ⊢
        -- one kid
        have one : ∀ o ∈ (overlapsR b c.g).1, ∀ s : St2, 0 ≤ s.1 → s.1 ≤ 2000 → agrO m c.m o = true → (x.shf o.g o.r (inc s.1, s.2)).2.2 = 0 → Made x o.g (inc s.1, s.2) (x.shf o.g o.r (inc s.1, s.2)) ∧ inc s.1 = s.1 + 1 := fun o ho s g0 g1 ha hz1 => by
          obtain ⟨el, er⟩ := ovs_emb ho
          have hin' := inc_in g0 g1
          have g2 := (st1_zero (shf_sticky hz1)).2
          have g3 : inc s.1 ≤ 2000 := by
            simp only at g2
            rw [hin'] at g2 ⊢
            by_cases e : s.1 = 2000
            · rw [e] at g2
              exact absurd g2 (by decide)
            · omega
          exact ⟨ihx o.g o.r er _ (by simp only; omega) g3 hz1, hin'⟩
        have cnt := seqL_cnt (f := ovF m c.m fun b m st => Cd.shfH c.kids b m st) (fun _ _ => ovF_sticky) (overlapsR b c.g).1 (st1 st) (by omega) (by omega) (fun o ho s g0 g1 hz1 => by
          by_cases ha : agrO m c.m o = true
          · rw [ovF, if_pos ha] at hz1 ⊢
            simp only [hH] at hz1 ⊢
            obtain ⟨M, hi⟩ := one o ho s g0 g1 ha hz1
            have e1 := M.cnt
            have e2 := M.le
            simp only at e1
            have e3 : Cd.cntL [exOf o (x.shf o.g o.r (inc s.1, s.2)).1] = 2 - 1 + (x.shf o.g o.r (inc s.1, s.2)).1.cnt := by simp [Cd.cntL, exOf, Cd.cnt]
            rw [e3]
            omega
          · rw [ovF, if_neg ha]
            exact ⟨by simp [Cd.cntL], g1⟩) hz
        -- the states in between are small
        have mid : ∀ (l : List Ov) (s : St2), (∀ o ∈ l, o ∈ (overlapsR b c.g).1) → 0 ≤ s.1 → s.1 ≤ 2000 → (seqL (ovF m c.m fun b m st => Cd.shfH c.kids b m st) l s).2.2 = 0 →
            (∀ y ∈ (seqL (ovF m c.m fun b m st => Cd.shfH c.kids b m st) l s).1, ∃ o ∈ l, ∃ z : Cd, y = exOf o z ∧ z.ovr o.g = 0 ∧ x.cnt ≤ z.cnt ∧ z.dep ≤ x.dep) ∧
            ∀ o ∈ l, agrO m c.m o = true → ∃ z : Cd, exOf o z ∈ (seqL (ovF m c.m fun b m st => Cd.shfH c.kids b m st) l s).1 ∧ x.cnt ≤ z.cnt := by
          intro l
          induction l with
          | nil => intro s _ _ _ _; exact ⟨by simp [seqL], by simp⟩
          | cons o r ihr =>
            intro s hl g0 g1 hz1
            have hz2 : (ovF m c.m (fun b m st => Cd.shfH c.kids b m st) o s).2.2 = 0 := seqL_sticky (fun _ _ => ovF_sticky) r _ hz1
            by_cases ha : agrO m c.m o = true
            · have ev : ovF m c.m (fun b m st => Cd.shfH c.kids b m st) o s = ([exOf o (x.shf o.g o.r (inc s.1, s.2)).1], (x.shf o.g o.r (inc s.1, s.2)).2) := by rw [ovF, if_pos ha]; simp only [hH]
              rw [ev] at hz2
              obtain ⟨M, hi⟩ := one o (hl o (by simp)) s g0 g1 ha hz2
              have e1 := M.cnt
              have e2 := M.le
              simp only at e1
              have ih2 := ihr (x.shf o.g o.r (inc s.1, s.2)).2 (fun o' ho' => hl o' (by simp [ho'])) (by omega) e2 (by simp only [seqL] at hz1; rwa [ev] at hz1)
              simp only [seqL, ev, List.singleton_append]
              refine ⟨fun y hy => ?_, fun o' ho' ha' => ?_⟩
              · rcases List.mem_cons.1 hy with rfl | hy
                · exact ⟨o, by simp, _, rfl, M.ovr, M.ge, M.dep⟩
                · obtain ⟨o', ho', z, hz'⟩ := ih2.1 y hy
                  exact ⟨o', by simp [ho'], z, hz'⟩
              · rcases List.mem_cons.1 ho' with rfl | ho'
                · exact ⟨_, by simp, M.ge⟩
                · obtain ⟨z, z1, z2⟩ := ih2.2 o' ho' ha'
                  exact ⟨z, by simp [z1], z2⟩
            · have ev : ovF m c.m (fun b m st => Cd.shfH c.kids b m st) o s = ([], s) := by rw [ovF, if_neg ha]
              have ih2 := ihr s (fun o' ho' => hl o' (by simp [ho'])) g0 g1 (by simp only [seqL] at hz1; rwa [ev] at hz1)
              simp only [seqL, ev, List.nil_append]
              refine ⟨fun y hy => ?_, fun o' ho' ha' => ?_⟩
              · obtain ⟨o', ho', z, hz'⟩ := ih2.1 y hy
                exact ⟨o', by simp [ho'], z, hz'⟩
              · rcases List.mem_cons.1 ho' with rfl | ho'
                · exact absurd ha' ha
                · exact ih2.2 o' ho' ha'
        obtain ⟨mid1, mid2⟩ := mid _ (st1 st) (fun o ho => ho) (by omega) (by omega) hz
        obtain ⟨o0, ho0, ha0⟩ := agr_ex hm hx he
        obtain ⟨z0, z1, z2⟩ := mid2 o0 ho0 ha0
        have hcc : c.cnt = 1 + x.cnt := by rw [Cd.cnt_eq, hkx]; simp [Cd.cntL]
        have hcd : c.dep = x.dep + 1 := by rw [Cd.dep_eq, hkx, if_pos k5]; simp [Cd.depL]
        have oc : ∀ l, (cdOf 4 l).cnt = 1 + Cd.cntL l := fun l => by rw [cdOf, Cd.cnt]
        have od : ∀ l, (cdOf 4 l).dep = Cd.depL l := fun l => by rw [cdOf, Cd.dep]; simp
        constructor
        · refine Cd.ovr_of (shape_or (List.length_pos_of_mem z1)) rfl fun y hy => ?_
          obtain ⟨o, ho, z, rfl, q1, q2, q3⟩ := mid1 y hy
          have hk := overlapsR_ok ho
          refine Cd.ovr_of (shape_exOf o z) ?_ fun w hw => ?_
          · show ovrStep b 5 o.l o.g = 0
            rw [ovrStep, if_pos rfl, if_neg (by simp [hk.l]), if_pos hk.il]
          · have : w = z := by simpa [exOf, Cd.kids] using hw
            subst this
            exact q1
        · simp only; rw [oc]; omega
        · exact cnt.2
        · simp only
          rw [oc, hcc]
          have e1 := Cd.cnt_mem z1
          have e2 : (exOf o0 z0).cnt = 1 + z0.cnt := by simp [exOf, Cd.cnt, Cd.cntL]
          omega
        · simp only
          rw [od, hcd]
          refine Cd.depL_le fun y hy => ?_
          obtain ⟨o, ho, z, rfl, q1, q2, q3⟩ := mid1 y hy
          have e2 : (exOf o z).dep = z.dep + 1 := by simp [exOf, Cd.dep, Cd.depL]
          omega
      · rw [if_pos (by simp [he])] at hz
        exact absurd hz he
    · rw [if_pos k5] at hz ⊢
      have hii : c.inn a = a := if_neg k5
      rw [hii] at ih
      simp only at hz ⊢
      obtain ⟨i1, i2, i3, i4⟩ := shF_cnt (b := b) (m := m) c.kids (st1 st) (by omega) (by omega) (fun x hx s g0 g1 hz1 => ih x hx b m hm s g0 g1 hz1) hz
      have cnt := seqL_cnt (f := shF b m) (fun _ _ => shF_sticky) c.kids (st1 st) (by omega) (by omega) (fun x hx s g0 g1 hz1 => by
        have M := ih x hx b m hm s g0 g1 hz1
        have e1 := M.cnt
        have e2 := M.le
        simp only [shF, Cd.cntL]
        omega) hz
      have oc : ∀ l, (cdOf c.kind l).cnt = 1 + Cd.cntL l := fun l => by rw [cdOf, Cd.cnt]
      have od : ∀ l, (cdOf c.kind l).dep = Cd.depL l := fun l => by rw [cdOf, Cd.dep, if_neg k5]; rfl
      constructor
      · refine Cd.ovr_of (shape_cdOf (Cd.ovr_zero hv).1 k5 i4) (if_neg k5) fun y hy => ?_
        rw [Cd.inn, if_neg (show ¬ (cdOf c.kind (seqL (shF b m) c.kids (st1 st)).1).kind = 5 from k5)]
        exact i3 y hy
      · simp only; rw [oc]; omega
      · exact cnt.2
      · simp only; rw [oc, Cd.cnt_eq]; omega
      · simp only; rw [od, Cd.dep_eq, if_neg k5]; omega
end Go.AM
/-
  shift.shifted, Shift, Local.
-/
namespace Go.AM
open Go Go.Proofs
set_option linter.unusedSimpArgs false
set_option linter.unusedVariables false

theorem fit_nil : Gr.Fit ⟨[], []⟩ := ⟨by simp, by simp⟩
theorem fit_nilM : Mo.Fit ⟨[], []⟩ := ⟨by simp, by simp⟩
theorem cdOf_fit {k : Int} {l : List Cd} (hl : l.length ≤ kidN) (h : ∀ x ∈ l, x.Fit) : (cdOf k l).Fit := .mk hl fit_nilM fit_nil (by rw [bigN_eq]; simp [cdOf, Cd.sl]) (by rw [bigN_eq]; simp [cdOf, Cd.te]) h

/-- What shifting makes fits. -/
theorem seqL_all {α : Type} {f : α → St2 → List Cd × St2} {P : Cd → Prop} : ∀ (l : List α) (s : St2), (∀ x ∈ l, ∀ s, ∀ y ∈ (f x s).1, P y) → ∀ y ∈ (seqL f l s).1, P y
  | [], s, _, y, hy => by simp [seqL] at hy
  | x :: r, s, h, y, hy => by
    simp only [seqL] at hy
    rcases List.mem_append.1 hy with hy | hy
    · exact h x (by simp) s y hy
    · exact seqL_all r _ (fun z hz => h z (by simp [hz])) y hy
theorem shf_fit : ∀ (n : Nat) (c : Cd), SizeOf.sizeOf c < n → c.Fit → ∀ b : Gr, b.Fit → validG b = 0 → ∀ m st, (c.shf b m st).1.Fit
  | 0, c, hn, _, _, _, _, _, _ => absurd hn (Nat.not_lt_zero _)
  | n + 1, c, hn, hc, b, hb, hbv, m, st => by
    have ih := fun x (hx : x ∈ c.kids) => shf_fit n x (by have := Cd.kid_lt hx; omega) (hc.kid x hx)
    have hk0 := hc.kids
    have e0 : ∀ k, (cdOf k []).Fit := fun k => cdOf_fit (by rw [kidN_eq]; simp) (by simp)
    rw [c.shf_eq]
    unfold shStep
    split
    · exact e0 _
    · split
      · refine cdOf_fit (by rw [shF_len]; exact hk0) (seqL_all _ _ fun x hx s y hy => ?_)
        simp only [shF, List.mem_singleton] at hy
        subst hy
        exact ih x hx b hb hbv m s
      · split
        · exact e0 _
        · obtain ⟨hok, hfit⟩ := ovs_ok hb hbv hc.g rfl
          refine cdOf_fit ?_ (seqL_all _ _ fun o ho s y hy => ?_)
          · have h1 := ovF_len m c.m (fun b m st => Cd.shfH c.kids b m st) (overlapsR b c.g).1 (st1 st)
            have h2 := ovs_few (p := c.g) hbv rfl
            rw [kidN_eq]
            omega
          · by_cases ha : agrO m c.m o = true
            · rw [ovF_yes ha] at hy
              simp only [List.mem_singleton] at hy
              subst hy
              have of := hfit o ho
              refine .mk (by rw [kidN_eq]; simp [exOf, Cd.kids]) of.l of.g (by rw [bigN_eq]; simp [exOf, Cd.sl]) (by rw [bigN_eq]; simp [exOf, Cd.te]) fun z hz => ?_
              have hz' : z = (Cd.shfH c.kids o.g o.r (inc s.1, s.2)).1 := by simpa [exOf, Cd.kids] using hz
              subst hz'
              have hog := (validM_VM (hok o ho).l).vb
              cases hk : c.kids with
              | nil => exact e0 _
              | cons x r => exact ih x (by rw [hk]; simp) o.g of.g hog _ _
            · rw [ovF_no ha] at hy
              simp at hy

def shdR (b : Gr) (m : Mo) (c : Cd) : Cd × Int := if (c.shf b m (0, 0)).2.2 = 0 then ((c.shf b m (0, 0)).1, 0) else (cdOf 0 [], (c.shf b m (0, 0)).2.2)
def shiftR (a b : Gr) (m : Mo) (c : Cd) : Cd × Int := if arrR a b m ≠ 0 then (cdOf 0 [], arrR a b m) else if validC a c ≠ 0 then (cdOf 0 [], validC a c) else shdR b m c
def localR (b : Gr) (c : Cd) : Cd × Int := if validG b ≠ 0 then (cdOf 0 [], validG b) else if validC ⟨[], []⟩ c ≠ 0 then (cdOf 0 [], validC ⟨[], []⟩ c) else shdR b ⟨[], []⟩ c

theorem shifted_c (b : Gr) (m : Mo) (c : Cd) (hc : c.Fit) (a : Gr) (hv : c.ovr a = 0) (hb : b.Fit) (hbv : validG b = 0) (hm : Inn m a b) (tok : Nat → Bool) (nt : Nat) :
    DCall Tryz.prog 33 [b.av, m.av, c.av] tok nt (.tup [(shdR b m c).1.av, I (shdR b m c).2]) tok nt := by
  intro box nb
  have hs := shift62_c _ c (Nat.lt_succ_self _) hc a hv b hb hbv m hm (0, 0)
  obtain ⟨r, hr⟩ : ∃ r, c.shf b m (0, 0) = r := ⟨_, rfl⟩
  have hR : shdR b m c = if r.2.2 = 0 then (r.1, 0) else (cdOf 0 [], r.2.2) := by rw [shdR, hr]
  rw [hr] at hs
  refine ACalls.of_body Tryz.func33 rfl (by kernel_rfl) follows_Tryz (by kernel_rfl) (by simp [Tryz.ntmps33]) ?_
  intro hbox htok
  simp only at hbox htok
  apply AL.start
  try (simp)
  repeat ((repeat (first | refine AL.seq ?_ | refine AL.block ?_ | refine AL.skip ?_ | refine AL.blk ?_)); (refine AL.region follows_Tryz (Nat.le_refl _) (by kernel_rfl) ?_); simp)
  refine Stop.of_a (hs (nb + 11) _ (by simp [lb_at]) _ _ _) ?_
  rintro v m' ⟨rfl, rfl⟩
  simp
  try (simp)
  repeat ((repeat (first | refine AL.seq ?_ | refine AL.block ?_ | refine AL.skip ?_ | refine AL.blk ?_)); (refine AL.region follows_Tryz (Nat.le_refl _) (by kernel_rfl) ?_); simp)
  by_cases he : r.2.2 = 0
  · rw [if_pos he] at hR
    have be : (r.2.2 != 0) = false := by simp [he]
    simp only [be]
    repeat (first | refine AL.seq ?_ | refine AL.block ?_ | refine AL.skip ?_ | refine AL.blk ?_)
    refine AL.cond ?_
    simp
    trace_state
    try (simp)
    repeat ((repeat (first | refine AL.seq ?_ | refine AL.block ?_ | refine AL.skip ?_ | refine AL.blk ?_)); (refine AL.region follows_Tryz (Nat.le_refl _) (by kernel_rfl) ?_); simp)
    repeat (first | refine AL.seq ?_ | refine AL.block ?_ | refine AL.skip ?_ | refine AL.blk ?_)
    refine AL.ret ?_
    try simp only [AU]
    refine ⟨by simp, Fin.data (by simp [resAs, resA]; rfl) hbox rfl htok (fun _ h => h) (Nat.le_refl _) ?_⟩
    simp [packA, hR]
  · rw [if_neg he] at hR
    have be : (r.2.2 != 0) = true := by simp [he]
    simp only [be]
    repeat (first | refine AL.seq ?_ | refine AL.block ?_ | refine AL.skip ?_ | refine AL.blk ?_)
    refine AL.cond ?_
    simp
    repeat (first | refine AL.seq ?_ | refine AL.block ?_ | refine AL.skip ?_ | refine AL.blk ?_)
    refine AL.region2 follows_Tryz (Nat.le_refl _) (by kernel_rfl) (Side.of (by simp)) ?_
    simp
    try (simp)
    repeat ((repeat (first | refine AL.seq ?_ | refine AL.block ?_ | refine AL.skip ?_ | refine AL.blk ?_)); (refine AL.region follows_Tryz (Nat.le_refl _) (by kernel_rfl) ?_); simp)
    repeat (first | refine AL.seq ?_ | refine AL.block ?_ | refine AL.skip ?_ | refine AL.blk ?_)
    refine AL.ret ?_
    try simp only [AU]
    refine ⟨by simp, Fin.data (by simp [resAs, resA]; rfl) hbox rfl htok (fun _ h => h) (Nat.le_refl _) ?_⟩
    simp [packA, hR, cdOf, conds, ints, AM.edges, slots, tests, Cd.kind, Cd.kids, Cd.m, Cd.g, Cd.sl, Cd.vars, Cd.te]

theorem cdShift_c (a b : Gr) (m : Mo) (c : Cd) (ha : a.Fit) (hb : b.Fit) (hm : m.Fit) (hc : c.Fit) (tok : Nat → Bool) (nt : Nat) :
    DCall Tryz.prog 13 [a.av, b.av, m.av, c.av] tok nt (.tup [(shiftR a b m c).1.av, I (shiftR a b m c).2]) tok nt := by
  intro box nb
  have hi := cdInj_c a b m ha hb hm
  have hv := validC_c a c ha hc
  have hh := fun (h1 : arrR a b m = 0) (h2 : validC a c = 0) => shifted_c b m c hc a (validC_ovr h2).2.1 hb (validM_VM (arrR_valid h1).1).vb (Inn.of (arrR_valid h1).1)
  refine ACalls.of_body Tryz.func13 rfl (by kernel_rfl) follows_Tryz (by kernel_rfl) (by simp [Tryz.ntmps13]) ?_
  intro hbox htok
  simp only at hbox htok
  apply AL.start
  try (simp)
  repeat ((repeat (first | refine AL.seq ?_ | refine AL.block ?_ | refine AL.skip ?_ | refine AL.blk ?_)); (refine AL.region follows_Tryz (Nat.le_refl _) (by kernel_rfl) ?_); simp)
  refine Stop.of_d (hi _ _) ?_
  simp
  try (simp)
  repeat ((repeat (first | refine AL.seq ?_ | refine AL.block ?_ | refine AL.skip ?_ | refine AL.blk ?_)); (refine AL.region follows_Tryz (Nat.le_refl _) (by kernel_rfl) ?_); simp)
  by_cases h0 : arrR a b m = 0
  · simp only [h0]
    repeat (first | refine AL.seq ?_ | refine AL.block ?_ | refine AL.skip ?_ | refine AL.blk ?_)
    refine AL.cond ?_
    simp
    try (simp)
    repeat ((repeat (first | refine AL.seq ?_ | refine AL.block ?_ | refine AL.skip ?_ | refine AL.blk ?_)); (refine AL.region follows_Tryz (Nat.le_refl _) (by kernel_rfl) ?_); simp)
    refine Stop.of_d (hv _ _) ?_
    simp
    try (simp)
    repeat ((repeat (first | refine AL.seq ?_ | refine AL.block ?_ | refine AL.skip ?_ | refine AL.blk ?_)); (refine AL.region follows_Tryz (Nat.le_refl _) (by kernel_rfl) ?_); simp)
    by_cases h1 : validC a c = 0
    · have hh' := hh h0 h1
      have hR : shiftR a b m c = shdR b m c := by rw [shiftR, if_neg (by simp [h0]), if_neg (by simp [h1])]
      simp only [h1]
      repeat (first | refine AL.seq ?_ | refine AL.block ?_ | refine AL.skip ?_ | refine AL.blk ?_)
      refine AL.cond ?_
      simp
      try (simp)
      repeat ((repeat (first | refine AL.seq ?_ | refine AL.block ?_ | refine AL.skip ?_ | refine AL.blk ?_)); (refine AL.region follows_Tryz (Nat.le_refl _) (by kernel_rfl) ?_); simp)
      refine Stop.of_d (hh' _ _) ?_
      simp
      try (simp)
      repeat ((repeat (first | refine AL.seq ?_ | refine AL.block ?_ | refine AL.skip ?_ | refine AL.blk ?_)); (refine AL.region follows_Tryz (Nat.le_refl _) (by kernel_rfl) ?_); simp)
      repeat (first | refine AL.seq ?_ | refine AL.block ?_ | refine AL.skip ?_ | refine AL.blk ?_)
      refine AL.ret ?_
      try simp only [AU]
      refine ⟨by simp, Fin.data (by simp [resAs, resA]; rfl) hbox rfl htok (fun _ h => h) (Nat.le_refl _) ?_⟩
      simp [packA, hR]
    · have b1 : (validC a c != 0) = true := by simp [h1]
      have hR : shiftR a b m c = (cdOf 0 [], validC a c) := by rw [shiftR, if_neg (by simp [h0]), if_pos h1]
      simp only [b1]
      repeat (first | refine AL.seq ?_ | refine AL.block ?_ | refine AL.skip ?_ | refine AL.blk ?_)
      refine AL.cond ?_
      simp
      try (simp)
      repeat ((repeat (first | refine AL.seq ?_ | refine AL.block ?_ | refine AL.skip ?_ | refine AL.blk ?_)); (refine AL.region follows_Tryz (Nat.le_refl _) (by kernel_rfl) ?_); simp)
      repeat (first | refine AL.seq ?_ | refine AL.block ?_ | refine AL.skip ?_ | refine AL.blk ?_)
      refine AL.ret ?_
      try simp only [AU]
      refine ⟨by simp, Fin.data (by simp [resAs, resA]; rfl) hbox rfl htok (fun _ h => h) (Nat.le_refl _) ?_⟩
      simp [packA, hR, cdOf, conds, ints, AM.edges, slots, tests, Cd.kind, Cd.kids, Cd.m, Cd.g, Cd.sl, Cd.vars, Cd.te]
  · have b0 : (arrR a b m != 0) = true := by simp [h0]
    have hR : shiftR a b m c = (cdOf 0 [], arrR a b m) := by rw [shiftR, if_pos h0]
    simp only [b0]
    repeat (first | refine AL.seq ?_ | refine AL.block ?_ | refine AL.skip ?_ | refine AL.blk ?_)
    refine AL.cond ?_
    simp
    try (simp)
    repeat ((repeat (first | refine AL.seq ?_ | refine AL.block ?_ | refine AL.skip ?_ | refine AL.blk ?_)); (refine AL.region follows_Tryz (Nat.le_refl _) (by kernel_rfl) ?_); simp)
    repeat (first | refine AL.seq ?_ | refine AL.block ?_ | refine AL.skip ?_ | refine AL.blk ?_)
    refine AL.ret ?_
    try simp only [AU]
    refine ⟨by simp, Fin.data (by simp [resAs, resA]; rfl) hbox rfl htok (fun _ h => h) (Nat.le_refl _) ?_⟩
    simp [packA, hR, cdOf, conds, ints, AM.edges, slots, tests, Cd.kind, Cd.kids, Cd.m, Cd.g, Cd.sl, Cd.vars, Cd.te]

theorem inn_nil (b : Gr) : Inn ⟨[], []⟩ ⟨[], []⟩ b := ⟨rfl, rfl, by simp, by simp⟩
theorem cdLocal_c (b : Gr) (c : Cd) (hb : b.Fit) (hc : c.Fit) (tok : Nat → Bool) (nt : Nat) :
    DCall Tryz.prog 17 [b.av, c.av] tok nt (.tup [(localR b c).1.av, I (localR b c).2]) tok nt := by
  intro box nb
  have hi := graphValid_c b hb
  have hv := validC_c ⟨[], []⟩ c fit_nil hc
  have hh := fun (h1 : validG b = 0) (h2 : validC ⟨[], []⟩ c = 0) => shifted_c b ⟨[], []⟩ c hc ⟨[], []⟩ (validC_ovr h2).2.1 hb h1 (inn_nil b)
  refine ACalls.of_body Tryz.func17 rfl (by kernel_rfl) follows_Tryz (by kernel_rfl) (by simp [Tryz.ntmps17]) ?_
  intro hbox htok
  simp only at hbox htok
  apply AL.start
  try (simp)
  repeat ((repeat (first | refine AL.seq ?_ | refine AL.block ?_ | refine AL.skip ?_ | refine AL.blk ?_)); (refine AL.region follows_Tryz (Nat.le_refl _) (by kernel_rfl) ?_); simp)
  refine Stop.of_d (hi _ _) ?_
  simp
  try (simp)
  repeat ((repeat (first | refine AL.seq ?_ | refine AL.block ?_ | refine AL.skip ?_ | refine AL.blk ?_)); (refine AL.region follows_Tryz (Nat.le_refl _) (by kernel_rfl) ?_); simp)
  by_cases h0 : validG b = 0
  · simp only [h0]
    repeat (first | refine AL.seq ?_ | refine AL.block ?_ | refine AL.skip ?_ | refine AL.blk ?_)
    refine AL.cond ?_
    simp
    try (simp)
    repeat ((repeat (first | refine AL.seq ?_ | refine AL.block ?_ | refine AL.skip ?_ | refine AL.blk ?_)); (refine AL.region follows_Tryz (Nat.le_refl _) (by kernel_rfl) ?_); simp)
    refine Stop.sub (args' := [.agg [.d (ints []), .d (edges [])], c.av]) ⟨Sub.agg ⟨Sub.nil _ _ _, Sub.nil _ _ _, trivial⟩, Sub.refl _, trivial⟩ ?_
    refine Stop.of_d (hv _ _) ?_
    simp
    try (simp)
    repeat ((repeat (first | refine AL.seq ?_ | refine AL.block ?_ | refine AL.skip ?_ | refine AL.blk ?_)); (refine AL.region follows_Tryz (Nat.le_refl _) (by kernel_rfl) ?_); simp)
    by_cases h1 : validC ⟨[], []⟩ c = 0
    · have hh' := hh h0 h1
      have hR : localR b c = shdR b ⟨[], []⟩ c := by rw [localR, if_neg (by simp [h0]), if_neg (by simp [h1])]
      simp only [h1]
      repeat (first | refine AL.seq ?_ | refine AL.block ?_ | refine AL.skip ?_ | refine AL.blk ?_)
      refine AL.cond ?_
      simp
      try (simp)
      repeat ((repeat (first | refine AL.seq ?_ | refine AL.block ?_ | refine AL.skip ?_ | refine AL.blk ?_)); (refine AL.region follows_Tryz (Nat.le_refl _) (by kernel_rfl) ?_); simp)
      refine Stop.sub (args' := [b.av, .agg [.d (ints []), .d (ints [])], c.av]) ⟨Sub.refl _, Sub.agg ⟨Sub.nil _ _ _, Sub.nil _ _ _, trivial⟩, Sub.refl _, trivial⟩ ?_
      refine Stop.of_d (hh' _ _) ?_
      simp
      try (simp)
      repeat ((repeat (first | refine AL.seq ?_ | refine AL.block ?_ | refine AL.skip ?_ | refine AL.blk ?_)); (refine AL.region follows_Tryz (Nat.le_refl _) (by kernel_rfl) ?_); simp)
      repeat (first | refine AL.seq ?_ | refine AL.block ?_ | refine AL.skip ?_ | refine AL.blk ?_)
      refine AL.ret ?_
      try simp only [AU]
      refine ⟨by simp, Fin.data (by simp [resAs, resA]; rfl) hbox rfl htok (fun _ h => h) (Nat.le_refl _) ?_⟩
      simp [packA, hR]
    · have b1 : (validC ⟨[], []⟩ c != 0) = true := by simp [h1]
      have hR : localR b c = (cdOf 0 [], validC ⟨[], []⟩ c) := by rw [localR, if_neg (by simp [h0]), if_pos h1]
      simp only [b1]
      repeat (first | refine AL.seq ?_ | refine AL.block ?_ | refine AL.skip ?_ | refine AL.blk ?_)
      refine AL.cond ?_
      simp
      try (simp)
      repeat ((repeat (first | refine AL.seq ?_ | refine AL.block ?_ | refine AL.skip ?_ | refine AL.blk ?_)); (refine AL.region follows_Tryz (Nat.le_refl _) (by kernel_rfl) ?_); simp)
      repeat (first | refine AL.seq ?_ | refine AL.block ?_ | refine AL.skip ?_ | refine AL.blk ?_)
      refine AL.ret ?_
      try simp only [AU]
      refine ⟨by simp, Fin.data (by simp [resAs, resA]; rfl) hbox rfl htok (fun _ h => h) (Nat.le_refl _) ?_⟩
      simp [packA, hR, cdOf, conds, ints, AM.edges, slots, tests, Cd.kind, Cd.kids, Cd.m, Cd.g, Cd.sl, Cd.vars, Cd.te]
  · have b0 : (validG b != 0) = true := by simp [h0]
    have hR : localR b c = (cdOf 0 [], validG b) := by rw [localR, if_pos h0]
    simp only [b0]
    repeat (first | refine AL.seq ?_ | refine AL.block ?_ | refine AL.skip ?_ | refine AL.blk ?_)
    refine AL.cond ?_
    simp
    try (simp)
    repeat ((repeat (first | refine AL.seq ?_ | refine AL.block ?_ | refine AL.skip ?_ | refine AL.blk ?_)); (refine AL.region follows_Tryz (Nat.le_refl _) (by kernel_rfl) ?_); simp)
    repeat (first | refine AL.seq ?_ | refine AL.block ?_ | refine AL.skip ?_ | refine AL.blk ?_)
    refine AL.ret ?_
    try simp only [AU]
    refine ⟨by simp, Fin.data (by simp [resAs, resA]; rfl) hbox rfl htok (fun _ h => h) (Nat.le_refl _) ?_⟩
    simp [packA, hR, cdOf, conds, ints, AM.edges, slots, tests, Cd.kind, Cd.kids, Cd.m, Cd.g, Cd.sl, Cd.vars, Cd.te]
end Go.AM
/-
  The reference's finder: used, index, edges.
-/
namespace Go.AM
open Go Go.Proofs
set_option linter.unusedSimpArgs false
set_option linter.unusedVariables false

/-! ### What the finder lists -/
end Go.AM
/-
  What the finder lists: the embeddings behind a map. Plain laws.
-/
namespace Go.AM
open Go Go.Proofs
set_option linter.unusedSimpArgs false
set_option linter.unusedVariables false

end Go.AM
/-
  The reference's finder: nodes, Extensions.
-/
namespace Go.AM
open Go Go.Proofs
set_option linter.unusedSimpArgs false
set_option linter.unusedVariables false

/-! ### Extensions -/
end Go.AM
/-
  The reference's Holds.
-/
namespace Go.AM
open Go Go.Proofs
set_option linter.unusedSimpArgs false
set_option linter.unusedVariables false

end Go.AM
/-
  The reference's True; the law's nodes, another, awake.
-/
namespace Go.AM
open Go Go.Proofs
set_option linter.unusedSimpArgs false
set_option linter.unusedVariables false

@[simp] theorem lb_base (base : Nat) (out : Nat → Option (List (List AV))) (loc : List (Nat × List (List AV))) : lb base out loc base = lk loc 0 := lb_at base 0 out loc
@[simp] theorem upd_lb_base (base : Nat) (out : Nat → Option (List (List AV))) (loc : List (Nat × List (List AV))) (rows : List (List AV)) : upd (lb base out loc) base (some rows) = lb base out ((0, rows) :: loc) := upd_lb base 0 out loc rows
@[simp] theorem to_ptr_base {q : Nat → Prop} {fz : Option (Nat × Nat × List (List D))} {base i off : Nat} {out : Nat → Option (List (List AV))} {loc : List (Nat × List (List AV))} : To (fun k => lb base out loc k ≠ none) q fz (.ptr base i off) (.ptr base i off) ↔ lk loc 0 ≠ none := to_ptr_lb (s := 0)

abbrev trueC : Cd := cdOf 1 []
theorem true33_c (tok : Nat → Bool) (nt : Nat) : DCall Tryz.prog 39 [] tok nt trueC.av tok nt := by
  intro box nb
  refine ACalls.of_body Tryz.func39 rfl (by kernel_rfl) follows_Tryz (by kernel_rfl) (by simp [Tryz.ntmps39]) ?_
  intro hbox htok
  simp only at hbox htok
  apply AL.start
  try (simp)
  repeat ((repeat (first | refine AL.seq ?_ | refine AL.block ?_ | refine AL.skip ?_ | refine AL.blk ?_)); (refine AL.region follows_Tryz (Nat.le_refl _) (by kernel_rfl) ?_); simp)
  repeat (first | refine AL.seq ?_ | refine AL.block ?_ | refine AL.skip ?_ | refine AL.blk ?_)
  refine AL.ret ?_
  try simp only [AU]
  refine ⟨by simp, Fin.data (by simp [resAs, resA]; rfl) hbox rfl htok (fun _ h => h) (Nat.le_refl _) ?_⟩
  simp [packA, trueC, cdOf, conds, ints, AM.edges, slots, tests, Cd.kind, Cd.kids, Cd.m, Cd.g, Cd.sl, Cd.vars, Cd.te]

def fours (n : Nat) : List Int := List.replicate n 4
theorem fours_zero : fours 0 = [] := rfl
theorem fours_succ (n : Nat) : fours (n + 1) = fours n ++ [4] := by simp [fours, List.replicate_succ']
theorem fours_len (n : Nat) : (fours n).length = n := by simp [fours]
def stFo (n nb : Nat) (box : Nat → Option (List (List AV))) (a : Acc) : AState :=
  ⟨tl [(5, I a.i), (4, I n), (3, .ptr (nb + 3) 0 0), (2, .ptr (nb + 2) 0 0)], lb nb box [(3, [[.osl 1 (rI (fours a.i)) a.own, .osl 0 [] .full]]), (2, [[.osl 0 [] .full, .osl 0 [] .full]])], a.tok, a.nt⟩
theorem lnodes_c (n : Nat) (hn : n ≤ 1000) (tok : Nat → Bool) (nt : Nat) : DCall Tryz.prog 19 [I n] tok nt (Gr.av ⟨fours n, []⟩) tok nt := by
  intro box nb
  refine ACalls.of_body Tryz.func19 rfl (by kernel_rfl) follows_Tryz (by kernel_rfl) (by simp [Tryz.ntmps19]) ?_
  intro hbox htok
  simp only at hbox htok
  apply AL.start
  try (simp)
  repeat ((repeat (first | refine AL.seq ?_ | refine AL.block ?_ | refine AL.skip ?_ | refine AL.blk ?_)); (refine AL.region follows_Tryz (Nat.le_refl _) (by kernel_rfl) ?_); simp)
  repeat (first | refine AL.seq ?_ | refine AL.block ?_ | refine AL.skip ?_ | refine AL.blk ?_)
  refine AL.loopT (stFo n nb box) (fun a => a.i ≤ n ∧ TK tok nt a.tok a.nt [a.own]) (fun a => n - a.i) ⟨0, .full, tok, nt⟩ ⟨Nat.zero_le _, (TK.start htok).full⟩ (Weaks.mk (Nat.le_refl _) rfl (by simp [ToL, lk]) (by simp [BoxL, lk, fours_zero])) ?_
  rintro ⟨i, own, tok', nt'⟩ S ⟨hi, htk⟩ hS
  simp only [stFo] at hS hi htk
  subst hS
  have hw : IntKind.i64.wrap (↑i + 1) = ((i + 1 : Nat) : Int) := by rw [wrap_in (by omega) (by omega)]; rfl
  try (simp)
  repeat ((repeat (first | refine AL.seq ?_ | refine AL.block ?_ | refine AL.skip ?_ | refine AL.blk ?_)); (refine AL.region follows_Tryz (Nat.le_refl _) (by kernel_rfl) ?_); simp)
  repeat (first | refine AL.seq ?_ | refine AL.block ?_ | refine AL.skip ?_ | refine AL.blk ?_)
  refine AL.cond ?_
  simp
  refine ⟨fun hlt => ?_, fun hge => ?_⟩
  · try (simp)
    repeat ((repeat (first | refine AL.seq ?_ | refine AL.block ?_ | refine AL.skip ?_ | refine AL.blk ?_)); (refine AL.region follows_Tryz (Nat.le_refl _) (by kernel_rfl) ?_); simp)
    refine ⟨⟨by rw [fours_len]; omega, htk.live⟩, ?_⟩
    try (simp [hw])
    repeat ((repeat (first | refine AL.seq ?_ | refine AL.block ?_ | refine AL.skip ?_ | refine AL.blk ?_)); (refine AL.region follows_Tryz (Nat.le_refl _) (by kernel_rfl) ?_); simp [hw])
    repeat (first | refine AL.seq ?_ | refine AL.block ?_ | refine AL.skip ?_ | refine AL.blk ?_)
    refine AL.nil ?_
    refine ⟨⟨i + 1, _, _, _⟩, ⟨hlt, htk.app⟩, by simp only; omega, Weaks.mk htk.app.le rfl (by simp [ToL, lk]) (by simp [BoxL, lk, fours_succ])⟩
  · repeat (first | refine AL.seq ?_ | refine AL.block ?_ | refine AL.skip ?_ | refine AL.blk ?_)
    refine AL.exit ?_
    simp only [AU, ↓reduceIte]
    have : i = n := by omega
    subst this
    try (simp)
    repeat ((repeat (first | refine AL.seq ?_ | refine AL.block ?_ | refine AL.skip ?_ | refine AL.blk ?_)); (refine AL.region follows_Tryz (Nat.le_refl _) (by kernel_rfl) ?_); simp)
    repeat (first | refine AL.seq ?_ | refine AL.block ?_ | refine AL.skip ?_ | refine AL.blk ?_)
    refine AL.ret ?_
    try simp only [AU]
    refine ⟨by simp, Fin.data (by simp [resAs, resA]; rfl) hbox rfl htok htk.old htk.le ?_⟩
    simp [packA, AM.edges]

def anoC : Cd := .mk 5 [trueC] ⟨[0], []⟩ ⟨fours 2, []⟩ [] 0 []
theorem another_c (tok : Nat → Bool) (nt : Nat) : DCall Tryz.prog 20 [] tok nt anoC.av tok nt := by
  intro box nb
  refine ACalls.of_body Tryz.func20 rfl (by kernel_rfl) follows_Tryz (by kernel_rfl) (by simp [Tryz.ntmps20]) ?_
  intro hbox htok
  simp only at hbox htok
  apply AL.start
  try (simp)
  repeat ((repeat (first | refine AL.seq ?_ | refine AL.block ?_ | refine AL.skip ?_ | refine AL.blk ?_)); (refine AL.region follows_Tryz (Nat.le_refl _) (by kernel_rfl) ?_); simp)
  refine Stop.of_d (lnodes_c 2 (by omega) _ _) ?_
  simp
  refine Stop.of_d (true33_c _ _) ?_
  simp
  try (simp)
  repeat ((repeat (first | refine AL.seq ?_ | refine AL.block ?_ | refine AL.skip ?_ | refine AL.blk ?_)); (refine AL.region follows_Tryz (Nat.le_refl _) (by kernel_rfl) ?_); simp)
  repeat (first | refine AL.seq ?_ | refine AL.block ?_ | refine AL.skip ?_ | refine AL.blk ?_)
  refine AL.ret ?_
  try simp only [AU]
  refine ⟨by simp, Fin.data (by simp [resAs, resA]; rfl) hbox rfl htok (fun _ h => h) (Nat.le_refl _) ?_⟩
  simp [packA, anoC, trueC, cdOf, conds, ints, AM.edges, slots, tests, Cd.kind, Cd.kids, Cd.m, Cd.g, Cd.sl, Cd.vars, Cd.te, Cd.cells_eq]

def gF (n : Nat) : Gr := ⟨fours n, []⟩
theorem gF_fit {n : Nat} (h : n ≤ 10) : (gF n).Fit := ⟨by simp [gF, fours_len]; omega, by simp [gF]⟩
theorem ano_fit : anoC.Fit := .mk (by rw [kidN_eq]; simp [anoC, Cd.kids]) ⟨by simp [anoC, Cd.m], by simp [anoC, Cd.m]⟩ (gF_fit (n := 2) (by omega)) (by rw [bigN_eq]; simp [anoC, Cd.sl]) (by rw [bigN_eq]; simp [anoC, Cd.te]) fun x hx => by
  have : x = trueC := by simpa [anoC, Cd.kids] using hx
  subst this
  exact cdOf_fit (by rw [kidN_eq]; simp) (by simp)
theorem ano_shift : (shiftR (gF 1) (gF 2) ⟨[0], []⟩ anoC).2 = 0 ∧ (shiftR (gF 1) (gF 2) ⟨[0], []⟩ anoC).1.kind = 4 ∧ (shiftR (gF 1) (gF 2) ⟨[0], []⟩ anoC).1.kids.length = 2 ∧ ((shiftR (gF 1) (gF 2) ⟨[0], []⟩ anoC).1.kids.getD 1 trueC).g.nodes.length = 2 := by decide +kernel
theorem ano_sat : satR (gF 1) anoC (gF 2) ⟨[1], []⟩ = (true, 0) := by decide +kernel
theorem ano_size : sizeR anoC = (2, 1, 0) := by decide +kernel

set_option maxRecDepth 100000 in
theorem awake33_c (tok : Nat → Bool) (nt : Nat) : DCall Tryz.prog 6 [] tok nt (B true) tok nt := by
  intro box nb
  have hsh := cdShift_c (gF 1) (gF 2) ⟨[0], []⟩ anoC (gF_fit (by omega)) (gF_fit (by omega)) ⟨by simp, by simp⟩ ano_fit
  have hsa := satisfies_c (gF 1) anoC (gF 2) ⟨[1], []⟩ (gF_fit (by omega)) ano_fit (gF_fit (by omega)) ⟨by simp, by simp⟩
  have hsz := cdSize_c anoC ano_fit.big
  rw [ano_sat] at hsa
  rw [ano_size] at hsz
  obtain ⟨s1, s2, s3, s4⟩ := ano_shift
  generalize shiftR (gF 1) (gF 2) ⟨[0], []⟩ anoC = r at *
  refine ACalls.of_body Tryz.func6 rfl (by kernel_rfl) follows_Tryz (by kernel_rfl) (by simp [Tryz.ntmps6]) ?_
  intro hbox htok
  simp only at hbox htok
  apply AL.start
  try (simp)
  repeat ((repeat (first | refine AL.seq ?_ | refine AL.block ?_ | refine AL.skip ?_ | refine AL.blk ?_)); (refine AL.region follows_Tryz (Nat.le_refl _) (by kernel_rfl) ?_); simp)
  refine Stop.of_d (lnodes_c 1 (by omega) _ _) ?_
  simp
  refine Stop.of_d (lnodes_c 2 (by omega) _ _) ?_
  simp
  refine Stop.of_d (another_c _ _) ?_
  simp
  refine Stop.sub (args' := [(gF 1).av, (gF 2).av, .agg [.d (ints [0]), .d (ints [])], anoC.av]) ⟨Sub.refl _, Sub.refl _, Sub.agg ⟨Sub.data _ _ _, Sub.nil _ _ _, trivial⟩, Sub.refl _, trivial⟩ ?_
  refine Stop.of_d (hsh _ _) ?_
  simp
  try (simp)
  repeat ((repeat (first | refine AL.seq ?_ | refine AL.block ?_ | refine AL.skip ?_ | refine AL.blk ?_)); (refine AL.region follows_Tryz (Nat.le_refl _) (by kernel_rfl) ?_); simp)
  refine Stop.of_d (lnodes_c 1 (by omega) _ _) ?_
  simp
  refine Stop.of_d (another_c _ _) ?_
  simp
  refine Stop.of_d (lnodes_c 2 (by omega) _ _) ?_
  simp
  refine Stop.sub (args' := [(gF 1).av, anoC.av, (gF 2).av, .agg [.d (ints [1]), .d (ints [])]]) ⟨Sub.refl _, Sub.refl _, Sub.refl _, Sub.agg ⟨Sub.data _ _ _, Sub.nil _ _ _, trivial⟩, trivial⟩ ?_
  refine Stop.of_d (hsa _ _) ?_
  simp
  try (simp)
  repeat ((repeat (first | refine AL.seq ?_ | refine AL.block ?_ | refine AL.skip ?_ | refine AL.blk ?_)); (refine AL.region follows_Tryz (Nat.le_refl _) (by kernel_rfl) ?_); simp)
  refine Stop.of_d (another_c _ _) ?_
  simp
  refine Stop.of_d (hsz _ _) ?_
  simp
  have hk : 1 < r.1.kids.length := by omega
  have hk' : r.1.kids[1].g.nodes.length = 2 := by simpa [hk] using s4
  try (simp [s1, s2, s3, hk, Cd.cells_eq, hk'])
  repeat ((repeat (first | refine AL.seq ?_ | refine AL.block ?_ | refine AL.skip ?_ | refine AL.blk ?_)); (refine AL.region follows_Tryz (Nat.le_refl _) (by kernel_rfl) ?_); simp [s1, s2, s3, hk, Cd.cells_eq, hk'])
  repeat (first | refine AL.seq ?_ | refine AL.block ?_ | refine AL.skip ?_ | refine AL.blk ?_)
  refine AL.ret ?_
  try simp only [AU]
  refine ⟨by simp, Fin.data (by simp [resAs, resA]; rfl) hbox rfl htok (fun _ h => h) (Nat.le_refl _) ?_⟩
  simp [packA]
end Go.AM
/-
  The law about Valid and Size.
-/
namespace Go.AM
open Go Go.Proofs
set_option linter.unusedSimpArgs false
set_option linter.unusedVariables false

theorem light_c (a : Gr) (c : Cd) (hb : c.Big) (tok : Nat → Bool) (nt : Nat) : DCall Tryz.prog 7 [a.av, c.av] tok nt (B (lightB a c)) tok nt := by
  refine light9_c a c hb ?_ tok nt
  by_cases h1 : c.fits 45 90 = true
  · by_cases h2 : fewG a = true
    · exact .inr (.inr (.inr (validR_c a c (fewG_fit h2) (Cd.fits_fit (n := 45) (m := 90) (by decide) (by decide) _ c (Nat.lt_succ_self _) hb h1))))
    · exact .inr (.inr (.inl (by simpa using h2)))
  · exact .inr (.inl (by simpa using h1))
theorem lightB_fit {a : Gr} {c : Cd} (hb : c.Big) (h : lightB a c = true) : a.Fit ∧ c.Fit := by
  unfold lightB at h
  split at h
  · cases h
  · split at h
    · cases h
    · rename_i h2
      split at h
      · cases h
      · rename_i h3
        exact ⟨fewG_fit (by simpa using h3), Cd.fits_fit (n := 45) (m := 90) (by decide) (by decide) _ c (Nat.lt_succ_self _) hb (by simpa using h2)⟩

end Go.AM
/-
  The law about Satisfies.
-/
namespace Go.AM
open Go Go.Proofs
set_option linter.unusedSimpArgs false
set_option linter.unusedVariables false

theorem arrow33_c (a b : Gr) (m : Mo) (ha : a.Fit) (hb : b.Fit) (hm : m.Fit) (tok : Nat → Bool) (nt : Nat) : DCall Tryz.prog 31 [a.av, b.av, m.av] tok nt (I (arrR a b m)) tok nt := by
  intro box nb
  have hva := valid53_c a b m ha hb
  have hin := injective26_c a b m ha hb hm
  refine ACalls.of_body Tryz.func31 rfl (by kernel_rfl) follows_Tryz (by kernel_rfl) (by simp [Tryz.ntmps31]) ?_
  intro hbox htok
  simp only at hbox htok
  apply AL.start
  try (simp)
  repeat ((repeat (first | refine AL.seq ?_ | refine AL.block ?_ | refine AL.skip ?_ | refine AL.blk ?_)); (refine AL.region follows_Tryz (Nat.le_refl _) (by kernel_rfl) ?_); simp)
  refine Stop.of_d (hva _ _) ?_
  simp
  try (simp)
  repeat ((repeat (first | refine AL.seq ?_ | refine AL.block ?_ | refine AL.skip ?_ | refine AL.blk ?_)); (refine AL.region follows_Tryz (Nat.le_refl _) (by kernel_rfl) ?_); simp)
  by_cases h0 : validM a b m = 0
  · simp only [h0]
    repeat (first | refine AL.seq ?_ | refine AL.block ?_ | refine AL.skip ?_ | refine AL.blk ?_)
    refine AL.cond ?_
    simp
    try (simp)
    repeat ((repeat (first | refine AL.seq ?_ | refine AL.block ?_ | refine AL.skip ?_ | refine AL.blk ?_)); (refine AL.region follows_Tryz (Nat.le_refl _) (by kernel_rfl) ?_); simp)
    refine Stop.of_d (hin _ _) ?_
    simp
    cases h1 : injM a b m
    · repeat (first | refine AL.seq ?_ | refine AL.block ?_ | refine AL.skip ?_ | refine AL.blk ?_)
      refine AL.cond ?_
      simp
      try (simp)
      repeat ((repeat (first | refine AL.seq ?_ | refine AL.block ?_ | refine AL.skip ?_ | refine AL.blk ?_)); (refine AL.region follows_Tryz (Nat.le_refl _) (by kernel_rfl) ?_); simp)
      repeat (first | refine AL.seq ?_ | refine AL.block ?_ | refine AL.skip ?_ | refine AL.blk ?_)
      refine AL.ret ?_
      try simp only [AU]
      refine ⟨by simp, Fin.data (by simp [resAs, resA]; rfl) hbox rfl htok (fun _ h => h) (Nat.le_refl _) ?_⟩
      simp [packA, arrR, h0, h1]
    · repeat (first | refine AL.seq ?_ | refine AL.block ?_ | refine AL.skip ?_ | refine AL.blk ?_)
      refine AL.cond ?_
      simp
      try (simp)
      repeat ((repeat (first | refine AL.seq ?_ | refine AL.block ?_ | refine AL.skip ?_ | refine AL.blk ?_)); (refine AL.region follows_Tryz (Nat.le_refl _) (by kernel_rfl) ?_); simp)
      repeat (first | refine AL.seq ?_ | refine AL.block ?_ | refine AL.skip ?_ | refine AL.blk ?_)
      refine AL.ret ?_
      try simp only [AU]
      refine ⟨by simp, Fin.data (by simp [resAs, resA]; rfl) hbox rfl htok (fun _ h => h) (Nat.le_refl _) ?_⟩
      simp [packA, arrR, h0, h1]
  · have b0 : (validM a b m != 0) = true := by simp [h0]
    simp only [b0]
    repeat (first | refine AL.seq ?_ | refine AL.block ?_ | refine AL.skip ?_ | refine AL.blk ?_)
    refine AL.cond ?_
    simp
    try (simp)
    repeat ((repeat (first | refine AL.seq ?_ | refine AL.block ?_ | refine AL.skip ?_ | refine AL.blk ?_)); (refine AL.region follows_Tryz (Nat.le_refl _) (by kernel_rfl) ?_); simp)
    repeat (first | refine AL.seq ?_ | refine AL.block ?_ | refine AL.skip ?_ | refine AL.blk ?_)
    refine AL.ret ?_
    try simp only [AU]
    refine ⟨by simp, Fin.data (by simp [resAs, resA]; rfl) hbox rfl htok (fun _ h => h) (Nat.le_refl _) ?_⟩
    simp [packA, arrR, h0]
end Go.AM
/-
  Shifting from another count; the error of shifting; morphisms behind the identity.
-/
namespace Go.AM
open Go Go.Proofs
set_option linter.unusedSimpArgs false
set_option linter.unusedVariables false

theorem shf_k {c : Cd} {b : Gr} {m : Mo} {st : St2} (h : (st1 st).2 = 0) (k5 : ¬ c.kind = 5) : c.shf b m st = (cdOf c.kind (seqL (shF b m) c.kids (st1 st)).1, (seqL (shF b m) c.kids (st1 st)).2) := by
  rw [c.shf_eq, shStep, if_neg (by simp [h]), if_pos k5]
theorem shf_e {c : Cd} {b : Gr} {m : Mo} {st : St2} (h : (st1 st).2 = 0) (k5 : c.kind = 5) (he : (overlapsR b c.g).2 = 0) :
    c.shf b m st = (cdOf 4 (seqL (ovF m c.m fun b m st => Cd.shfH c.kids b m st) (overlapsR b c.g).1 (st1 st)).1, (seqL (ovF m c.m fun b m st => Cd.shfH c.kids b m st) (overlapsR b c.g).1 (st1 st)).2) := by
  rw [c.shf_eq, shStep, if_neg (by simp [h]), if_neg (by simp [k5]), if_neg (by simp [he])]
theorem shf_x {c : Cd} {b : Gr} {m : Mo} {st : St2} (h : (st1 st).2 = 0) (k5 : c.kind = 5) (he : ¬ (overlapsR b c.g).2 = 0) : c.shf b m st = (cdOf 4 [], ((st1 st).1, (overlapsR b c.g).2)) := by
  rw [c.shf_eq, shStep, if_neg (by simp [h]), if_neg (by simp [k5]), if_pos he]
def up (k : Int) (s : St2) : St2 := (s.1 + k, s.2)
/-! ### Behind the identity -/
theorem nodup_iota (n : Nat) : (iota n).Nodup := by
  rw [nodup_getD]
  intro i j hij hj
  rw [iota_length] at hj
  rw [iota_getD (by omega), iota_getD hj]
  omega
theorem mem_iota {x : Int} {n : Nat} (h : x ∈ iota n) : 0 ≤ x ∧ x < n := by
  obtain ⟨i, hi, rfl⟩ := List.mem_map.1 h
  have := List.mem_range.1 hi
  omega
/-- A graph that goes on. -/
structure Pre (a b : Gr) : Prop where
  va : validG a = 0
  vb : validG b = 0
  n : ∃ t, b.nodes = a.nodes ++ t
  e : ∃ t, b.edges = a.edges ++ t
theorem Pre.emb {a b : Gr} (h : Pre a b) : Emb a b (idM a) := by
  obtain ⟨t, ht⟩ := h.n
  obtain ⟨u, hu⟩ := h.e
  have ea := validG_edges h.va
  refine ⟨validM_of ⟨h.va, h.vb, by simp [idM], by simp [idM], fun x hx => ?_, fun x hx => ?_, fun i hi => ?_, fun i hi => ?_⟩, nodup_iota _, nodup_iota _⟩
  · have := mem_iota (show x ∈ iota a.nodes.length from hx)
    rw [ht]; simp only [List.length_append]; omega
  · have := mem_iota (show x ∈ iota a.edges.length from hx)
    rw [hu]; simp only [List.length_append]; omega
  · simp only [idM]
    rw [iota_getD hi, Int.toNat_natCast, ht, getD_pre hi]
  · simp only [idM]
    have hx := ea (a.edges.getD i default) (getD_mem hi)
    rw [iota_getD hi, Int.toNat_natCast, hu, getD_pre hi, iota_getD (by omega), iota_getD (by omega)]
    rw [Int.toNat_of_nonneg hx.1, Int.toNat_of_nonneg hx.2.2.1]
theorem emb_nil {b : Gr} (h : validG b = 0) : Emb ⟨[], []⟩ b ⟨[], []⟩ := (Pre.emb (a := ⟨[], []⟩) ⟨rfl, h, ⟨b.nodes, rfl⟩, ⟨b.edges, rfl⟩⟩)
end Go.AM
/-
  What the reference's shifter computes, and that it is what the program's shifter computes as long as there is no error.
-/
namespace Go.AM
open Go Go.Proofs
set_option linter.unusedSimpArgs false
set_option linter.unusedVariables false

def dec (n : Int) : Int := IntKind.i64.wrap (n - 1)
def gt1 (st : St2) : St2 := (dec st.1, if dec st.1 < 0 then 3 else st.2)
def ovG (m mm : Mo) (H : Gr → Mo → St2 → Cd × St2) (o : Ov) (st : St2) : List Cd × St2 :=
  if agrO m mm o = true then ([exOf o (H o.g o.r (dec st.1, st.2)).1], (H o.g o.r (dec st.1, st.2)).2) else ([], st)
def shgStep (k : Int) (mm : Mo) (p b : Gr) (m : Mo) (st : St2) (L : St2 → List Cd × St2) (H : Gr → Mo → St2 → Cd × St2) : Cd × St2 :=
  if (gt1 st).2 ≠ 0 then (cdOf 1 [], gt1 st)
  else if k ≠ 5 then (cdOf k (L (gt1 st)).1, (L (gt1 st)).2)
  else if (overlapsR b p).2 ≠ 0 then (cdOf 1 [], ((gt1 st).1, (overlapsR b p).2))
  else (cdOf 4 (seqL (ovG m mm H) (overlapsR b p).1 (gt1 st)).1, (seqL (ovG m mm H) (overlapsR b p).1 (gt1 st)).2)
mutual
def Cd.shg : Cd → Gr → Mo → St2 → Cd × St2
  | .mk k c mm p s v t, b, m, st => shgStep k mm p b m st (fun st => Cd.shgL c b m st) (fun b m st => Cd.shgH c b m st)
def Cd.shgL : List Cd → Gr → Mo → St2 → List Cd × St2
  | [], _, _, st => ([], st)
  | x :: r, b, m, st => ([(Cd.shg x b m st).1] ++ (Cd.shgL r b m (Cd.shg x b m st).2).1, (Cd.shgL r b m (Cd.shg x b m st).2).2)
def Cd.shgH : List Cd → Gr → Mo → St2 → Cd × St2
  | [], _, _, st => (cdOf 0 [], st)
  | x :: _, b, m, st => Cd.shg x b m st
end
def sgF (b : Gr) (m : Mo) (x : Cd) (st : St2) : List Cd × St2 := ([(Cd.shg x b m st).1], (Cd.shg x b m st).2)
theorem Cd.shgL_eq (b : Gr) (m : Mo) : ∀ (l : List Cd) (st : St2), Cd.shgL l b m st = seqL (sgF b m) l st
  | [], st => by simp [Cd.shgL, seqL]
  | x :: r, st => by simp [Cd.shgL, seqL, sgF, Cd.shgL_eq b m r]
theorem Cd.shg_eq (c : Cd) (b : Gr) (m : Mo) (st : St2) : c.shg b m st = shgStep c.kind c.m c.g b m st (fun st => seqL (sgF b m) c.kids st) (fun b m st => Cd.shgH c.kids b m st) := by
  cases c
  simp only [Cd.shg, Cd.shgL_eq]
  rfl

/-- The two states: what one has made and what the other may still make are 2000 together; or both have failed. -/
def RS (n : Int) (s t : St2) : Prop := (s.2 = 0 ∧ t.2 = 0 ∧ s.1 + t.1 = 2000 ∧ 0 ≤ s.1 ∧ s.1 ≤ n) ∨ (s.2 = 3 ∧ t.2 = 3)
theorem RS.up {n m : Int} {s t : St2} (h : RS n s t) (hnm : n ≤ m) : RS m s t := by
  rcases h with ⟨h1, h2, h3, h4, h5⟩ | h
  · exact .inl ⟨h1, h2, h3, h4, by omega⟩
  · exact .inr h
theorem seqL_rel {α : Type} {f g : α → St2 → List Cd × St2} (hst : ∀ x s, (f x s).2.2 = 0 → s.2 = 0) : ∀ (l : List α), (∀ x ∈ l, ∀ s t, RS 2000 s t → RS 2000 (f x s).2 (g x t).2 ∧ ((f x s).2.2 = 0 → (f x s).1 = (g x t).1)) →
    ∀ s t, RS 2000 s t → RS 2000 (seqL f l s).2 (seqL g l t).2 ∧ ((seqL f l s).2.2 = 0 → (seqL f l s).1 = (seqL g l t).1)
  | [], _, s, t, h => ⟨h, fun _ => rfl⟩
  | x :: r, hx, s, t, h => by
    obtain ⟨h1, h2⟩ := hx x (by simp) s t h
    obtain ⟨h3, h4⟩ := seqL_rel hst r (fun y hy => hx y (by simp [hy])) _ _ h1
    refine ⟨h3, fun hz => ?_⟩
    have hz' : (seqL f r (f x s).2).2.2 = 0 := hz
    simp only [seqL]
    rw [h2 (seqL_sticky hst r _ hz'), h4 hz']
theorem inc_in2 {n : Int} (h0 : 0 ≤ n) (h1 : n ≤ 2001) : inc n = n + 1 := wrap_in (by omega) (by omega)
theorem dec_in {n : Int} (h0 : -1 ≤ n) (h1 : n ≤ 2000) : dec n = n - 1 := wrap_in (by omega) (by omega)
theorem gt1_rel {s t : St2} (h : RS 2001 s t) : RS 2000 (st1 s) (gt1 t) := by
  rcases h with ⟨h1, h2, h3, h4, h5⟩ | ⟨h1, h2⟩
  · have e1 : inc s.1 = s.1 + 1 := inc_in2 h4 h5
    have e2 : dec t.1 = t.1 - 1 := dec_in (by omega) (by omega)
    by_cases h6 : 2000 < s.1 + 1
    · refine .inr ⟨?_, ?_⟩
      · simp only [st1, e1, if_pos h6]
      · simp only [gt1, e2]; rw [if_pos (by omega)]
    · refine .inl ⟨?_, ?_, ?_, ?_, ?_⟩
      · simp only [st1, e1, if_neg h6, h1]
      · simp only [gt1, e2]; rw [if_neg (by omega), h2]
      · simp only [st1, gt1, e1, e2]; omega
      · simp only [st1, e1]; omega
      · simp only [st1, e1]; omega
  · refine .inr ⟨?_, ?_⟩
    · simp only [st1, h1]; split <;> rfl
    · simp only [gt1, h2]; split <;> rfl
theorem RS.zero {n : Int} {s t : St2} (h : RS n s t) (h0 : s.2 = 0) : t.2 = 0 := by
  rcases h with h | h
  · exact h.2.1
  · rw [h.1] at h0; cases h0
theorem RS.three {n : Int} {s t : St2} (h : RS n s t) (h0 : ¬ s.2 = 0) : s.2 = 3 ∧ t.2 = 3 := by
  rcases h with h | h
  · exact absurd h.1 h0
  · exact h
theorem shf_0 {c : Cd} {b : Gr} {m : Mo} {st : St2} (h : ¬ (st1 st).2 = 0) : c.shf b m st = (cdOf c.kind [], st1 st) := by
  rw [c.shf_eq, shStep, if_pos h]
theorem shg_0 {c : Cd} {b : Gr} {m : Mo} {st : St2} (h : ¬ (gt1 st).2 = 0) : c.shg b m st = (cdOf 1 [], gt1 st) := by
  rw [c.shg_eq, shgStep, if_pos h]
theorem shg_k {c : Cd} {b : Gr} {m : Mo} {st : St2} (h : (gt1 st).2 = 0) (k5 : ¬ c.kind = 5) : c.shg b m st = (cdOf c.kind (seqL (sgF b m) c.kids (gt1 st)).1, (seqL (sgF b m) c.kids (gt1 st)).2) := by
  rw [c.shg_eq, shgStep, if_neg (by simp [h]), if_pos k5]
theorem shg_e {c : Cd} {b : Gr} {m : Mo} {st : St2} (h : (gt1 st).2 = 0) (k5 : c.kind = 5) (he : (overlapsR b c.g).2 = 0) :
    c.shg b m st = (cdOf 4 (seqL (ovG m c.m fun b m st => Cd.shgH c.kids b m st) (overlapsR b c.g).1 (gt1 st)).1, (seqL (ovG m c.m fun b m st => Cd.shgH c.kids b m st) (overlapsR b c.g).1 (gt1 st)).2) := by
  rw [c.shg_eq, shgStep, if_neg (by simp [h]), if_neg (by simp [k5]), if_neg (by simp [he])]
theorem shg_x {c : Cd} {b : Gr} {m : Mo} {st : St2} (h : (gt1 st).2 = 0) (k5 : c.kind = 5) (he : ¬ (overlapsR b c.g).2 = 0) : c.shg b m st = (cdOf 1 [], ((gt1 st).1, (overlapsR b c.g).2)) := by
  rw [c.shg_eq, shgStep, if_neg (by simp [h]), if_neg (by simp [k5]), if_pos he]
theorem shg_rel : ∀ (n : Nat) (c : Cd), SizeOf.sizeOf c < n → ∀ a, c.ovr a = 0 → ∀ b, validG b = 0 → ∀ m (s t : St2), RS 2001 s t → RS 2000 (c.shf b m s).2 (c.shg b m t).2 ∧ ((c.shf b m s).2.2 = 0 → (c.shf b m s).1 = (c.shg b m t).1)
  | 0, c, hn, _, _, _, _, _, _, _, _ => absurd hn (Nat.not_lt_zero _)
  | n + 1, c, hn, a, hv, b, hb, m, s, t, hs => by
    have ih := fun x (hx : x ∈ c.kids) => shg_rel n x (by have := Cd.kid_lt hx; omega) (c.inn a) ((Cd.ovr_zero hv).2.2 x hx)
    have h1 := gt1_rel hs
    by_cases h0 : (st1 s).2 = 0
    · have g0 := h1.zero h0
      by_cases k5 : c.kind = 5
      · obtain ⟨hx, x, hkx⟩ := ovr_ex hv k5
        by_cases he : (overlapsR b c.g).2 = 0
        · rw [shf_e h0 k5 he, shg_e g0 k5 he]
          have hm := seqL_rel (f := ovF m c.m fun b m st => Cd.shfH c.kids b m st) (g := ovG m c.m fun b m st => Cd.shgH c.kids b m st) (fun x s h => ovF_sticky h) (overlapsR b c.g).1 (fun o ho s t hst => by
            by_cases ha : agrO m c.m o = true
            · rw [ovF, ovG, if_pos ha, if_pos ha]
              simp only
              rw [hkx, Cd.shfH, Cd.shgH]
              have hs2 : RS 2001 (inc s.1, s.2) (dec t.1, t.2) := by
                rcases hst with ⟨q1, q2, q3, q4, q5⟩ | q
                · refine .inl ⟨q1, q2, ?_, ?_, ?_⟩
                  · simp only; rw [inc_in2 q4 (by omega), dec_in (by omega) (by omega)]; omega
                  · simp only; rw [inc_in2 q4 (by omega)]; omega
                  · simp only; rw [inc_in2 q4 (by omega)]; omega
                · exact .inr q
              obtain ⟨r1, r2⟩ := ih x (by rw [hkx]; simp) o.g (ovs_emb ho).1.vm.vb o.r _ _ hs2
              exact ⟨r1, fun hz => by rw [r2 hz]⟩
            · rw [ovF, ovG, if_neg ha, if_neg ha]
              exact ⟨hst, fun _ => rfl⟩) _ _ h1
          exact ⟨hm.1, fun hz => by simp only; rw [hm.2 hz]⟩
        · rw [shf_x h0 k5 he, shg_x g0 k5 he]
          have h3 : (overlapsR b c.g).2 = 3 := by
            rcases overlapsR_err hb hx.vm.vb with h | h
            · exact absurd h he
            · exact h
          exact ⟨.inr ⟨h3, h3⟩, fun hz => absurd hz he⟩
      · rw [shf_k h0 k5, shg_k g0 k5]
        have hm := seqL_rel (f := shF b m) (g := sgF b m) (fun x s h => shF_sticky h) c.kids (fun x hx s t hst => by
          obtain ⟨r1, r2⟩ := ih x hx b hb m s t (hst.up (by decide))
          exact ⟨r1, fun hz => by simp only [shF, sgF]; rw [r2 hz]⟩) _ _ h1
        exact ⟨hm.1, fun hz => by simp only; rw [hm.2 hz]⟩
    · have g3 := h1.three h0
      rw [shf_0 h0, shg_0 (by rw [g3.2]; decide)]
      exact ⟨h1, fun hz => absurd hz h0⟩
end Go.AM
/-
  The reference's agrees and shifter.shift.
-/
namespace Go.AM
open Go Go.Proofs
set_option linter.unusedSimpArgs false
set_option linter.unusedVariables false

theorem agrK_byK {l l' h h' : List Int} (hl : l.length = l'.length) : agrK l h l' h' l.length = decide (byK l h l.length = byK l' h' l'.length) := by
  rw [agrK, decide_eq_decide]
  constructor
  · intro e
    refine ext_getD (by simp [hl]) fun j hj => ?_
    rw [byK_all] at hj
    rw [byK_getD hj, byK_getD (by omega)]
    exact e j hj
  · intro e j hj
    have : (byK l h l.length).getD j 0 = (byK l' h' l'.length).getD j 0 := by rw [e]
    rwa [byK_getD hj, byK_getD (by omega)] at this
theorem agrees_c (o : Ov) (m n : Mo) (h1 : m.nodes.length ≤ 1000000) (h2 : m.edges.length ≤ 1000000) (h3 : m.nodes.length = n.nodes.length) (h4 : m.edges.length = n.edges.length)
    (r1 : ∀ x ∈ m.nodes, 0 ≤ x ∧ x < o.l.nodes.length) (r2 : ∀ x ∈ n.nodes, 0 ≤ x ∧ x < o.r.nodes.length) (r3 : ∀ x ∈ m.edges, 0 ≤ x ∧ x < o.l.edges.length) (r4 : ∀ x ∈ n.edges, 0 ≤ x ∧ x < o.r.edges.length) (tok : Nat → Bool) (nt : Nat) :
    DCall Tryz.prog 58 [o.av, m.av, n.av] tok nt (B (agrO m n o)) tok nt := by
  intro box nb
  have t1 := through68_c m.nodes o.l.nodes h1 r1
  have t2 := through68_c n.nodes o.r.nodes (by omega) r2
  have t3 := through68_c m.edges o.l.edges h2 r3
  have t4 := through68_c n.edges o.r.edges (by omega) r4
  have s1 := sameInts05_c (byK m.nodes o.l.nodes m.nodes.length) (byK n.nodes o.r.nodes n.nodes.length) (by rw [byK_all]; exact h1)
  have s2 := sameInts05_c (byK m.edges o.l.edges m.edges.length) (byK n.edges o.r.edges n.edges.length) (by rw [byK_all]; exact h2)
  rw [← agrK_byK h3] at s1
  rw [← agrK_byK h4] at s2
  generalize byK m.nodes o.l.nodes m.nodes.length = p1 at *
  generalize byK n.nodes o.r.nodes n.nodes.length = p2 at *
  generalize byK m.edges o.l.edges m.edges.length = p3 at *
  generalize byK n.edges o.r.edges n.edges.length = p4 at *
  refine ACalls.of_body Tryz.func58 rfl (by kernel_rfl) follows_Tryz (by kernel_rfl) (by simp [Tryz.ntmps58]) ?_
  intro hbox htok
  simp only at hbox htok
  apply AL.start
  try (simp)
  repeat ((repeat (first | refine AL.seq ?_ | refine AL.block ?_ | refine AL.skip ?_ | refine AL.blk ?_)); (refine AL.region follows_Tryz (Nat.le_refl _) (by kernel_rfl) ?_); simp)
  refine Stop.of_d (t1 _ _) ?_
  simp
  try (simp)
  repeat ((repeat (first | refine AL.seq ?_ | refine AL.block ?_ | refine AL.skip ?_ | refine AL.blk ?_)); (refine AL.region follows_Tryz (Nat.le_refl _) (by kernel_rfl) ?_); simp)
  refine Stop.of_d (t2 _ _) ?_
  simp
  try (simp)
  repeat ((repeat (first | refine AL.seq ?_ | refine AL.block ?_ | refine AL.skip ?_ | refine AL.blk ?_)); (refine AL.region follows_Tryz (Nat.le_refl _) (by kernel_rfl) ?_); simp)
  refine Stop.of_d (s1 _ _) ?_
  simp
  try (simp)
  repeat ((repeat (first | refine AL.seq ?_ | refine AL.block ?_ | refine AL.skip ?_ | refine AL.blk ?_)); (refine AL.region follows_Tryz (Nat.le_refl _) (by kernel_rfl) ?_); simp)
  cases g1 : agrK m.nodes o.l.nodes n.nodes o.r.nodes m.nodes.length
  · try (simp)
    repeat ((repeat (first | refine AL.seq ?_ | refine AL.block ?_ | refine AL.skip ?_ | refine AL.blk ?_)); (refine AL.region follows_Tryz (Nat.le_refl _) (by kernel_rfl) ?_); simp)
    repeat (first | refine AL.seq ?_ | refine AL.block ?_ | refine AL.skip ?_ | refine AL.blk ?_)
    refine AL.ret ?_
    try simp only [AU]
    refine ⟨by simp, Fin.data (by simp [resAs, resA]; rfl) hbox rfl htok (fun _ h => h) (Nat.le_refl _) ?_⟩
    simp [packA, agrO, g1]
  · try (simp)
    repeat ((repeat (first | refine AL.seq ?_ | refine AL.block ?_ | refine AL.skip ?_ | refine AL.blk ?_)); (refine AL.region follows_Tryz (Nat.le_refl _) (by kernel_rfl) ?_); simp)
    refine Stop.of_d (t3 _ _) ?_
    simp
    try (simp)
    repeat ((repeat (first | refine AL.seq ?_ | refine AL.block ?_ | refine AL.skip ?_ | refine AL.blk ?_)); (refine AL.region follows_Tryz (Nat.le_refl _) (by kernel_rfl) ?_); simp)
    refine Stop.of_d (t4 _ _) ?_
    simp
    try (simp)
    repeat ((repeat (first | refine AL.seq ?_ | refine AL.block ?_ | refine AL.skip ?_ | refine AL.blk ?_)); (refine AL.region follows_Tryz (Nat.le_refl _) (by kernel_rfl) ?_); simp)
    refine Stop.of_d (s2 _ _) ?_
    simp
    try (simp)
    repeat ((repeat (first | refine AL.seq ?_ | refine AL.block ?_ | refine AL.skip ?_ | refine AL.blk ?_)); (refine AL.region follows_Tryz (Nat.le_refl _) (by kernel_rfl) ?_); simp)
    repeat (first | refine AL.seq ?_ | refine AL.block ?_ | refine AL.skip ?_ | refine AL.blk ?_)
    refine AL.ret ?_
    try simp only [AU]
    refine ⟨by simp, Fin.data (by simp [resAs, resA]; rfl) hbox rfl htok (fun _ h => h) (Nat.le_refl _) ?_⟩
    simp [packA, agrO, g1]
theorem Cd.shgH_get {l : List Cd} (h : 0 < l.length) (b : Gr) (m : Mo) (st : St2) : Cd.shgH l b m st = Cd.shg l[0] b m st := by
  match l, h with
  | x :: r, _ => simp [Cd.shgH]
theorem sgF_len (b : Gr) (m : Mo) : ∀ (l : List Cd) (st : St2), (seqL (sgF b m) l st).1.length = l.length
  | [], st => rfl
  | x :: r, st => by
    simp only [seqL, sgF, List.length_append, List.length_cons, List.length_nil, sgF_len b m r]
    omega
theorem ovG_len (m mm : Mo) (H : Gr → Mo → St2 → Cd × St2) : ∀ (l : List Ov) (st : St2), (seqL (ovG m mm H) l st).1.length ≤ l.length
  | [], st => by simp [seqL]
  | o :: r, st => by
    have h1 : (ovG m mm H o st).1.length ≤ 1 := by unfold ovG; split <;> simp
    have h2 := ovG_len m mm H r (ovG m mm H o st).2
    simp only [seqL, List.length_append, List.length_cons]
    omega
theorem ovG_yes {m mm : Mo} {H : Gr → Mo → St2 → Cd × St2} {o : Ov} {st : St2} (h : agrO m mm o = true) : ovG m mm H o st = ([exOf o (H o.g o.r (dec st.1, st.2)).1], (H o.g o.r (dec st.1, st.2)).2) := if_pos h
theorem ovG_no {m mm : Mo} {H : Gr → Mo → St2 → Cd × St2} {o : Ov} {st : St2} (h : ¬ agrO m mm o = true) : ovG m mm H o st = ([], st) := if_neg h

def stGk (c : Cd) (b : Gr) (m : Mo) (u : St2) (ks nb : Nat) (box : Nat → Option (List (List AV))) (x : Acc) : AState :=
  ⟨tl [(10, I x.i), (9, .ptr (nb + 9) 0 0), (0, .ptr ks 0 0), (5, .ptr (nb + 5) 0 0), (6, .ptr (nb + 6) 0 0), (7, .ptr (nb + 7) 0 0), (8, .ptr (nb + 8) 0 0)],
    lb nb (upd box ks (some [[I (seqL (sgF b m) (c.kids.take x.i) u).2.1, I (seqL (sgF b m) (c.kids.take x.i) u).2.2]]))
      [(9, [[I c.kind, .osl 9 ((seqL (sgF b m) (c.kids.take x.i) u).1.map Cd.cells) x.own, nilS, nilS, nilS, nilS, nilS, z0i, nilS]]), (5, [b.cells2]), (6, [m.cells2]), (7, [c.row]), (8, [[z0i, nilS, nilS, nilS, nilS, nilS, nilS, z0i, nilS]])], x.tok, x.nt⟩
def stGo (H : Gr → Mo → St2 → Cd × St2) (c : Cd) (b : Gr) (m : Mo) (u : St2) (ks nb : Nat) (box : Nat → Option (List (List AV))) (L : List Ov) (x : Acc) : AState :=
  ⟨tl [(14, I x.i), (13, .ptr (nb + 13) 0 0), (11, .d (ovs L)), (0, .ptr ks 0 0), (5, .ptr (nb + 5) 0 0), (6, .ptr (nb + 6) 0 0), (7, .ptr (nb + 7) 0 0), (8, .ptr (nb + 8) 0 0)],
    lb nb (upd box ks (some [[I (seqL (ovG m c.m H) (L.take x.i) u).2.1, I (seqL (ovG m c.m H) (L.take x.i) u).2.2]]))
      [(13, [[I 4, .osl 9 ((seqL (ovG m c.m H) (L.take x.i) u).1.map Cd.cells) x.own, nilS, nilS, nilS, nilS, nilS, z0i, nilS]]), (5, [b.cells2]), (6, [m.cells2]), (7, [c.row]), (8, [[z0i, nilS, nilS, nilS, nilS, nilS, nilS, z0i, nilS]])], x.tok, x.nt⟩
set_option maxRecDepth 100000 in
theorem refShift_c : ∀ (n : Nat) (c : Cd), SizeOf.sizeOf c < n → c.Fit → ∀ a, c.ovr a = 0 → ∀ b : Gr, b.Fit → validG b = 0 → ∀ m : Mo, Inn m a b → ∀ (st : St2) (ks : Nat) (box : Nat → Option (List (List AV))), box ks = some [[I st.1, I st.2]] → ∀ (nb : Nat) (tok : Nat → Bool) (nt : Nat),
   ACalls Tryz.prog 34 [.ptr ks 0 0, b.av, m.av, c.av] ⟨box, nb, tok, nt⟩ (QSh (c.shg b m st) ks box nb tok nt)
  | 0, c, hn, _, _, _, _, _, _, _, _, _, _, _, _, _, tok, nt => absurd hn (Nat.not_lt_zero _)
  | n + 1, c, hn, hc, a, hv, b, hbf, hbv, m, hm, st, ks, box, hk, nb, tok, nt => by
    have ih := fun x (hx : x ∈ c.kids) => refShift_c n x (by have := Cd.kid_lt hx; omega) (hc.kid x hx) (c.inn a) ((Cd.ovr_zero hv).2.2 x hx)
    obtain ⟨hs0, hst, _⟩ := Cd.ovr_zero hv
    have hkb := hc.kids
    have hR := c.shg_eq b m st
    refine ACalls.of_body Tryz.func34 rfl (by kernel_rfl) follows_Tryz (by kernel_rfl) (by simp [Tryz.ntmps34]) ?_
    intro hbox htok
    simp only at hbox htok
    apply AL.start
    have kn := key_lt hbox hk
    have hw : IntKind.i64.wrap (st.1 - 1) = dec st.1 := rfl
    try (simp [lb_out kn, hk, upd_lb_out kn, upd_same, hw])
    repeat ((repeat (first | refine AL.seq ?_ | refine AL.block ?_ | refine AL.skip ?_ | refine AL.blk ?_)); (refine AL.region follows_Tryz (Nat.le_refl _) (by kernel_rfl) ?_); simp [lb_out kn, hk, upd_lb_out kn, upd_same, hw])
    have ht0 := TK.start htok
    obtain ⟨u, hu⟩ : ∃ u, gt1 st = u := ⟨_, rfl⟩
    have hu1 : u.1 = dec st.1 := by rw [← hu]; rfl
    have hu2 : u.2 = if dec st.1 < 0 then 3 else st.2 := by rw [← hu]; rfl
    refine AL.mid ⟨tl [(0, .ptr ks 0 0), (5, .ptr (nb + 5) 0 0), (6, .ptr (nb + 6) 0 0), (7, .ptr (nb + 7) 0 0), (8, .ptr (nb + 8) 0 0)],
      lb nb (upd box ks (some [[I u.1, I u.2]])) [(5, [b.cells2]), (6, [m.cells2]), (7, [c.row]), (8, [[.d (.raw (.int .i64 0)), .osl 0 [] .full, .osl 0 [] .full, .osl 0 [] .full, .osl 0 [] .full, .osl 0 [] .full, .osl 0 [] .full, .d (.raw (.int .i64 0)), .osl 0 [] .full]])], tok, nt⟩ ?_ ?_
    · by_cases h1 : dec st.1 < 0
      · rw [if_pos h1] at hu2
        have d1 : decide (dec st.1 < 0) = true := decide_eq_true h1
        simp only [d1]
        repeat (first | refine AL.seq ?_ | refine AL.block ?_ | refine AL.skip ?_ | refine AL.blk ?_)
        refine AL.cond ?_
        simp
        try (simp [lb_out kn, upd_lb_out kn, upd_same, upd_upd])
        repeat ((repeat (first | refine AL.seq ?_ | refine AL.block ?_ | refine AL.skip ?_ | refine AL.blk ?_)); (refine AL.region follows_Tryz (Nat.le_refl _) (by kernel_rfl) ?_); simp [lb_out kn, upd_lb_out kn, upd_same, upd_upd])
        repeat (first | refine AL.seq ?_ | refine AL.block ?_ | refine AL.skip ?_ | refine AL.blk ?_)
        refine AL.nil ?_
        simp only [hu1, hu2]
        exact Weaks.mk' (Nat.le_refl _) (by simp [ToL, lk]; exact to_ptr (by rw [lb_out kn, upd_same]; simp)) (by simp [BoxL, lk]) outS
      · rw [if_neg h1] at hu2
        have d1 : decide (dec st.1 < 0) = false := decide_eq_false h1
        simp only [d1]
        repeat (first | refine AL.seq ?_ | refine AL.block ?_ | refine AL.skip ?_ | refine AL.blk ?_)
        refine AL.cond ?_
        simp
        repeat (first | refine AL.seq ?_ | refine AL.block ?_ | refine AL.skip ?_ | refine AL.blk ?_)
        refine AL.nil ?_
        simp only [hu1, hu2]
        exact Weaks.mk' (Nat.le_refl _) (by simp [ToL, lk]; exact to_ptr (by rw [lb_out kn, upd_same]; simp)) (by simp [BoxL, lk]) outS
    · rw [shgStep, hu] at hR
      by_cases h2 : u.2 = 0
      · rw [if_neg (by simp [h2])] at hR
        have b2n : (u.2 != 0) = false := by simp [h2]
        try (simp [lb_out kn, upd_lb_out kn, upd_same, upd_upd, b2n])
        repeat ((repeat (first | refine AL.seq ?_ | refine AL.block ?_ | refine AL.skip ?_ | refine AL.blk ?_)); (refine AL.region follows_Tryz (Nat.le_refl _) (by kernel_rfl) ?_); simp [lb_out kn, upd_lb_out kn, upd_same, upd_upd, b2n])
        repeat (first | refine AL.seq ?_ | refine AL.block ?_ | refine AL.skip ?_ | refine AL.blk ?_)
        refine AL.cond ?_
        simp
        try (simp [lb_out kn, upd_lb_out kn, upd_same, upd_upd, b2n])
        repeat ((repeat (first | refine AL.seq ?_ | refine AL.block ?_ | refine AL.skip ?_ | refine AL.blk ?_)); (refine AL.region follows_Tryz (Nat.le_refl _) (by kernel_rfl) ?_); simp [lb_out kn, upd_lb_out kn, upd_same, upd_upd, b2n])
        by_cases k5 : c.kind = 5
        · have b5 : (c.kind != 5) = false := by simp [k5]
          rw [if_neg (by simp [k5])] at hR
          obtain ⟨H, hH⟩ : ∃ H, (fun (b : Gr) (m : Mo) (st : St2) => Cd.shgH c.kids b m st) = H := ⟨_, rfl⟩
          rw [hH] at hR
          simp only [b5]
          repeat (first | refine AL.seq ?_ | refine AL.block ?_ | refine AL.skip ?_ | refine AL.blk ?_)
          refine AL.cond ?_
          simp
          have hso := overlaps13_c b c.g hbf hc.g tok nt
          obtain ⟨ov, hov⟩ : ∃ q, overlapsR b c.g = q := ⟨_, rfl⟩
          rw [hov] at hR hso
          try (simp [lb_out kn, upd_lb_out kn, upd_same, upd_upd])
          repeat ((repeat (first | refine AL.seq ?_ | refine AL.block ?_ | refine AL.skip ?_ | refine AL.blk ?_)); (refine AL.region follows_Tryz (Nat.le_refl _) (by kernel_rfl) ?_); simp [lb_out kn, upd_lb_out kn, upd_same, upd_upd])
          refine Stop.of_d (hso) ?_
          simp
          try (simp)
          repeat ((repeat (first | refine AL.seq ?_ | refine AL.block ?_ | refine AL.skip ?_ | refine AL.blk ?_)); (refine AL.region follows_Tryz (Nat.le_refl _) (by kernel_rfl) ?_); simp)
          by_cases he : ov.2 = 0
          · rw [if_neg (by simp [he])] at hR
            have be : (ov.2 != 0) = false := by simp [he]
            simp only [be]
            repeat (first | refine AL.seq ?_ | refine AL.block ?_ | refine AL.skip ?_ | refine AL.blk ?_)
            refine AL.cond ?_
            simp
            try (simp [lb_out kn, upd_lb_out kn, upd_same, upd_upd])
            repeat ((repeat (first | refine AL.seq ?_ | refine AL.block ?_ | refine AL.skip ?_ | refine AL.blk ?_)); (refine AL.region follows_Tryz (Nat.le_refl _) (by kernel_rfl) ?_); simp [lb_out kn, upd_lb_out kn, upd_same, upd_upd])
            repeat (first | refine AL.seq ?_ | refine AL.block ?_ | refine AL.skip ?_ | refine AL.blk ?_)
            have hcm : Inn c.m a c.g := Inn.of (by
              have h5 := hst
              rw [ovrStep, if_pos k5] at h5
              split at h5
              · contradiction
              · rename_i h6; exact Decidable.not_not.1 h6)
            have hva : a.nodes.length ≤ 1000000 ∧ a.edges.length ≤ 1000000 := by
              have h5 := hst
              rw [ovrStep, if_pos k5] at h5
              split at h5
              · contradiction
              · rename_i h6
                have := (validG_types (validM_VM (Decidable.not_not.1 h6)).va).1
                omega
            obtain ⟨hok, hfit⟩ := ovs_ok hbf hbv hc.g hov
            have hfew := ovs_few hbv hov
            refine AL.loopT (stGo H c b m u ks nb box ov.1) (fun x => x.i ≤ ov.1.length ∧ TK tok nt x.tok x.nt [x.own]) (fun x => ov.1.length - x.i) ⟨0, .full, tok, nt⟩ ⟨Nat.zero_le _, ht0.full⟩
              (Weaks.mk' (Nat.le_refl _) (by simp [ToL, lk]; exact to_ptr (by rw [lb_out kn, upd_same]; simp)) (by simp [BoxL, lk, seqL]) outS) ?_
            rintro ⟨i, own, tok1, nt1⟩ S ⟨hi, htk⟩ hS
            simp only [stGo] at hS hi htk
            subst hS
            have hw1 : IntKind.i64.wrap (↑i + 1) = ((i + 1 : Nat) : Int) := by rw [wrap_in (by omega) (by omega)]; rfl
            try (simp)
            repeat ((repeat (first | refine AL.seq ?_ | refine AL.block ?_ | refine AL.skip ?_ | refine AL.blk ?_)); (refine AL.region follows_Tryz (Nat.le_refl _) (by kernel_rfl) ?_); simp)
            repeat (first | refine AL.seq ?_ | refine AL.block ?_ | refine AL.skip ?_ | refine AL.blk ?_)
            refine AL.cond ?_
            simp
            refine ⟨fun hlt => ?_, fun hge => ?_⟩
            · have hS := seqL_take (ovG m c.m H) ov.1 u hlt
              have hoo := hok _ (List.getElem_mem hlt)
              have hof := hfit _ (List.getElem_mem hlt)
              have vl := validM_VM hoo.l
              have vr := validM_VM hoo.r
              have hag := agrees_c ov.1[i] m c.m (by rw [hm.ln]; exact hva.1) (by rw [hm.le]; exact hva.2) (by rw [hm.ln, hcm.ln]) (by rw [hm.le, hcm.le]) (fun x hx => by rw [vl.ln]; exact hm.n x hx) (fun x hx => by rw [vr.ln]; exact hcm.n x hx) (fun x hx => by rw [vl.le]; exact hm.e x hx) (fun x hx => by rw [vr.le]; exact hcm.e x hx)
              try (simp [hlt])
              repeat ((repeat (first | refine AL.seq ?_ | refine AL.block ?_ | refine AL.skip ?_ | refine AL.blk ?_)); (refine AL.region follows_Tryz (Nat.le_refl _) (by kernel_rfl) ?_); simp [hlt])
              refine Stop.of_d (hag _ _) ?_
              simp
              try (simp)
              repeat ((repeat (first | refine AL.seq ?_ | refine AL.block ?_ | refine AL.skip ?_ | refine AL.blk ?_)); (refine AL.region follows_Tryz (Nat.le_refl _) (by kernel_rfl) ?_); simp)
              by_cases g1 : agrO m c.m ov.1[i] = true
              · simp only [g1]
                repeat (first | refine AL.seq ?_ | refine AL.block ?_ | refine AL.skip ?_ | refine AL.blk ?_)
                refine AL.cond ?_
                simp
                have h0lt : 0 < c.kids.length := shape_one hs0 (.inr k5)
                have hii : c.inn a = c.g := if_pos k5
                rw [hii] at ih
                rw [ovG_yes g1] at hS
                generalize hst0 : (seqL (ovG m c.m H) (ov.1.take i) u).2 = s0 at *
                have hwi : IntKind.i64.wrap (s0.1 - 1) = dec s0.1 := rfl
                have ihx := ih _ (List.getElem_mem h0lt) ov.1[i].g hof.g vl.vb ov.1[i].r (Inn.of hoo.r) (dec s0.1, s0.2) ks
                rw [← Cd.shgH_get h0lt, show ∀ b m st, Cd.shgH c.kids b m st = H b m st from fun b m st => by rw [← hH]] at ihx
                repeat (first | refine AL.seq ?_ | refine AL.block ?_ | refine AL.skip ?_ | refine AL.blk ?_)
                refine AL.region follows_Tryz (Nat.le_refl _) (by kernel_rfl) ?_
                simp [lb_out kn, upd_lb_out kn, upd_same, upd_upd, hwi, hlt]
                repeat (first | refine AL.seq ?_ | refine AL.block ?_ | refine AL.skip ?_ | refine AL.blk ?_)
                refine AL.region follows_Tryz (Nat.le_refl _) (by kernel_rfl) ?_
                simp [lb_out kn, upd_lb_out kn, upd_same, upd_upd, hwi, hlt]
                repeat (first | refine AL.seq ?_ | refine AL.block ?_ | refine AL.skip ?_ | refine AL.blk ?_)
                refine AL.region3 follows_Tryz (Nat.le_refl _) (by kernel_rfl) (Side.of (by simp)) [] (by kernel_rfl) ?_
                simp [lb_out kn, upd_lb_out kn, upd_same, upd_upd, h0lt, hlt, Cd.cells_eq, hwi]
                refine StopW.of_w rfl rfl (by simp only; rw [lb_out kn, upd_same]; simp) (fun box' nb' hb' => (ihx box' (by rw [hb']; simp only; rw [lb_out kn, upd_same]) nb' tok1 nt1).mono fun v m1 hq => ⟨hq.1, hq.2⟩) ?_
                simp [lb_out kn, upd_lb_out kn, upd_same, upd_upd]
                try (simp [lb_out kn, upd_lb_out kn, upd_same, upd_upd])
                repeat ((repeat (first | refine AL.seq ?_ | refine AL.block ?_ | refine AL.skip ?_ | refine AL.blk ?_)); (refine AL.region follows_Tryz (Nat.le_refl _) (by kernel_rfl) ?_); simp [lb_out kn, upd_lb_out kn, upd_same, upd_upd])
                refine ⟨⟨?_, htk.live⟩, ?_⟩
                · have := ovG_len m c.m H (ov.1.take i) u
                  rw [List.length_take] at this
                  omega
                try (simp [hw1])
                repeat ((repeat (first | refine AL.seq ?_ | refine AL.block ?_ | refine AL.skip ?_ | refine AL.blk ?_)); (refine AL.region follows_Tryz (Nat.le_refl _) (by kernel_rfl) ?_); simp [hw1])
                repeat (first | refine AL.seq ?_ | refine AL.block ?_ | refine AL.skip ?_ | refine AL.blk ?_)
                refine AL.nil ?_
                refine ⟨⟨i + 1, .tok nt1, upd (own.kill tok1) nt1 true, nt1 + 1⟩, ⟨hlt, htk.app⟩, by simp only; omega, ?_⟩
                simp only [stGo, hS]
                refine Weaks.mk' (by have := htk.le; omega) ?_ ?_ outS
                · simp [ToL, lk]
                  exact to_ptr (by rw [lb_out kn, upd_same]; simp)
                · simp [BoxL, lk]
                  refine to_snoc ?_ _
                  simp [exOf, Cd.cells_eq, Cd.kind, Cd.kids, Cd.m, Cd.g, Cd.sl, Cd.vars, Cd.te, slots, tests]
              · have g1' : agrO m c.m ov.1[i] = false := by simpa using g1
                simp only [g1']
                repeat (first | refine AL.seq ?_ | refine AL.block ?_ | refine AL.skip ?_ | refine AL.blk ?_)
                refine AL.cond ?_
                simp
                repeat (first | refine AL.seq ?_ | refine AL.block ?_ | refine AL.skip ?_ | refine AL.blk ?_)
                refine AL.exit ?_
                simp only [AU, ↓reduceIte]
                try (simp [hw1])
                repeat ((repeat (first | refine AL.seq ?_ | refine AL.block ?_ | refine AL.skip ?_ | refine AL.blk ?_)); (refine AL.region follows_Tryz (Nat.le_refl _) (by kernel_rfl) ?_); simp [hw1])
                repeat (first | refine AL.seq ?_ | refine AL.block ?_ | refine AL.skip ?_ | refine AL.blk ?_)
                refine AL.nil ?_
                rw [ovG_no g1] at hS
                refine ⟨⟨i + 1, own, tok1, nt1⟩, ⟨hlt, htk⟩, by simp only; omega, ?_⟩
                simp only [stGo, hS]
                refine Weaks.mk' htk.le ?_ ?_ outS
                · simp [ToL, lk]
                  exact to_ptr (by rw [lb_out kn, upd_same]; simp)
                · simp [BoxL, lk]
            · repeat (first | refine AL.seq ?_ | refine AL.block ?_ | refine AL.skip ?_ | refine AL.blk ?_)
              refine AL.exit ?_
              simp only [AU, ↓reduceIte]
              have : i = ov.1.length := by omega
              subst this
              try (simp)
              repeat ((repeat (first | refine AL.seq ?_ | refine AL.block ?_ | refine AL.skip ?_ | refine AL.blk ?_)); (refine AL.region follows_Tryz (Nat.le_refl _) (by kernel_rfl) ?_); simp)
              repeat (first | refine AL.seq ?_ | refine AL.block ?_ | refine AL.skip ?_ | refine AL.blk ?_)
              refine AL.ret ?_
              try simp only [AU]
              refine ⟨by simp, (Fin.gen (av := (cdOf 4 (seqL (ovG m c.m H) ov.1 u).1).av) (tok' := tok) (nt' := nt) (by simp [resAs, resA, lk]; rfl) (by rw [← upd_lb_out kn, hbox]) (Nat.le_refl _) htk.le (fun t ht => ⟨htk.old t ht, .inr (htok t ht)⟩) outS (by simp [packA, cdOf, conds, ints, AM.edges, slots, tests, Cd.kind, Cd.kids, Cd.m, Cd.g, Cd.sl, Cd.vars, Cd.te])).mono fun v m hq => by rw [hR]; exact hq⟩
          · rw [if_pos (by simp [he])] at hR
            have be : (ov.2 != 0) = true := by simp [he]
            simp only [be]
            repeat (first | refine AL.seq ?_ | refine AL.block ?_ | refine AL.skip ?_ | refine AL.blk ?_)
            refine AL.cond ?_
            simp
            try (simp [lb_out kn, upd_lb_out kn, upd_same, upd_upd])
            repeat ((repeat (first | refine AL.seq ?_ | refine AL.block ?_ | refine AL.skip ?_ | refine AL.blk ?_)); (refine AL.region follows_Tryz (Nat.le_refl _) (by kernel_rfl) ?_); simp [lb_out kn, upd_lb_out kn, upd_same, upd_upd])
            refine Stop.of_d (true33_c _ _) ?_
            simp
            try (simp [lb_out kn, upd_lb_out kn, upd_same, upd_upd])
            repeat ((repeat (first | refine AL.seq ?_ | refine AL.block ?_ | refine AL.skip ?_ | refine AL.blk ?_)); (refine AL.region follows_Tryz (Nat.le_refl _) (by kernel_rfl) ?_); simp [lb_out kn, upd_lb_out kn, upd_same, upd_upd])
            repeat (first | refine AL.seq ?_ | refine AL.block ?_ | refine AL.skip ?_ | refine AL.blk ?_)
            refine AL.ret ?_
            try simp only [AU]
            refine ⟨by simp, (Fin.gen (av := (cdOf 1 []).av) (tok' := tok) (nt' := nt) (by simp [resAs, resA, lk]; rfl) (by rw [← upd_lb_out kn, hbox]) (Nat.le_refl _) (Nat.le_refl _) (fun t ht => ⟨ht, .inl rfl⟩) outS (by simp [packA, trueC, cdOf, conds, ints, AM.edges, slots, tests, Cd.kind, Cd.kids, Cd.m, Cd.g, Cd.sl, Cd.vars, Cd.te])).mono fun v m hq => by rw [hR]; exact hq⟩
        · have b5 : (c.kind != 5) = true := by simp [k5]
          rw [if_pos k5] at hR
          simp only [b5]
          repeat (first | refine AL.seq ?_ | refine AL.block ?_ | refine AL.skip ?_ | refine AL.blk ?_)
          refine AL.cond ?_
          simp
          try (simp [lb_out kn, upd_lb_out kn, upd_same, upd_upd])
          repeat ((repeat (first | refine AL.seq ?_ | refine AL.block ?_ | refine AL.skip ?_ | refine AL.blk ?_)); (refine AL.region follows_Tryz (Nat.le_refl _) (by kernel_rfl) ?_); simp [lb_out kn, upd_lb_out kn, upd_same, upd_upd])
          repeat (first | refine AL.seq ?_ | refine AL.block ?_ | refine AL.skip ?_ | refine AL.blk ?_)
          rw [kidN_eq] at hkb
          refine AL.loopT (stGk c b m u ks nb box) (fun x => x.i ≤ c.kids.length ∧ TK tok nt x.tok x.nt [x.own]) (fun x => c.kids.length - x.i) ⟨0, .full, tok, nt⟩ ⟨Nat.zero_le _, ht0.full⟩
            (Weaks.mk' (Nat.le_refl _) (by simp [ToL, lk]; exact to_ptr (by rw [lb_out kn, upd_same]; simp)) (by simp [BoxL, lk, seqL]) outS) ?_
          rintro ⟨i, own, tok1, nt1⟩ S ⟨hi, htk⟩ hS
          simp only [stGk] at hS hi htk
          subst hS
          have hw1 : IntKind.i64.wrap (↑i + 1) = ((i + 1 : Nat) : Int) := by rw [wrap_in (by omega) (by omega)]; rfl
          have hii : c.inn a = a := if_neg k5
          rw [hii] at ih
          try (simp [Cd.cells_eq])
          repeat ((repeat (first | refine AL.seq ?_ | refine AL.block ?_ | refine AL.skip ?_ | refine AL.blk ?_)); (refine AL.region follows_Tryz (Nat.le_refl _) (by kernel_rfl) ?_); simp [Cd.cells_eq])
          repeat (first | refine AL.seq ?_ | refine AL.block ?_ | refine AL.skip ?_ | refine AL.blk ?_)
          refine AL.cond ?_
          simp
          refine ⟨fun hlt => ?_, fun hge => ?_⟩
          · have hS := seqL_take (sgF b m) c.kids u hlt
            have ihx := ih _ (List.getElem_mem hlt) b hbf hbv m hm (seqL (sgF b m) (c.kids.take i) u).2 ks
            have hsh : ∀ q, sgF b m c.kids[i] q = ([(c.kids[i].shg b m q).1], (c.kids[i].shg b m q).2) := fun q => rfl
            rw [hsh] at hS
            have hne9 : nb + 9 ≠ ks := by omega
            repeat (first | refine AL.seq ?_ | refine AL.block ?_ | refine AL.skip ?_ | refine AL.blk ?_)
            refine AL.region3 follows_Tryz (Nat.le_refl _) (by kernel_rfl) (Side.of (by simp)) [(Operand.tmp 50, Operand.tmp 52)] (by kernel_rfl) ?_
            simp [hlt, Cd.cells_eq, lb_out kn, upd_lb_out kn, upd_same]
            refine StopW.of_w rfl rfl (by simp only; rw [lb_out kn, upd_same]; simp) (fun box' nb' hb' => (ihx box' (by rw [hb']; simp only; rw [lb_out kn, upd_same]) nb' tok1 nt1).mono fun v m1 hq => ⟨hq.1, hq.2⟩) ?_
            simp [lb_out kn, upd_lb_out kn, upd_same, upd_upd, NK, hne9]
            refine ⟨⟨?_, htk.live⟩, ?_⟩
            · have := sgF_len b m (c.kids.take i) u
              rw [List.length_take] at this
              omega
            try (simp [hw1])
            repeat ((repeat (first | refine AL.seq ?_ | refine AL.block ?_ | refine AL.skip ?_ | refine AL.blk ?_)); (refine AL.region follows_Tryz (Nat.le_refl _) (by kernel_rfl) ?_); simp [hw1])
            repeat (first | refine AL.seq ?_ | refine AL.block ?_ | refine AL.skip ?_ | refine AL.blk ?_)
            refine AL.nil ?_
            refine ⟨⟨i + 1, .tok nt1, upd (own.kill tok1) nt1 true, nt1 + 1⟩, ⟨hlt, htk.app⟩, by simp only; omega, ?_⟩
            simp only [stGk, hS]
            refine Weaks.mk' (by have := htk.le; omega) ?_ ?_ outS
            · simp [ToL, lk]
              exact to_ptr (by rw [lb_out kn, upd_same]; simp)
            · simp [BoxL, lk, hS, Cd.cells_eq]
          · repeat (first | refine AL.seq ?_ | refine AL.block ?_ | refine AL.skip ?_ | refine AL.blk ?_)
            refine AL.exit ?_
            simp only [AU, ↓reduceIte]
            have : i = c.kids.length := by omega
            subst this
            try (simp)
            repeat ((repeat (first | refine AL.seq ?_ | refine AL.block ?_ | refine AL.skip ?_ | refine AL.blk ?_)); (refine AL.region follows_Tryz (Nat.le_refl _) (by kernel_rfl) ?_); simp)
            repeat (first | refine AL.seq ?_ | refine AL.block ?_ | refine AL.skip ?_ | refine AL.blk ?_)
            refine AL.ret ?_
            try simp only [AU]
            refine ⟨by simp, (Fin.gen (av := (cdOf c.kind (seqL (sgF b m) c.kids u).1).av) (tok' := tok) (nt' := nt) (by simp [resAs, resA, lk]; rfl) (by rw [← upd_lb_out kn, hbox]) (Nat.le_refl _) htk.le (fun t ht => ⟨htk.old t ht, .inr (htok t ht)⟩) outS (by simp [packA, cdOf, conds, ints, AM.edges, slots, tests, Cd.kind, Cd.kids, Cd.m, Cd.g, Cd.sl, Cd.vars, Cd.te])).mono fun v m hq => by rw [hR]; exact hq⟩
      · rw [if_pos h2] at hR
        have b2 : (u.2 != 0) = true := by simp [h2]
        try (simp [lb_out kn, upd_lb_out kn, upd_same, upd_upd, b2])
        repeat ((repeat (first | refine AL.seq ?_ | refine AL.block ?_ | refine AL.skip ?_ | refine AL.blk ?_)); (refine AL.region follows_Tryz (Nat.le_refl _) (by kernel_rfl) ?_); simp [lb_out kn, upd_lb_out kn, upd_same, upd_upd, b2])
        repeat (first | refine AL.seq ?_ | refine AL.block ?_ | refine AL.skip ?_ | refine AL.blk ?_)
        refine AL.cond ?_
        simp
        try (simp [lb_out kn, upd_lb_out kn, upd_same, upd_upd, b2])
        repeat ((repeat (first | refine AL.seq ?_ | refine AL.block ?_ | refine AL.skip ?_ | refine AL.blk ?_)); (refine AL.region follows_Tryz (Nat.le_refl _) (by kernel_rfl) ?_); simp [lb_out kn, upd_lb_out kn, upd_same, upd_upd, b2])
        refine Stop.of_d (true33_c _ _) ?_
        simp
        try (simp [lb_out kn, upd_lb_out kn, upd_same, upd_upd])
        repeat ((repeat (first | refine AL.seq ?_ | refine AL.block ?_ | refine AL.skip ?_ | refine AL.blk ?_)); (refine AL.region follows_Tryz (Nat.le_refl _) (by kernel_rfl) ?_); simp [lb_out kn, upd_lb_out kn, upd_same, upd_upd])
        repeat (first | refine AL.seq ?_ | refine AL.block ?_ | refine AL.skip ?_ | refine AL.blk ?_)
        refine AL.ret ?_
        try simp only [AU]
        refine ⟨by simp, (Fin.gen (av := (cdOf 1 []).av) (tok' := tok) (nt' := nt) (by simp [resAs, resA, lk]; rfl) (by rw [← upd_lb_out kn, hbox]) (Nat.le_refl _) (Nat.le_refl _) (fun t ht => ⟨ht, .inl rfl⟩) outS (by simp [packA, trueC, cdOf, conds, ints, AM.edges, slots, tests, Cd.kind, Cd.kids, Cd.m, Cd.g, Cd.sl, Cd.vars, Cd.te])).mono fun v m hq => by rw [hR]; exact hq⟩
end Go.AM
/-
  The reference's Same, at equal conditions without slots and tests.
-/
namespace Go.AM
open Go Go.Proofs
set_option linter.unusedSimpArgs false
set_option linter.unusedVariables false

/-- A condition without slots and tests. -/
inductive Cd.Bare : Cd → Prop
  | mk {c : Cd} (hs : c.sl = []) (ht : c.te = []) (h : ∀ x ∈ c.kids, Cd.Bare x) : Cd.Bare c
theorem Cd.Bare.sl {c : Cd} (h : c.Bare) : c.sl = [] := by cases h; assumption
theorem Cd.Bare.te {c : Cd} (h : c.Bare) : c.te = [] := by cases h; assumption
theorem Cd.Bare.kid {c : Cd} (h : c.Bare) : ∀ x ∈ c.kids, Cd.Bare x := by cases h; assumption
theorem bare_cdOf {k : Int} {l : List Cd} (h : ∀ x ∈ l, x.Bare) : (cdOf k l).Bare := .mk rfl rfl h
theorem shf_bare : ∀ (n : Nat) (c : Cd), SizeOf.sizeOf c < n → ∀ b m st, (c.shf b m st).1.Bare
  | 0, c, hn, _, _, _ => absurd hn (Nat.not_lt_zero _)
  | n + 1, c, hn, b, m, st => by
    have ih := fun x (hx : x ∈ c.kids) => shf_bare n x (by have := Cd.kid_lt hx; omega)
    rw [c.shf_eq]
    unfold shStep
    split
    · exact bare_cdOf (by simp)
    · split
      · refine bare_cdOf (seqL_all _ _ fun x hx s y hy => ?_)
        simp only [shF, List.mem_singleton] at hy
        subst hy
        exact ih x hx b m s
      · split
        · exact bare_cdOf (by simp)
        · refine bare_cdOf (seqL_all _ _ fun o ho s y hy => ?_)
          by_cases ha : agrO m c.m o = true
          · rw [ovF_yes ha] at hy
            simp only [List.mem_singleton] at hy
            subst hy
            refine .mk rfl rfl fun z hz => ?_
            have hz' : z = (Cd.shfH c.kids o.g o.r (inc s.1, s.2)).1 := by simpa [exOf, Cd.kids] using hz
            subst hz'
            cases hk : c.kids with
            | nil => exact bare_cdOf (by simp)
            | cons x r => exact ih x (by rw [hk]; simp) o.g _ _
          · rw [ovF_no ha] at hy
            simp at hy

def stS1 (c : Cd) (nb : Nat) (box : Nat → Option (List (List AV))) (tok : Nat → Bool) (nt s : Nat) (_ : Unit) : AState :=
  ⟨tl [(s, I 0), (2, .ptr (nb + 2) 0 0), (3, .ptr (nb + 3) 0 0)], lb nb box [(3, [c.row]), (2, [c.row])], tok, nt⟩
def stS3 (c : Cd) (nb : Nat) (box : Nat → Option (List (List AV))) (tok : Nat → Bool) (nt : Nat) (i : Nat) : AState :=
  ⟨tl [(7, I i), (2, .ptr (nb + 2) 0 0), (3, .ptr (nb + 3) 0 0)], lb nb box [(3, [c.row]), (2, [c.row])], tok, nt⟩
theorem same33_c : ∀ (n : Nat) (c : Cd), SizeOf.sizeOf c < n → c.Fit → c.Bare → ∀ (tok : Nat → Bool) (nt : Nat), DCall Tryz.prog 15 [c.av, c.av] tok nt (B true) tok nt
  | 0, c, hn, _, _, tok, nt => absurd hn (Nat.not_lt_zero _)
  | n + 1, c, hn, hf, hb, tok, nt => by
    intro box nb
    have ih := fun x (hx : x ∈ c.kids) => same33_c n x (by have := Cd.kid_lt hx; omega) (hf.kid x hx) (hb.kid x hx)
    have hkb := hf.kids
    rw [kidN_eq] at hkb
    have hm := same06_c c.m c.m hf.m
    have hg := same05_c c.g c.g hf.g
    have hs := hb.sl
    have ht := hb.te
    simp only [decide_true] at hm hg
    refine ACalls.of_body Tryz.func15 rfl (by kernel_rfl) follows_Tryz (by kernel_rfl) (by simp [Tryz.ntmps15]) ?_
    intro hbox htok
    simp only at hbox htok
    apply AL.start
    try (simp [hs, ht])
    repeat ((repeat (first | refine AL.seq ?_ | refine AL.block ?_ | refine AL.skip ?_ | refine AL.blk ?_)); (refine AL.region follows_Tryz (Nat.le_refl _) (by kernel_rfl) ?_); simp [hs, ht])
    refine Stop.of_d (hm _ _) ?_
    simp [hs, ht]
    refine Stop.of_d (hg _ _) ?_
    simp [hs, ht]
    try (simp [hs, ht])
    repeat ((repeat (first | refine AL.seq ?_ | refine AL.block ?_ | refine AL.skip ?_ | refine AL.blk ?_)); (refine AL.region follows_Tryz (Nat.le_refl _) (by kernel_rfl) ?_); simp [hs, ht])
    repeat (first | refine AL.seq ?_ | refine AL.block ?_ | refine AL.skip ?_ | refine AL.blk ?_)
    refine AL.cond ?_
    simp
    try (simp)
    repeat ((repeat (first | refine AL.seq ?_ | refine AL.block ?_ | refine AL.skip ?_ | refine AL.blk ?_)); (refine AL.region follows_Tryz (Nat.le_refl _) (by kernel_rfl) ?_); simp)
    repeat (first | refine AL.seq ?_ | refine AL.block ?_ | refine AL.skip ?_ | refine AL.blk ?_)
    refine AL.loopT (stS1 c nb box tok nt 5) (fun _ : Unit => True) (fun _ => 0) () trivial (Weaks.mk (Nat.le_refl _) rfl (by simp [ToL, lk]) (by simp [BoxL, lk])) ?_
    rintro ⟨⟩ S _ hS
    simp only [stS1] at hS
    subst hS
    try (simp [hs, ht])
    repeat ((repeat (first | refine AL.seq ?_ | refine AL.block ?_ | refine AL.skip ?_ | refine AL.blk ?_)); (refine AL.region follows_Tryz (Nat.le_refl _) (by kernel_rfl) ?_); simp [hs, ht])
    repeat (first | refine AL.seq ?_ | refine AL.block ?_ | refine AL.skip ?_ | refine AL.blk ?_)
    refine AL.cond ?_
    simp
    repeat (first | refine AL.seq ?_ | refine AL.block ?_ | refine AL.skip ?_ | refine AL.blk ?_)
    refine AL.exit ?_
    simp only [AU, ↓reduceIte]
    try (simp [hs, ht])
    repeat ((repeat (first | refine AL.seq ?_ | refine AL.block ?_ | refine AL.skip ?_ | refine AL.blk ?_)); (refine AL.region follows_Tryz (Nat.le_refl _) (by kernel_rfl) ?_); simp [hs, ht])
    repeat (first | refine AL.seq ?_ | refine AL.block ?_ | refine AL.skip ?_ | refine AL.blk ?_)
    refine AL.loopT (stS1 c nb box tok nt 6) (fun _ : Unit => True) (fun _ => 0) () trivial (Weaks.mk (Nat.le_refl _) rfl (by simp [ToL, lk]) (by simp [BoxL, lk])) ?_
    rintro ⟨⟩ S _ hS
    simp only [stS1] at hS
    subst hS
    try (simp [hs, ht])
    repeat ((repeat (first | refine AL.seq ?_ | refine AL.block ?_ | refine AL.skip ?_ | refine AL.blk ?_)); (refine AL.region follows_Tryz (Nat.le_refl _) (by kernel_rfl) ?_); simp [hs, ht])
    repeat (first | refine AL.seq ?_ | refine AL.block ?_ | refine AL.skip ?_ | refine AL.blk ?_)
    refine AL.cond ?_
    simp
    repeat (first | refine AL.seq ?_ | refine AL.block ?_ | refine AL.skip ?_ | refine AL.blk ?_)
    refine AL.exit ?_
    simp only [AU, ↓reduceIte]
    try (simp [hs, ht])
    repeat ((repeat (first | refine AL.seq ?_ | refine AL.block ?_ | refine AL.skip ?_ | refine AL.blk ?_)); (refine AL.region follows_Tryz (Nat.le_refl _) (by kernel_rfl) ?_); simp [hs, ht])
    repeat (first | refine AL.seq ?_ | refine AL.block ?_ | refine AL.skip ?_ | refine AL.blk ?_)
    refine AL.loopT (stS3 c nb box tok nt) (fun i => i ≤ c.kids.length) (fun i => c.kids.length - i) 0 (Nat.zero_le _) (Weaks.mk (Nat.le_refl _) rfl (by simp [ToL, lk]) (by simp [BoxL, lk])) ?_
    rintro i S hi hS
    simp only [stS3] at hS
    subst hS
    have hw : IntKind.i64.wrap (↑i + 1) = ((i + 1 : Nat) : Int) := by rw [wrap_in (by omega) (by omega)]; rfl
    try (simp)
    repeat ((repeat (first | refine AL.seq ?_ | refine AL.block ?_ | refine AL.skip ?_ | refine AL.blk ?_)); (refine AL.region follows_Tryz (Nat.le_refl _) (by kernel_rfl) ?_); simp)
    repeat (first | refine AL.seq ?_ | refine AL.block ?_ | refine AL.skip ?_ | refine AL.blk ?_)
    refine AL.cond ?_
    simp
    refine ⟨fun hlt => ?_, fun hge => ?_⟩
    · have ihx := ih _ (List.getElem_mem hlt)
      try (simp [hlt, Cd.cells_eq])
      repeat ((repeat (first | refine AL.seq ?_ | refine AL.block ?_ | refine AL.skip ?_ | refine AL.blk ?_)); (refine AL.region follows_Tryz (Nat.le_refl _) (by kernel_rfl) ?_); simp [hlt, Cd.cells_eq])
      generalize c.kids[i] = x at *
      refine Stop.of_d (ihx _ _) ?_
      simp
      try (simp)
      repeat ((repeat (first | refine AL.seq ?_ | refine AL.block ?_ | refine AL.skip ?_ | refine AL.blk ?_)); (refine AL.region follows_Tryz (Nat.le_refl _) (by kernel_rfl) ?_); simp)
      repeat (first | refine AL.seq ?_ | refine AL.block ?_ | refine AL.skip ?_ | refine AL.blk ?_)
      refine AL.cond ?_
      simp
      try (simp [hw])
      repeat ((repeat (first | refine AL.seq ?_ | refine AL.block ?_ | refine AL.skip ?_ | refine AL.blk ?_)); (refine AL.region follows_Tryz (Nat.le_refl _) (by kernel_rfl) ?_); simp [hw])
      repeat (first | refine AL.seq ?_ | refine AL.block ?_ | refine AL.skip ?_ | refine AL.blk ?_)
      refine AL.nil ?_
      exact ⟨i + 1, hlt, by omega, Weaks.mk (Nat.le_refl _) rfl (by simp [ToL, lk]) (by simp [BoxL, lk])⟩
    · repeat (first | refine AL.seq ?_ | refine AL.block ?_ | refine AL.skip ?_ | refine AL.blk ?_)
      refine AL.exit ?_
      simp only [AU, ↓reduceIte]
      try (simp)
      repeat ((repeat (first | refine AL.seq ?_ | refine AL.block ?_ | refine AL.skip ?_ | refine AL.blk ?_)); (refine AL.region follows_Tryz (Nat.le_refl _) (by kernel_rfl) ?_); simp)
      repeat (first | refine AL.seq ?_ | refine AL.block ?_ | refine AL.skip ?_ | refine AL.blk ?_)
      refine AL.ret ?_
      try simp only [AU]
      refine ⟨by simp, Fin.data (by simp [resAs, resA]; rfl) hbox rfl htok (fun _ h => h) (Nat.le_refl _) ?_⟩
      simp [packA]
end Go.AM
/-
  The law's grown; the reference's maker.
-/
namespace Go.AM
open Go Go.Proofs
set_option linter.unusedSimpArgs false
set_option linter.unusedVariables false

abbrev bytes (l : List Int) : D := .sl 1 (l.map fun n => [u8 n])
/-! ### The maker -/
end Go.AM
/-
  Graphs that go on, and conditions that codes describe, are valid and small.
-/
namespace Go.AM
open Go Go.Proofs
set_option linter.unusedSimpArgs false
set_option linter.unusedVariables false

/-! ### The condition that codes describe -/
/-! ### Shifting it -/
theorem arr_emb {a b : Gr} {m : Mo} (h : Emb a b m) : arrR a b m = 0 := by
  rw [arrR, if_neg (by simp [h.v]), if_pos h.inj]
end Go.AM
/-
  What the reference's Shift and Local compute is what the program's compute.
-/
namespace Go.AM
open Go Go.Proofs
set_option linter.unusedSimpArgs false
set_option linter.unusedVariables false

theorem shg_top {a b : Gr} {m : Mo} {c : Cd} (hv : c.ovr a = 0) (hm : Emb a b m) : (c.shg b m (2000, 0)).2.2 = (c.shf b m (0, 0)).2.2 ∧ ((c.shf b m (0, 0)).2.2 = 0 → (c.shf b m (0, 0)).1 = (c.shg b m (2000, 0)).1) := by
  obtain ⟨h1, h2⟩ := shg_rel _ c (Nat.lt_succ_self _) a hv b hm.vm.vb m (0, 0) (2000, 0) (.inl ⟨rfl, rfl, rfl, by decide, by decide⟩)
  refine ⟨?_, h2⟩
  rcases h1 with h | h
  · rw [h.1, h.2.1]
  · rw [h.1, h.2]
/-- What shifting makes without error is not too large. -/
theorem shf_small {a b : Gr} {m : Mo} {c : Cd} (hvc : validC a c = 0) (hm : Emb a b m) (h0 : (c.shf b m (0, 0)).2.2 = 0) : smallC (c.shf b m (0, 0)).1 = 0 := by
  obtain ⟨_, hv, hs⟩ := validC_ovr hvc
  have M := shf_made _ c (Nat.lt_succ_self _) a hv b m hm (0, 0) (by decide) (by decide) h0
  have h1 := M.cnt
  have h2 := M.le
  have h3 := M.dep
  have h4 := M.ge
  simp only at h1
  have e1 := Cd.meas_cnt c (by omega)
  have e2 := Cd.meas_cnt (c.shf b m (0, 0)).1 (by omega)
  rw [smallC, e1] at hs
  rw [smallC, e2]
  simp only at hs ⊢
  split at hs
  · cases hs
  · rename_i h5
    rw [if_neg (by omega)]
def shiftG (a b : Gr) (m : Mo) (c : Cd) : Cd × Int :=
  if arrR a b m ≠ 0 then (cdOf 0 [], arrR a b m) else if validC a c ≠ 0 then (cdOf 0 [], validC a c)
  else if (c.shg b m (2000, 0)).2.2 ≠ 0 then (cdOf 0 [], (c.shg b m (2000, 0)).2.2) else ((c.shg b m (2000, 0)).1, smallC (c.shg b m (2000, 0)).1)
theorem arr_ofI {a b : Gr} {m : Mo} (h : arrR a b m = 0) : Emb a b m := by
  unfold arrR at h
  split at h
  · contradiction
  · split at h
    · rename_i h2; exact Emb.of h2
    · cases h
theorem shiftG_eq (a b : Gr) (m : Mo) (c : Cd) : shiftG a b m c = shiftR a b m c := by
  unfold shiftG shiftR
  by_cases h0 : arrR a b m = 0
  · by_cases h1 : validC a c = 0
    · have hm := arr_ofI h0
      obtain ⟨t1, t2⟩ := shg_top (validC_ovr h1).2.1 hm
      unfold shdR
      rw [t1]
      by_cases h2 : (c.shf b m (0, 0)).2.2 = 0
      · have h3 := shf_small h1 hm h2
        rw [t2 h2] at h3 ⊢
        simp only [h0, h1, h2, h3, ne_eq, not_true_eq_false, ↓reduceIte]
      · simp only [h0, h1, h2, ne_eq, not_true_eq_false, not_false_eq_true, ↓reduceIte]
    · simp only [h0, h1, ne_eq, not_true_eq_false, not_false_eq_true, ↓reduceIte]
  · simp only [h0, ne_eq, not_false_eq_true, ↓reduceIte]
def localG (b : Gr) (c : Cd) : Cd × Int := if validG b ≠ 0 then (cdOf 0 [], validG b) else shiftG ⟨[], []⟩ b ⟨[], []⟩ c
theorem localG_eq (b : Gr) (c : Cd) : localG b c = localR b c := by
  unfold localG localR
  by_cases h0 : validG b = 0
  · have h1 := arr_emb (emb_nil h0)
    simp only [h0, h1, shiftG_eq, shiftR, ne_eq, not_true_eq_false, ↓reduceIte]
  · simp only [h0, ne_eq, not_false_eq_true, ↓reduceIte]
theorem nil_fb (k : Int) : (cdOf k []).Fit ∧ (cdOf k []).Bare := ⟨cdOf_fit (by rw [kidN_eq]; simp) (by simp), bare_cdOf (by simp)⟩
theorem shiftR_fb {a b : Gr} {m : Mo} {c : Cd} (hf : c.Fit) (hb : b.Fit) : (shiftR a b m c).1.Fit ∧ (shiftR a b m c).1.Bare := by
  unfold shiftR
  by_cases h0 : arrR a b m = 0
  · by_cases h1 : validC a c = 0
    · have hm := arr_ofI h0
      unfold shdR
      by_cases h2 : (c.shf b m (0, 0)).2.2 = 0
      · simp only [h0, h1, h2, ne_eq, not_true_eq_false, ↓reduceIte]
        exact ⟨shf_fit _ c (Nat.lt_succ_self _) hf b hb hm.vm.vb m _, shf_bare _ c (Nat.lt_succ_self _) b m _⟩
      · simp only [h0, h1, h2, ne_eq, not_true_eq_false, ↓reduceIte]
        exact nil_fb 0
    · simp only [h0, h1, ne_eq, not_true_eq_false, not_false_eq_true, ↓reduceIte]
      exact nil_fb 0
  · simp only [h0, ne_eq, not_false_eq_true, ↓reduceIte]
    exact nil_fb 0
theorem localR_fb {b : Gr} {c : Cd} (hf : c.Fit) (hb : b.Fit) : (localR b c).1.Fit ∧ (localR b c).1.Bare := by
  rw [← localG_eq]
  unfold localG
  by_cases h0 : validG b = 0
  · simp only [h0, ne_eq, not_true_eq_false, ↓reduceIte]
    rw [shiftG_eq]
    exact shiftR_fb hf hb
  · simp only [h0, ne_eq, not_false_eq_true, ↓reduceIte]
    exact nil_fb 0
end Go.AM
/-
  The reference's Made; the law's parts.
-/
namespace Go.AM
open Go Go.Proofs
set_option linter.unusedSimpArgs false
set_option linter.unusedVariables false

end Go.AM
/-
  The law about the meaning of shifting.
-/
namespace Go.AM
open Go Go.Proofs
set_option linter.unusedSimpArgs false
set_option linter.unusedVariables false

end Go.AM
/-
  The reference's Shift and Local; the laws about Shift and Local.
-/
namespace Go.AM
open Go Go.Proofs
set_option linter.unusedSimpArgs false
set_option linter.unusedVariables false

theorem refShiftTop_c (a b : Gr) (m : Mo) (c : Cd) (ha : a.Fit) (hb : b.Fit) (hm : m.Fit) (hc : c.Fit) (tok : Nat → Bool) (nt : Nat) :
    DCall Tryz.prog 14 [a.av, b.av, m.av, c.av] tok nt (.tup [(shiftR a b m c).1.av, I (shiftR a b m c).2]) tok nt := by
  intro box nb
  have hi := arrow33_c a b m ha hb hm
  have hv := validR_c a c ha hc
  rw [← shiftG_eq]
  refine ACalls.of_body Tryz.func14 rfl (by kernel_rfl) follows_Tryz (by kernel_rfl) (by simp [Tryz.ntmps14]) ?_
  intro hbox htok
  simp only at hbox htok
  apply AL.start
  try (simp)
  repeat ((repeat (first | refine AL.seq ?_ | refine AL.block ?_ | refine AL.skip ?_ | refine AL.blk ?_)); (refine AL.region follows_Tryz (Nat.le_refl _) (by kernel_rfl) ?_); simp)
  refine Stop.of_d (hi _ _) ?_
  simp
  try (simp)
  repeat ((repeat (first | refine AL.seq ?_ | refine AL.block ?_ | refine AL.skip ?_ | refine AL.blk ?_)); (refine AL.region follows_Tryz (Nat.le_refl _) (by kernel_rfl) ?_); simp)
  by_cases h0 : arrR a b m = 0
  · simp only [h0]
    repeat (first | refine AL.seq ?_ | refine AL.block ?_ | refine AL.skip ?_ | refine AL.blk ?_)
    refine AL.cond ?_
    simp
    try (simp)
    repeat ((repeat (first | refine AL.seq ?_ | refine AL.block ?_ | refine AL.skip ?_ | refine AL.blk ?_)); (refine AL.region follows_Tryz (Nat.le_refl _) (by kernel_rfl) ?_); simp)
    refine Stop.of_d (hv _ _) ?_
    simp
    try (simp)
    repeat ((repeat (first | refine AL.seq ?_ | refine AL.block ?_ | refine AL.skip ?_ | refine AL.blk ?_)); (refine AL.region follows_Tryz (Nat.le_refl _) (by kernel_rfl) ?_); simp)
    by_cases h1 : validC a c = 0
    · simp only [h1]
      repeat (first | refine AL.seq ?_ | refine AL.block ?_ | refine AL.skip ?_ | refine AL.blk ?_)
      refine AL.cond ?_
      simp
      try (simp)
      repeat ((repeat (first | refine AL.seq ?_ | refine AL.block ?_ | refine AL.skip ?_ | refine AL.blk ?_)); (refine AL.region follows_Tryz (Nat.le_refl _) (by kernel_rfl) ?_); simp)
      have hs := refShift_c _ c (Nat.lt_succ_self _) hc a (validC_ovr h1).2.1 b hb (validM_VM (arrR_valid h0).1).vb m (Inn.of (arrR_valid h0).1) (2000, 0)
      obtain ⟨r, hr⟩ : ∃ r, c.shg b m (2000, 0) = r := ⟨_, rfl⟩
      have htop := shg_top (validC_ovr h1).2.1 (arr_ofI h0)
      rw [hr] at hs htop
      have hfit : r.2.2 = 0 → r.1.Fit := fun hz => by
        rw [← htop.2 (by rw [← htop.1]; exact hz)]
        exact shf_fit _ c (Nat.lt_succ_self _) hc b hb (validM_VM (arrR_valid h0).1).vb m _
      have hR : shiftG a b m c = if r.2.2 ≠ 0 then (cdOf 0 [], r.2.2) else (r.1, smallC r.1) := by rw [shiftG, if_neg (by simp [h0]), if_neg (by simp [h1]), hr]
      refine Stop.of_a (hs (nb + 30) _ (by simp [lb_at]) _ _ _) ?_
      rintro v m' ⟨rfl, rfl⟩
      simp
      try (simp)
      repeat ((repeat (first | refine AL.seq ?_ | refine AL.block ?_ | refine AL.skip ?_ | refine AL.blk ?_)); (refine AL.region follows_Tryz (Nat.le_refl _) (by kernel_rfl) ?_); simp)
      by_cases he : r.2.2 = 0
      · rw [if_neg (by simp [he])] at hR
        have be : (r.2.2 != 0) = false := by simp [he]
        have hl := large32_c r.1 (hfit he).big
        simp only [be]
        repeat (first | refine AL.seq ?_ | refine AL.block ?_ | refine AL.skip ?_ | refine AL.blk ?_)
        refine AL.cond ?_
        simp
        try (simp)
        repeat ((repeat (first | refine AL.seq ?_ | refine AL.block ?_ | refine AL.skip ?_ | refine AL.blk ?_)); (refine AL.region follows_Tryz (Nat.le_refl _) (by kernel_rfl) ?_); simp)
        refine Stop.of_d (hl _ _) ?_
        simp
        try (simp)
        repeat ((repeat (first | refine AL.seq ?_ | refine AL.block ?_ | refine AL.skip ?_ | refine AL.blk ?_)); (refine AL.region follows_Tryz (Nat.le_refl _) (by kernel_rfl) ?_); simp)
        repeat (first | refine AL.seq ?_ | refine AL.block ?_ | refine AL.skip ?_ | refine AL.blk ?_)
        refine AL.ret ?_
        try simp only [AU]
        refine ⟨by simp, Fin.data (by simp [resAs, resA]; rfl) hbox rfl htok (fun _ h => h) (Nat.le_refl _) ?_⟩
        simp [packA, hR]
      · rw [if_pos (by simp [he])] at hR
        have be : (r.2.2 != 0) = true := by simp [he]
        simp only [be]
        repeat (first | refine AL.seq ?_ | refine AL.block ?_ | refine AL.skip ?_ | refine AL.blk ?_)
        refine AL.cond ?_
        simp
        repeat (first | refine AL.seq ?_ | refine AL.block ?_ | refine AL.skip ?_ | refine AL.blk ?_)
        refine AL.region2 follows_Tryz (Nat.le_refl _) (by kernel_rfl) (Side.of (by simp)) ?_
        simp
        try (simp)
        repeat ((repeat (first | refine AL.seq ?_ | refine AL.block ?_ | refine AL.skip ?_ | refine AL.blk ?_)); (refine AL.region follows_Tryz (Nat.le_refl _) (by kernel_rfl) ?_); simp)
        repeat (first | refine AL.seq ?_ | refine AL.block ?_ | refine AL.skip ?_ | refine AL.blk ?_)
        refine AL.ret ?_
        try simp only [AU]
        refine ⟨by simp, Fin.data (by simp [resAs, resA]; rfl) hbox rfl htok (fun _ h => h) (Nat.le_refl _) ?_⟩
        simp [packA, hR, cdOf, conds, ints, AM.edges, slots, tests, Cd.kind, Cd.kids, Cd.m, Cd.g, Cd.sl, Cd.vars, Cd.te]
    · have b1 : (validC a c != 0) = true := by simp [h1]
      simp only [b1]
      repeat (first | refine AL.seq ?_ | refine AL.block ?_ | refine AL.skip ?_ | refine AL.blk ?_)
      refine AL.cond ?_
      simp
      try (simp)
      repeat ((repeat (first | refine AL.seq ?_ | refine AL.block ?_ | refine AL.skip ?_ | refine AL.blk ?_)); (refine AL.region follows_Tryz (Nat.le_refl _) (by kernel_rfl) ?_); simp)
      repeat (first | refine AL.seq ?_ | refine AL.block ?_ | refine AL.skip ?_ | refine AL.blk ?_)
      refine AL.ret ?_
      try simp only [AU]
      refine ⟨by simp, Fin.data (by simp [resAs, resA]; rfl) hbox rfl htok (fun _ h => h) (Nat.le_refl _) ?_⟩
      simp [packA, shiftG, h0, h1, cdOf, conds, ints, AM.edges, slots, tests, Cd.kind, Cd.kids, Cd.m, Cd.g, Cd.sl, Cd.vars, Cd.te]
  · have b0 : (arrR a b m != 0) = true := by simp [h0]
    simp only [b0]
    repeat (first | refine AL.seq ?_ | refine AL.block ?_ | refine AL.skip ?_ | refine AL.blk ?_)
    refine AL.cond ?_
    simp
    try (simp)
    repeat ((repeat (first | refine AL.seq ?_ | refine AL.block ?_ | refine AL.skip ?_ | refine AL.blk ?_)); (refine AL.region follows_Tryz (Nat.le_refl _) (by kernel_rfl) ?_); simp)
    repeat (first | refine AL.seq ?_ | refine AL.block ?_ | refine AL.skip ?_ | refine AL.blk ?_)
    refine AL.ret ?_
    try simp only [AU]
    refine ⟨by simp, Fin.data (by simp [resAs, resA]; rfl) hbox rfl htok (fun _ h => h) (Nat.le_refl _) ?_⟩
    simp [packA, shiftG, h0, cdOf, conds, ints, AM.edges, slots, tests, Cd.kind, Cd.kids, Cd.m, Cd.g, Cd.sl, Cd.vars, Cd.te]
theorem refLocal_c (b : Gr) (c : Cd) (hb : b.Fit) (hc : c.Fit) (tok : Nat → Bool) (nt : Nat) :
    DCall Tryz.prog 18 [b.av, c.av] tok nt (.tup [(localR b c).1.av, I (localR b c).2]) tok nt := by
  intro box nb
  have hv := valid05_c b hb
  have hs := refShiftTop_c ⟨[], []⟩ b ⟨[], []⟩ c fit_nil hb fit_nilM hc
  rw [← shiftG_eq] at hs
  rw [← localG_eq]
  refine ACalls.of_body Tryz.func18 rfl (by kernel_rfl) follows_Tryz (by kernel_rfl) (by simp [Tryz.ntmps18]) ?_
  intro hbox htok
  simp only at hbox htok
  apply AL.start
  try (simp)
  repeat ((repeat (first | refine AL.seq ?_ | refine AL.block ?_ | refine AL.skip ?_ | refine AL.blk ?_)); (refine AL.region follows_Tryz (Nat.le_refl _) (by kernel_rfl) ?_); simp)
  refine Stop.of_d (hv _ _) ?_
  simp
  try (simp)
  repeat ((repeat (first | refine AL.seq ?_ | refine AL.block ?_ | refine AL.skip ?_ | refine AL.blk ?_)); (refine AL.region follows_Tryz (Nat.le_refl _) (by kernel_rfl) ?_); simp)
  by_cases h0 : validG b = 0
  · simp only [h0]
    repeat (first | refine AL.seq ?_ | refine AL.block ?_ | refine AL.skip ?_ | refine AL.blk ?_)
    refine AL.cond ?_
    simp
    try (simp)
    repeat ((repeat (first | refine AL.seq ?_ | refine AL.block ?_ | refine AL.skip ?_ | refine AL.blk ?_)); (refine AL.region follows_Tryz (Nat.le_refl _) (by kernel_rfl) ?_); simp)
    refine Stop.sub (args' := [.agg [.d (ints []), .d (edges [])], b.av, .agg [.d (ints []), .d (ints [])], c.av]) ⟨Sub.agg ⟨Sub.nil _ _ _, Sub.nil _ _ _, trivial⟩, Sub.refl _, Sub.agg ⟨Sub.nil _ _ _, Sub.nil _ _ _, trivial⟩, Sub.refl _, trivial⟩ ?_
    refine Stop.of_d (hs _ _) ?_
    simp
    try (simp)
    repeat ((repeat (first | refine AL.seq ?_ | refine AL.block ?_ | refine AL.skip ?_ | refine AL.blk ?_)); (refine AL.region follows_Tryz (Nat.le_refl _) (by kernel_rfl) ?_); simp)
    repeat (first | refine AL.seq ?_ | refine AL.block ?_ | refine AL.skip ?_ | refine AL.blk ?_)
    refine AL.ret ?_
    try simp only [AU]
    refine ⟨by simp, Fin.data (by simp [resAs, resA]; rfl) hbox rfl htok (fun _ h => h) (Nat.le_refl _) ?_⟩
    simp [packA, localG, h0]
  · have b0 : (validG b != 0) = true := by simp [h0]
    simp only [b0]
    repeat (first | refine AL.seq ?_ | refine AL.block ?_ | refine AL.skip ?_ | refine AL.blk ?_)
    refine AL.cond ?_
    simp
    try (simp)
    repeat ((repeat (first | refine AL.seq ?_ | refine AL.block ?_ | refine AL.skip ?_ | refine AL.blk ?_)); (refine AL.region follows_Tryz (Nat.le_refl _) (by kernel_rfl) ?_); simp)
    repeat (first | refine AL.seq ?_ | refine AL.block ?_ | refine AL.skip ?_ | refine AL.blk ?_)
    refine AL.ret ?_
    try simp only [AU]
    refine ⟨by simp, Fin.data (by simp [resAs, resA]; rfl) hbox rfl htok (fun _ h => h) (Nat.le_refl _) ?_⟩
    simp [packA, localG, h0, cdOf, conds, ints, AM.edges, slots, tests, Cd.kind, Cd.kids, Cd.m, Cd.g, Cd.sl, Cd.vars, Cd.te]
set_option maxRecDepth 100000 in
theorem lawLocal_c (b : Gr) (c : Cd) (hb : c.Big) (tok : Nat → Bool) (nt : Nat) : ∃ tok' nt', DCall Tryz.prog 5 [b.av, c.av] tok nt (B true) tok' nt' := by
  refine ⟨tok, nt, ?_⟩
  intro box nb
  have hl := light_c ⟨[], []⟩ c hb
  have hfx := few05_c b
  refine ACalls.of_body Tryz.func5 rfl (by kernel_rfl) follows_Tryz (by kernel_rfl) (by simp [Tryz.ntmps5]) ?_
  intro hbox htok
  simp only at hbox htok
  apply AL.start
  try (simp)
  repeat ((repeat (first | refine AL.seq ?_ | refine AL.block ?_ | refine AL.skip ?_ | refine AL.blk ?_)); (refine AL.region follows_Tryz (Nat.le_refl _) (by kernel_rfl) ?_); simp)
  refine Stop.of_d (awake33_c _ _) ?_
  simp
  try (simp)
  repeat ((repeat (first | refine AL.seq ?_ | refine AL.block ?_ | refine AL.skip ?_ | refine AL.blk ?_)); (refine AL.region follows_Tryz (Nat.le_refl _) (by kernel_rfl) ?_); simp)
  refine Stop.sub (args' := [.agg [.d (ints []), .d (edges [])], c.av]) ⟨Sub.agg ⟨Sub.nil _ _ _, Sub.nil _ _ _, trivial⟩, Sub.refl _, trivial⟩ ?_
  refine Stop.of_d (hl _ _) ?_
  simp
  by_cases h : lightB ⟨[], []⟩ c = true
  · obtain ⟨ha, hc⟩ := lightB_fit hb h
    rw [h]
    try (simp)
    repeat ((repeat (first | refine AL.seq ?_ | refine AL.block ?_ | refine AL.skip ?_ | refine AL.blk ?_)); (refine AL.region follows_Tryz (Nat.le_refl _) (by kernel_rfl) ?_); simp)
    refine Stop.of_d (hfx _ _) ?_
    simp
    try (simp)
    repeat ((repeat (first | refine AL.seq ?_ | refine AL.block ?_ | refine AL.skip ?_ | refine AL.blk ?_)); (refine AL.region follows_Tryz (Nat.le_refl _) (by kernel_rfl) ?_); simp)
    by_cases h2 : fewG b = true
    · rw [h2]
      have hxf : b.Fit := fewG_fit h2
      have hvg := valid05_c b hxf
      have hcx := copied_c b hxf
      have s1 := cdLocal_c b c hxf hc
      have s2 := refLocal_c b c hxf hc
      have hfb := localR_fb (b := b) hc hxf
      have sm := same33_c _ (localR b c).1 (Nat.lt_succ_self _) hfb.1 hfb.2
      generalize localR b c = r at *
      try (simp)
      repeat ((repeat (first | refine AL.seq ?_ | refine AL.block ?_ | refine AL.skip ?_ | refine AL.blk ?_)); (refine AL.region follows_Tryz (Nat.le_refl _) (by kernel_rfl) ?_); simp)
      refine Stop.of_d (hvg _ _) ?_
      simp
      by_cases hv : validG b = 0
      · by_cases n6 : 2 < (b.nodes.length : Int)
        · try (simp [hv, n6])
          repeat ((repeat (first | refine AL.seq ?_ | refine AL.block ?_ | refine AL.skip ?_ | refine AL.blk ?_)); (refine AL.region follows_Tryz (Nat.le_refl _) (by kernel_rfl) ?_); simp [hv, n6])
          repeat (first | refine AL.seq ?_ | refine AL.block ?_ | refine AL.skip ?_ | refine AL.blk ?_)
          refine AL.cond ?_
          simp
          try (simp)
          repeat ((repeat (first | refine AL.seq ?_ | refine AL.block ?_ | refine AL.skip ?_ | refine AL.blk ?_)); (refine AL.region follows_Tryz (Nat.le_refl _) (by kernel_rfl) ?_); simp)
          refine Stop.of_d (awake33_c _ _) ?_
          simp
          try (simp)
          repeat ((repeat (first | refine AL.seq ?_ | refine AL.block ?_ | refine AL.skip ?_ | refine AL.blk ?_)); (refine AL.region follows_Tryz (Nat.le_refl _) (by kernel_rfl) ?_); simp)
          repeat (first | refine AL.seq ?_ | refine AL.block ?_ | refine AL.skip ?_ | refine AL.blk ?_)
          refine AL.ret ?_
          try simp only [AU]
          refine ⟨by simp, Fin.data (by simp [resAs, resA]; rfl) hbox rfl htok (fun _ h => h) (Nat.le_refl _) ?_⟩
          simp [packA]
        · by_cases e8 : 2 < (b.edges.length : Int)
          · try (simp [hv, n6, e8])
            repeat ((repeat (first | refine AL.seq ?_ | refine AL.block ?_ | refine AL.skip ?_ | refine AL.blk ?_)); (refine AL.region follows_Tryz (Nat.le_refl _) (by kernel_rfl) ?_); simp [hv, n6, e8])
            repeat (first | refine AL.seq ?_ | refine AL.block ?_ | refine AL.skip ?_ | refine AL.blk ?_)
            refine AL.cond ?_
            simp
            try (simp)
            repeat ((repeat (first | refine AL.seq ?_ | refine AL.block ?_ | refine AL.skip ?_ | refine AL.blk ?_)); (refine AL.region follows_Tryz (Nat.le_refl _) (by kernel_rfl) ?_); simp)
            refine Stop.of_d (awake33_c _ _) ?_
            simp
            try (simp)
            repeat ((repeat (first | refine AL.seq ?_ | refine AL.block ?_ | refine AL.skip ?_ | refine AL.blk ?_)); (refine AL.region follows_Tryz (Nat.le_refl _) (by kernel_rfl) ?_); simp)
            repeat (first | refine AL.seq ?_ | refine AL.block ?_ | refine AL.skip ?_ | refine AL.blk ?_)
            refine AL.ret ?_
            try simp only [AU]
            refine ⟨by simp, Fin.data (by simp [resAs, resA]; rfl) hbox rfl htok (fun _ h => h) (Nat.le_refl _) ?_⟩
            simp [packA]
          · try (simp [hv, n6, e8])
            repeat ((repeat (first | refine AL.seq ?_ | refine AL.block ?_ | refine AL.skip ?_ | refine AL.blk ?_)); (refine AL.region follows_Tryz (Nat.le_refl _) (by kernel_rfl) ?_); simp [hv, n6, e8])
            repeat (first | refine AL.seq ?_ | refine AL.block ?_ | refine AL.skip ?_ | refine AL.blk ?_)
            refine AL.cond ?_
            simp
            try (simp)
            repeat ((repeat (first | refine AL.seq ?_ | refine AL.block ?_ | refine AL.skip ?_ | refine AL.blk ?_)); (refine AL.region follows_Tryz (Nat.le_refl _) (by kernel_rfl) ?_); simp)
            refine Stop.of_d (hcx _ _) ?_
            simp
            refine Stop.data ?_
            have htk := (TK.start htok).full.app.full.app
            refine Stop.of_d (s1 _ _) ?_
            simp
            try (simp)
            repeat ((repeat (first | refine AL.seq ?_ | refine AL.block ?_ | refine AL.skip ?_ | refine AL.blk ?_)); (refine AL.region follows_Tryz (Nat.le_refl _) (by kernel_rfl) ?_); simp)
            refine Stop.of_d (s2 _ _) ?_
            simp
            try (simp)
            repeat ((repeat (first | refine AL.seq ?_ | refine AL.block ?_ | refine AL.skip ?_ | refine AL.blk ?_)); (refine AL.region follows_Tryz (Nat.le_refl _) (by kernel_rfl) ?_); simp)
            refine Stop.of_d (sm _ _) ?_
            simp
            try (simp)
            repeat ((repeat (first | refine AL.seq ?_ | refine AL.block ?_ | refine AL.skip ?_ | refine AL.blk ?_)); (refine AL.region follows_Tryz (Nat.le_refl _) (by kernel_rfl) ?_); simp)
            repeat (first | refine AL.seq ?_ | refine AL.block ?_ | refine AL.skip ?_ | refine AL.blk ?_)
            refine AL.ret ?_
            try simp only [AU]
            refine ⟨by simp, Fin.data (by simp [resAs, resA]; rfl) hbox rfl htok htk.old htk.le ?_⟩
            simp [packA, ]
      · have bv : (validG b == 0) = false := by simp [hv]
        try (simp [bv])
        repeat ((repeat (first | refine AL.seq ?_ | refine AL.block ?_ | refine AL.skip ?_ | refine AL.blk ?_)); (refine AL.region follows_Tryz (Nat.le_refl _) (by kernel_rfl) ?_); simp [bv])
        repeat (first | refine AL.seq ?_ | refine AL.block ?_ | refine AL.skip ?_ | refine AL.blk ?_)
        refine AL.cond ?_
        simp
        try (simp)
        repeat ((repeat (first | refine AL.seq ?_ | refine AL.block ?_ | refine AL.skip ?_ | refine AL.blk ?_)); (refine AL.region follows_Tryz (Nat.le_refl _) (by kernel_rfl) ?_); simp)
        refine Stop.of_d (hcx _ _) ?_
        simp
        refine Stop.data ?_
        have htk := (TK.start htok).full.app.full.app
        refine Stop.of_d (s1 _ _) ?_
        simp
        try (simp)
        repeat ((repeat (first | refine AL.seq ?_ | refine AL.block ?_ | refine AL.skip ?_ | refine AL.blk ?_)); (refine AL.region follows_Tryz (Nat.le_refl _) (by kernel_rfl) ?_); simp)
        refine Stop.of_d (s2 _ _) ?_
        simp
        try (simp)
        repeat ((repeat (first | refine AL.seq ?_ | refine AL.block ?_ | refine AL.skip ?_ | refine AL.blk ?_)); (refine AL.region follows_Tryz (Nat.le_refl _) (by kernel_rfl) ?_); simp)
        refine Stop.of_d (sm _ _) ?_
        simp
        try (simp)
        repeat ((repeat (first | refine AL.seq ?_ | refine AL.block ?_ | refine AL.skip ?_ | refine AL.blk ?_)); (refine AL.region follows_Tryz (Nat.le_refl _) (by kernel_rfl) ?_); simp)
        repeat (first | refine AL.seq ?_ | refine AL.block ?_ | refine AL.skip ?_ | refine AL.blk ?_)
        refine AL.ret ?_
        try simp only [AU]
        refine ⟨by simp, Fin.data (by simp [resAs, resA]; rfl) hbox rfl htok htk.old htk.le ?_⟩
        simp [packA, ]
    · have h' : fewG b = false := by simpa using h2
      rw [h']
      try (simp)
      repeat ((repeat (first | refine AL.seq ?_ | refine AL.block ?_ | refine AL.skip ?_ | refine AL.blk ?_)); (refine AL.region follows_Tryz (Nat.le_refl _) (by kernel_rfl) ?_); simp)
      repeat (first | refine AL.seq ?_ | refine AL.block ?_ | refine AL.skip ?_ | refine AL.blk ?_)
      refine AL.cond ?_
      simp
      try (simp)
      repeat ((repeat (first | refine AL.seq ?_ | refine AL.block ?_ | refine AL.skip ?_ | refine AL.blk ?_)); (refine AL.region follows_Tryz (Nat.le_refl _) (by kernel_rfl) ?_); simp)
      refine Stop.of_d (awake33_c _ _) ?_
      simp
      try (simp)
      repeat ((repeat (first | refine AL.seq ?_ | refine AL.block ?_ | refine AL.skip ?_ | refine AL.blk ?_)); (refine AL.region follows_Tryz (Nat.le_refl _) (by kernel_rfl) ?_); simp)
      repeat (first | refine AL.seq ?_ | refine AL.block ?_ | refine AL.skip ?_ | refine AL.blk ?_)
      refine AL.ret ?_
      try simp only [AU]
      refine ⟨by simp, Fin.data (by simp [resAs, resA]; rfl) hbox rfl htok (fun _ h => h) (Nat.le_refl _) ?_⟩
      simp [packA]
  · have h' : lightB ⟨[], []⟩ c = false := by simpa using h
    rw [h']
    try (simp)
    repeat ((repeat (first | refine AL.seq ?_ | refine AL.block ?_ | refine AL.skip ?_ | refine AL.blk ?_)); (refine AL.region follows_Tryz (Nat.le_refl _) (by kernel_rfl) ?_); simp)
    repeat (first | refine AL.seq ?_ | refine AL.block ?_ | refine AL.skip ?_ | refine AL.blk ?_)
    refine AL.cond ?_
    simp
    try (simp)
    repeat ((repeat (first | refine AL.seq ?_ | refine AL.block ?_ | refine AL.skip ?_ | refine AL.blk ?_)); (refine AL.region follows_Tryz (Nat.le_refl _) (by kernel_rfl) ?_); simp)
    refine Stop.of_d (awake33_c _ _) ?_
    simp
    try (simp)
    repeat ((repeat (first | refine AL.seq ?_ | refine AL.block ?_ | refine AL.skip ?_ | refine AL.blk ?_)); (refine AL.region follows_Tryz (Nat.le_refl _) (by kernel_rfl) ?_); simp)
    repeat (first | refine AL.seq ?_ | refine AL.block ?_ | refine AL.skip ?_ | refine AL.blk ?_)
    refine AL.ret ?_
    try simp only [AU]
    refine ⟨by simp, Fin.data (by simp [resAs, resA]; rfl) hbox rfl htok (fun _ h => h) (Nat.le_refl _) ?_⟩
    simp [packA]
end Go.AM
