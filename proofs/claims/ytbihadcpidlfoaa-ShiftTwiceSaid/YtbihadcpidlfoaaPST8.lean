import Derived.Test.YtbihadcpidlfoaaPST7
/-
  shift.shifter.shift.
-/
namespace Go.AM
open Go Go.Proofs
set_option linter.unusedSimpArgs false
set_option linter.unusedVariables false

def QSh (r : Cd × St2) (ks : Nat) (box : Nat → Option (List (List AV))) (nb : Nat) (tok : Nat → Bool) (nt : Nat) (v : AV) (m : AMem) : Prop :=
  v = r.1.av ∧ m = ⟨upd box ks (some [[I r.2.1, I r.2.2]]), nb, tok, nt⟩

theorem shF_len (b : Gr) (m : Mo) : ∀ (l : List Cd) (st : St2), (seqL (shF b m) l st).1.length = l.length
  | [], st => rfl
  | x :: r, st => by
    simp only [seqL, shF, List.length_append, List.length_cons, List.length_nil, shF_len b m r]
    omega

theorem outS {a b : Int} {box : Nat → Option (List (List AV))} {k base : Nat} {p q : Nat → Prop} : ∀ k' rows, k' < base → (upd box k (some [[I a, I b]])) k' = some rows → box k' = some rows ∨ ∀ r ∈ rows, ∀ x ∈ r, OkIn p q x := by
  intro k' rows hk' hr
  by_cases e : k' = k
  · subst e
    rw [upd_same] at hr
    cases hr
    exact .inr (by simp)
  · rw [upd_other _ _ e] at hr
    exact .inl hr

abbrev nilS : AV := .osl 0 [] .full
abbrev z0i : AV := .d (.raw (.int .i64 0))
def stSk (c : Cd) (b : Gr) (m : Mo) (u : St2) (ks nb : Nat) (box : Nat → Option (List (List AV))) (x : Acc) : AState :=
  ⟨tl [(45, .d (conds c.kids)), (46, I c.kids.length), (47, I x.i), (9, .ptr (nb + 9) 0 0), (0, .ptr ks 0 0), (5, .ptr (nb + 5) 0 0), (6, .ptr (nb + 6) 0 0), (8, .ptr (nb + 8) 0 0)],
    lb nb (upd box ks (some [[I (seqL (shF b m) (c.kids.take x.i) u).2.1, I (seqL (shF b m) (c.kids.take x.i) u).2.2]]))
      [(9, [[I c.kind, .osl 9 ((seqL (shF b m) (c.kids.take x.i) u).1.map Cd.cells) x.own, nilS, nilS, nilS, nilS, nilS, z0i, nilS]]), (5, [b.cells2]), (6, [m.cells2]), (8, [[z0i, nilS, nilS, nilS, nilS, nilS, nilS, z0i, nilS]])], x.tok, x.nt⟩

theorem ovF_yes {m mm : Mo} {H : Gr → Mo → St2 → Cd × St2} {o : Ov} {st : St2} (h : agrO m mm o = true) : ovF m mm H o st = ([exOf o (H o.g o.r (inc st.1, st.2)).1], (H o.g o.r (inc st.1, st.2)).2) := if_pos h
theorem ovF_no {m mm : Mo} {H : Gr → Mo → St2 → Cd × St2} {o : Ov} {st : St2} (h : ¬ agrO m mm o = true) : ovF m mm H o st = ([], st) := if_neg h
theorem Cd.shfH_get {l : List Cd} (h : 0 < l.length) (b : Gr) (m : Mo) (st : St2) : Cd.shfH l b m st = Cd.shf l[0] b m st := by
  match l, h with
  | x :: r, _ => simp [Cd.shfH]
def stSo (H : Gr → Mo → St2 → Cd × St2) (c : Cd) (b : Gr) (m : Mo) (u : St2) (ks nb : Nat) (box : Nat → Option (List (List AV))) (L : List Ov) (x : Acc) : AState :=
  ⟨tl [(81, I x.i), (80, I L.length), (79, .d (ovs L)), (9, .ptr (nb + 9) 0 0), (0, .ptr ks 0 0), (5, .ptr (nb + 5) 0 0), (6, .ptr (nb + 6) 0 0), (7, .ptr (nb + 7) 0 0), (8, .ptr (nb + 8) 0 0)],
    lb nb (upd box ks (some [[I (seqL (ovF m c.m H) (L.take x.i) u).2.1, I (seqL (ovF m c.m H) (L.take x.i) u).2.2]]))
      [(9, [[I 4, .osl 9 ((seqL (ovF m c.m H) (L.take x.i) u).1.map Cd.cells) x.own, nilS, nilS, nilS, nilS, nilS, z0i, nilS]]), (5, [b.cells2]), (6, [m.cells2]), (7, [c.row]), (8, [[z0i, nilS, nilS, nilS, nilS, nilS, nilS, z0i, nilS]])], x.tok, x.nt⟩
theorem ovs_ok {b p : Gr} {q : List Ov × Int} (hb : b.Fit) (hbv : validG b = 0) (hp : p.Fit) (h : overlapsR b p = q) : (∀ o ∈ q.1, OvOk b p o) ∧ ∀ o ∈ q.1, o.Fit := by
  subst h
  refine ⟨fun o ho => overlapsR_ok ho, fun o ho => ?_⟩
  have hk := overlapsR_ok ho
  have hvp : validG p = 0 := (validM_VM hk.r).va
  have h1 := (validG_types hbv).1
  have h2 := (validG_types hvp).1
  exact (overlapsR_fit b p ⟨by omega, by omega⟩ ⟨by omega, by omega⟩).2 o ho
theorem ovs_few {b p : Gr} {q : List Ov × Int} (hbv : validG b = 0) (h : overlapsR b p = q) : q.1.length ≤ 1000000 := by
  subst h
  by_cases hp : validG p = 0
  · have h1 := (validG_types hbv).1
    have h2 := (validG_types hp).1
    exact (overlapsR_fit b p ⟨by omega, by omega⟩ ⟨by omega, by omega⟩).1
  · simp [overlapsR, hbv, hp]
theorem ovF_len (m mm : Mo) (H : Gr → Mo → St2 → Cd × St2) : ∀ (l : List Ov) (st : St2), (seqL (ovF m mm H) l st).1.length ≤ l.length
  | [], st => by simp [seqL]
  | o :: r, st => by
    have h1 : (ovF m mm H o st).1.length ≤ 1 := by unfold ovF; split <;> simp
    have h2 := ovF_len m mm H r (ovF m mm H o st).2
    simp only [seqL, List.length_append, List.length_cons]
    omega

set_option maxRecDepth 100000 in
theorem shift62_c : ∀ (n : Nat) (c : Cd), SizeOf.sizeOf c < n → c.Fit → ∀ a, c.ovr a = 0 → ∀ b : Gr, b.Fit → validG b = 0 → ∀ m : Mo, Inn m a b → ∀ (st : St2) (ks : Nat) (box : Nat → Option (List (List AV))), box ks = some [[I st.1, I st.2]] → ∀ (nb : Nat) (tok : Nat → Bool) (nt : Nat),
   ACalls Try.prog 62 [.ptr ks 0 0, b.av, m.av, c.av] ⟨box, nb, tok, nt⟩ (QSh (c.shf b m st) ks box nb tok nt)
  | 0, c, hn, _, _, _, _, _, _, _, _, _, _, _, _, _, tok, nt => absurd hn (Nat.not_lt_zero _)
  | n + 1, c, hn, hc, a, hv, b, hbf, hbv, m, hm, st, ks, box, hk, nb, tok, nt => by
    have ih := fun x (hx : x ∈ c.kids) => shift62_c n x (by have := Cd.kid_lt hx; omega) (hc.kid x hx) (c.inn a) ((Cd.ovr_zero hv).2.2 x hx)
    obtain ⟨hs0, hst, _⟩ := Cd.ovr_zero hv
    have hkb := hc.kids
    have hR := c.shf_eq b m st
    refine ACalls.of_body Try.func62 rfl (by kernel_rfl) follows_Try (by kernel_rfl) (by simp [Try.ntmps62]) ?_
    intro hbox htok
    simp only at hbox htok
    apply AL.start
    have kn := key_lt hbox hk
    have hw : IntKind.i64.wrap (st.1 + 1) = inc st.1 := rfl
    try (simp [lb_out kn, hk, upd_lb_out kn, upd_same, hw])
    repeat ((repeat (first | refine AL.seq ?_ | refine AL.block ?_ | refine AL.skip ?_ | refine AL.blk ?_)); (refine AL.region follows_Try (Nat.le_refl _) (by kernel_rfl) ?_); simp [lb_out kn, hk, upd_lb_out kn, upd_same, hw])
    have ht0 := TK.start htok
    obtain ⟨u, hu⟩ : ∃ u, st1 st = u := ⟨_, rfl⟩
    have hu1 : u.1 = inc st.1 := by rw [← hu]; rfl
    have hu2 : u.2 = if 2000 < inc st.1 then 3 else st.2 := by rw [← hu]; rfl
    refine AL.mid ⟨tl [(0, .ptr ks 0 0), (5, .ptr (nb + 5) 0 0), (6, .ptr (nb + 6) 0 0), (7, .ptr (nb + 7) 0 0), (8, .ptr (nb + 8) 0 0)],
      lb nb (upd box ks (some [[I u.1, I u.2]])) [(5, [b.cells2]), (6, [m.cells2]), (7, [c.row]), (8, [[.d (.raw (.int .i64 0)), .osl 0 [] .full, .osl 0 [] .full, .osl 0 [] .full, .osl 0 [] .full, .osl 0 [] .full, .osl 0 [] .full, .d (.raw (.int .i64 0)), .osl 0 [] .full]])], tok, nt⟩ ?_ ?_
    · by_cases h1 : 2000 < inc st.1
      · rw [if_pos h1] at hu2
        have d1 : decide (2000 < inc st.1) = true := decide_eq_true h1
        simp only [d1]
        repeat (first | refine AL.seq ?_ | refine AL.block ?_ | refine AL.skip ?_ | refine AL.blk ?_)
        refine AL.cond ?_
        simp
        try (simp [lb_out kn, upd_lb_out kn, upd_same, upd_upd])
        repeat ((repeat (first | refine AL.seq ?_ | refine AL.block ?_ | refine AL.skip ?_ | refine AL.blk ?_)); (refine AL.region follows_Try (Nat.le_refl _) (by kernel_rfl) ?_); simp [lb_out kn, upd_lb_out kn, upd_same, upd_upd])
        repeat (first | refine AL.seq ?_ | refine AL.block ?_ | refine AL.skip ?_ | refine AL.blk ?_)
        refine AL.nil ?_
        simp only [hu1, hu2]
        exact Weaks.mk' (Nat.le_refl _) (by simp [ToL, lk]; exact to_ptr (by rw [lb_out kn, upd_same]; simp)) (by simp [BoxL, lk]) outS
      · rw [if_neg h1] at hu2
        have d1 : decide (2000 < inc st.1) = false := decide_eq_false h1
        simp only [d1]
        repeat (first | refine AL.seq ?_ | refine AL.block ?_ | refine AL.skip ?_ | refine AL.blk ?_)
        refine AL.cond ?_
        simp
        repeat (first | refine AL.seq ?_ | refine AL.block ?_ | refine AL.skip ?_ | refine AL.blk ?_)
        refine AL.nil ?_
        simp only [hu1, hu2]
        exact Weaks.mk' (Nat.le_refl _) (by simp [ToL, lk]; exact to_ptr (by rw [lb_out kn, upd_same]; simp)) (by simp [BoxL, lk]) outS
    · rw [shStep, hu] at hR
      by_cases h2 : u.2 = 0
      · rw [if_neg (by simp [h2])] at hR
        have b2n : (u.2 != 0) = false := by simp [h2]
        try (simp [lb_out kn, upd_lb_out kn, upd_same, upd_upd, b2n])
        repeat ((repeat (first | refine AL.seq ?_ | refine AL.block ?_ | refine AL.skip ?_ | refine AL.blk ?_)); (refine AL.region follows_Try (Nat.le_refl _) (by kernel_rfl) ?_); simp [lb_out kn, upd_lb_out kn, upd_same, upd_upd, b2n])
        repeat (first | refine AL.seq ?_ | refine AL.block ?_ | refine AL.skip ?_ | refine AL.blk ?_)
        refine AL.cond ?_
        simp
        try (simp [lb_out kn, upd_lb_out kn, upd_same, upd_upd, b2n])
        repeat ((repeat (first | refine AL.seq ?_ | refine AL.block ?_ | refine AL.skip ?_ | refine AL.blk ?_)); (refine AL.region follows_Try (Nat.le_refl _) (by kernel_rfl) ?_); simp [lb_out kn, upd_lb_out kn, upd_same, upd_upd, b2n])
        by_cases k5 : c.kind = 5
        · have b5 : (c.kind != 5) = false := by simp [k5]
          rw [if_neg (by simp [k5])] at hR
          obtain ⟨H, hH⟩ : ∃ H, (fun (b : Gr) (m : Mo) (st : St2) => Cd.shfH c.kids b m st) = H := ⟨_, rfl⟩
          rw [hH] at hR
          simp only [b5]
          repeat (first | refine AL.seq ?_ | refine AL.block ?_ | refine AL.skip ?_ | refine AL.blk ?_)
          refine AL.cond ?_
          simp
          have hso := overlapsF_c b c.g hbf hc.g tok nt
          obtain ⟨ov, hov⟩ : ∃ q, overlapsR b c.g = q := ⟨_, rfl⟩
          rw [hov] at hR hso
          try (simp [lb_out kn, upd_lb_out kn, upd_same, upd_upd])
          repeat ((repeat (first | refine AL.seq ?_ | refine AL.block ?_ | refine AL.skip ?_ | refine AL.blk ?_)); (refine AL.region follows_Try (Nat.le_refl _) (by kernel_rfl) ?_); simp [lb_out kn, upd_lb_out kn, upd_same, upd_upd])
          refine Stop.of_d (hso) ?_
          simp
          try (simp)
          repeat ((repeat (first | refine AL.seq ?_ | refine AL.block ?_ | refine AL.skip ?_ | refine AL.blk ?_)); (refine AL.region follows_Try (Nat.le_refl _) (by kernel_rfl) ?_); simp)
          by_cases he : ov.2 = 0
          · rw [if_neg (by simp [he])] at hR
            have be : (ov.2 != 0) = false := by simp [he]
            simp only [be]
            repeat (first | refine AL.seq ?_ | refine AL.block ?_ | refine AL.skip ?_ | refine AL.blk ?_)
            refine AL.cond ?_
            simp
            try (simp [lb_out kn, upd_lb_out kn, upd_same, upd_upd])
            repeat ((repeat (first | refine AL.seq ?_ | refine AL.block ?_ | refine AL.skip ?_ | refine AL.blk ?_)); (refine AL.region follows_Try (Nat.le_refl _) (by kernel_rfl) ?_); simp [lb_out kn, upd_lb_out kn, upd_same, upd_upd])
            repeat (first | refine AL.seq ?_ | refine AL.block ?_ | refine AL.skip ?_ | refine AL.blk ?_)
            have hcm : Inn c.m a c.g := Inn.of (by
              have h5 := hst
              rw [ovrStep, if_pos k5] at h5
              split at h5
              · contradiction
              · rename_i h6; exact Decidable.not_not.1 h6)
            have hva : a.nodes.length ≤ 1000000 ∧ a.edges.length ≤ 1000000 := by
              have h5 := hst
              rw [ovrStep, if_pos k5] at h5
              split at h5
              · contradiction
              · rename_i h6
                have := (validG_types (validM_VM (Decidable.not_not.1 h6)).va).1
                omega
            obtain ⟨hok, hfit⟩ := ovs_ok hbf hbv hc.g hov
            have hfew := ovs_few hbv hov
            refine AL.loopT (stSo H c b m u ks nb box ov.1) (fun x => x.i ≤ ov.1.length ∧ TK tok nt x.tok x.nt [x.own]) (fun x => ov.1.length - x.i) ⟨0, .full, tok, nt⟩ ⟨Nat.zero_le _, ht0.full⟩
              (Weaks.mk' (Nat.le_refl _) (by simp [ToL, lk]; exact to_ptr (by rw [lb_out kn, upd_same]; simp)) (by simp [BoxL, lk, seqL]) outS) ?_
            rintro ⟨i, own, tok1, nt1⟩ S ⟨hi, htk⟩ hS
            simp only [stSo] at hS hi htk
            subst hS
            have hw1 : IntKind.i64.wrap (↑i + 1) = ((i + 1 : Nat) : Int) := by rw [wrap_in (by omega) (by omega)]; rfl
            try (simp)
            repeat ((repeat (first | refine AL.seq ?_ | refine AL.block ?_ | refine AL.skip ?_ | refine AL.blk ?_)); (refine AL.region follows_Try (Nat.le_refl _) (by kernel_rfl) ?_); simp)
            repeat (first | refine AL.seq ?_ | refine AL.block ?_ | refine AL.skip ?_ | refine AL.blk ?_)
            refine AL.cond ?_
            simp
            refine ⟨fun hlt => ?_, fun hge => ?_⟩
            · have hS := seqL_take (ovF m c.m H) ov.1 u hlt
              have hoo := hok _ (List.getElem_mem hlt)
              have hof := hfit _ (List.getElem_mem hlt)
              repeat (first | refine AL.seq ?_ | refine AL.block ?_ | refine AL.skip ?_ | refine AL.blk ?_)
              refine AL.region follows_Try (Nat.le_refl _) (by kernel_rfl) ?_
              simp [hlt]
              generalize ov.1[i] = o at *
              have vl := validM_VM hoo.l
              have vr := validM_VM hoo.r
              have ag1 := agree_c m.nodes o.l.nodes c.m.nodes o.r.nodes (by rw [hm.ln]; exact hva.1) (fun x hx => by rw [vl.ln]; exact hm.n x hx) (by rw [hm.ln, hcm.ln]; exact Nat.le_refl _) (fun x hx => by rw [vr.ln]; exact hcm.n x hx)
              have ag2 := agree_c m.edges o.l.edges c.m.edges o.r.edges (by rw [hm.le]; exact hva.2) (fun x hx => by rw [vl.le]; exact hm.e x hx) (by rw [hm.le, hcm.le]; exact Nat.le_refl _) (fun x hx => by rw [vr.le]; exact hcm.e x hx)
              try (simp)
              repeat ((repeat (first | refine AL.seq ?_ | refine AL.block ?_ | refine AL.skip ?_ | refine AL.blk ?_)); (refine AL.region follows_Try (Nat.le_refl _) (by kernel_rfl) ?_); simp)
              refine Stop.of_d (ag1 _ _) ?_
              simp
              cases g1 : agrK m.nodes o.l.nodes c.m.nodes o.r.nodes m.nodes.length
              · try (simp)
                repeat ((repeat (first | refine AL.seq ?_ | refine AL.block ?_ | refine AL.skip ?_ | refine AL.blk ?_)); (refine AL.region follows_Try (Nat.le_refl _) (by kernel_rfl) ?_); simp)
                repeat (first | refine AL.seq ?_ | refine AL.block ?_ | refine AL.skip ?_ | refine AL.blk ?_)
                refine AL.cond ?_
                simp
                repeat (first | refine AL.seq ?_ | refine AL.block ?_ | refine AL.skip ?_ | refine AL.blk ?_)
                refine AL.exit ?_
                simp only [AU, ↓reduceIte]
                try (simp [hw1])
                repeat ((repeat (first | refine AL.seq ?_ | refine AL.block ?_ | refine AL.skip ?_ | refine AL.blk ?_)); (refine AL.region follows_Try (Nat.le_refl _) (by kernel_rfl) ?_); simp [hw1])
                repeat (first | refine AL.seq ?_ | refine AL.block ?_ | refine AL.skip ?_ | refine AL.blk ?_)
                refine AL.nil ?_
                rw [ovF_no (by simp [agrO, g1])] at hS
                refine ⟨⟨i + 1, own, tok1, nt1⟩, ⟨hlt, htk⟩, by simp only; omega, ?_⟩
                simp only [stSo, hS]
                refine Weaks.mk' htk.le ?_ ?_ outS
                · simp [ToL, lk]
                  exact to_ptr (by rw [lb_out kn, upd_same]; simp)
                · simp [BoxL, lk]
              · try (simp)
                repeat ((repeat (first | refine AL.seq ?_ | refine AL.block ?_ | refine AL.skip ?_ | refine AL.blk ?_)); (refine AL.region follows_Try (Nat.le_refl _) (by kernel_rfl) ?_); simp)
                refine Stop.of_d (ag2 _ _) ?_
                simp
                cases g2 : agrK m.edges o.l.edges c.m.edges o.r.edges m.edges.length
                · try (simp)
                  repeat ((repeat (first | refine AL.seq ?_ | refine AL.block ?_ | refine AL.skip ?_ | refine AL.blk ?_)); (refine AL.region follows_Try (Nat.le_refl _) (by kernel_rfl) ?_); simp)
                  repeat (first | refine AL.seq ?_ | refine AL.block ?_ | refine AL.skip ?_ | refine AL.blk ?_)
                  refine AL.cond ?_
                  simp
                  repeat (first | refine AL.seq ?_ | refine AL.block ?_ | refine AL.skip ?_ | refine AL.blk ?_)
                  refine AL.exit ?_
                  simp only [AU, ↓reduceIte]
                  try (simp [hw1])
                  repeat ((repeat (first | refine AL.seq ?_ | refine AL.block ?_ | refine AL.skip ?_ | refine AL.blk ?_)); (refine AL.region follows_Try (Nat.le_refl _) (by kernel_rfl) ?_); simp [hw1])
                  repeat (first | refine AL.seq ?_ | refine AL.block ?_ | refine AL.skip ?_ | refine AL.blk ?_)
                  refine AL.nil ?_
                  rw [ovF_no (by simp [agrO, g1, g2])] at hS
                  refine ⟨⟨i + 1, own, tok1, nt1⟩, ⟨hlt, htk⟩, by simp only; omega, ?_⟩
                  simp only [stSo, hS]
                  refine Weaks.mk' htk.le ?_ ?_ outS
                  · simp [ToL, lk]
                    exact to_ptr (by rw [lb_out kn, upd_same]; simp)
                  · simp [BoxL, lk]
                · try (simp)
                  repeat ((repeat (first | refine AL.seq ?_ | refine AL.block ?_ | refine AL.skip ?_ | refine AL.blk ?_)); (refine AL.region follows_Try (Nat.le_refl _) (by kernel_rfl) ?_); simp)
                  have h0lt : 0 < c.kids.length := shape_one hs0 (.inr k5)
                  have hii : c.inn a = c.g := if_pos k5
                  rw [hii] at ih
                  rw [ovF_yes (by simp [agrO, g1, g2])] at hS
                  generalize hst0 : (seqL (ovF m c.m H) (ov.1.take i) u).2 = s0 at *
                  have hwi : IntKind.i64.wrap (s0.1 + 1) = inc s0.1 := rfl
                  have ihx := ih _ (List.getElem_mem h0lt) o.g hof.g vl.vb o.r (Inn.of hoo.r) (inc s0.1, s0.2) ks
                  rw [← Cd.shfH_get h0lt, show ∀ b m st, Cd.shfH c.kids b m st = H b m st from fun b m st => by rw [← hH]] at ihx
                  repeat (first | refine AL.seq ?_ | refine AL.block ?_ | refine AL.skip ?_ | refine AL.blk ?_)
                  refine AL.cond ?_
                  simp
                  repeat (first | refine AL.seq ?_ | refine AL.block ?_ | refine AL.skip ?_ | refine AL.blk ?_)
                  refine AL.region follows_Try (Nat.le_refl _) (by kernel_rfl) ?_
                  simp [lb_out kn, upd_lb_out kn, upd_same, upd_upd]
                  repeat (first | refine AL.seq ?_ | refine AL.block ?_ | refine AL.skip ?_ | refine AL.blk ?_)
                  refine AL.region3 follows_Try (Nat.le_refl _) (by kernel_rfl) (Side.of (by simp)) [] (by kernel_rfl) ?_
                  simp [lb_out kn, upd_lb_out kn, upd_same, upd_upd, h0lt, Cd.cells_eq, hwi]
                  refine StopW.of_w rfl rfl (by simp only; rw [lb_out kn, upd_same]; simp) (fun box' nb' hb' => (ihx box' (by rw [hb']; simp only; rw [lb_out kn, upd_same]) nb' tok1 nt1).mono fun v m1 hq => ⟨hq.1, hq.2⟩) ?_
                  simp [lb_out kn, upd_lb_out kn, upd_same, upd_upd]
                  try (simp [lb_out kn, upd_lb_out kn, upd_same, upd_upd])
                  repeat ((repeat (first | refine AL.seq ?_ | refine AL.block ?_ | refine AL.skip ?_ | refine AL.blk ?_)); (refine AL.region follows_Try (Nat.le_refl _) (by kernel_rfl) ?_); simp [lb_out kn, upd_lb_out kn, upd_same, upd_upd])
                  refine ⟨⟨?_, htk.live⟩, ?_⟩
                  · have := ovF_len m c.m H (ov.1.take i) u
                    rw [List.length_take] at this
                    omega
                  try (simp [hw1])
                  repeat ((repeat (first | refine AL.seq ?_ | refine AL.block ?_ | refine AL.skip ?_ | refine AL.blk ?_)); (refine AL.region follows_Try (Nat.le_refl _) (by kernel_rfl) ?_); simp [hw1])
                  repeat (first | refine AL.seq ?_ | refine AL.block ?_ | refine AL.skip ?_ | refine AL.blk ?_)
                  refine AL.nil ?_
                  refine ⟨⟨i + 1, .tok nt1, upd (own.kill tok1) nt1 true, nt1 + 1⟩, ⟨hlt, htk.app⟩, by simp only; omega, ?_⟩
                  simp only [stSo, hS]
                  refine Weaks.mk' (by have := htk.le; omega) ?_ ?_ outS
                  · simp [ToL, lk]
                    exact to_ptr (by rw [lb_out kn, upd_same]; simp)
                  · simp [BoxL, lk]
                    refine to_snoc ?_ _
                    simp [exOf, Cd.cells_eq, Cd.kind, Cd.kids, Cd.m, Cd.g, Cd.sl, Cd.vars, Cd.te, slots, tests]
            · repeat (first | refine AL.seq ?_ | refine AL.block ?_ | refine AL.skip ?_ | refine AL.blk ?_)
              refine AL.exit ?_
              simp only [AU, ↓reduceIte]
              have : i = ov.1.length := by omega
              subst this
              try (simp)
              repeat ((repeat (first | refine AL.seq ?_ | refine AL.block ?_ | refine AL.skip ?_ | refine AL.blk ?_)); (refine AL.region follows_Try (Nat.le_refl _) (by kernel_rfl) ?_); simp)
              repeat (first | refine AL.seq ?_ | refine AL.block ?_ | refine AL.skip ?_ | refine AL.blk ?_)
              refine AL.ret ?_
              try simp only [AU]
              refine ⟨by simp, (Fin.gen (av := (cdOf 4 (seqL (ovF m c.m H) ov.1 u).1).av) (tok' := tok) (nt' := nt) (by simp [resAs, resA, lk]; rfl) (by rw [← upd_lb_out kn, hbox]) (Nat.le_refl _) htk.le (fun t ht => ⟨htk.old t ht, .inr (htok t ht)⟩) outS (by simp [packA, cdOf, conds, ints, AM.edges, slots, tests, Cd.kind, Cd.kids, Cd.m, Cd.g, Cd.sl, Cd.vars, Cd.te])).mono fun v m hq => by rw [hR]; exact hq⟩
          · rw [if_pos (by simp [he])] at hR
            have be : (ov.2 != 0) = true := by simp [he]
            simp only [be]
            repeat (first | refine AL.seq ?_ | refine AL.block ?_ | refine AL.skip ?_ | refine AL.blk ?_)
            refine AL.cond ?_
            simp
            try (simp [lb_out kn, upd_lb_out kn, upd_same, upd_upd])
            repeat ((repeat (first | refine AL.seq ?_ | refine AL.block ?_ | refine AL.skip ?_ | refine AL.blk ?_)); (refine AL.region follows_Try (Nat.le_refl _) (by kernel_rfl) ?_); simp [lb_out kn, upd_lb_out kn, upd_same, upd_upd])
            repeat (first | refine AL.seq ?_ | refine AL.block ?_ | refine AL.skip ?_ | refine AL.blk ?_)
            refine AL.ret ?_
            try simp only [AU]
            refine ⟨by simp, (Fin.gen (av := (cdOf 4 []).av) (tok' := tok) (nt' := nt) (by simp [resAs, resA, lk]; rfl) (by rw [← upd_lb_out kn, hbox]) (Nat.le_refl _) (Nat.le_refl _) (fun t ht => ⟨ht, .inl rfl⟩) outS (by simp [packA, cdOf, conds, ints, AM.edges, slots, tests, Cd.kind, Cd.kids, Cd.m, Cd.g, Cd.sl, Cd.vars, Cd.te])).mono fun v m hq => by rw [hR]; exact hq⟩
        · have b5 : (c.kind != 5) = true := by simp [k5]
          rw [if_pos k5] at hR
          simp only [b5]
          repeat (first | refine AL.seq ?_ | refine AL.block ?_ | refine AL.skip ?_ | refine AL.blk ?_)
          refine AL.cond ?_
          simp
          try (simp [lb_out kn, upd_lb_out kn, upd_same, upd_upd])
          repeat ((repeat (first | refine AL.seq ?_ | refine AL.block ?_ | refine AL.skip ?_ | refine AL.blk ?_)); (refine AL.region follows_Try (Nat.le_refl _) (by kernel_rfl) ?_); simp [lb_out kn, upd_lb_out kn, upd_same, upd_upd])
          repeat (first | refine AL.seq ?_ | refine AL.block ?_ | refine AL.skip ?_ | refine AL.blk ?_)
          rw [kidN_eq] at hkb
          refine AL.loopT (stSk c b m u ks nb box) (fun x => x.i ≤ c.kids.length ∧ TK tok nt x.tok x.nt [x.own]) (fun x => c.kids.length - x.i) ⟨0, .full, tok, nt⟩ ⟨Nat.zero_le _, ht0.full⟩
            (Weaks.mk' (Nat.le_refl _) (by simp [ToL, lk]; exact to_ptr (by rw [lb_out kn, upd_same]; simp)) (by simp [BoxL, lk, seqL]) outS) ?_
          rintro ⟨i, own, tok1, nt1⟩ S ⟨hi, htk⟩ hS
          simp only [stSk] at hS hi htk
          subst hS
          have hw1 : IntKind.i64.wrap (↑i + 1) = ((i + 1 : Nat) : Int) := by rw [wrap_in (by omega) (by omega)]; rfl
          have hii : c.inn a = a := if_neg k5
          rw [hii] at ih
          try (simp)
          repeat ((repeat (first | refine AL.seq ?_ | refine AL.block ?_ | refine AL.skip ?_ | refine AL.blk ?_)); (refine AL.region follows_Try (Nat.le_refl _) (by kernel_rfl) ?_); simp)
          repeat (first | refine AL.seq ?_ | refine AL.block ?_ | refine AL.skip ?_ | refine AL.blk ?_)
          refine AL.cond ?_
          simp
          refine ⟨fun hlt => ?_, fun hge => ?_⟩
          · have hS := seqL_take (shF b m) c.kids u hlt
            have ihx := ih _ (List.getElem_mem hlt) b hbf hbv m hm (seqL (shF b m) (c.kids.take i) u).2 ks
            have hsh : ∀ q, shF b m c.kids[i] q = ([(c.kids[i].shf b m q).1], (c.kids[i].shf b m q).2) := fun q => rfl
            rw [hsh] at hS
            repeat (first | refine AL.seq ?_ | refine AL.block ?_ | refine AL.skip ?_ | refine AL.blk ?_)
            refine AL.region follows_Try (Nat.le_refl _) (by kernel_rfl) ?_
            simp [hlt, Cd.cells_eq, lb_out kn, upd_lb_out kn, upd_same]
            generalize c.kids[i] = x at *
            have hne9 : nb + 9 ≠ ks := by omega
            repeat (first | refine AL.seq ?_ | refine AL.block ?_ | refine AL.skip ?_ | refine AL.blk ?_)
            refine AL.region3 follows_Try (Nat.le_refl _) (by kernel_rfl) (Side.of (by simp)) [(Operand.tmp 51, Operand.tmp 53)] (by kernel_rfl) ?_
            simp [lb_out kn, upd_lb_out kn, upd_same]
            refine StopW.of_w rfl rfl (by simp only; rw [lb_out kn, upd_same]; simp) (fun box' nb' hb' => (ihx box' (by rw [hb']; simp only; rw [lb_out kn, upd_same]) nb' tok1 nt1).mono fun v m1 hq => ⟨hq.1, hq.2⟩) ?_
            simp [lb_out kn, upd_lb_out kn, upd_same, upd_upd, NK, hne9]
            refine ⟨⟨?_, htk.live⟩, ?_⟩
            · have := shF_len b m (c.kids.take i) u
              rw [List.length_take] at this
              omega
            try (simp [hw1])
            repeat ((repeat (first | refine AL.seq ?_ | refine AL.block ?_ | refine AL.skip ?_ | refine AL.blk ?_)); (refine AL.region follows_Try (Nat.le_refl _) (by kernel_rfl) ?_); simp [hw1])
            repeat (first | refine AL.seq ?_ | refine AL.block ?_ | refine AL.skip ?_ | refine AL.blk ?_)
            refine AL.nil ?_
            refine ⟨⟨i + 1, .tok nt1, upd (own.kill tok1) nt1 true, nt1 + 1⟩, ⟨hlt, htk.app⟩, by simp only; omega, ?_⟩
            simp only [stSk, hS]
            refine Weaks.mk' (by have := htk.le; omega) ?_ ?_ outS
            · simp [ToL, lk]
              exact to_ptr (by rw [lb_out kn, upd_same]; simp)
            · simp [BoxL, lk, hS, Cd.cells_eq]
          · repeat (first | refine AL.seq ?_ | refine AL.block ?_ | refine AL.skip ?_ | refine AL.blk ?_)
            refine AL.exit ?_
            simp only [AU, ↓reduceIte]
            have : i = c.kids.length := by omega
            subst this
            try (simp)
            repeat ((repeat (first | refine AL.seq ?_ | refine AL.block ?_ | refine AL.skip ?_ | refine AL.blk ?_)); (refine AL.region follows_Try (Nat.le_refl _) (by kernel_rfl) ?_); simp)
            repeat (first | refine AL.seq ?_ | refine AL.block ?_ | refine AL.skip ?_ | refine AL.blk ?_)
            refine AL.ret ?_
            try simp only [AU]
            refine ⟨by simp, (Fin.gen (av := (cdOf c.kind (seqL (shF b m) c.kids u).1).av) (tok' := tok) (nt' := nt) (by simp [resAs, resA, lk]; rfl) (by rw [← upd_lb_out kn, hbox]) (Nat.le_refl _) htk.le (fun t ht => ⟨htk.old t ht, .inr (htok t ht)⟩) outS (by simp [packA, cdOf, conds, ints, AM.edges, slots, tests, Cd.kind, Cd.kids, Cd.m, Cd.g, Cd.sl, Cd.vars, Cd.te])).mono fun v m hq => by rw [hR]; exact hq⟩
      · rw [if_pos h2] at hR
        have b2 : (u.2 != 0) = true := by simp [h2]
        try (simp [lb_out kn, upd_lb_out kn, upd_same, upd_upd, b2])
        repeat ((repeat (first | refine AL.seq ?_ | refine AL.block ?_ | refine AL.skip ?_ | refine AL.blk ?_)); (refine AL.region follows_Try (Nat.le_refl _) (by kernel_rfl) ?_); simp [lb_out kn, upd_lb_out kn, upd_same, upd_upd, b2])
        repeat (first | refine AL.seq ?_ | refine AL.block ?_ | refine AL.skip ?_ | refine AL.blk ?_)
        refine AL.cond ?_
        simp
        try (simp [lb_out kn, upd_lb_out kn, upd_same, upd_upd, b2])
        repeat ((repeat (first | refine AL.seq ?_ | refine AL.block ?_ | refine AL.skip ?_ | refine AL.blk ?_)); (refine AL.region follows_Try (Nat.le_refl _) (by kernel_rfl) ?_); simp [lb_out kn, upd_lb_out kn, upd_same, upd_upd, b2])
        repeat (first | refine AL.seq ?_ | refine AL.block ?_ | refine AL.skip ?_ | refine AL.blk ?_)
        refine AL.ret ?_
        try simp only [AU]
        refine ⟨by simp, (Fin.gen (av := (cdOf c.kind []).av) (tok' := tok) (nt' := nt) (by simp [resAs, resA, lk]; rfl) (by rw [← upd_lb_out kn, hbox]) (Nat.le_refl _) (Nat.le_refl _) (fun t ht => ⟨ht, .inl rfl⟩) outS (by simp [packA, cdOf, conds, ints, AM.edges, slots, tests, Cd.kind, Cd.kids, Cd.m, Cd.g, Cd.sl, Cd.vars, Cd.te])).mono fun v m hq => by rw [hR]; exact hq⟩
end Go.AM
namespace Go.AM
open Go Go.Proofs
set_option linter.unusedSimpArgs false
set_option linter.unusedVariables false

/-! ### Through -/
/-- What is left of the second morphism, behind the first. -/
def restK (h k nodes : List Int) : Nat → List Int
  | 0 => h
  | i + 1 => if nodes.getD i 0 < 0 then restK h k nodes i ++ [k.getD i 0] else restK h k nodes i
def emptyO : Ov := ⟨⟨[], []⟩, ⟨[], []⟩, ⟨[], []⟩⟩
structure Th where
  o : Ov
  m : Mo
  e : Int
def thrR (a b x : Gr) (h k : Mo) : Th :=
  if validM a x h ≠ 0 then ⟨emptyO, ⟨[], []⟩, validM a x h⟩ else if validM b x k ≠ 0 then ⟨emptyO, ⟨[], []⟩, validM b x k⟩
  else if injM a x h = true ∧ injM b x k = true then
    ⟨glue a b (placesK k.nodes h.nodes k.nodes.length) (placesK k.edges h.edges k.edges.length),
      ⟨restK h.nodes k.nodes (placesK k.nodes h.nodes k.nodes.length) k.nodes.length, restK h.edges k.edges (placesK k.edges h.edges k.edges.length) k.edges.length⟩, 0⟩
  else ⟨emptyO, ⟨[], []⟩, 1⟩

end Go.AM
namespace Go.AM
open Go Go.Proofs
set_option linter.unusedSimpArgs false
set_option linter.unusedVariables false

/-! ### ref13.Through -/
end Go.AM
/-
  The plain law of Through: the two morphisms go through the gluing along the places that they share, and what is left is injective. No program in sight.
-/
namespace Go.AM
open Go
set_option linter.unusedSimpArgs false
set_option linter.unusedVariables false

theorem indexI_cases (h : List Int) (v : Int) : (v ∉ h ∧ indexI h v = -1) ∨ ∃ j : Nat, j < h.length ∧ indexI h v = j ∧ h.getD j 0 = v := by
  unfold indexI
  by_cases hv : v ∈ h
  · right
    rw [if_pos hv]
    have hj : h.idxOf v < h.length := List.idxOf_lt_length_iff.2 hv
    exact ⟨h.idxOf v, hj, rfl, by rw [List.getD_eq_getElem?_getD, List.getElem?_eq_getElem hj]; simp⟩
  · left
    rw [if_neg hv]
    exact ⟨hv, rfl⟩
theorem getD_inj {h : List Int} (hn : h.Nodup) {i j : Nat} (hi : i < h.length) (hj : j < h.length) (e : h.getD i 0 = h.getD j 0) : i = j := by
  rw [List.getD_eq_getElem?_getD, List.getD_eq_getElem?_getD, List.getElem?_eq_getElem hi, List.getElem?_eq_getElem hj] at e
  rcases Nat.lt_trichotomy i j with h1 | h1 | h1
  · exact absurd e (List.pairwise_iff_getElem.1 hn i j hi hj h1)
  · exact h1
  · exact absurd e.symm (List.pairwise_iff_getElem.1 hn j i hj hi h1)
theorem indexI_at {h : List Int} (hn : h.Nodup) {j : Nat} (hj : j < h.length) : indexI h (h.getD j 0) = j := by
  rcases indexI_cases h (h.getD j 0) with ⟨h1, _⟩ | ⟨q, q1, q2, q3⟩
  · exact absurd (getD_mem hj) h1
  · rw [q2, getD_inj hn q1 hj q3]
theorem placesK_getD {k h : List Int} {i : Nat} (hi : i < k.length) : (placesK k h k.length).getD i 0 = indexI h (k.getD i 0) := by
  simp [placesK, hi]

theorem places_isM {h k : List Int} (hk : k.Nodup) (ok : Nat → Nat → Bool) {na nb : Nat} (hl : h.length = na) (hb : k.length = nb) (hok : ∀ i j, i < nb → j < na → h.getD j 0 = k.getD i 0 → ok i j = true) : isM ok na nb (placesK k h k.length) := by
  refine ⟨by simp [hb], fun i hi => ?_⟩
  unfold okAt
  rw [placesK_getD (by omega)]
  rcases indexI_cases h (k.getD i 0) with ⟨_, h2⟩ | ⟨j, h1, h2, h3⟩
  · exact .inl h2
  · refine .inr ⟨j, h2, by omega, hok i j hi (by omega) h3, fun hm => ?_⟩
    rw [List.mem_take_iff_getElem] at hm
    obtain ⟨q, hq, e⟩ := hm
    have hqi : q < i := by omega
    have hql : q < k.length := by omega
    have e2 : (placesK k h k.length).getD q 0 = (j : Int) := by
      rw [List.getD_eq_getElem?_getD, List.getElem?_eq_getElem (by simp; omega)]
      exact e
    rw [placesK_getD hql] at e2
    rcases indexI_cases h (k.getD q 0) with ⟨_, f2⟩ | ⟨j', f1, f2, f3⟩
    · omega
    · have : j' = j := by omega
      subst this
      have := getD_inj hk hql (show i < k.length by omega) (by rw [← f3, h3])
      omega

structure RI (h k r : List Int) (i : Nat) (R : List Int) (gl : Nat) : Prop where
  len : R.length = gl
  pre : ∃ t, R = h ++ t
  val : ∀ j, j < i → R.getD (r.getD j 0).toNat 0 = k.getD j 0
  mem : ∀ y ∈ R, y ∈ h ∨ ∃ j, j < i ∧ y = k.getD j 0
  nodup : R.Nodup

theorem rest_ri {α : Type} [Inhabited α] {an bn : List α} {h k : List Int} (hl : h.length = an.length) (hb : k.length = bn.length) (hh : h.Nodup) (hk : k.Nodup) {ok : Nat → Nat → Bool} (hM : isM ok an.length bn.length (placesK k h k.length))
    (hok : ∀ i k, i < bn.length → k < an.length → ok i k = true → an.getD k default = bn.getD i default) :
    ∀ i, i ≤ bn.length → RI h k (glueG an bn (placesK k h k.length) i).2 i (restK h k (placesK k h k.length) i) (glueG an bn (placesK k h k.length) i).1.length
  | 0, _ => ⟨by simp [restK, glueG, hl], ⟨[], by simp [restK]⟩, fun j hj => absurd hj (Nat.not_lt_zero _), fun y hy => .inl hy, hh⟩
  | i + 1, hi => by
    have ih := rest_ri hl hb hh hk hM hok i (by omega)
    have g := glue_gi hM hok i (by omega)
    have hik : i < k.length := by omega
    simp only [restK, glueG, placesK_getD hik]
    generalize hrn : (glueG an bn (placesK k h k.length) i).1 = rn at ih g ⊢
    generalize hr : (glueG an bn (placesK k h k.length) i).2 = r at ih g ⊢
    generalize hR : restK h k (placesK k h k.length) i = R at ih ⊢
    obtain ⟨t, ht⟩ := ih.pre
    have hlen := g.len
    have hRl := ih.len
    rcases indexI_cases h (k.getD i 0) with ⟨hnot, h2⟩ | ⟨q, q1, q2, q3⟩
    · rw [if_pos (by omega), if_pos (by omega)]
      have old : ∀ j, j < i → (r ++ [(rn.length : Int)]).getD j 0 = r.getD j 0 := fun j hj => getD_lt (by omega)
      have new : (r ++ [(rn.length : Int)]).getD i 0 = rn.length := by rw [← hlen]; exact getD_at
      refine ⟨by simp [hRl], ⟨t ++ [k.getD i 0], by rw [ht, List.append_assoc]⟩, fun j hj => ?_, fun y hy => ?_, ?_⟩
      · by_cases e : j = i
        · subst e; rw [new, Int.toNat_natCast, ← hRl]; exact getD_at
        · have := g.rng j (by omega)
          rw [old j (by omega), getD_lt (by omega)]; exact ih.val j (by omega)
      · rcases List.mem_append.1 hy with hy | hy
        · rcases ih.mem y hy with m | ⟨j, hj, e⟩
          · exact .inl m
          · exact .inr ⟨j, by omega, e⟩
        · exact .inr ⟨i, by omega, by simpa using hy⟩
      · refine List.nodup_append.2 ⟨ih.nodup, by simp, fun y hy z hz e => ?_⟩
        rw [List.mem_singleton] at hz
        subst hz
        subst e
        rcases ih.mem _ hy with m | ⟨j, hj, e⟩
        · exact hnot m
        · have := getD_inj hk hik (show j < k.length by omega) e
          omega
    · rw [if_neg (by omega), if_neg (by omega)]
      have old : ∀ j, j < i → (r ++ [indexI h (k.getD i 0)]).getD j 0 = r.getD j 0 := fun j hj => getD_lt (by omega)
      have new : (r ++ [indexI h (k.getD i 0)]).getD i 0 = indexI h (k.getD i 0) := by
        have : (r ++ [indexI h (k.getD i 0)]).getD r.length 0 = indexI h (k.getD i 0) := getD_at
        rw [hlen] at this; exact this
      refine ⟨hRl, ⟨t, ht⟩, fun j hj => ?_, fun y hy => ?_, ih.nodup⟩
      · by_cases e : j = i
        · subst e; rw [new, q2, Int.toNat_natCast, ht, getD_pre q1]; exact q3
        · rw [old j (by omega)]; exact ih.val j (by omega)
      · rcases ih.mem y hy with m | ⟨j, hj, e⟩
        · exact .inl m
        · exact .inr ⟨j, by omega, e⟩

theorem nodup_bound {l : List Int} {n : Nat} (h : l.Nodup) (hr : ∀ x ∈ l, 0 ≤ x ∧ x < n) : l.length ≤ n := by
  have := nodup_le l (iota n) h fun x hx => by
    have := hr x hx
    simp only [iota, List.mem_map, List.mem_range]
    exact ⟨x.toNat, by omega, by omega⟩
  simpa using this

theorem injM_iff (a b : Gr) (m : Mo) : injM a b m = true ↔ validM a b m = 0 ∧ m.nodes.Nodup ∧ m.edges.Nodup := by
  simp only [injM, Bool.and_eq_true, decide_eq_true_eq, distK_nodup]

theorem validM_of {a b : Gr} {m : Mo} (h : VM a b m) : validM a b m = 0 := by
  have z1 : firstE (nodeE a b m) a.nodes.length = 0 := firstE_zero _ fun i hi => by
    have := h.n _ (getD_mem (d := 0) (show i < m.nodes.length by rw [h.ln]; exact hi))
    unfold nodeE
    rw [if_neg (by omega), if_pos (h.nt i hi)]
  have z2 : firstE (edgeE a b m) a.edges.length = 0 := firstE_zero _ fun i hi => by
    have := h.e _ (getD_mem (d := 0) (show i < m.edges.length by rw [h.le]; exact hi))
    unfold edgeE
    rw [if_neg (by omega)]
    simp only [h.et i hi, ne_eq, not_true_eq_false, or_self, ↓reduceIte]
  unfold validM
  rw [if_neg (by simp [h.va]), if_neg (by simp [h.vb]), if_neg (by have := h.ln; have := h.le; omega), if_neg (by simp [z1]), z2]

theorem byK_ext {l by' t : List Int} (hl : l.length = t.length) (h : ∀ i, i < l.length → by'.getD (l.getD i 0).toNat 0 = t.getD i 0) : byK l by' l.length = t := by
  apply List.ext_getElem
  · simp [hl]
  · intro i h1 h2
    have hi : i < l.length := by omega
    have := h i hi
    simp only [List.getD_eq_getElem?_getD, List.getElem?_eq_getElem hi, List.getElem?_eq_getElem h2, Option.getD_some] at this
    simp only [byK, List.take_length, List.getElem_map, List.getD_eq_getElem?_getD]
    exact this

theorem mem_getD {l : List Int} {v : Int} (h : v ∈ l) : ∃ j, j < l.length ∧ l.getD j 0 = v := by
  obtain ⟨j, hj, e⟩ := List.getElem_of_mem h
  exact ⟨j, hj, by rw [List.getD_eq_getElem?_getD, List.getElem?_eq_getElem hj]; exact e⟩

theorem thr_law {a b x : Gr} {h k : Mo} (h1 : validM a x h = 0) (h2 : validM b x k = 0) (h3 : injM a x h = true) (h4 : injM b x k = true) :
    (thrR a b x h k).e = 0 ∧ compM a (thrR a b x h k).o.g x (thrR a b x h k).o.l (thrR a b x h k).m = (h, 0) ∧ compM b (thrR a b x h k).o.g x (thrR a b x h k).o.r (thrR a b x h k).m = (k, 0) ∧
      injM (thrR a b x h k).o.g x (thrR a b x h k).m = true ∧ (thrR a b x h k).o.Fit ∧ (thrR a b x h k).m.Fit := by
  have v1 := validM_VM h1
  have v2 := validM_VM h2
  obtain ⟨_, hn1, he1⟩ := (injM_iff a x h).1 h3
  obtain ⟨_, hn2, he2⟩ := (injM_iff b x k).1 h4
  have eT : thrR a b x h k = ⟨glue a b (placesK k.nodes h.nodes k.nodes.length) (placesK k.edges h.edges k.edges.length), ⟨restK h.nodes k.nodes (placesK k.nodes h.nodes k.nodes.length) k.nodes.length, restK h.edges k.edges (placesK k.edges h.edges k.edges.length) k.edges.length⟩, 0⟩ := by
    simp [thrR, h1, h2, h3, h4]
  rw [eT]
  simp only
  have ea := validG_edges v1.va
  have eb := validG_edges v2.va
  -- the places are matchings
  have okn : ∀ i j, i < b.nodes.length → j < a.nodes.length → okN a b i j = true → a.nodes.getD j default = b.nodes.getD i default := fun i j _ _ hok => by
    unfold okN at hok
    rw [decide_eq_true_eq] at hok
    exact hok
  have pN : isM (okN a b) a.nodes.length b.nodes.length (placesK k.nodes h.nodes k.nodes.length) := places_isM hn2 _ v1.ln v2.ln fun i j hi hj e => by
    unfold okN
    rw [decide_eq_true_eq, ← v1.nt j hj, ← v2.nt i hi, e]
  have pE : isM (okE a b (placesK k.nodes h.nodes k.nodes.length)) a.edges.length b.edges.length (placesK k.edges h.edges k.edges.length) := places_isM he2 _ v1.le v2.le fun i j hi hj e => by
    unfold okE
    rw [decide_eq_true_eq]
    have t1 := v1.et j hj
    have t2 := v2.et i hi
    rw [e, t2] at t1
    obtain ⟨a1, a2, a3, a4⟩ := ea _ (getD_mem (d := default) hj)
    obtain ⟨b1, b2, b3, b4⟩ := eb _ (getD_mem (d := default) hi)
    have ln1 := v1.ln
    have ln2 := v2.ln
    rw [placesK_getD (by omega), placesK_getD (by omega)]
    generalize a.edges.getD j default = y at *
    generalize b.edges.getD i default = z at *
    have u1 : z.ty = y.ty := (E.mk.inj t1).1
    have u2 : k.nodes.getD z.fr.toNat 0 = h.nodes.getD y.fr.toNat 0 := (E.mk.inj t1).2.1
    have u3 : k.nodes.getD z.to.toNat 0 = h.nodes.getD y.to.toNat 0 := (E.mk.inj t1).2.2
    rw [u2, u3, indexI_at hn1 (by omega), indexI_at hn1 (by omega), u1, Int.toNat_of_nonneg a1, Int.toNat_of_nonneg a3]
  have pair : isPair a b (placesK k.nodes h.nodes k.nodes.length, placesK k.edges h.edges k.edges.length) := ⟨pN, pE⟩
  have gl := glued_of ea eb pair
  have gn := gl.n
  have ge := gl.e
  have hPl : (placesK k.nodes h.nodes k.nodes.length).length = b.nodes.length := pN.1
  have hQl : (placesK k.edges h.edges k.edges.length).length = b.edges.length := pE.1
  have rN : RI h.nodes k.nodes (glue a b (placesK k.nodes h.nodes k.nodes.length) (placesK k.edges h.edges k.edges.length)).r.nodes b.nodes.length (restK h.nodes k.nodes (placesK k.nodes h.nodes k.nodes.length) k.nodes.length) (glue a b (placesK k.nodes h.nodes k.nodes.length) (placesK k.edges h.edges k.edges.length)).g.nodes.length := by
    have := rest_ri (an := a.nodes) (bn := b.nodes) v1.ln v2.ln hn1 hn2 pN okn b.nodes.length (Nat.le_refl _)
    simp only [glue, glueN_G, hPl]
    rw [v2.ln] at this ⊢
    exact this
  have rE : RI h.edges k.edges (glue a b (placesK k.nodes h.nodes k.nodes.length) (placesK k.edges h.edges k.edges.length)).r.edges b.edges.length (restK h.edges k.edges (placesK k.edges h.edges k.edges.length) k.edges.length) (glue a b (placesK k.nodes h.nodes k.nodes.length) (placesK k.edges h.edges k.edges.length)).g.edges.length := by
    have lm : (b.edges.map (mapE (glue a b (placesK k.nodes h.nodes k.nodes.length) (placesK k.edges h.edges k.edges.length)).r.nodes)).length = b.edges.length := by simp
    have := rest_ri (an := a.edges) (bn := b.edges.map (mapE (glue a b (placesK k.nodes h.nodes k.nodes.length) (placesK k.edges h.edges k.edges.length)).r.nodes)) v1.le (by rw [lm]; exact v2.le) he1 he2 (ok := fun i j => decide (a.edges.getD j default = (b.edges.map (mapE (glue a b (placesK k.nodes h.nodes k.nodes.length) (placesK k.edges h.edges k.edges.length)).r.nodes)).getD i default)) (by
        rw [lm]
        refine places_isM he2 _ v1.le v2.le fun i j hi hj e => ?_
        rw [decide_eq_true_eq]
        have q := pE.2 i hi
        unfold okAt at q
        rw [placesK_getD (by have := v2.le; omega), ← e, indexI_at he1 (by have := v1.le; omega)] at q
        rcases q with q | ⟨j', q1, q2, q3, _⟩
        · omega
        · have : j' = j := by omega
          subst this
          unfold okE at q3
          rw [decide_eq_true_eq] at q3
          obtain ⟨b1, b2, b3, b4⟩ := eb _ (getD_mem (d := default) hi)
          obtain ⟨a1, a2, a3, a4⟩ := ea _ (getD_mem (d := default) hj)
          have g3 : (b.edges.map (mapE (glue a b (placesK k.nodes h.nodes k.nodes.length) (placesK k.edges h.edges k.edges.length)).r.nodes)).getD i default = mapE (glue a b (placesK k.nodes h.nodes k.nodes.length) (placesK k.edges h.edges k.edges.length)).r.nodes (b.edges.getD i default) := by simp [hi]
          rw [g3, q3]
          rw [q3] at a1 a3
          simp only at a1 a3
          unfold mapE
          rw [gn.pos _ (by omega) (by omega), gn.pos _ (by omega) (by omega)]) (fun i j _ _ hok => by simpa using hok) b.edges.length (by rw [lm]; exact Nat.le_refl _)
    have e1 : (glue a b (placesK k.nodes h.nodes k.nodes.length) (placesK k.edges h.edges k.edges.length)).g.edges = (glueG a.edges (b.edges.map (mapE (glue a b (placesK k.nodes h.nodes k.nodes.length) (placesK k.edges h.edges k.edges.length)).r.nodes)) (placesK k.edges h.edges k.edges.length) b.edges.length).1 := by
      rw [← glueE_G _ _ _ _ _ (Nat.le_refl _), ← hQl]; rfl
    have e2 : (glue a b (placesK k.nodes h.nodes k.nodes.length) (placesK k.edges h.edges k.edges.length)).r.edges = (glueG a.edges (b.edges.map (mapE (glue a b (placesK k.nodes h.nodes k.nodes.length) (placesK k.edges h.edges k.edges.length)).r.nodes)) (placesK k.edges h.edges k.edges.length) b.edges.length).2 := by
      rw [← glueE_G _ _ _ _ _ (Nat.le_refl _), ← hQl]; rfl
    rw [e1, e2]
    rw [v2.le] at this ⊢
    exact this
  have hol : (glue a b (placesK k.nodes h.nodes k.nodes.length) (placesK k.edges h.edges k.edges.length)).l = idM a := rfl
  have hlaw := glue_law0 v1.va v2.va pair
  rw [hol] at hlaw ⊢
  generalize restK h.nodes k.nodes (placesK k.nodes h.nodes k.nodes.length) k.nodes.length = R at *
  generalize restK h.edges k.edges (placesK k.edges h.edges k.edges.length) k.edges.length = T at *
  have hof : (glue a b (placesK k.nodes h.nodes k.nodes.length) (placesK k.edges h.edges k.edges.length)).l.Fit := by
    have t1 := (validG_types v1.va).1
    rw [hol]
    exact ⟨by simp [idM]; omega, by simp [idM]; omega⟩
  generalize glue a b (placesK k.nodes h.nodes k.nodes.length) (placesK k.edges h.edges k.edges.length) = o at *
  obtain ⟨tx, _, _⟩ := validG_types v1.vb
  obtain ⟨ta, _, _⟩ := validG_types v1.va
  obtain ⟨tb, _, _⟩ := validG_types v2.va
  have bN : ∀ y ∈ R, 0 ≤ y ∧ y < x.nodes.length := fun y hy => by
    rcases rN.mem y hy with m | ⟨j, hj, e⟩
    · exact v1.n y m
    · rw [e]; exact v2.n _ (getD_mem (by rw [v2.ln]; exact hj))
  have bE : ∀ y ∈ T, 0 ≤ y ∧ y < x.edges.length := fun y hy => by
    rcases rE.mem y hy with m | ⟨j, hj, e⟩
    · exact v1.e y m
    · rw [e]; exact v2.e _ (getD_mem (by rw [v2.le]; exact hj))
  have lN := nodup_bound rN.nodup bN
  have lE := nodup_bound rE.nodup bE
  have rlN := rN.len
  have rlE := rE.len
  obtain ⟨hv, w1, w2⟩ := hlaw (by omega)
  obtain ⟨tn, etn⟩ := rN.pre
  obtain ⟨te, ete⟩ := rE.pre
  obtain ⟨un, eun, _⟩ := gn.pre
  obtain ⟨ue, eue, _⟩ := ge.pre
  have hN : ∀ i, i < a.nodes.length → R.getD i 0 = h.nodes.getD i 0 := fun i hi => by rw [etn, getD_pre (by rw [v1.ln]; exact hi)]
  have hE : ∀ i, i < a.edges.length → T.getD i 0 = h.edges.getD i 0 := fun i hi => by rw [ete, getD_pre (by rw [v1.le]; exact hi)]
  have vm : VM o.g x ⟨R, T⟩ := by
    refine ⟨hv, v1.vb, rlN, rlE, bN, bE, fun i hi => ?_, fun i hi => ?_⟩
    · by_cases hia : i < a.nodes.length
      · rw [hN i hia, eun, getD_pre hia]; exact v1.nt i hia
      · obtain ⟨j, hj, ej⟩ := mem_getD (gn.cov i (by omega) hi)
        rw [gn.len] at hj
        have q1 := rN.val j hj
        have q2 := gn.val j hj
        rw [ej, Int.toNat_natCast] at q1 q2
        have q3 := v2.nt j hj
        simp only
        rw [q1, q3]
        exact q2.symm
    · by_cases hia : i < a.edges.length
      · obtain ⟨a1, a2, a3, a4⟩ := ea _ (getD_mem (d := default) hia)
        have q := v1.et i hia
        simp only
        rw [hE i hia, eue, getD_pre hia, q, hN _ (by omega), hN _ (by omega)]
      · obtain ⟨j, hj, ej⟩ := mem_getD (ge.cov i (by omega) hi)
        rw [ge.len] at hj
        have q1 := rE.val j hj
        have q2 := ge.val j hj
        rw [ej, Int.toNat_natCast] at q1 q2
        have q3 := v2.et j hj
        obtain ⟨b1, b2, b3, b4⟩ := eb _ (getD_mem (d := default) hj)
        have g3 : (b.edges.map (mapE o.r.nodes)).getD j default = mapE o.r.nodes (b.edges.getD j default) := by simp [hj]
        rw [g3] at q2
        have f1 := rN.val (b.edges.getD j default).fr.toNat (by omega)
        have f2 := rN.val (b.edges.getD j default).to.toNat (by omega)
        simp only
        rw [q1, q3, q2]
        simp only [mapE]
        rw [f1, f2]
  have hvm := validM_of vm
  refine ⟨trivial, ?_, ?_, (injM_iff _ _ _).2 ⟨hvm, rN.nodup, rE.nodup⟩, ⟨⟨by omega, by omega⟩, hof, ⟨by rw [gn.len]; omega, by rw [ge.len]; omega⟩⟩, ⟨by simp only; omega, by simp only; omega⟩⟩
  · have c1 : byK (iota a.nodes.length) R (iota a.nodes.length).length = h.nodes := byK_ext (by simp [v1.ln]) fun i hi => by
      simp only [iota_length] at hi
      rw [iota_getD hi, Int.toNat_natCast]; exact hN i hi
    have c2 : byK (iota a.edges.length) T (iota a.edges.length).length = h.edges := byK_ext (by simp [v1.le]) fun i hi => by
      simp only [iota_length] at hi
      rw [iota_getD hi, Int.toNat_natCast]; exact hE i hi
    unfold compM
    rw [if_neg (by simp [w1]), if_neg (by simp [hvm])]
    simp only [thenM, idM, c1, c2]
  · have c1 : byK o.r.nodes R o.r.nodes.length = k.nodes := byK_ext (by rw [gn.len, v2.ln]) fun i hi => rN.val i (by rw [← gn.len]; exact hi)
    have c2 : byK o.r.edges T o.r.edges.length = k.edges := byK_ext (by rw [ge.len, v2.le]) fun i hi => rE.val i (by rw [← ge.len]; exact hi)
    unfold compM
    rw [if_neg (by simp [w2]), if_neg (by simp [hvm])]
    simp only [thenM, c1, c2]
end Go.AM
namespace Go.AM
open Go Go.Proofs
set_option linter.unusedSimpArgs false
set_option linter.unusedVariables false

end Go.AM
namespace Go.AM
open Go Go.Proofs
set_option linter.unusedSimpArgs false
set_option linter.unusedVariables false

/-! ### chosen -/
/-- The nodes chosen of the first i, and where they stand. -/
def chN (ns : List Int) (bit : Nat → Bool) : Nat → List Int × List Int
  | 0 => ([], [])
  | i + 1 => if bit i = true then ((chN ns bit i).1 ++ [ns.getD i 0], (chN ns bit i).2 ++ [(i : Int)]) else chN ns bit i
def atK (ns : List Int) (bit : Nat → Bool) : Nat → List Int
  | 0 => []
  | i + 1 => if bit i = true then atK ns bit i ++ [((chN ns bit i).1.length : Int)] else atK ns bit i ++ [-1]
def atR (ns : List Int) (bit : Nat → Bool) (i : Nat) : List Int := atK ns bit i ++ List.replicate (ns.length - i) 0
theorem atK_len (ns : List Int) (bit : Nat → Bool) : ∀ i, (atK ns bit i).length = i
  | 0 => rfl
  | i + 1 => by
    simp only [atK]
    split <;> simp [atK_len ns bit i]
@[simp] theorem atR_len (ns : List Int) (bit : Nat → Bool) {i : Nat} (h : i ≤ ns.length) : (atR ns bit i).length = ns.length := by simp [atR, atK_len]; omega
end Go.AM
/-
  The plain law of the parts of a graph that bits describe: valid graphs, with injective inclusions; and the gluing along shared places is among the standard overlaps. No program in sight.
-/
namespace Go.AM
open Go
set_option linter.unusedSimpArgs false
set_option linter.unusedVariables false

end Go.AM
/-
  The gluing along shared places is among the standard overlaps.
-/
namespace Go.AM
open Go
set_option linter.unusedSimpArgs false
set_option linter.unusedVariables false

theorem thr_list {a b x : Gr} {h k : Mo} (h3 : injM a x h = true) (h4 : injM b x k = true) : (thrR a b x h k).e = 0 ∧ (thrR a b x h k).o ∈ listO a b := by
  obtain ⟨h1, hn1, he1⟩ := (injM_iff a x h).1 h3
  obtain ⟨h2, hn2, he2⟩ := (injM_iff b x k).1 h4
  have v1 := validM_VM h1
  have v2 := validM_VM h2
  have eT : thrR a b x h k = ⟨glue a b (placesK k.nodes h.nodes k.nodes.length) (placesK k.edges h.edges k.edges.length), ⟨restK h.nodes k.nodes (placesK k.nodes h.nodes k.nodes.length) k.nodes.length, restK h.edges k.edges (placesK k.edges h.edges k.edges.length) k.edges.length⟩, 0⟩ := by
    simp [thrR, h1, h2, h3, h4]
  rw [eT]
  have ea := validG_edges v1.va
  have eb := validG_edges v2.va
  -- the places are matchings
  have okn : ∀ i j, i < b.nodes.length → j < a.nodes.length → okN a b i j = true → a.nodes.getD j default = b.nodes.getD i default := fun i j _ _ hok => by
    unfold okN at hok
    rw [decide_eq_true_eq] at hok
    exact hok
  have pN : isM (okN a b) a.nodes.length b.nodes.length (placesK k.nodes h.nodes k.nodes.length) := places_isM hn2 _ v1.ln v2.ln fun i j hi hj e => by
    unfold okN
    rw [decide_eq_true_eq, ← v1.nt j hj, ← v2.nt i hi, e]
  have pE : isM (okE a b (placesK k.nodes h.nodes k.nodes.length)) a.edges.length b.edges.length (placesK k.edges h.edges k.edges.length) := places_isM he2 _ v1.le v2.le fun i j hi hj e => by
    unfold okE
    rw [decide_eq_true_eq]
    have t1 := v1.et j hj
    have t2 := v2.et i hi
    rw [e, t2] at t1
    obtain ⟨a1, a2, a3, a4⟩ := ea _ (getD_mem (d := default) hj)
    obtain ⟨b1, b2, b3, b4⟩ := eb _ (getD_mem (d := default) hi)
    have ln1 := v1.ln
    have ln2 := v2.ln
    rw [placesK_getD (by omega), placesK_getD (by omega)]
    generalize a.edges.getD j default = y at *
    generalize b.edges.getD i default = z at *
    have u1 : z.ty = y.ty := (E.mk.inj t1).1
    have u2 : k.nodes.getD z.fr.toNat 0 = h.nodes.getD y.fr.toNat 0 := (E.mk.inj t1).2.1
    have u3 : k.nodes.getD z.to.toNat 0 = h.nodes.getD y.to.toNat 0 := (E.mk.inj t1).2.2
    rw [u2, u3, indexI_at hn1 (by omega), indexI_at hn1 (by omega), u1, Int.toNat_of_nonneg a1, Int.toNat_of_nonneg a3]
  have pair : isPair a b (placesK k.nodes h.nodes k.nodes.length, placesK k.edges h.edges k.edges.length) := ⟨pN, pE⟩
  exact ⟨rfl, List.mem_map.2 ⟨_, (pairsM_mem a b _).2 pair, rfl⟩⟩

end Go.AM
/-
  Extensions of embeddings, and what a condition says: plain laws.
-/
namespace Go.AM
open Go Go.Proofs
set_option linter.unusedSimpArgs false
set_option linter.unusedVariables false

theorem nodup_getD {l : List Int} : l.Nodup ↔ ∀ i j, i < j → j < l.length → l.getD i 0 ≠ l.getD j 0 := by
  unfold List.Nodup
  rw [List.pairwise_iff_getElem]
  constructor
  · intro h i j hij hj
    have := h i j (by omega) hj hij
    simpa [hj, show i < l.length by omega] using this
  · intro h i j hi hj hij
    have := h i j hij hj
    simpa [hi, hj] using this
theorem ext_getD {l l' : List Int} (h : l.length = l'.length) (h2 : ∀ j, j < l.length → l.getD j 0 = l'.getD j 0) : l = l' :=
  List.ext_getElem h fun i h1 h3 => by have := h2 i h1; simpa [h1, h3] using this
theorem set_getD_same {l : List Int} {i : Nat} (h : i < l.length) (v : Int) : (l.set i v).getD i 0 = v := by simp [h]
theorem set_getD_other {l : List Int} {i j : Nat} (h : j ≠ i) (v : Int) : (l.set i v).getD j 0 = l.getD j 0 := by
  simp [List.getElem?_set, show ¬ i = j by omega]

/-! ### A search that fills places -/
def srch (ok : Nat → Nat → Bool) (n m : Nat) (fin : List Int → Bool) : Nat → List Int → Bool
  | 0, L => fin L
  | r + 1, L => if 0 ≤ L.getD (n - (r + 1)) 0 then srch ok n m fin r L
    else (List.range m).any fun k => ok (n - (r + 1)) k && !decide ((k : Int) ∈ L) && srch ok n m fin r (L.set (n - (r + 1)) k)

def NN (L : List Int) : Prop := ∀ i j, i < j → j < L.length → 0 ≤ L.getD i 0 → L.getD i 0 ≠ L.getD j 0

/-- What fills the places that are left. -/
structure Fills (ok : Nat → Nat → Bool) (n m : Nat) (L L' : List Int) : Prop where
  l : L'.length = n
  old : ∀ j, j < n → 0 ≤ L.getD j 0 → L'.getD j 0 = L.getD j 0
  new : ∀ j, j < n → ¬ 0 ≤ L.getD j 0 → ∃ k : Nat, L'.getD j 0 = k ∧ k < m ∧ ok j k = true
  nd : L'.Nodup

theorem srch_iff (ok : Nat → Nat → Bool) (n m : Nat) (fin : List Int → Bool) : ∀ (r : Nat) (L : List Int), L.length = n → r ≤ n → (∀ j, j < n - r → 0 ≤ L.getD j 0) → NN L →
    (srch ok n m fin r L = true ↔ ∃ L', Fills ok n m L L' ∧ fin L' = true)
  | 0, L, hl, _, hp, hn => by
    simp only [srch]
    constructor
    · intro h
      exact ⟨L, ⟨hl, fun _ _ _ => rfl, fun j hj h0 => absurd (hp j (by omega)) h0, nodup_getD.2 fun i j hij hj => hn i j hij hj (hp i (by omega))⟩, h⟩
    · rintro ⟨L', h, h5⟩
      have : L' = L := ext_getD (by rw [h.l, hl]) fun j hj => h.old j (by rw [← h.l]; exact hj) (hp j (by have := h.l; omega))
      rwa [this] at h5
  | r + 1, L, hl, hr, hp, hn => by
    obtain ⟨i, hid⟩ : ∃ i, n - (r + 1) = i := ⟨_, rfl⟩
    have hi : i < n := by omega
    simp only [srch, hid]
    rw [hid] at hp
    by_cases h0 : 0 ≤ L.getD i 0
    · rw [if_pos h0]
      refine srch_iff ok n m fin r L hl (by omega) (fun j hj => ?_) hn
      by_cases e : j = i
      · subst e; exact h0
      · exact hp j (by omega)
    · rw [if_neg h0, List.any_eq_true]
      have g1 : ∀ (k : Nat) j, j ≠ i → (L.set i (k : Int)).getD j 0 = L.getD j 0 := fun k j e => set_getD_other e _
      have g2 : ∀ k : Nat, (L.set i (k : Int)).getD i 0 = k := fun k => set_getD_same (by omega) _
      have ihk : ∀ k : Nat, (k : Int) ∉ L → (srch ok n m fin r (L.set i (k : Int)) = true ↔ ∃ L', Fills ok n m (L.set i (k : Int)) L' ∧ fin L' = true) := fun k hk => by
        refine srch_iff ok n m fin r _ (by simp [hl]) (by omega) (fun j hj => ?_) fun a b hab hb ha => ?_
        · by_cases e : j = i
          · subst e; rw [g2]; omega
          · rw [g1 k j e]; exact hp j (by omega)
        · simp only [List.length_set] at hb
          by_cases ea : a = i
          · subst ea
            rw [g2, g1 k b (by omega)]
            exact fun e => hk (e ▸ getD_mem hb)
          · rw [g1 k a ea] at ha ⊢
            by_cases eb : b = i
            · subst eb
              rw [g2]
              exact fun e => hk (e ▸ getD_mem (by omega))
            · rw [g1 k b eb]
              exact hn a b hab hb ha
      constructor
      · rintro ⟨k, hk, hb⟩
        simp only [List.mem_range] at hk
        simp only [Bool.and_eq_true, Bool.not_eq_true', decide_eq_false_iff_not] at hb
        obtain ⟨⟨ho, hm⟩, hs⟩ := hb
        obtain ⟨L', a, a5⟩ := (ihk k hm).1 hs
        refine ⟨L', ⟨a.l, fun j hj hj0 => ?_, fun j hj hj0 => ?_, a.nd⟩, a5⟩
        · have hne : j ≠ i := fun e => h0 (e ▸ hj0)
          rw [a.old j hj (by rw [g1 k j hne]; exact hj0), g1 k j hne]
        · by_cases e : j = i
          · subst e
            exact ⟨k, by rw [a.old j hj (by rw [g2]; omega), g2], hk, ho⟩
          · exact a.new j hj (by rw [g1 k j e]; exact hj0)
      · rintro ⟨L', a, a5⟩
        obtain ⟨k, k1, k2, k3⟩ := a.new i hi h0
        have hm : (k : Int) ∉ L := fun hmem => by
          obtain ⟨j, hj, hje⟩ := mem_getD hmem
          have hne : j ≠ i := fun e => by subst e; rw [hje] at h0; omega
          have h1 := a.old j (by omega) (by rw [hje]; omega)
          have h2 : L'.getD j 0 = L'.getD i 0 := by rw [h1, hje, k1]
          exact hne (getD_inj a.nd (by rw [a.l]; omega) (by rw [a.l]; omega) h2)
        refine ⟨k, by simpa using k2, ?_⟩
        simp only [Bool.and_eq_true, Bool.not_eq_true', decide_eq_false_iff_not]
        refine ⟨⟨k3, hm⟩, (ihk k hm).2 ⟨L', ⟨a.l, fun j hj hj0 => ?_, fun j hj hj0 => ?_, a.nd⟩, a5⟩⟩
        · by_cases e : j = i
          · subst e; rw [g2, k1]
          · rw [g1 k j e] at hj0 ⊢; exact a.old j hj hj0
        · by_cases e : j = i
          · subst e; rw [g2] at hj0; omega
          · rw [g1 k j e] at hj0; exact a.new j hj hj0

/-! ### Images of a map and what is behind it -/
theorem img_spec {n : Nat} {by' m : List Int} (hr : ∀ x ∈ by', 0 ≤ x ∧ x < n) (hnd : by'.Nodup) : ∀ i, i ≤ by'.length →
    (∀ j, j < i → (imgK n by' m i).getD (by'.getD j 0).toNat 0 = m.getD j 0) ∧ ∀ x : Nat, x < n → (∀ j, j < i → by'.getD j 0 ≠ x) → (imgK n by' m i).getD x 0 = -1
  | 0, _ => ⟨fun j hj => absurd hj (Nat.not_lt_zero _), fun x hx _ => by simp [imgK, hx]⟩
  | i + 1, hi => by
    obtain ⟨h1, h2⟩ := img_spec (m := m) hr hnd i (by omega)
    have hb := hr _ (getD_mem (d := 0) (show i < by'.length by omega))
    have hlt : (by'.getD i 0).toNat < (imgK n by' m i).length := by rw [imgK_len]; omega
    refine ⟨fun j hj => ?_, fun x hx hno => ?_⟩
    · simp only [imgK]
      by_cases e : j = i
      · subst e; exact set_getD_same hlt _
      · have hb' := hr _ (getD_mem (d := 0) (show j < by'.length by omega))
        have hne : (by'.getD j 0).toNat ≠ (by'.getD i 0).toNat := fun e' => e (getD_inj hnd (by omega) (by omega) (by omega))
        rw [set_getD_other hne]
        exact h1 j (by omega)
    · simp only [imgK]
      have := hno i (by omega)
      rw [set_getD_other (by omega)]
      exact h2 x hx fun j hj => hno j (by omega)

/-- Of a place: it is an image, or it is empty. -/
theorem img_cases {n : Nat} {by' m : List Int} (hr : ∀ x ∈ by', 0 ≤ x ∧ x < n) (hnd : by'.Nodup) (x : Nat) (hx : x < n) :
    (∃ j, j < by'.length ∧ by'.getD j 0 = x ∧ (imgK n by' m by'.length).getD x 0 = m.getD j 0) ∨ (∀ j, j < by'.length → by'.getD j 0 ≠ x) ∧ (imgK n by' m by'.length).getD x 0 = -1 := by
  obtain ⟨h1, h2⟩ := img_spec (m := m) hr hnd by'.length (Nat.le_refl _)
  by_cases h : ∃ j, j < by'.length ∧ by'.getD j 0 = x
  · obtain ⟨j, hj, e⟩ := h
    refine .inl ⟨j, hj, e, ?_⟩
    have := h1 j hj
    rwa [e, Int.toNat_natCast] at this
  · have h' : ∀ j, j < by'.length → by'.getD j 0 ≠ x := fun j hj e => h ⟨j, hj, e⟩
    exact .inr ⟨h', h2 x hx h'⟩
theorem img_NN {n : Nat} {by' m : List Int} (hr : ∀ x ∈ by', 0 ≤ x ∧ x < n) (hnd : by'.Nodup) (hl : by'.length = m.length) (hm : m.Nodup) (hp : ∀ x ∈ m, 0 ≤ x) : NN (imgK n by' m by'.length) := fun i j hij hj h0 he => by
  rw [imgK_len] at hj
  rcases img_cases (m := m) hr hnd i (by omega) with ⟨k, k1, k2, k3⟩ | ⟨_, k3⟩
  · rcases img_cases (m := m) hr hnd j hj with ⟨q, q1, q2, q3⟩ | ⟨_, q3⟩
    · rw [k3, q3] at he
      have := getD_inj hm (by omega) (by omega) he
      subst this
      omega
    · have := hp _ (getD_mem (d := 0) (show k < m.length by omega))
      omega
  · omega

/-! ### Embeddings -/
structure Emb (a b : Gr) (m : Mo) : Prop where
  v : validM a b m = 0
  n : m.nodes.Nodup
  e : m.edges.Nodup
theorem Emb.vm {a b : Gr} {m : Mo} (h : Emb a b m) : VM a b m := validM_VM h.v
theorem Emb.inj {a b : Gr} {m : Mo} (h : Emb a b m) : injM a b m = true := (injM_iff a b m).2 ⟨h.v, h.n, h.e⟩
theorem Emb.of {a b : Gr} {m : Mo} (h : injM a b m = true) : Emb a b m := have h := (injM_iff a b m).1 h; ⟨h.1, h.2.1, h.2.2⟩
theorem Emb.inn {a b : Gr} {m : Mo} (h : Emb a b m) : Inn m a b := have V := h.vm; ⟨V.ln, V.le, V.n, V.e⟩
theorem byK_all (l h : List Int) : (byK l h l.length).length = l.length := by simp
theorem byK_getD {l h : List Int} {i : Nat} (hi : i < l.length) : (byK l h l.length).getD i 0 = h.getD (l.getD i 0).toNat 0 := by simp [byK, hi]
theorem nat_of {x : Int} {n : Nat} (h : 0 ≤ x ∧ x < n) : x.toNat < n ∧ ((x.toNat : Nat) : Int) = x := by omega
theorem byK_nodup {l h : List Int} {n : Nat} (hl : l.Nodup) (hh : h.Nodup) (hr : ∀ x ∈ l, 0 ≤ x ∧ x < h.length) : (byK l h l.length).Nodup := by
  rw [nodup_getD]
  intro i j hij hj
  rw [byK_all] at hj
  rw [byK_getD (by omega), byK_getD hj]
  intro e
  have h1 := hr _ (getD_mem (d := 0) (show i < l.length by omega))
  have h2 := hr _ (getD_mem (d := 0) hj)
  have := getD_inj hh (by omega) (by omega) e
  have := getD_inj hl (show i < l.length by omega) hj (by omega)
  omega
theorem Emb.comp {a b c : Gr} {m n : Mo} (h : Emb a b m) (k : Emb b c n) : Emb a c (thenM m n) := by
  have v := h.vm
  have w := k.vm
  have rn : ∀ x ∈ m.nodes, 0 ≤ x ∧ x < n.nodes.length := fun x hx => by rw [w.ln]; exact v.n x hx
  have re : ∀ x ∈ m.edges, 0 ≤ x ∧ x < n.edges.length := fun x hx => by rw [w.le]; exact v.e x hx
  have gn : ∀ i, i < a.nodes.length → (thenM m n).nodes.getD i 0 = n.nodes.getD (m.nodes.getD i 0).toNat 0 := fun i hi => byK_getD (by rw [v.ln]; exact hi)
  have ge : ∀ i, i < a.edges.length → (thenM m n).edges.getD i 0 = n.edges.getD (m.edges.getD i 0).toNat 0 := fun i hi => byK_getD (by rw [v.le]; exact hi)
  refine ⟨validM_of ⟨v.va, w.vb, by rw [← v.ln]; exact byK_all _ _, by rw [← v.le]; exact byK_all _ _, fun x hx => ?_, fun x hx => ?_, fun i hi => ?_, fun i hi => ?_⟩, byK_nodup (n := 0) h.n k.n rn, byK_nodup (n := 0) h.e k.e re⟩
  · obtain ⟨i, hi, rfl⟩ := mem_getD hx
    have hi' : i < a.nodes.length := by rw [← v.ln]; simpa [thenM] using hi
    rw [gn i hi']
    exact w.n _ (getD_mem (nat_of (rn _ (getD_mem (by rw [v.ln]; exact hi')))).1)
  · obtain ⟨i, hi, rfl⟩ := mem_getD hx
    have hi' : i < a.edges.length := by rw [← v.le]; simpa [thenM] using hi
    rw [ge i hi']
    exact w.e _ (getD_mem (nat_of (re _ (getD_mem (by rw [v.le]; exact hi')))).1)
  · rw [gn i hi]
    have h1 := nat_of (v.n _ (getD_mem (d := 0) (show i < m.nodes.length by rw [v.ln]; exact hi)))
    rw [w.nt _ h1.1, v.nt i hi]
  · rw [ge i hi]
    have h1 := nat_of (v.e _ (getD_mem (d := 0) (show i < m.edges.length by rw [v.le]; exact hi)))
    rw [w.et _ h1.1, v.et i hi]
    have hx := validG_edges v.va (a.edges.getD i default) (getD_mem hi)
    simp only
    rw [gn _ (by omega), gn _ (by omega)]
theorem thenM_assoc {a b : Gr} {m n k : Mo} (h : Inn m a b) (hn : n.nodes.length = b.nodes.length) (he : n.edges.length = b.edges.length) : thenM (thenM m n) k = thenM m (thenM n k) := by
  have e1 : ∀ (l h t : List Int), (∀ x ∈ l, 0 ≤ x ∧ x < h.length) → byK (byK l h l.length) t (byK l h l.length).length = byK l (byK h t h.length) l.length := fun l h t hr => by
    refine byK_ext (by simp) fun i hi => ?_
    rw [byK_all] at hi
    have := hr _ (getD_mem (d := 0) hi)
    rw [byK_getD hi, byK_getD hi, byK_getD (nat_of this).1]
  simp only [thenM]
  rw [e1 _ _ _ (fun x hx => by rw [hn]; exact h.n x hx), e1 _ _ _ (fun x hx => by rw [he]; exact h.e x hx)]
theorem thenM_cancel {a b c : Gr} {m m' k : Mo} (h : Inn m a b) (h' : Inn m' a b) (hk : Emb b c k) (e : thenM m k = thenM m' k) : m = m' := by
  have V := hk.vm
  have e1 : ∀ (l l' t : List Int), l.length = l'.length → (∀ x ∈ l, 0 ≤ x ∧ x < t.length) → (∀ x ∈ l', 0 ≤ x ∧ x < t.length) → t.Nodup → byK l t l.length = byK l' t l'.length → l = l' := fun l l' t hl r r' ht he => by
    refine ext_getD hl fun j hj => ?_
    have h1 : (byK l t l.length).getD j 0 = (byK l' t l'.length).getD j 0 := by rw [he]
    rw [byK_getD hj, byK_getD (by omega)] at h1
    have a1 := r _ (getD_mem (d := 0) hj)
    have a2 := r' _ (getD_mem (d := 0) (show j < l'.length by omega))
    have := getD_inj ht (nat_of a1).1 (nat_of a2).1 h1
    omega
  simp only [thenM, Mo.mk.injEq] at e
  cases m; cases m'
  simp only [Mo.mk.injEq]
  exact ⟨e1 _ _ _ (by rw [h.ln, h'.ln]) (fun x hx => by rw [V.ln]; exact h.n x hx) (fun x hx => by rw [V.ln]; exact h'.n x hx) hk.n e.1,
    e1 _ _ _ (by rw [h.le, h'.le]) (fun x hx => by rw [V.le]; exact h.e x hx) (fun x hx => by rw [V.le]; exact h'.e x hx) hk.e e.2⟩

theorem edgeB_srch (p g : Gr) (acc : Mo → Bool) (N : List Int) : ∀ r Es, edgeB p g acc N r Es = srch (fun i k => decide (g.edges.getD k default = wantX p N i)) p.edges.length g.edges.length (fun E => acc ⟨N, E⟩) r Es
  | 0, Es => rfl
  | r + 1, Es => by simp only [edgeB, srch, edgeB_srch p g acc N r]
theorem nodeB_srch (p g : Gr) (acc : Mo → Bool) (Es : List Int) : ∀ r N, nodeB p g acc Es r N = srch (fun i k => decide (g.nodes.getD k 0 = p.nodes.getD i 0)) p.nodes.length g.nodes.length (fun N => edgeB p g acc N p.edges.length Es) r N
  | 0, N => rfl
  | r + 1, N => by simp only [nodeB, srch, nodeB_srch p g acc Es r]

/-- The search finds the embeddings behind a map. -/
theorem exists_iff {a p g : Gr} {x m : Mo} (hx : Emb a p x) (hm : Emb a g m) (acc : Mo → Bool) :
    nodeB p g acc (imgK p.edges.length x.edges m.edges x.edges.length) p.nodes.length (imgK p.nodes.length x.nodes m.nodes x.nodes.length) = true ↔ ∃ q, Emb p g q ∧ thenM x q = m ∧ acc q = true := by
  have v := hx.vm
  have w := hm.vm
  have nn1 := img_NN (m := m.nodes) v.n hx.n (by rw [v.ln, w.ln]) hm.n (fun y hy => (w.n y hy).1)
  have nn2 := img_NN (m := m.edges) v.e hx.e (by rw [v.le, w.le]) hm.e (fun y hy => (w.e y hy).1)
  have cn := fun i hi => img_cases (m := m.nodes) v.n hx.n i hi
  have ce := fun i hi => img_cases (m := m.edges) v.e hx.e i hi
  have ea := validG_edges v.va
  have ep := validG_edges v.vb
  rw [nodeB_srch, srch_iff _ _ _ _ _ _ (imgK_len _ _ _ _) (Nat.le_refl _) (fun j hj => by omega) nn1]
  constructor
  · rintro ⟨N, fN, hN⟩
    rw [edgeB_srch, srch_iff _ _ _ _ _ _ (imgK_len _ _ _ _) (Nat.le_refl _) (fun j hj => by omega) nn2] at hN
    obtain ⟨E', fE, hE⟩ := hN
    -- the images of the places that were given
    have on : ∀ i, i < a.nodes.length → N.getD (x.nodes.getD i 0).toNat 0 = m.nodes.getD i 0 := fun i hi => by
      have hxi := v.n _ (getD_mem (d := 0) (show i < x.nodes.length by rw [v.ln]; exact hi))
      have h1 := (img_spec (m := m.nodes) v.n hx.n _ (Nat.le_refl _)).1 i (by rw [v.ln]; exact hi)
      have h2 := (w.n _ (getD_mem (d := 0) (show i < m.nodes.length by rw [w.ln]; exact hi))).1
      rw [fN.old _ (nat_of hxi).1 (by rw [h1]; exact h2), h1]
    have oe : ∀ i, i < a.edges.length → E'.getD (x.edges.getD i 0).toNat 0 = m.edges.getD i 0 := fun i hi => by
      have hxi := v.e _ (getD_mem (d := 0) (show i < x.edges.length by rw [v.le]; exact hi))
      have h1 := (img_spec (m := m.edges) v.e hx.e _ (Nat.le_refl _)).1 i (by rw [v.le]; exact hi)
      have h2 := (w.e _ (getD_mem (d := 0) (show i < m.edges.length by rw [w.le]; exact hi))).1
      rw [fE.old _ (nat_of hxi).1 (by rw [h1]; exact h2), h1]
    refine ⟨⟨N, E'⟩, ⟨validM_of ⟨v.vb, w.vb, fN.l, fE.l, fun y hy => ?_, fun y hy => ?_, fun j hj => ?_, fun j hj => ?_⟩, fN.nd, fE.nd⟩, ?_, hE⟩
    · obtain ⟨j, hj, rfl⟩ := mem_getD hy
      rw [fN.l] at hj
      rcases cn j hj with ⟨i, hi, e, e2⟩ | ⟨_, e2⟩
      · have := on i (by rw [← v.ln]; exact hi)
        rw [e, Int.toNat_natCast] at this
        rw [this]
        exact w.n _ (getD_mem (by rw [w.ln, ← v.ln]; exact hi))
      · obtain ⟨k, k1, k2, _⟩ := fN.new j hj (by rw [e2]; omega)
        rw [k1]; omega
    · obtain ⟨j, hj, rfl⟩ := mem_getD hy
      rw [fE.l] at hj
      rcases ce j hj with ⟨i, hi, e, e2⟩ | ⟨_, e2⟩
      · have := oe i (by rw [← v.le]; exact hi)
        rw [e, Int.toNat_natCast] at this
        rw [this]
        exact w.e _ (getD_mem (by rw [w.le, ← v.le]; exact hi))
      · obtain ⟨k, k1, k2, _⟩ := fE.new j hj (by rw [e2]; omega)
        rw [k1]; omega
    · simp only
      rcases cn j hj with ⟨i, hi, e, e2⟩ | ⟨_, e2⟩
      · have hi' : i < a.nodes.length := by rw [← v.ln]; exact hi
        have h1 := on i hi'
        have h3 := v.nt i hi'
        rw [e, Int.toNat_natCast] at h1 h3
        rw [h1, w.nt i hi', h3]
      · obtain ⟨k, k1, k2, k3⟩ := fN.new j hj (by rw [e2]; omega)
        rw [k1, Int.toNat_natCast]
        exact of_decide_eq_true k3
    · simp only
      rcases ce j hj with ⟨i, hi, e, e2⟩ | ⟨_, e2⟩
      · have hi' : i < a.edges.length := by rw [← v.le]; exact hi
        have h1 := oe i hi'
        have h3 := v.et i hi'
        rw [e, Int.toNat_natCast] at h1 h3
        have hx' := ea (a.edges.getD i default) (getD_mem hi')
        rw [h1, w.et i hi', h3]
        simp only
        rw [on _ (by omega), on _ (by omega)]
      · obtain ⟨k, k1, k2, k3⟩ := fE.new j hj (by rw [e2]; omega)
        rw [k1, Int.toNat_natCast]
        exact of_decide_eq_true k3
    · simp only [thenM]
      rw [byK_ext (t := m.nodes) (by rw [v.ln, w.ln]) (fun i hi => on i (by rw [← v.ln]; exact hi)), byK_ext (t := m.edges) (by rw [v.le, w.le]) (fun i hi => oe i (by rw [← v.le]; exact hi))]
  · rintro ⟨q, hq, he, ha⟩
    have u := hq.vm
    have qn : ∀ i, i < x.nodes.length → q.nodes.getD (x.nodes.getD i 0).toNat 0 = m.nodes.getD i 0 := fun i hi => by rw [← he]; exact (byK_getD hi).symm
    have qe : ∀ i, i < x.edges.length → q.edges.getD (x.edges.getD i 0).toNat 0 = m.edges.getD i 0 := fun i hi => by rw [← he]; exact (byK_getD hi).symm
    refine ⟨q.nodes, ⟨u.ln, fun j hj h0 => ?_, fun j hj h0 => ?_, hq.n⟩, ?_⟩
    · rcases cn j hj with ⟨i, hi, e, e2⟩ | ⟨_, e2⟩
      · have := qn i hi
        rw [e, Int.toNat_natCast] at this
        rw [e2, this]
      · omega
    · have h1 := nat_of (u.n _ (getD_mem (d := 0) (show j < q.nodes.length by rw [u.ln]; exact hj)))
      exact ⟨_, h1.2.symm, h1.1, decide_eq_true (u.nt j hj)⟩
    · rw [edgeB_srch, srch_iff _ _ _ _ _ _ (imgK_len _ _ _ _) (Nat.le_refl _) (fun j hj => by omega) nn2]
      refine ⟨q.edges, ⟨u.le, fun j hj h0 => ?_, fun j hj h0 => ?_, hq.e⟩, ha⟩
      · rcases ce j hj with ⟨i, hi, e, e2⟩ | ⟨_, e2⟩
        · have := qe i hi
          rw [e, Int.toNat_natCast] at this
          rw [e2, this]
        · omega
      · have h1 := nat_of (u.e _ (getD_mem (d := 0) (show j < q.edges.length by rw [u.le]; exact hj)))
        exact ⟨_, h1.2.symm, h1.1, decide_eq_true (u.et j hj)⟩
end Go.AM
/-
  Shifting keeps what a condition says.
-/
namespace Go.AM
open Go Go.Proofs
set_option linter.unusedSimpArgs false
set_option linter.unusedVariables false

theorem overlapsR_all {b p : Gr} (hb : validG b = 0) (hp : validG p = 0) (he : (overlapsR b p).2 = 0) : (overlapsR b p).1 = listO b p ∧ b.nodes.length + p.nodes.length ≤ 40 ∧ b.edges.length + p.edges.length ≤ 80 := by
  by_cases hs : 40 < b.nodes.length + p.nodes.length ∨ 80 < b.edges.length + p.edges.length
  · simp [overlapsR, hb, hp, hs] at he
  · have h := overlapsR_list b p hb hp hs
    rw [h] at he ⊢
    split
    · rename_i h1; rw [if_pos h1] at he; cases he
    · exact ⟨rfl, by omega, by omega⟩

/-! ### An error stays -/
theorem st1_zero {st : St2} (h : (st1 st).2 = 0) : st.2 = 0 ∧ inc st.1 ≤ 2000 := by
  unfold st1 at h
  simp only at h
  split at h
  · cases h
  · exact ⟨h, by omega⟩
theorem shf_sticky {c : Cd} {b : Gr} {m : Mo} {st : St2} (h : (c.shf b m st).2.2 = 0) : (st1 st).2 = 0 := by
  by_cases h1 : (st1 st).2 = 0
  · exact h1
  · rw [c.shf_eq, shStep, if_pos h1] at h
    exact h
theorem shfH_sticky {l : List Cd} {b : Gr} {m : Mo} {st : St2} (h : (Cd.shfH l b m st).2.2 = 0) : st.2 = 0 := by
  cases l with
  | nil => exact h
  | cons x r => exact (st1_zero (shf_sticky h)).1
theorem ovF_sticky {m mm : Mo} {l : List Cd} {o : Ov} {st : St2} (h : (ovF m mm (fun b m st => Cd.shfH l b m st) o st).2.2 = 0) : st.2 = 0 := by
  unfold ovF at h
  split at h
  · have h' : (Cd.shfH l o.g o.r (inc st.1, st.2)).2.2 = 0 := h
    have h2 := shfH_sticky h'
    exact h2
  · exact h
theorem shF_sticky {b : Gr} {m : Mo} {x : Cd} {st : St2} (h : (shF b m x st).2.2 = 0) : st.2 = 0 := (st1_zero (shf_sticky h)).1

section
variable {α : Type} {f : α → St2 → List Cd × St2} (hs : ∀ x s, (f x s).2.2 = 0 → s.2 = 0)
include hs
theorem seqL_sticky : ∀ (l : List α) s, (seqL f l s).2.2 = 0 → s.2 = 0
  | [], s, h => h
  | x :: r, s, h => hs _ _ (seqL_sticky r _ h)
/-- Each part of what is made, made without error. -/
theorem seqL_mem : ∀ {l : List α} {s : St2}, (seqL f l s).2.2 = 0 → ∀ x ∈ l, ∃ s', (f x s').2.2 = 0 ∧ ∀ y ∈ (f x s').1, y ∈ (seqL f l s).1
  | y :: r, s, h, x, hx => by
    rcases List.mem_cons.1 hx with rfl | hx
    · exact ⟨s, seqL_sticky hs r _ h, fun z hz => by simp only [seqL]; exact List.mem_append_left _ hz⟩
    · obtain ⟨s', h1, h2⟩ := seqL_mem (l := r) (s := (f y s).2) h x hx
      exact ⟨s', h1, fun z hz => by simp only [seqL]; exact List.mem_append_right _ (h2 z hz)⟩
theorem seqL_of : ∀ {l : List α} {s : St2}, (seqL f l s).2.2 = 0 → ∀ y ∈ (seqL f l s).1, ∃ x ∈ l, ∃ s', (f x s').2.2 = 0 ∧ y ∈ (f x s').1
  | [], s, _, y, hy => by simp [seqL] at hy
  | x :: r, s, h, y, hy => by
    simp only [seqL] at hy
    rcases List.mem_append.1 hy with hy | hy
    · exact ⟨x, by simp, s, seqL_sticky hs r _ h, hy⟩
    · obtain ⟨z, hz, s', h1, h2⟩ := seqL_of (l := r) (s := (f x s).2) h y hy
      exact ⟨z, by simp [hz], s', h1, h2⟩
end
theorem shF_map {γ : Type} {b : Gr} {m : Mo} (P Q : Cd → γ) : ∀ (l : List Cd), (∀ x ∈ l, ∀ s, (x.shf b m s).2.2 = 0 → P (x.shf b m s).1 = Q x) → ∀ s, (seqL (shF b m) l s).2.2 = 0 → (seqL (shF b m) l s).1.map P = l.map Q
  | [], _, _, _ => rfl
  | x :: r, h, s, hz => by
    have h1 : (x.shf b m s).2.2 = 0 := seqL_sticky (f := shF b m) (fun _ _ => shF_sticky) r _ hz
    have h2 := shF_map P Q r (fun y hy => h y (by simp [hy])) (x.shf b m s).2 hz
    simp only [seqL, shF, List.map_append, List.map_cons, List.map_nil, h2, h x (by simp) s h1]
    rfl

theorem agrO_iff {a b p : Gr} {m x : Mo} {o : Ov} (hm : Inn m a b) (hx : Inn x a p) : agrO m x o = true ↔ thenM m o.l = thenM x o.r := by
  have key : ∀ (l l' h h' : List Int), l.length = l'.length → ((∀ j, j < l.length → h.getD (l.getD j 0).toNat 0 = h'.getD (l'.getD j 0).toNat 0) ↔ byK l h l.length = byK l' h' l'.length) := fun l l' h h' hl => by
    constructor
    · intro e
      refine ext_getD (by simp [hl]) fun j hj => ?_
      rw [byK_all] at hj
      rw [byK_getD hj, byK_getD (by omega)]
      exact e j hj
    · intro e j hj
      have : (byK l h l.length).getD j 0 = (byK l' h' l'.length).getD j 0 := by rw [e]
      rwa [byK_getD hj, byK_getD (by omega)] at this
  simp only [agrO, agrK, Bool.and_eq_true, decide_eq_true_eq, thenM, Mo.mk.injEq]
  rw [key _ _ _ _ (by rw [hm.ln, hx.ln]), key _ _ _ _ (by rw [hm.le, hx.le])]

theorem cdOf_hol (k : Int) (l : List Cd) (g : Gr) (m : Mo) (hk : k ≠ 5) : (cdOf k l).hol g m = if k = 2 then !((l.map fun x => x.hol g m).headD false) else if k = 3 then (l.map fun x => x.hol g m).all id else if k = 4 then (l.map fun x => x.hol g m).any id else true := by
  rw [Cd.hol_eq]
  have e : holStep (cdOf k l).kind (cdOf k l).m (cdOf k l).g g m (fun q => (cdOf k l).kids.map fun x => x.hol g q) = holStep k ⟨[], []⟩ ⟨[], []⟩ g m (fun q => l.map fun x => x.hol g q) := rfl
  rw [e, holStep]
  simp only [if_neg hk]
theorem exOf_hol {b g : Gr} {o : Ov} {m : Mo} (y : Cd) (ho : Emb b o.g o.l) (hm : Emb b g m) : (exOf o y).hol g m = true ↔ ∃ q, Emb o.g g q ∧ thenM o.l q = m ∧ y.hol g q = true := by
  rw [Cd.hol_eq]
  have e : holStep (exOf o y).kind (exOf o y).m (exOf o y).g g m (fun q => (exOf o y).kids.map fun x => x.hol g q) = nodeB o.g g (fun q => y.hol g q) (imgK o.g.edges.length o.l.edges m.edges o.l.edges.length) o.g.nodes.length (imgK o.g.nodes.length o.l.nodes m.nodes o.l.nodes.length) := rfl
  rw [e]
  exact exists_iff ho hm _
theorem ex_hol {c : Cd} {a g : Gr} {m : Mo} (k5 : c.kind = 5) {x : Cd} (hx : c.kids = [x]) (hc : Emb a c.g c.m) (hm : Emb a g m) : c.hol g m = true ↔ ∃ q, Emb c.g g q ∧ thenM c.m q = m ∧ x.hol g q = true := by
  rw [Cd.hol_eq]
  have e : holStep c.kind c.m c.g g m (fun q => c.kids.map fun x => x.hol g q) = nodeB c.g g (fun q => x.hol g q) (imgK c.g.edges.length c.m.edges m.edges c.m.edges.length) c.g.nodes.length (imgK c.g.nodes.length c.m.nodes m.nodes c.m.nodes.length) := by
    rw [hx, k5]; rfl
  rw [e]
  exact exists_iff hc hm _

theorem ovr_ex {c : Cd} {a : Gr} (h : c.ovr a = 0) (k5 : c.kind = 5) : Emb a c.g c.m ∧ ∃ x, c.kids = [x] := by
  obtain ⟨h0, h1, _⟩ := Cd.ovr_zero h
  have hl := shape_kind h0 k5
  rw [ovrStep, if_pos k5] at h1
  split at h1
  · contradiction
  · split at h1
    · rename_i h2
      exact ⟨Emb.of h2, List.length_eq_one_iff.1 hl⟩
    · cases h1
theorem ovs_emb {b p : Gr} {o : Ov} (ho : o ∈ (overlapsR b p).1) : Emb b o.g o.l ∧ Emb p o.g o.r := ⟨Emb.of (overlapsR_ok ho).il, Emb.of (overlapsR_ok ho).ir⟩

/-- What both morphisms of a pair have in common is an overlap. -/
theorem thr_emb {b p g : Gr} {k q : Mo} (hk : Emb b g k) (hq : Emb p g q) (he : (overlapsR b p).2 = 0) : ∃ o ∈ (overlapsR b p).1, ∃ q', Emb o.g g q' ∧ thenM o.l q' = k ∧ thenM o.r q' = q := by
  have h1 := thr_law hk.v hq.v hk.inj hq.inj
  have h2 := thr_list hk.inj hq.inj
  obtain ⟨e0, e1, e2, e3, _⟩ := h1
  refine ⟨_, by rw [(overlapsR_all hk.vm.va hq.vm.va he).1]; exact h2.2, _, Emb.of e3, ?_, ?_⟩
  · unfold compM at e1
    split at e1
    · rename_i h; exact absurd (congrArg Prod.snd e1) h
    · split at e1
      · rename_i h; exact absurd (congrArg Prod.snd e1) h
      · exact congrArg Prod.fst e1
  · unfold compM at e2
    split at e2
    · rename_i h; exact absurd (congrArg Prod.snd e2) h
    · split at e2
      · rename_i h; exact absurd (congrArg Prod.snd e2) h
      · exact congrArg Prod.fst e2

/-! ### The law -/
theorem shf_hol : ∀ (n : Nat) (c : Cd), SizeOf.sizeOf c < n → ∀ a, c.ovr a = 0 → ∀ b m, Emb a b m → ∀ st, (c.shf b m st).2.2 = 0 → ∀ g k, Emb b g k → (c.shf b m st).1.hol g k = c.hol g (thenM m k)
  | 0, c, hn, _, _, _, _, _, _, _, _, _, _ => absurd hn (Nat.not_lt_zero _)
  | n + 1, c, hn, a, hv, b, m, hm, st, hz, g, k, hk => by
    have ih := fun x (hx : x ∈ c.kids) => shf_hol n x (by have := Cd.kid_lt hx; omega) (c.inn a) ((Cd.ovr_zero hv).2.2 x hx)
    have h1 := shf_sticky hz
    rw [c.shf_eq] at hz ⊢
    unfold shStep at hz ⊢
    rw [if_neg (by simp [h1])] at hz ⊢
    by_cases k5 : c.kind = 5
    · rw [if_neg (by simp [k5])] at hz ⊢
      have hii : c.inn a = c.g := if_pos k5
      rw [hii] at ih
      obtain ⟨hx, x, hkx⟩ := ovr_ex hv k5
      by_cases he : (overlapsR b c.g).2 = 0
      · rw [if_neg (by simp [he])] at hz ⊢
        have hH : ∀ b m st, Cd.shfH c.kids b m st = x.shf b m st := fun b m st => by rw [hkx, Cd.shfH]
        have ihx := ih x (by rw [hkx]; simp)
        simp only at hz ⊢
        rw [cdOf_hol _ _ _ _ (by decide), Bool.eq_iff_iff, ex_hol k5 hkx hx (hm.comp hk)]
        simp only [show ¬ (4 : Int) = 2 by decide, show ¬ (4 : Int) = 3 by decide, ↓reduceIte, List.any_map, List.any_eq_true, Function.comp, id]
        constructor
        · rintro ⟨y, hy, hyh⟩
          obtain ⟨o, ho, s', hs1, hs2⟩ := seqL_of (f := ovF m c.m fun b m st => Cd.shfH c.kids b m st) (fun _ _ => ovF_sticky) hz y hy
          obtain ⟨el, er⟩ := ovs_emb ho
          by_cases ha : agrO m c.m o = true
          · rw [ovF, if_pos ha] at hs1 hs2
            simp only [List.mem_singleton] at hs2
            subst hs2
            rw [hH] at hs1 hyh
            obtain ⟨q', q1, q2, q3⟩ := (exOf_hol _ el hk).1 hyh
            rw [ihx o.g o.r er _ hs1 g q' q1] at q3
            refine ⟨thenM o.r q', er.comp q1, ?_, q3⟩
            rw [agrO_iff hm.inn hx.inn] at ha
            rw [← thenM_assoc hx.inn er.vm.ln er.vm.le, ← ha, thenM_assoc hm.inn el.vm.ln el.vm.le, q2]
          · rw [ovF, if_neg ha] at hs2
            simp at hs2
        · rintro ⟨q, q1, q2, q3⟩
          obtain ⟨o, ho, q', r1, r2, r3⟩ := thr_emb hk q1 he
          obtain ⟨el, er⟩ := ovs_emb ho
          obtain ⟨s', hs1, hs2⟩ := seqL_mem (f := ovF m c.m fun b m st => Cd.shfH c.kids b m st) (fun _ _ => ovF_sticky) hz o ho
          have ha : agrO m c.m o = true := by
            rw [agrO_iff hm.inn hx.inn]
            refine thenM_cancel (hm.comp el).inn (hx.comp er).inn r1 ?_
            rw [thenM_assoc hm.inn el.vm.ln el.vm.le, thenM_assoc hx.inn er.vm.ln er.vm.le, r2, r3, q2]
          rw [ovF, if_pos ha] at hs1 hs2
          rw [hH] at hs1 hs2
          refine ⟨_, hs2 _ (List.mem_singleton.2 rfl), (exOf_hol _ el hk).2 ⟨q', r1, r2, ?_⟩⟩
          rw [ihx o.g o.r er _ hs1 g q' r1, r3]
          exact q3
      · rw [if_pos (by simp [he])] at hz
        exact absurd hz he
    · rw [if_pos k5] at hz ⊢
      have hii : c.inn a = a := if_neg k5
      rw [hii] at ih
      simp only at hz ⊢
      have := shF_map (b := b) (m := m) (fun x => x.hol g k) (fun x => x.hol g (thenM m k)) c.kids (fun x hx s hs => ih x hx b m hm s hs g k hk) _ hz
      rw [cdOf_hol _ _ _ _ k5, this, Cd.hol_eq, holStep]
      simp only [if_neg k5]
end Go.AM
/-
  What shifting makes is valid, and as great as was counted.
-/
namespace Go.AM
open Go Go.Proofs
set_option linter.unusedSimpArgs false
set_option linter.unusedVariables false

/-! ### Size and depth as natural numbers -/
mutual
def Cd.cnt : Cd → Nat
  | .mk _ c _ _ _ _ _ => 1 + Cd.cntL c
def Cd.cntL : List Cd → Nat
  | [] => 0
  | x :: r => Cd.cnt x + Cd.cntL r
end
mutual
def Cd.dep : Cd → Nat
  | .mk k c _ _ _ _ _ => Cd.depL c + if k = 5 then 1 else 0
def Cd.depL : List Cd → Nat
  | [] => 0
  | x :: r => max (Cd.dep x) (Cd.depL r)
end
theorem Cd.cnt_eq (c : Cd) : c.cnt = 1 + Cd.cntL c.kids := by cases c; rw [Cd.cnt]; rfl
theorem Cd.dep_eq (c : Cd) : c.dep = Cd.depL c.kids + if c.kind = 5 then 1 else 0 := by cases c; rw [Cd.dep]; rfl
theorem Cd.cntL_append : ∀ l r : List Cd, Cd.cntL (l ++ r) = Cd.cntL l + Cd.cntL r
  | [], r => by simp [Cd.cntL]
  | x :: l, r => by simp only [List.cons_append, Cd.cntL, Cd.cntL_append l r]; omega
theorem Cd.cnt_mem : ∀ {l : List Cd} {x : Cd}, x ∈ l → x.cnt ≤ Cd.cntL l
  | y :: r, x, h => by
    simp only [Cd.cntL]
    rcases List.mem_cons.1 h with rfl | h
    · omega
    · have := Cd.cnt_mem h; omega
theorem Cd.depL_le {n : Nat} : ∀ {l : List Cd}, (∀ x ∈ l, x.dep ≤ n) → Cd.depL l ≤ n
  | [], _ => by simp [Cd.depL]
  | x :: r, h => by
    simp only [Cd.depL]
    have h1 := h x (by simp)
    have h2 := Cd.depL_le (l := r) fun y hy => h y (by simp [hy])
    omega
mutual
theorem Cd.dep_cnt : ∀ c : Cd, c.dep ≤ c.cnt
  | .mk k c _ _ _ _ _ => by
    have := Cd.depL_cntL c
    simp only [Cd.dep, Cd.cnt]
    split <;> omega
theorem Cd.depL_cntL : ∀ l : List Cd, Cd.depL l ≤ Cd.cntL l
  | [] => by simp [Cd.depL]
  | x :: r => by
    have h1 := Cd.dep_cnt x
    have h2 := Cd.depL_cntL r
    simp only [Cd.depL, Cd.cntL]
    omega
end
mutual
theorem Cd.meas_cnt : ∀ c : Cd, c.cnt ≤ 4611686018427387904 → c.meas = ((c.cnt : Int), (c.dep : Int))
  | .mk k c _ _ _ _ _, h => by
    simp only [Cd.cnt] at h
    have h1 := Cd.measL_cnt c 1 0 h
    have h2 := Cd.depL_cntL c
    have h3 : Cd.measL c (1, 0) = (((1 + Cd.cntL c : Nat) : Int), ((max 0 (Cd.depL c) : Nat) : Int)) := h1
    rw [Cd.meas]
    simp only [h3, Cd.cnt, Cd.dep, Nat.zero_max]
    split
    · rw [wrap_in (by omega) (by omega)]; rfl
    · rfl
theorem Cd.measL_cnt : ∀ (l : List Cd) (s d : Nat), s + Cd.cntL l ≤ 4611686018427387904 → Cd.measL l ((s : Int), (d : Int)) = (((s + Cd.cntL l : Nat) : Int), ((max d (Cd.depL l) : Nat) : Int))
  | [], s, d, _ => by simp [Cd.measL, Cd.cntL, Cd.depL]
  | x :: r, s, d, h => by
    simp only [Cd.cntL] at h
    have h1 := Cd.meas_cnt x (by omega)
    have hw : IntKind.i64.wrap ((s : Int) + (x.cnt : Int)) = ((s + x.cnt : Nat) : Int) := by rw [wrap_in (by omega) (by omega)]; rfl
    have hm : max (d : Int) (x.dep : Int) = ((max d x.dep : Nat) : Int) := by omega
    have h2 := Cd.measL_cnt r (s + x.cnt) (max d x.dep) (by omega)
    simp only [Cd.measL, h1, hw, hm, h2, Cd.cntL, Cd.depL]
    rw [Nat.add_assoc, Nat.max_assoc]
end

/-! ### There is an overlap that agrees -/
theorem img_isM {n q : Nat} {by' m : List Int} (hr : ∀ x ∈ by', 0 ≤ x ∧ x < n) (hnd : by'.Nodup) (hl : by'.length = m.length) (hm : m.Nodup) (hp : ∀ x ∈ m, 0 ≤ x ∧ x < q) (ok : Nat → Nat → Bool)
    (hok : ∀ j i k, j < by'.length → by'.getD j 0 = (i : Nat) → m.getD j 0 = (k : Nat) → i < n → k < q → ok i k = true) : isM ok q n (imgK n by' m by'.length) := by
  refine ⟨imgK_len _ _ _ _, fun i hi => ?_⟩
  rcases img_cases (m := m) hr hnd i hi with ⟨j, hj, e1, e2⟩ | ⟨_, e2⟩
  · have hb := hp _ (getD_mem (d := 0) (show j < m.length by omega))
    refine .inr ⟨(m.getD j 0).toNat, by rw [e2]; omega, by omega, hok j i _ hj e1 (by omega) hi (by omega), fun hmem => ?_⟩
    obtain ⟨k, hk, hke⟩ := mem_getD hmem
    have hki : k < i := by simp at hk; omega
    have h1 : (imgK n by' m by'.length).getD k 0 = (imgK n by' m by'.length).getD i 0 := by
      rw [e2]
      have : (List.take i (imgK n by' m by'.length)).getD k 0 = (imgK n by' m by'.length).getD k 0 := by
        simp only [List.getD_eq_getElem?_getD]
        rw [List.getElem?_take_of_lt hki]
      rw [← this, hke]; omega
    exact img_NN hr hnd hl hm (fun x hx => (hp x hx).1) k i hki (by rw [imgK_len]; exact hi) (by rw [h1, e2]; omega) h1
  · exact .inl e2
theorem agr_ex {a b p : Gr} {m x : Mo} (hm : Emb a b m) (hx : Emb a p x) (he : (overlapsR b p).2 = 0) : ∃ o ∈ (overlapsR b p).1, agrO m x o = true := by
  have v := hm.vm
  have w := hx.vm
  obtain ⟨h1, h2, h3⟩ := overlapsR_all v.vb w.vb he
  have ea := validG_edges v.va
  have imn := (img_spec (m := m.nodes) w.n hx.n _ (Nat.le_refl _)).1
  have ime := (img_spec (m := m.edges) w.e hx.e _ (Nat.le_refl _)).1
  have hpr : isPair b p (imgK p.nodes.length x.nodes m.nodes x.nodes.length, imgK p.edges.length x.edges m.edges x.edges.length) := by
    refine ⟨img_isM w.n hx.n (by rw [v.ln, w.ln]) hm.n v.n _ fun j i k hj e1 e2 hi hk => ?_, img_isM w.e hx.e (by rw [v.le, w.le]) hm.e v.e _ fun j i k hj e1 e2 hi hk => ?_⟩
    · have hj' : j < a.nodes.length := by rw [← w.ln]; exact hj
      have g1 := v.nt j hj'
      have g2 := w.nt j hj'
      rw [e2, Int.toNat_natCast] at g1
      rw [e1, Int.toNat_natCast] at g2
      unfold okN
      rw [decide_eq_true_eq, g1, g2]
    · have hj' : j < a.edges.length := by rw [← w.le]; exact hj
      have g1 := v.et j hj'
      have g2 := w.et j hj'
      rw [e2, Int.toNat_natCast] at g1
      rw [e1, Int.toNat_natCast] at g2
      have hx' := ea (a.edges.getD j default) (getD_mem hj')
      unfold okE
      rw [decide_eq_true_eq, g1, g2]
      simp only
      have f1 := imn (a.edges.getD j default).fr.toNat (by rw [w.ln]; omega)
      have f2 := imn (a.edges.getD j default).to.toNat (by rw [w.ln]; omega)
      rw [f1, f2]
  have hg := glued_of (validG_edges v.vb) (validG_edges w.vb) hpr
  have hmem : glue b p (imgK p.nodes.length x.nodes m.nodes x.nodes.length) (imgK p.edges.length x.edges m.edges x.edges.length) ∈ (overlapsR b p).1 := by
    rw [h1]
    exact List.mem_map.2 ⟨_, (pairsM_mem b p _).2 hpr, rfl⟩
  refine ⟨_, hmem, ?_⟩
  rw [agrO_iff hm.inn hx.inn]
  have key : ∀ (n : Nat) (l l' I R : List Int), l.length = l'.length → I = iota n → (∀ y ∈ l, 0 ≤ y ∧ y < n) → (∀ j, j < l.length → R.getD (l'.getD j 0).toNat 0 = l.getD j 0) → byK l I l.length = byK l' R l'.length := fun n l l' I R hl hI hr hR => by
    subst hI
    refine ext_getD (by simp [hl]) fun j hj => ?_
    rw [byK_all] at hj
    have := hr _ (getD_mem (d := 0) hj)
    rw [byK_getD hj, byK_getD (by omega), hR j hj, iota_getD (nat_of this).1]
    omega
  have en := hg.n.pos
  have ee := hg.e.pos
  have l1 : (glue b p (imgK p.nodes.length x.nodes m.nodes x.nodes.length) (imgK p.edges.length x.edges m.edges x.edges.length)).l.nodes = iota b.nodes.length := rfl
  have l2 : (glue b p (imgK p.nodes.length x.nodes m.nodes x.nodes.length) (imgK p.edges.length x.edges m.edges x.edges.length)).l.edges = iota b.edges.length := rfl
  generalize glue b p (imgK p.nodes.length x.nodes m.nodes x.nodes.length) (imgK p.edges.length x.edges m.edges x.edges.length) = o at *
  have kn := key b.nodes.length m.nodes x.nodes o.l.nodes o.r.nodes (by rw [v.ln, w.ln]) l1 v.n fun j hj => by
    have hj' : j < x.nodes.length := by rw [w.ln, ← v.ln]; exact hj
    have g0 := imn j hj'
    have g1 := w.n _ (getD_mem (d := 0) hj')
    have g2 := (v.n _ (getD_mem (d := 0) hj)).1
    rw [en _ (nat_of g1).1 (by rw [g0]; omega), g0]
  have ke := key b.edges.length m.edges x.edges o.l.edges o.r.edges (by rw [v.le, w.le]) l2 v.e fun j hj => by
    have hj' : j < x.edges.length := by rw [w.le, ← v.le]; exact hj
    have g0 := ime j hj'
    have g1 := w.e _ (getD_mem (d := 0) hj')
    have g2 := (v.e _ (getD_mem (d := 0) hj)).1
    rw [ee _ (nat_of g1).1 (by rw [g0]; omega), g0]
  simp only [thenM]
  rw [kn, ke]

/-! ### What is made is over the graph -/
theorem Cd.ovr_of {c : Cd} {a : Gr} (h1 : shapeC c = 0) (h2 : ovrStep a c.kind c.m c.g = 0) (h3 : ∀ x ∈ c.kids, x.ovr (c.inn a) = 0) : c.ovr a = 0 := by
  rw [Cd.ovr_eq, if_pos h1, if_pos h2]
  exact errL_all h3
theorem unused_cdOf (k : Int) (l : List Cd) : unusedC (cdOf k l) = true := rfl
theorem plain_cdOf (k : Int) (l : List Cd) : plainC (cdOf k l) = true := rfl
theorem shape_cdOf {c : Cd} (h : shapeC c = 0) (k5 : c.kind ≠ 5) {l : List Cd} (hl : l.length = c.kids.length) : shapeC (cdOf c.kind l) = 0 := by
  unfold shapeC at h
  split at h
  · rename_i ho
    rw [shapeC, if_pos, if_pos (plain_cdOf _ _)]
    simp only [okC, unused_cdOf, Bool.and_true] at ho ⊢
    have e1 : (cdOf c.kind l).kind = c.kind := rfl
    have e2 : (cdOf c.kind l).kids = l := rfl
    rw [e1, e2, hl]
    split at ho
    · rename_i q; rw [if_pos q]; exact (Bool.and_eq_true _ _ ▸ ho).1
    · rename_i q
      rw [if_neg q]
      split at ho
      · rename_i q; rw [if_pos q]; exact (Bool.and_eq_true _ _ ▸ ho).1
      · rename_i q
        rw [if_neg q]
        split at ho
        · rename_i q; rw [if_pos q]; exact (Bool.and_eq_true _ _ ▸ ho).1
        · rename_i q
          first | cases ho | (rw [if_neg k5] at ho; cases ho)
  · cases h
theorem shape_or {l : List Cd} (h : 0 < l.length) : shapeC (cdOf 4 l) = 0 := by
  rw [shapeC, if_pos, if_pos (plain_cdOf _ _)]
  have e2 : (cdOf 4 l).kids = l := rfl
  have e1 : (cdOf 4 l).kind = 4 := rfl
  simp [okC, unused_cdOf, e1, e2, h]
theorem shape_exOf (o : Ov) (y : Cd) : shapeC (exOf o y) = 0 := rfl

structure Made (c : Cd) (b : Gr) (st : St2) (r : Cd × St2) : Prop where
  ovr : r.1.ovr b = 0
  cnt : r.2.1 = st.1 + r.1.cnt
  le : r.2.1 ≤ 2000
  ge : c.cnt ≤ r.1.cnt
  dep : r.1.dep ≤ c.dep
theorem inc_in {n : Int} (h0 : 0 ≤ n) (h1 : n ≤ 2000) : inc n = n + 1 := wrap_in (by omega) (by omega)

theorem seqL_cnt {α : Type} {f : α → St2 → List Cd × St2} (hs : ∀ x s, (f x s).2.2 = 0 → s.2 = 0) : ∀ (l : List α) (s : St2), 0 ≤ s.1 → s.1 ≤ 2000 → (∀ x ∈ l, ∀ s, 0 ≤ s.1 → s.1 ≤ 2000 → (f x s).2.2 = 0 → (f x s).2.1 = s.1 + Cd.cntL (f x s).1 ∧ (f x s).2.1 ≤ 2000) → (seqL f l s).2.2 = 0 →
    (seqL f l s).2.1 = s.1 + Cd.cntL (seqL f l s).1 ∧ (seqL f l s).2.1 ≤ 2000
  | [], s, _, h1, _, _ => ⟨by simp [seqL, Cd.cntL], h1⟩
  | x :: r, s, h0, h1, h, hz => by
    have hz1 : (f x s).2.2 = 0 := seqL_sticky hs r _ hz
    obtain ⟨g1, g2⟩ := h x (by simp) s h0 h1 hz1
    have ih := seqL_cnt hs r (f x s).2 (by omega) g2 (fun y hy => h y (by simp [hy])) hz
    simp only [seqL, Cd.cntL_append]
    omega
theorem shF_cnt {b : Gr} {m : Mo} : ∀ (l : List Cd) (s : St2), 0 ≤ s.1 → s.1 ≤ 2000 → (∀ x ∈ l, ∀ s, 0 ≤ s.1 → s.1 ≤ 2000 → (x.shf b m s).2.2 = 0 → Made x b s (x.shf b m s)) → (seqL (shF b m) l s).2.2 = 0 →
    Cd.cntL l ≤ Cd.cntL (seqL (shF b m) l s).1 ∧ Cd.depL (seqL (shF b m) l s).1 ≤ Cd.depL l ∧ (∀ y ∈ (seqL (shF b m) l s).1, y.ovr b = 0) ∧ (seqL (shF b m) l s).1.length = l.length
  | [], s, _, _, _, _ => ⟨by simp [Cd.cntL], by simp [seqL, Cd.depL], by simp [seqL], rfl⟩
  | x :: r, s, h0, h1, h, hz => by
    have hz1 : (x.shf b m s).2.2 = 0 := seqL_sticky (f := shF b m) (fun _ _ => shF_sticky) r _ hz
    have hx := h x (by simp) s h0 h1 hz1
    have e1 := hx.cnt
    have e2 := hx.le
    have ih := shF_cnt r (x.shf b m s).2 (by omega) e2 (fun y hy => h y (by simp [hy])) hz
    have e3 := hx.ge
    have e4 := hx.dep
    simp only [seqL, shF, List.singleton_append, Cd.cntL, Cd.depL, List.length_cons]
    obtain ⟨i1, i2, i3, i4⟩ := ih
    refine ⟨by omega, by omega, fun y hy => ?_, by omega⟩
    rcases List.mem_cons.1 hy with rfl | hy
    · exact hx.ovr
    · exact i3 y hy

theorem shf_made : ∀ (n : Nat) (c : Cd), SizeOf.sizeOf c < n → ∀ a, c.ovr a = 0 → ∀ b m, Emb a b m → ∀ st, 0 ≤ st.1 → st.1 ≤ 2000 → (c.shf b m st).2.2 = 0 → Made c b st (c.shf b m st)
  | 0, c, hn, _, _, _, _, _, _, _, _, _ => absurd hn (Nat.not_lt_zero _)
  | n + 1, c, hn, a, hv, b, m, hm, st, hs0, hs1, hz => by
    have ih := fun x (hx : x ∈ c.kids) => shf_made n x (by have := Cd.kid_lt hx; omega) (c.inn a) ((Cd.ovr_zero hv).2.2 x hx)
    have h1 := shf_sticky hz
    have h2 := (st1_zero h1).2
    have hin := inc_in hs0 hs1
    have hu : (st1 st).1 = st.1 + 1 := hin
    rw [hin] at h2
    rw [c.shf_eq] at hz ⊢
    unfold shStep at hz ⊢
    rw [if_neg (by simp [h1])] at hz ⊢
    by_cases k5 : c.kind = 5
    · rw [if_neg (by simp [k5])] at hz ⊢
      have hii : c.inn a = c.g := if_pos k5
      rw [hii] at ih
      obtain ⟨hx, x, hkx⟩ := ovr_ex hv k5
      by_cases he : (overlapsR b c.g).2 = 0
      · rw [if_neg (by simp [he])] at hz ⊢
        have hH : ∀ b m st, Cd.shfH c.kids b m st = x.shf b m st := fun b m st => by rw [hkx, Cd.shfH]
        have ihx := ih x (by rw [hkx]; simp)
        simp only at hz ⊢
        -- one kid
        have one : ∀ o ∈ (overlapsR b c.g).1, ∀ s : St2, 0 ≤ s.1 → s.1 ≤ 2000 → agrO m c.m o = true → (x.shf o.g o.r (inc s.1, s.2)).2.2 = 0 → Made x o.g (inc s.1, s.2) (x.shf o.g o.r (inc s.1, s.2)) ∧ inc s.1 = s.1 + 1 := fun o ho s g0 g1 ha hz1 => by
          obtain ⟨el, er⟩ := ovs_emb ho
          have hin' := inc_in g0 g1
          have g2 := (st1_zero (shf_sticky hz1)).2
          have g3 : inc s.1 ≤ 2000 := by
            simp only at g2
            rw [hin'] at g2 ⊢
            by_cases e : s.1 = 2000
            · rw [e] at g2
              exact absurd g2 (by decide)
            · omega
          exact ⟨ihx o.g o.r er _ (by simp only; omega) g3 hz1, hin'⟩
        have cnt := seqL_cnt (f := ovF m c.m fun b m st => Cd.shfH c.kids b m st) (fun _ _ => ovF_sticky) (overlapsR b c.g).1 (st1 st) (by omega) (by omega) (fun o ho s g0 g1 hz1 => by
          by_cases ha : agrO m c.m o = true
          · rw [ovF, if_pos ha] at hz1 ⊢
            simp only [hH] at hz1 ⊢
            obtain ⟨M, hi⟩ := one o ho s g0 g1 ha hz1
            have e1 := M.cnt
            have e2 := M.le
            simp only at e1
            have e3 : Cd.cntL [exOf o (x.shf o.g o.r (inc s.1, s.2)).1] = 2 - 1 + (x.shf o.g o.r (inc s.1, s.2)).1.cnt := by simp [Cd.cntL, exOf, Cd.cnt]
            rw [e3]
            omega
          · rw [ovF, if_neg ha]
            exact ⟨by simp [Cd.cntL], g1⟩) hz
        -- the states in between are small
        have mid : ∀ (l : List Ov) (s : St2), (∀ o ∈ l, o ∈ (overlapsR b c.g).1) → 0 ≤ s.1 → s.1 ≤ 2000 → (seqL (ovF m c.m fun b m st => Cd.shfH c.kids b m st) l s).2.2 = 0 →
            (∀ y ∈ (seqL (ovF m c.m fun b m st => Cd.shfH c.kids b m st) l s).1, ∃ o ∈ l, ∃ z : Cd, y = exOf o z ∧ z.ovr o.g = 0 ∧ x.cnt ≤ z.cnt ∧ z.dep ≤ x.dep) ∧
            ∀ o ∈ l, agrO m c.m o = true → ∃ z : Cd, exOf o z ∈ (seqL (ovF m c.m fun b m st => Cd.shfH c.kids b m st) l s).1 ∧ x.cnt ≤ z.cnt := by
          intro l
          induction l with
          | nil => intro s _ _ _ _; exact ⟨by simp [seqL], by simp⟩
          | cons o r ihr =>
            intro s hl g0 g1 hz1
            have hz2 : (ovF m c.m (fun b m st => Cd.shfH c.kids b m st) o s).2.2 = 0 := seqL_sticky (fun _ _ => ovF_sticky) r _ hz1
            by_cases ha : agrO m c.m o = true
            · have ev : ovF m c.m (fun b m st => Cd.shfH c.kids b m st) o s = ([exOf o (x.shf o.g o.r (inc s.1, s.2)).1], (x.shf o.g o.r (inc s.1, s.2)).2) := by rw [ovF, if_pos ha]; simp only [hH]
              rw [ev] at hz2
              obtain ⟨M, hi⟩ := one o (hl o (by simp)) s g0 g1 ha hz2
              have e1 := M.cnt
              have e2 := M.le
              simp only at e1
              have ih2 := ihr (x.shf o.g o.r (inc s.1, s.2)).2 (fun o' ho' => hl o' (by simp [ho'])) (by omega) e2 (by simp only [seqL] at hz1; rwa [ev] at hz1)
              simp only [seqL, ev, List.singleton_append]
              refine ⟨fun y hy => ?_, fun o' ho' ha' => ?_⟩
              · rcases List.mem_cons.1 hy with rfl | hy
                · exact ⟨o, by simp, _, rfl, M.ovr, M.ge, M.dep⟩
                · obtain ⟨o', ho', z, hz'⟩ := ih2.1 y hy
                  exact ⟨o', by simp [ho'], z, hz'⟩
              · rcases List.mem_cons.1 ho' with rfl | ho'
                · exact ⟨_, by simp, M.ge⟩
                · obtain ⟨z, z1, z2⟩ := ih2.2 o' ho' ha'
                  exact ⟨z, by simp [z1], z2⟩
            · have ev : ovF m c.m (fun b m st => Cd.shfH c.kids b m st) o s = ([], s) := by rw [ovF, if_neg ha]
              have ih2 := ihr s (fun o' ho' => hl o' (by simp [ho'])) g0 g1 (by simp only [seqL] at hz1; rwa [ev] at hz1)
              simp only [seqL, ev, List.nil_append]
              refine ⟨fun y hy => ?_, fun o' ho' ha' => ?_⟩
              · obtain ⟨o', ho', z, hz'⟩ := ih2.1 y hy
                exact ⟨o', by simp [ho'], z, hz'⟩
              · rcases List.mem_cons.1 ho' with rfl | ho'
                · exact absurd ha' ha
                · exact ih2.2 o' ho' ha'
        obtain ⟨mid1, mid2⟩ := mid _ (st1 st) (fun o ho => ho) (by omega) (by omega) hz
        obtain ⟨o0, ho0, ha0⟩ := agr_ex hm hx he
        obtain ⟨z0, z1, z2⟩ := mid2 o0 ho0 ha0
        have hcc : c.cnt = 1 + x.cnt := by rw [Cd.cnt_eq, hkx]; simp [Cd.cntL]
        have hcd : c.dep = x.dep + 1 := by rw [Cd.dep_eq, hkx, if_pos k5]; simp [Cd.depL]
        have oc : ∀ l, (cdOf 4 l).cnt = 1 + Cd.cntL l := fun l => by rw [cdOf, Cd.cnt]
        have od : ∀ l, (cdOf 4 l).dep = Cd.depL l := fun l => by rw [cdOf, Cd.dep]; simp
        constructor
        · refine Cd.ovr_of (shape_or (List.length_pos_of_mem z1)) rfl fun y hy => ?_
          obtain ⟨o, ho, z, rfl, q1, q2, q3⟩ := mid1 y hy
          have hk := overlapsR_ok ho
          refine Cd.ovr_of (shape_exOf o z) ?_ fun w hw => ?_
          · show ovrStep b 5 o.l o.g = 0
            rw [ovrStep, if_pos rfl, if_neg (by simp [hk.l]), if_pos hk.il]
          · have : w = z := by simpa [exOf, Cd.kids] using hw
            subst this
            exact q1
        · simp only; rw [oc]; omega
        · exact cnt.2
        · simp only
          rw [oc, hcc]
          have e1 := Cd.cnt_mem z1
          have e2 : (exOf o0 z0).cnt = 1 + z0.cnt := by simp [exOf, Cd.cnt, Cd.cntL]
          omega
        · simp only
          rw [od, hcd]
          refine Cd.depL_le fun y hy => ?_
          obtain ⟨o, ho, z, rfl, q1, q2, q3⟩ := mid1 y hy
          have e2 : (exOf o z).dep = z.dep + 1 := by simp [exOf, Cd.dep, Cd.depL]
          omega
      · rw [if_pos (by simp [he])] at hz
        exact absurd hz he
    · rw [if_pos k5] at hz ⊢
      have hii : c.inn a = a := if_neg k5
      rw [hii] at ih
      simp only at hz ⊢
      obtain ⟨i1, i2, i3, i4⟩ := shF_cnt (b := b) (m := m) c.kids (st1 st) (by omega) (by omega) (fun x hx s g0 g1 hz1 => ih x hx b m hm s g0 g1 hz1) hz
      have cnt := seqL_cnt (f := shF b m) (fun _ _ => shF_sticky) c.kids (st1 st) (by omega) (by omega) (fun x hx s g0 g1 hz1 => by
        have M := ih x hx b m hm s g0 g1 hz1
        have e1 := M.cnt
        have e2 := M.le
        simp only [shF, Cd.cntL]
        omega) hz
      have oc : ∀ l, (cdOf c.kind l).cnt = 1 + Cd.cntL l := fun l => by rw [cdOf, Cd.cnt]
      have od : ∀ l, (cdOf c.kind l).dep = Cd.depL l := fun l => by rw [cdOf, Cd.dep, if_neg k5]; rfl
      constructor
      · refine Cd.ovr_of (shape_cdOf (Cd.ovr_zero hv).1 k5 i4) (if_neg k5) fun y hy => ?_
        rw [Cd.inn, if_neg (show ¬ (cdOf c.kind (seqL (shF b m) c.kids (st1 st)).1).kind = 5 from k5)]
        exact i3 y hy
      · simp only; rw [oc]; omega
      · exact cnt.2
      · simp only; rw [oc, Cd.cnt_eq]; omega
      · simp only; rw [od, Cd.dep_eq, if_neg k5]; omega
end Go.AM
/-
  shift.shifted, Shift, Local.
-/
namespace Go.AM
open Go Go.Proofs
set_option linter.unusedSimpArgs false
set_option linter.unusedVariables false

theorem fit_nil : Gr.Fit ⟨[], []⟩ := ⟨by simp, by simp⟩
theorem fit_nilM : Mo.Fit ⟨[], []⟩ := ⟨by simp, by simp⟩
theorem cdOf_fit {k : Int} {l : List Cd} (hl : l.length ≤ kidN) (h : ∀ x ∈ l, x.Fit) : (cdOf k l).Fit := .mk hl fit_nilM fit_nil (by rw [bigN_eq]; simp [cdOf, Cd.sl]) (by rw [bigN_eq]; simp [cdOf, Cd.te]) h

/-- What shifting makes fits. -/
theorem seqL_all {α : Type} {f : α → St2 → List Cd × St2} {P : Cd → Prop} : ∀ (l : List α) (s : St2), (∀ x ∈ l, ∀ s, ∀ y ∈ (f x s).1, P y) → ∀ y ∈ (seqL f l s).1, P y
  | [], s, _, y, hy => by simp [seqL] at hy
  | x :: r, s, h, y, hy => by
    simp only [seqL] at hy
    rcases List.mem_append.1 hy with hy | hy
    · exact h x (by simp) s y hy
    · exact seqL_all r _ (fun z hz => h z (by simp [hz])) y hy
theorem shf_fit : ∀ (n : Nat) (c : Cd), SizeOf.sizeOf c < n → c.Fit → ∀ b : Gr, b.Fit → validG b = 0 → ∀ m st, (c.shf b m st).1.Fit
  | 0, c, hn, _, _, _, _, _, _ => absurd hn (Nat.not_lt_zero _)
  | n + 1, c, hn, hc, b, hb, hbv, m, st => by
    have ih := fun x (hx : x ∈ c.kids) => shf_fit n x (by have := Cd.kid_lt hx; omega) (hc.kid x hx)
    have hk0 := hc.kids
    have e0 : ∀ k, (cdOf k []).Fit := fun k => cdOf_fit (by rw [kidN_eq]; simp) (by simp)
    rw [c.shf_eq]
    unfold shStep
    split
    · exact e0 _
    · split
      · refine cdOf_fit (by rw [shF_len]; exact hk0) (seqL_all _ _ fun x hx s y hy => ?_)
        simp only [shF, List.mem_singleton] at hy
        subst hy
        exact ih x hx b hb hbv m s
      · split
        · exact e0 _
        · obtain ⟨hok, hfit⟩ := ovs_ok hb hbv hc.g rfl
          refine cdOf_fit ?_ (seqL_all _ _ fun o ho s y hy => ?_)
          · have h1 := ovF_len m c.m (fun b m st => Cd.shfH c.kids b m st) (overlapsR b c.g).1 (st1 st)
            have h2 := ovs_few (p := c.g) hbv rfl
            rw [kidN_eq]
            omega
          · by_cases ha : agrO m c.m o = true
            · rw [ovF_yes ha] at hy
              simp only [List.mem_singleton] at hy
              subst hy
              have of := hfit o ho
              refine .mk (by rw [kidN_eq]; simp [exOf, Cd.kids]) of.l of.g (by rw [bigN_eq]; simp [exOf, Cd.sl]) (by rw [bigN_eq]; simp [exOf, Cd.te]) fun z hz => ?_
              have hz' : z = (Cd.shfH c.kids o.g o.r (inc s.1, s.2)).1 := by simpa [exOf, Cd.kids] using hz
              subst hz'
              have hog := (validM_VM (hok o ho).l).vb
              cases hk : c.kids with
              | nil => exact e0 _
              | cons x r => exact ih x (by rw [hk]; simp) o.g of.g hog _ _
            · rw [ovF_no ha] at hy
              simp at hy

def shdR (b : Gr) (m : Mo) (c : Cd) : Cd × Int := if (c.shf b m (0, 0)).2.2 = 0 then ((c.shf b m (0, 0)).1, 0) else (cdOf 0 [], (c.shf b m (0, 0)).2.2)
def shiftR (a b : Gr) (m : Mo) (c : Cd) : Cd × Int := if arrR a b m ≠ 0 then (cdOf 0 [], arrR a b m) else if validC a c ≠ 0 then (cdOf 0 [], validC a c) else shdR b m c
theorem shifted_c (b : Gr) (m : Mo) (c : Cd) (hc : c.Fit) (a : Gr) (hv : c.ovr a = 0) (hb : b.Fit) (hbv : validG b = 0) (hm : Inn m a b) (tok : Nat → Bool) (nt : Nat) :
    DCall Try.prog 40 [b.av, m.av, c.av] tok nt (.tup [(shdR b m c).1.av, I (shdR b m c).2]) tok nt := by
  intro box nb
  have hs := shift62_c _ c (Nat.lt_succ_self _) hc a hv b hb hbv m hm (0, 0)
  obtain ⟨r, hr⟩ : ∃ r, c.shf b m (0, 0) = r := ⟨_, rfl⟩
  have hR : shdR b m c = if r.2.2 = 0 then (r.1, 0) else (cdOf 0 [], r.2.2) := by rw [shdR, hr]
  rw [hr] at hs
  refine ACalls.of_body Try.func40 rfl (by kernel_rfl) follows_Try (by kernel_rfl) (by simp [Try.ntmps40]) ?_
  intro hbox htok
  simp only at hbox htok
  apply AL.start
  try (simp)
  repeat ((repeat (first | refine AL.seq ?_ | refine AL.block ?_ | refine AL.skip ?_ | refine AL.blk ?_)); (refine AL.region follows_Try (Nat.le_refl _) (by kernel_rfl) ?_); simp)
  refine Stop.of_a (hs (nb + 11) _ (by simp [lb_at]) _ _ _) ?_
  rintro v m' ⟨rfl, rfl⟩
  simp
  try (simp)
  repeat ((repeat (first | refine AL.seq ?_ | refine AL.block ?_ | refine AL.skip ?_ | refine AL.blk ?_)); (refine AL.region follows_Try (Nat.le_refl _) (by kernel_rfl) ?_); simp)
  by_cases he : r.2.2 = 0
  · rw [if_pos he] at hR
    have be : (r.2.2 != 0) = false := by simp [he]
    simp only [be]
    repeat (first | refine AL.seq ?_ | refine AL.block ?_ | refine AL.skip ?_ | refine AL.blk ?_)
    refine AL.cond ?_
    simp
    trace_state
    try (simp)
    repeat ((repeat (first | refine AL.seq ?_ | refine AL.block ?_ | refine AL.skip ?_ | refine AL.blk ?_)); (refine AL.region follows_Try (Nat.le_refl _) (by kernel_rfl) ?_); simp)
    repeat (first | refine AL.seq ?_ | refine AL.block ?_ | refine AL.skip ?_ | refine AL.blk ?_)
    refine AL.ret ?_
    try simp only [AU]
    refine ⟨by simp, Fin.data (by simp [resAs, resA]; rfl) hbox rfl htok (fun _ h => h) (Nat.le_refl _) ?_⟩
    simp [packA, hR]
  · rw [if_neg he] at hR
    have be : (r.2.2 != 0) = true := by simp [he]
    simp only [be]
    repeat (first | refine AL.seq ?_ | refine AL.block ?_ | refine AL.skip ?_ | refine AL.blk ?_)
    refine AL.cond ?_
    simp
    repeat (first | refine AL.seq ?_ | refine AL.block ?_ | refine AL.skip ?_ | refine AL.blk ?_)
    refine AL.region2 follows_Try (Nat.le_refl _) (by kernel_rfl) (Side.of (by simp)) ?_
    simp
    try (simp)
    repeat ((repeat (first | refine AL.seq ?_ | refine AL.block ?_ | refine AL.skip ?_ | refine AL.blk ?_)); (refine AL.region follows_Try (Nat.le_refl _) (by kernel_rfl) ?_); simp)
    repeat (first | refine AL.seq ?_ | refine AL.block ?_ | refine AL.skip ?_ | refine AL.blk ?_)
    refine AL.ret ?_
    try simp only [AU]
    refine ⟨by simp, Fin.data (by simp [resAs, resA]; rfl) hbox rfl htok (fun _ h => h) (Nat.le_refl _) ?_⟩
    simp [packA, hR, cdOf, conds, ints, AM.edges, slots, tests, Cd.kind, Cd.kids, Cd.m, Cd.g, Cd.sl, Cd.vars, Cd.te]

theorem cdShift_c (a b : Gr) (m : Mo) (c : Cd) (ha : a.Fit) (hb : b.Fit) (hm : m.Fit) (hc : c.Fit) (tok : Nat → Bool) (nt : Nat) :
    DCall Try.prog 16 [a.av, b.av, m.av, c.av] tok nt (.tup [(shiftR a b m c).1.av, I (shiftR a b m c).2]) tok nt := by
  intro box nb
  have hi := cdInj_c a b m ha hb hm
  have hv := validC_c a c ha hc
  have hh := fun (h1 : arrR a b m = 0) (h2 : validC a c = 0) => shifted_c b m c hc a (validC_ovr h2).2.1 hb (validM_VM (arrR_valid h1).1).vb (Inn.of (arrR_valid h1).1)
  refine ACalls.of_body Try.func16 rfl (by kernel_rfl) follows_Try (by kernel_rfl) (by simp [Try.ntmps16]) ?_
  intro hbox htok
  simp only at hbox htok
  apply AL.start
  try (simp)
  repeat ((repeat (first | refine AL.seq ?_ | refine AL.block ?_ | refine AL.skip ?_ | refine AL.blk ?_)); (refine AL.region follows_Try (Nat.le_refl _) (by kernel_rfl) ?_); simp)
  refine Stop.of_d (hi _ _) ?_
  simp
  try (simp)
  repeat ((repeat (first | refine AL.seq ?_ | refine AL.block ?_ | refine AL.skip ?_ | refine AL.blk ?_)); (refine AL.region follows_Try (Nat.le_refl _) (by kernel_rfl) ?_); simp)
  by_cases h0 : arrR a b m = 0
  · simp only [h0]
    repeat (first | refine AL.seq ?_ | refine AL.block ?_ | refine AL.skip ?_ | refine AL.blk ?_)
    refine AL.cond ?_
    simp
    try (simp)
    repeat ((repeat (first | refine AL.seq ?_ | refine AL.block ?_ | refine AL.skip ?_ | refine AL.blk ?_)); (refine AL.region follows_Try (Nat.le_refl _) (by kernel_rfl) ?_); simp)
    refine Stop.of_d (hv _ _) ?_
    simp
    try (simp)
    repeat ((repeat (first | refine AL.seq ?_ | refine AL.block ?_ | refine AL.skip ?_ | refine AL.blk ?_)); (refine AL.region follows_Try (Nat.le_refl _) (by kernel_rfl) ?_); simp)
    by_cases h1 : validC a c = 0
    · have hh' := hh h0 h1
      have hR : shiftR a b m c = shdR b m c := by rw [shiftR, if_neg (by simp [h0]), if_neg (by simp [h1])]
      simp only [h1]
      repeat (first | refine AL.seq ?_ | refine AL.block ?_ | refine AL.skip ?_ | refine AL.blk ?_)
      refine AL.cond ?_
      simp
      try (simp)
      repeat ((repeat (first | refine AL.seq ?_ | refine AL.block ?_ | refine AL.skip ?_ | refine AL.blk ?_)); (refine AL.region follows_Try (Nat.le_refl _) (by kernel_rfl) ?_); simp)
      refine Stop.of_d (hh' _ _) ?_
      simp
      try (simp)
      repeat ((repeat (first | refine AL.seq ?_ | refine AL.block ?_ | refine AL.skip ?_ | refine AL.blk ?_)); (refine AL.region follows_Try (Nat.le_refl _) (by kernel_rfl) ?_); simp)
      repeat (first | refine AL.seq ?_ | refine AL.block ?_ | refine AL.skip ?_ | refine AL.blk ?_)
      refine AL.ret ?_
      try simp only [AU]
      refine ⟨by simp, Fin.data (by simp [resAs, resA]; rfl) hbox rfl htok (fun _ h => h) (Nat.le_refl _) ?_⟩
      simp [packA, hR]
    · have b1 : (validC a c != 0) = true := by simp [h1]
      have hR : shiftR a b m c = (cdOf 0 [], validC a c) := by rw [shiftR, if_neg (by simp [h0]), if_pos h1]
      simp only [b1]
      repeat (first | refine AL.seq ?_ | refine AL.block ?_ | refine AL.skip ?_ | refine AL.blk ?_)
      refine AL.cond ?_
      simp
      try (simp)
      repeat ((repeat (first | refine AL.seq ?_ | refine AL.block ?_ | refine AL.skip ?_ | refine AL.blk ?_)); (refine AL.region follows_Try (Nat.le_refl _) (by kernel_rfl) ?_); simp)
      repeat (first | refine AL.seq ?_ | refine AL.block ?_ | refine AL.skip ?_ | refine AL.blk ?_)
      refine AL.ret ?_
      try simp only [AU]
      refine ⟨by simp, Fin.data (by simp [resAs, resA]; rfl) hbox rfl htok (fun _ h => h) (Nat.le_refl _) ?_⟩
      simp [packA, hR, cdOf, conds, ints, AM.edges, slots, tests, Cd.kind, Cd.kids, Cd.m, Cd.g, Cd.sl, Cd.vars, Cd.te]
  · have b0 : (arrR a b m != 0) = true := by simp [h0]
    have hR : shiftR a b m c = (cdOf 0 [], arrR a b m) := by rw [shiftR, if_pos h0]
    simp only [b0]
    repeat (first | refine AL.seq ?_ | refine AL.block ?_ | refine AL.skip ?_ | refine AL.blk ?_)
    refine AL.cond ?_
    simp
    try (simp)
    repeat ((repeat (first | refine AL.seq ?_ | refine AL.block ?_ | refine AL.skip ?_ | refine AL.blk ?_)); (refine AL.region follows_Try (Nat.le_refl _) (by kernel_rfl) ?_); simp)
    repeat (first | refine AL.seq ?_ | refine AL.block ?_ | refine AL.skip ?_ | refine AL.blk ?_)
    refine AL.ret ?_
    try simp only [AU]
    refine ⟨by simp, Fin.data (by simp [resAs, resA]; rfl) hbox rfl htok (fun _ h => h) (Nat.le_refl _) ?_⟩
    simp [packA, hR, cdOf, conds, ints, AM.edges, slots, tests, Cd.kind, Cd.kids, Cd.m, Cd.g, Cd.sl, Cd.vars, Cd.te]

end Go.AM
/-
  The reference's finder: used, index, edges.
-/
namespace Go.AM
open Go Go.Proofs
set_option linter.unusedSimpArgs false
set_option linter.unusedVariables false

def stUs (xs : List Int) (v : Int) (nb : Nat) (box : Nat → Option (List (List AV))) (tok : Nat → Bool) (nt : Nat) (i : Nat) : AState := ⟨tl [(0, .d (ints xs)), (1, I v), (5, I i)], lb nb box [], tok, nt⟩

theorem used33_c (xs : List Int) (v : Int) (hx : xs.length ≤ 1000000) (tok : Nat → Bool) (nt : Nat) : DCall Try.prog 65 [.d (ints xs), I v] tok nt (B (decide (v ∈ xs))) tok nt := by
  intro box nb
  refine ACalls.of_body Try.func65 rfl (by kernel_rfl) follows_Try (by kernel_rfl) (by simp [Try.ntmps65]) ?_
  intro hbox htok
  simp only at hbox htok
  apply AL.start
  repeat (first | refine AL.seq ?_ | refine AL.block ?_ | refine AL.skip ?_ | refine AL.blk ?_)
  refine AL.region follows_Try (Nat.le_refl _) (by kernel_rfl) ?_
  simp
  repeat (first | refine AL.seq ?_ | refine AL.block ?_ | refine AL.skip ?_ | refine AL.blk ?_)
  refine AL.region follows_Try (Nat.le_refl _) (by kernel_rfl) ?_
  simp
  repeat (first | refine AL.seq ?_ | refine AL.block ?_ | refine AL.skip ?_ | refine AL.blk ?_)
  refine AL.loopT (stUs xs v nb box tok nt) (fun i => i ≤ xs.length ∧ v ∉ xs.take i) (fun i => xs.length - i) 0 ⟨Nat.zero_le _, by simp⟩ (Weaks.mk (Nat.le_refl _) rfl (by simp [ToL]) trivial) ?_
  rintro i S ⟨hi, htk⟩ hS
  simp only [stUs] at hS
  subst hS
  have hw : IntKind.i64.wrap (↑i + 1) = ((i + 1 : Nat) : Int) := by rw [wrap_in (by omega) (by omega)]; rfl
  repeat (first | refine AL.seq ?_ | refine AL.block ?_ | refine AL.skip ?_ | refine AL.blk ?_)
  refine AL.region follows_Try (Nat.le_refl _) (by kernel_rfl) ?_
  simp
  repeat (first | refine AL.seq ?_ | refine AL.block ?_ | refine AL.skip ?_ | refine AL.blk ?_)
  refine AL.cond ?_
  simp
  refine ⟨fun hlt => ?_, fun hge => ?_⟩
  · repeat (first | refine AL.seq ?_ | refine AL.block ?_ | refine AL.skip ?_ | refine AL.blk ?_)
    refine AL.region follows_Try (Nat.le_refl _) (by kernel_rfl) ?_
    simp [hlt]
    repeat (first | refine AL.seq ?_ | refine AL.block ?_ | refine AL.skip ?_ | refine AL.blk ?_)
    refine AL.cond ?_
    simp
    refine ⟨fun he => ?_, fun hne => ?_⟩
    · repeat (first | refine AL.seq ?_ | refine AL.block ?_ | refine AL.skip ?_ | refine AL.blk ?_)
      refine AL.region follows_Try (Nat.le_refl _) (by kernel_rfl) ?_
      simp
      have hmem : v ∈ xs := by rw [← he]; exact List.getElem_mem _
      repeat (first | refine AL.seq ?_ | refine AL.block ?_ | refine AL.skip ?_ | refine AL.blk ?_)
      refine AL.ret ?_
      try simp only [AU]
      refine ⟨by simp, Fin.data (by simp [resAs, resA]; rfl) hbox rfl htok (fun _ h => h) (Nat.le_refl _) ?_⟩
      simp [packA, hmem]
    · repeat (first | refine AL.seq ?_ | refine AL.block ?_ | refine AL.skip ?_ | refine AL.blk ?_)
      refine AL.region follows_Try (Nat.le_refl _) (by kernel_rfl) ?_
      simp [hw]
      repeat (first | refine AL.seq ?_ | refine AL.block ?_ | refine AL.skip ?_ | refine AL.blk ?_)
      refine AL.nil ?_
      refine ⟨i + 1, ⟨hlt, ?_⟩, by omega, Weaks.mk (Nat.le_refl _) rfl (by simp [ToL]) trivial⟩
      rw [List.take_succ_eq_append_getElem hlt]
      simp only [List.mem_append, List.mem_singleton, not_or]
      exact ⟨htk, fun e => hne e.symm⟩
  · repeat (first | refine AL.seq ?_ | refine AL.block ?_ | refine AL.skip ?_ | refine AL.blk ?_)
    refine AL.exit ?_
    simp only [AU, ↓reduceIte]
    repeat (first | refine AL.seq ?_ | refine AL.block ?_ | refine AL.skip ?_ | refine AL.blk ?_)
    refine AL.region follows_Try (Nat.le_refl _) (by kernel_rfl) ?_
    simp
    have hn : v ∉ xs := by rwa [List.take_of_length_le hge] at htk
    repeat (first | refine AL.seq ?_ | refine AL.block ?_ | refine AL.skip ?_ | refine AL.blk ?_)
    refine AL.ret ?_
    try simp only [AU]
    refine ⟨by simp, Fin.data (by simp [resAs, resA]; rfl) hbox rfl htok (fun _ h => h) (Nat.le_refl _) ?_⟩
    simp [packA, hn]
def stIx (xs : List Int) (v : Int) (nb : Nat) (box : Nat → Option (List (List AV))) (tok : Nat → Bool) (nt : Nat) (i : Nat) : AState := ⟨tl [(0, .d (ints xs)), (1, I v), (5, I i)], lb nb box [], tok, nt⟩

theorem index33_c (xs : List Int) (v : Int) (hx : xs.length ≤ 1000000) (tok : Nat → Bool) (nt : Nat) : DCall Try.prog 64 [.d (ints xs), I v] tok nt (I (indexI xs v)) tok nt := by
  intro box nb
  refine ACalls.of_body Try.func64 rfl (by kernel_rfl) follows_Try (by kernel_rfl) (by simp [Try.ntmps64]) ?_
  intro hbox htok
  simp only at hbox htok
  apply AL.start
  repeat (first | refine AL.seq ?_ | refine AL.block ?_ | refine AL.skip ?_ | refine AL.blk ?_)
  refine AL.region follows_Try (Nat.le_refl _) (by kernel_rfl) ?_
  simp
  repeat (first | refine AL.seq ?_ | refine AL.block ?_ | refine AL.skip ?_ | refine AL.blk ?_)
  refine AL.region follows_Try (Nat.le_refl _) (by kernel_rfl) ?_
  simp
  repeat (first | refine AL.seq ?_ | refine AL.block ?_ | refine AL.skip ?_ | refine AL.blk ?_)
  refine AL.loopT (stIx xs v nb box tok nt) (fun i => i ≤ xs.length ∧ v ∉ xs.take i) (fun i => xs.length - i) 0 ⟨Nat.zero_le _, by simp⟩ (Weaks.mk (Nat.le_refl _) rfl (by simp [ToL]) trivial) ?_
  rintro i S ⟨hi, htk⟩ hS
  simp only [stIx] at hS
  subst hS
  have hw : IntKind.i64.wrap (↑i + 1) = ((i + 1 : Nat) : Int) := by rw [wrap_in (by omega) (by omega)]; rfl
  repeat (first | refine AL.seq ?_ | refine AL.block ?_ | refine AL.skip ?_ | refine AL.blk ?_)
  refine AL.region follows_Try (Nat.le_refl _) (by kernel_rfl) ?_
  simp
  repeat (first | refine AL.seq ?_ | refine AL.block ?_ | refine AL.skip ?_ | refine AL.blk ?_)
  refine AL.cond ?_
  simp
  refine ⟨fun hlt => ?_, fun hge => ?_⟩
  · have hsp : xs = xs.take i ++ xs[i] :: xs.drop (i + 1) := by simp
    repeat (first | refine AL.seq ?_ | refine AL.block ?_ | refine AL.skip ?_ | refine AL.blk ?_)
    refine AL.region follows_Try (Nat.le_refl _) (by kernel_rfl) ?_
    simp [hlt]
    repeat (first | refine AL.seq ?_ | refine AL.block ?_ | refine AL.skip ?_ | refine AL.blk ?_)
    refine AL.cond ?_
    simp
    refine ⟨fun he => ?_, fun hne => ?_⟩
    · repeat (first | refine AL.seq ?_ | refine AL.block ?_ | refine AL.skip ?_ | refine AL.blk ?_)
      refine AL.region follows_Try (Nat.le_refl _) (by kernel_rfl) ?_
      simp
      have hmem : v ∈ xs := by rw [← he]; exact List.getElem_mem _
      have hid : xs.idxOf v = i := by
        unfold List.idxOf
        rw [List.findIdx_eq hlt]
        refine ⟨by simp [he], fun j hj => ?_⟩
        have : xs[j] ≠ v := fun e => htk (by rw [← e, List.mem_take_iff_getElem]; exact ⟨j, by omega, rfl⟩)
        simpa using this
      repeat (first | refine AL.seq ?_ | refine AL.block ?_ | refine AL.skip ?_ | refine AL.blk ?_)
      refine AL.ret ?_
      try simp only [AU]
      refine ⟨by simp, Fin.data (by simp [resAs, resA]; rfl) hbox rfl htok (fun _ h => h) (Nat.le_refl _) ?_⟩
      simp [packA, indexI, hmem, hid]
    · repeat (first | refine AL.seq ?_ | refine AL.block ?_ | refine AL.skip ?_ | refine AL.blk ?_)
      refine AL.region follows_Try (Nat.le_refl _) (by kernel_rfl) ?_
      simp [hw]
      repeat (first | refine AL.seq ?_ | refine AL.block ?_ | refine AL.skip ?_ | refine AL.blk ?_)
      refine AL.nil ?_
      refine ⟨i + 1, ⟨hlt, ?_⟩, by omega, Weaks.mk (Nat.le_refl _) rfl (by simp [ToL]) trivial⟩
      rw [List.take_succ_eq_append_getElem hlt]
      simp only [List.mem_append, List.mem_singleton, not_or]
      exact ⟨htk, fun e => hne e.symm⟩
  · repeat (first | refine AL.seq ?_ | refine AL.block ?_ | refine AL.skip ?_ | refine AL.blk ?_)
    refine AL.exit ?_
    simp only [AU, ↓reduceIte]
    repeat (first | refine AL.seq ?_ | refine AL.block ?_ | refine AL.skip ?_ | refine AL.blk ?_)
    refine AL.region follows_Try (Nat.le_refl _) (by kernel_rfl) ?_
    simp
    have hn : v ∉ xs := by rwa [List.take_of_length_le hge] at htk
    repeat (first | refine AL.seq ?_ | refine AL.block ?_ | refine AL.skip ?_ | refine AL.blk ?_)
    refine AL.ret ?_
    try simp only [AU]
    refine ⟨by simp, Fin.data (by simp [resAs, resA]; rfl) hbox rfl htok (fun _ h => h) (Nat.le_refl _) ?_⟩
    simp [packA, indexI, hn]

/-! ### What the finder lists -/
def lst {β : Type} (ok : Nat → Nat → Bool) (m : Nat) (fin : List Int → List β) : Nat → List Int → List β
  | 0, L => fin L
  | r + 1, L => (List.range m).flatMap fun (k : Nat) => if (!decide ((k : Int) ∈ L) && ok L.length k) = true then lst ok m fin r (L ++ [(k : Int)]) else []
/-- What a place must hold, if a map and what is behind it say so. -/
def atB (by' of : List Int) (i k : Nat) : Bool := decide (indexI by' i < 0) || decide (of.getD (indexI by' i).toNat 0 = k)
def okXE (p g : Gr) (x m : Mo) (N : List Int) (i k : Nat) : Bool := decide (g.edges.getD k default = wantX p N i) && atB x.edges m.edges i k
def okXN (p g : Gr) (x m : Mo) (i k : Nat) : Bool := decide (g.nodes.getD k 0 = p.nodes.getD i 0) && atB x.nodes m.nodes i k
def exE (p g : Gr) (x m : Mo) (N : List Int) (r : Nat) (L : List Int) : List Mo := lst (okXE p g x m N) g.edges.length (fun E => [⟨N, E⟩]) r L
def exN (p g : Gr) (x m : Mo) (r : Nat) (L : List Int) : List Mo := lst (okXN p g x m) g.nodes.length (fun N => exE p g x m N p.edges.length []) r L
def exts (p g : Gr) (x m : Mo) : List Mo := exN p g x m p.nodes.length []

abbrev Mo.cells (m : Mo) : List D := [ints m.nodes, ints m.edges]
abbrev fiRow (p g : Gr) (x m : Mo) (out : List Mo) (own : Own) : List AV := [.d (ints p.nodes), .d (AM.edges p.edges), .d (ints g.nodes), .d (AM.edges g.edges), .d (ints x.nodes), .d (ints x.edges), .d (ints m.nodes), .d (ints m.edges), .osl 2 (out.map Mo.cells) own]
def QFi (p g : Gr) (x m : Mo) (box : Nat → Option (List (List AV))) (nb k : Nat) (tok : Nat → Bool) (nt : Nat) (own : Own) (out : List Mo) (v : AV) (M : AMem) : Prop :=
  v = .tup [] ∧ ∃ own' tok' nt', M = ⟨upd box k (some [fiRow p g x m out own']), nb, tok', nt'⟩ ∧ Adv tok nt own tok' nt' own'
structure FiH (p g : Gr) (x m : Mo) : Prop where
  fp : p.Fit
  fg : g.Fit
  fx : x.Fit
  ep : ∀ e ∈ p.edges, 0 ≤ e.fr ∧ e.fr < p.nodes.length ∧ 0 ≤ e.to ∧ e.to < p.nodes.length
  ln : x.nodes.length ≤ m.nodes.length
  le : x.edges.length ≤ m.edges.length
theorem fiOk {p g : Gr} {x m : Mo} {out : List Mo} {own : Own} {box : Nat → Option (List (List AV))} {k base : Nat} {pp q : Nat → Prop} (hq : q = fun _ => True) : ∀ k' rows, k' < base → (upd box k (some [fiRow p g x m out own])) k' = some rows → box k' = some rows ∨ ∀ r ∈ rows, ∀ x ∈ r, OkIn pp q x := by
  subst hq
  intro k' rows hk' hr
  by_cases e : k' = k
  · subst e
    rw [upd_same] at hr
    cases hr
    exact .inr (by simp)
  · rw [upd_other _ _ e] at hr
    exact .inl hr
structure AccM where
  i : Nat
  out : List Mo
  own : Own
  tok : Nat → Bool
  nt : Nat
def candE33 (p g : Gr) (x m : Mo) (N : List Int) (r : Nat) (L : List Int) (k : Nat) : List Mo := if (!decide ((k : Int) ∈ L) && okXE p g x m N L.length k) = true then exE p g x m N r (L ++ [(k : Int)]) else []
def stFe (p g : Gr) (x m : Mo) (N L : List Int) (e : E) (nb k : Nat) (box : Nat → Option (List (List AV))) (y : AccM) : AState :=
  ⟨tl [(0, .ptr k 0 0), (1, .d (ints N)), (2, .d (ints L)), (7, .ptr (nb + 7) 0 0), (8, I (indexI x.edges L.length)), (9, I y.i)],
    lb nb (upd box k (some [fiRow p g x m y.out y.own])) [(7, [[I e.ty, I e.fr, I e.to]])], y.tok, y.nt⟩
theorem flat_le {β : Type} (f : Nat → List β) {i : Nat} : ∀ {n : Nat}, i ≤ n → ((List.range i).flatMap f).length ≤ ((List.range n).flatMap f).length
  | 0, h => by have : i = 0 := by omega
               subst this; exact Nat.le_refl _
  | n + 1, h => by
    by_cases e : i = n + 1
    · subst e; exact Nat.le_refl _
    · have := flat_le f (show i ≤ n by omega)
      rw [List.range_succ, List.flatMap_append, List.length_append]
      omega
theorem exE_succ (p g : Gr) (x m : Mo) (N : List Int) (r : Nat) (L : List Int) : exE p g x m N (r + 1) L = (List.range g.edges.length).flatMap (candE33 p g x m N r L) := rfl

set_option maxRecDepth 100000 in
theorem edges33_c (p g : Gr) (x m : Mo) (N : List Int) (h : FiH p g x m) (hN : N.length = p.nodes.length) : ∀ (r : Nat) (L : List Int) (out : List Mo) (own : Own) (box : Nat → Option (List (List AV))) (nb k : Nat) (tok : Nat → Bool) (nt : Nat), L.length + r = p.edges.length →
    out.length + (exE p g x m N r L).length ≤ 1000000000000 → box k = some [fiRow p g x m out own] → own.liveP tok →
    ACalls Try.prog 63 [.ptr k 0 0, .d (ints N), .d (ints L)] ⟨box, nb, tok, nt⟩ (QFi p g x m box nb k tok nt own (out ++ exE p g x m N r L)) := by
  intro r
  induction r with
  | zero =>
    intro L out own box nb k tok nt hL hroom hk hlive
    have hself : box = upd box k (some [fiRow p g x m out own]) := (upd_self box k _ hk).symm
    have hpe := h.fp.e
    refine ACalls.of_body Try.func63 rfl (by kernel_rfl) follows_Try (by kernel_rfl) (by simp [Try.ntmps63]) ?_
    intro hbox htok
    simp only at hbox htok
    apply AL.start
    have hkn := key_lt hbox hk
    have hLe : (L.length : Int) = (p.edges.length : Int) := by omega
    try (simp [lb_out hkn, hk])
    repeat ((repeat (first | refine AL.seq ?_ | refine AL.block ?_ | refine AL.skip ?_ | refine AL.blk ?_)); (refine AL.region follows_Try (Nat.le_refl _) (by kernel_rfl) ?_); simp [lb_out hkn, hk])
    have hb : ((L.length : Int) == (p.edges.length : Int)) = true := by simp [hLe]
    have he0 : exE p g x m N 0 L = [⟨N, L⟩] := rfl
    rw [he0] at hroom ⊢
    simp only [List.length_cons, List.length_nil] at hroom
    simp only [hb]
    repeat (first | refine AL.seq ?_ | refine AL.block ?_ | refine AL.skip ?_ | refine AL.blk ?_)
    refine AL.cond ?_
    simp
    try (simp [lb_out hkn, hk, upd_lb_out hkn])
    repeat ((repeat (first | refine AL.seq ?_ | refine AL.block ?_ | refine AL.skip ?_ | refine AL.blk ?_)); (refine AL.region follows_Try (Nat.le_refl _) (by kernel_rfl) ?_); simp [lb_out hkn, hk, upd_lb_out hkn])
    refine ⟨⟨by omega, hlive⟩, ?_⟩
    try (simp [lb_out hkn, hk, upd_lb_out hkn])
    repeat ((repeat (first | refine AL.seq ?_ | refine AL.block ?_ | refine AL.skip ?_ | refine AL.blk ?_)); (refine AL.region follows_Try (Nat.le_refl _) (by kernel_rfl) ?_); simp [lb_out hkn, hk, upd_lb_out hkn])
    repeat (first | refine AL.seq ?_ | refine AL.block ?_ | refine AL.skip ?_ | refine AL.blk ?_)
    refine AL.ret ?_
    try simp only [AU]
    refine ⟨by simp, (Fin.gen (vs := []) (av := .tup []) (tok' := upd (own.kill tok) nt true) (nt' := nt + 1) (by simp [resAs, resA]) ?_ (by omega) (Nat.le_refl _) (fun t h => ⟨h, .inl rfl⟩) ?_ (by simp [packA])).mono fun v M hq => ⟨hq.1, .tok nt, upd (own.kill tok) nt true, nt + 1, ?_, Adv.app hlive htok⟩⟩
    · rw [← upd_lb_out hkn, hbox]
    · intro k' rows hk' hr
      by_cases e : k' = k
      · subst e
        rw [upd_same] at hr
        cases hr
        exact .inr (by simp)
      · rw [upd_other _ _ e] at hr
        exact .inl hr
    · rw [hq.2]
      simp [fiRow]
  | succ r ih =>
    intro L out own box nb k tok nt hL hroom hk hlive
    have hself : box = upd box k (some [fiRow p g x m out own]) := (upd_self box k _ hk).symm
    have hpe := h.fp.e
    have hge := h.fg.e
    have hlt : L.length < p.edges.length := by omega
    refine ACalls.of_body Try.func63 rfl (by kernel_rfl) follows_Try (by kernel_rfl) (by simp [Try.ntmps63]) ?_
    intro hbox htok
    simp only at hbox htok
    apply AL.start
    have hkn := key_lt hbox hk
    try (simp [lb_out hkn, hk])
    repeat ((repeat (first | refine AL.seq ?_ | refine AL.block ?_ | refine AL.skip ?_ | refine AL.blk ?_)); (refine AL.region follows_Try (Nat.le_refl _) (by kernel_rfl) ?_); simp [lb_out hkn, hk])
    have hb : ((L.length : Int) == (p.edges.length : Int)) = false := by simp; omega
    simp only [hb]
    repeat (first | refine AL.seq ?_ | refine AL.block ?_ | refine AL.skip ?_ | refine AL.blk ?_)
    refine AL.cond ?_
    simp
    try (simp [lb_out hkn, hk, hlt])
    repeat ((repeat (first | refine AL.seq ?_ | refine AL.block ?_ | refine AL.skip ?_ | refine AL.blk ?_)); (refine AL.region follows_Try (Nat.le_refl _) (by kernel_rfl) ?_); simp [lb_out hkn, hk, hlt])
    refine Stop.of_d (index33_c x.edges L.length h.fx.e _ _) ?_
    simp
    try (simp [lb_out hkn, hk, hlt])
    repeat ((repeat (first | refine AL.seq ?_ | refine AL.block ?_ | refine AL.skip ?_ | refine AL.blk ?_)); (refine AL.region follows_Try (Nat.le_refl _) (by kernel_rfl) ?_); simp [lb_out hkn, hk, hlt])
    repeat (first | refine AL.seq ?_ | refine AL.block ?_ | refine AL.skip ?_ | refine AL.blk ?_)
    obtain ⟨x1, x2, x3, x4⟩ := h.ep p.edges[L.length] (List.getElem_mem hlt)
    have hwant : wantX p N L.length = ⟨p.edges[L.length].ty, N.getD p.edges[L.length].fr.toNat 0, N.getD p.edges[L.length].to.toNat 0⟩ := by simp [wantX, hlt]
    have hcand : ∀ i : Nat, candE33 p g x m N r L i = if (!decide ((i : Int) ∈ L) && (decide (g.edges.getD i default = wantX p N L.length) && atB x.edges m.edges L.length i)) = true then exE p g x m N r (L ++ [(i : Int)]) else [] := fun i => rfl
    rw [hwant] at hcand
    generalize p.edges[L.length] = e at *
    have y1 : e.fr.toNat < N.length := by omega
    have y2 : e.to.toNat < N.length := by omega
    have hlb : ∀ loc, lb nb box loc = lb nb (upd box k (some [fiRow p g x m out own])) loc := fun loc => by rw [← hself]
    rw [hlb]
    rw [exE_succ] at hroom ⊢
    refine AL.loopT (stFe p g x m N L e nb k box) (fun y => y.i ≤ g.edges.length ∧ y.out = out ++ (List.range y.i).flatMap (candE33 p g x m N r L) ∧ Adv tok nt own y.tok y.nt y.own) (fun y => g.edges.length - y.i)
      ⟨0, out, own, tok, nt⟩ ⟨Nat.zero_le _, by simp, Adv.refl hlive htok⟩ (Weaks.mk' (Nat.le_refl _) (by simp [ToL, lk]; exact to_ptr (by rw [lb_out hkn, upd_same]; simp)) (by simp [BoxL, lk]) (fiOk rfl)) ?_
    rintro ⟨i, out2, own2, tok2, nt2⟩ S ⟨hi, hout, hadv2⟩ hS
    simp only [stFe] at hS hi hout hadv2
    subst hS
    have hw : IntKind.i64.wrap (↑i + 1) = ((i + 1 : Nat) : Int) := by rw [wrap_in (by omega) (by omega)]; rfl
    have hsucc : (List.range (i + 1)).flatMap (candE33 p g x m N r L) = (List.range i).flatMap (candE33 p g x m N r L) ++ candE33 p g x m N r L i := by rw [List.range_succ, List.flatMap_append]; simp
    try (simp [lb_out hkn, upd_same])
    repeat ((repeat (first | refine AL.seq ?_ | refine AL.block ?_ | refine AL.skip ?_ | refine AL.blk ?_)); (refine AL.region follows_Try (Nat.le_refl _) (by kernel_rfl) ?_); simp [lb_out hkn, upd_same])
    repeat (first | refine AL.seq ?_ | refine AL.block ?_ | refine AL.skip ?_ | refine AL.blk ?_)
    refine AL.cond ?_
    simp
    refine ⟨fun hli => ?_, fun hge => ?_⟩
    · have hcand' := hcand i
      try (simp [lb_out hkn, upd_same])
      repeat ((repeat (first | refine AL.seq ?_ | refine AL.block ?_ | refine AL.skip ?_ | refine AL.blk ?_)); (refine AL.region follows_Try (Nat.le_refl _) (by kernel_rfl) ?_); simp [lb_out hkn, upd_same])
      refine Stop.of_d (used33_c L i (by omega) _ _) ?_
      simp [lb_out hkn, upd_same]
      have hgi : g.edges.getD i default = g.edges[i] := by simp [hli]
      have hNf : N.getD e.fr.toNat 0 = N[e.fr.toNat] := by simp [y1]
      have hNt : N.getD e.to.toNat 0 = N[e.to.toNat] := by simp [y2]
      rw [hgi, hNf, hNt] at hcand'
      by_cases hin : (i : Int) ∈ L
      · have hc0 : candE33 p g x m N r L i = [] := by rw [hcand', if_neg (by simp [hin])]
        simp [hin]
        try (simp [lb_out hkn, upd_same])
        repeat ((repeat (first | refine AL.seq ?_ | refine AL.block ?_ | refine AL.skip ?_ | refine AL.blk ?_)); (refine AL.region follows_Try (Nat.le_refl _) (by kernel_rfl) ?_); simp [lb_out hkn, upd_same])
        repeat (first | refine AL.seq ?_ | refine AL.block ?_ | refine AL.skip ?_ | refine AL.blk ?_)
        refine AL.cond ?_
        simp
        try (simp [hw])
        repeat ((repeat (first | refine AL.seq ?_ | refine AL.block ?_ | refine AL.skip ?_ | refine AL.blk ?_)); (refine AL.region follows_Try (Nat.le_refl _) (by kernel_rfl) ?_); simp [hw])
        repeat (first | refine AL.seq ?_ | refine AL.block ?_ | refine AL.skip ?_ | refine AL.blk ?_)
        refine AL.nil ?_
        refine ⟨⟨i + 1, out2, own2, tok2, nt2⟩, ⟨hli, by simp only; rw [hsucc, hc0, List.append_nil]; exact hout, hadv2⟩, by simp only; omega, Weaks.mk' hadv2.le (by simp [ToL, lk]; exact to_ptr (by rw [lb_out hkn, upd_same]; simp)) (by simp [BoxL, lk]) (fiOk rfl)⟩
      · simp [hin, lb_out hkn, upd_same, hli, x1, x3, y1, y2]
        simp only [E.eq_and3]
        refine ⟨by omega, by omega, ?_⟩
        by_cases hE : g.edges[i] = ⟨e.ty, N[e.fr.toNat], N[e.to.toNat]⟩
        · rw [decide_eq_true hE]
          have hat : atB x.edges m.edges L.length i = (decide (indexI x.edges L.length < 0) || decide (m.edges.getD (indexI x.edges L.length).toNat 0 = i)) := rfl
          have hidx : indexI x.edges L.length < 0 ∨ (0 ≤ indexI x.edges L.length ∧ (indexI x.edges L.length).toNat < m.edges.length ∧ indexI x.edges L.length < m.edges.length) := by
            rcases indexI_cases x.edges L.length with ⟨_, h1⟩ | ⟨j, hj, h1, _⟩
            · left; omega
            · right; have := h.le; rw [h1]; omega
          generalize hqe : indexI x.edges ↑L.length = q at *
          rcases hidx with hq | ⟨hq0, hq1, hq2⟩
          · have hbq : decide (q < 0) = true := decide_eq_true hq
            simp [hq]
            try (simp [lb_out hkn, upd_same, hq])
            repeat ((repeat (first | refine AL.seq ?_ | refine AL.block ?_ | refine AL.skip ?_ | refine AL.blk ?_)); (refine AL.region follows_Try (Nat.le_refl _) (by kernel_rfl) ?_); simp [lb_out hkn, upd_same, hq])
            have hc1 : candE33 p g x m N r L i = exE p g x m N r (L ++ [(i : Int)]) := by rw [hcand', if_pos (by simp [hin, hE, hat, hq])]
            repeat (first | refine AL.seq ?_ | refine AL.block ?_ | refine AL.skip ?_ | refine AL.blk ?_)
            refine AL.cond ?_
            simp
            try (simp [lb_out hkn, upd_same])
            repeat ((repeat (first | refine AL.seq ?_ | refine AL.block ?_ | refine AL.skip ?_ | refine AL.blk ?_)); (refine AL.region follows_Try (Nat.le_refl _) (by kernel_rfl) ?_); simp [lb_out hkn, upd_same])
            refine ⟨by omega, by omega, ?_⟩
            refine Stop.data ?_
            simp only [List.map, AV.asD]
            rw [rI_snoc]
            have had := Adv.fresh hadv2.live hadv2.lt
            have hlen := flat_le (candE33 p g x m N r L) (show i + 1 ≤ g.edges.length from hli)
            rw [hsucc, hc1, List.length_append] at hlen
            refine Stop.of_a (ih (L ++ [(i : Int)]) out2 own2 _ _ k _ _ (by simp; omega) (by rw [hout, List.length_append]; omega) (by simp only [lb_out hkn, upd_same]) had.live) ?_
            rintro v M ⟨rfl, own3, tok3, nt3, rfl, hadv⟩
            simp [upd_lb_out hkn, upd_upd]
            have had3 : Adv tok nt own tok3 nt3 own3 := hadv2.trans htok (had.trans hadv2.lt hadv)
            clear hadv had
            try (simp [hw])
            repeat ((repeat (first | refine AL.seq ?_ | refine AL.block ?_ | refine AL.skip ?_ | refine AL.blk ?_)); (refine AL.region follows_Try (Nat.le_refl _) (by kernel_rfl) ?_); simp [hw])
            repeat (first | refine AL.seq ?_ | refine AL.block ?_ | refine AL.skip ?_ | refine AL.blk ?_)
            refine AL.nil ?_
            refine ⟨⟨i + 1, out2 ++ exE p g x m N r (L ++ [(i : Int)]), own3, tok3, nt3⟩, ⟨hli, by simp only; rw [hsucc, hc1, hout, List.append_assoc], had3⟩, by simp only; omega, ?_⟩
            simp only [stFe]
            refine Weaks.mk' had3.le ?_ ?_ (fiOk rfl)
            · simp [ToL, lk, hqe]
              exact to_ptr (by rw [lb_out hkn, upd_same]; simp)
            · simp [BoxL, lk]
          · have hq : ¬ q < 0 := by omega
            have hmf : m.edges.getD q.toNat 0 = m.edges[q.toNat] := by simp [hq1]
            rw [hmf] at hat
            by_cases hm : m.edges[q.toNat] = (i : Int)
            · simp [hq, lb_out hkn, upd_same, hq0, hq1, hq2, hm]
              try (simp [lb_out hkn, upd_same, hq])
              repeat ((repeat (first | refine AL.seq ?_ | refine AL.block ?_ | refine AL.skip ?_ | refine AL.blk ?_)); (refine AL.region follows_Try (Nat.le_refl _) (by kernel_rfl) ?_); simp [lb_out hkn, upd_same, hq])
              have hc1 : candE33 p g x m N r L i = exE p g x m N r (L ++ [(i : Int)]) := by rw [hcand', if_pos (by simp [hin, hE, hat, hq, hm])]
              repeat (first | refine AL.seq ?_ | refine AL.block ?_ | refine AL.skip ?_ | refine AL.blk ?_)
              refine AL.cond ?_
              simp
              try (simp [lb_out hkn, upd_same])
              repeat ((repeat (first | refine AL.seq ?_ | refine AL.block ?_ | refine AL.skip ?_ | refine AL.blk ?_)); (refine AL.region follows_Try (Nat.le_refl _) (by kernel_rfl) ?_); simp [lb_out hkn, upd_same])
              refine ⟨by omega, by omega, ?_⟩
              refine Stop.data ?_
              simp only [List.map, AV.asD]
              rw [rI_snoc]
              have had := Adv.fresh hadv2.live hadv2.lt
              have hlen := flat_le (candE33 p g x m N r L) (show i + 1 ≤ g.edges.length from hli)
              rw [hsucc, hc1, List.length_append] at hlen
              refine Stop.of_a (ih (L ++ [(i : Int)]) out2 own2 _ _ k _ _ (by simp; omega) (by rw [hout, List.length_append]; omega) (by simp only [lb_out hkn, upd_same]) had.live) ?_
              rintro v M ⟨rfl, own3, tok3, nt3, rfl, hadv⟩
              simp [upd_lb_out hkn, upd_upd]
              have had3 : Adv tok nt own tok3 nt3 own3 := hadv2.trans htok (had.trans hadv2.lt hadv)
              clear hadv had
              try (simp [hw])
              repeat ((repeat (first | refine AL.seq ?_ | refine AL.block ?_ | refine AL.skip ?_ | refine AL.blk ?_)); (refine AL.region follows_Try (Nat.le_refl _) (by kernel_rfl) ?_); simp [hw])
              repeat (first | refine AL.seq ?_ | refine AL.block ?_ | refine AL.skip ?_ | refine AL.blk ?_)
              refine AL.nil ?_
              refine ⟨⟨i + 1, out2 ++ exE p g x m N r (L ++ [(i : Int)]), own3, tok3, nt3⟩, ⟨hli, by simp only; rw [hsucc, hc1, hout, List.append_assoc], had3⟩, by simp only; omega, ?_⟩
              simp only [stFe]
              refine Weaks.mk' had3.le ?_ ?_ (fiOk rfl)
              · simp [ToL, lk, hqe]
                exact to_ptr (by rw [lb_out hkn, upd_same]; simp)
              · simp [BoxL, lk]
            · have hc0 : candE33 p g x m N r L i = [] := by rw [hcand', if_neg (by simp [hat, hq, hm])]
              have hbm : (m.edges[q.toNat] == (i : Int)) = false := by simp [hm]
              simp [hq, lb_out hkn, upd_same, hq0, hq1, hq2, hbm]
              try (simp [lb_out hkn, upd_same, hq])
              repeat ((repeat (first | refine AL.seq ?_ | refine AL.block ?_ | refine AL.skip ?_ | refine AL.blk ?_)); (refine AL.region follows_Try (Nat.le_refl _) (by kernel_rfl) ?_); simp [lb_out hkn, upd_same, hq])
              repeat (first | refine AL.seq ?_ | refine AL.block ?_ | refine AL.skip ?_ | refine AL.blk ?_)
              refine AL.cond ?_
              simp
              try (simp [hw])
              repeat ((repeat (first | refine AL.seq ?_ | refine AL.block ?_ | refine AL.skip ?_ | refine AL.blk ?_)); (refine AL.region follows_Try (Nat.le_refl _) (by kernel_rfl) ?_); simp [hw])
              repeat (first | refine AL.seq ?_ | refine AL.block ?_ | refine AL.skip ?_ | refine AL.blk ?_)
              refine AL.nil ?_
              refine ⟨⟨i + 1, out2, own2, tok2, nt2⟩, ⟨hli, by simp only; rw [hsucc, hc0, List.append_nil]; exact hout, hadv2⟩, by simp only; omega, Weaks.mk' hadv2.le (by simp [ToL, lk, hqe]; exact to_ptr (by rw [lb_out hkn, upd_same]; simp)) (by simp [BoxL, lk]) (fiOk rfl)⟩
        · have hc0 : candE33 p g x m N r L i = [] := by rw [hcand', if_neg (by simp [hE])]
          rw [decide_eq_false hE]
          simp
          try (simp [lb_out hkn, upd_same])
          repeat ((repeat (first | refine AL.seq ?_ | refine AL.block ?_ | refine AL.skip ?_ | refine AL.blk ?_)); (refine AL.region follows_Try (Nat.le_refl _) (by kernel_rfl) ?_); simp [lb_out hkn, upd_same])
          repeat (first | refine AL.seq ?_ | refine AL.block ?_ | refine AL.skip ?_ | refine AL.blk ?_)
          refine AL.cond ?_
          simp
          try (simp [hw])
          repeat ((repeat (first | refine AL.seq ?_ | refine AL.block ?_ | refine AL.skip ?_ | refine AL.blk ?_)); (refine AL.region follows_Try (Nat.le_refl _) (by kernel_rfl) ?_); simp [hw])
          repeat (first | refine AL.seq ?_ | refine AL.block ?_ | refine AL.skip ?_ | refine AL.blk ?_)
          refine AL.nil ?_
          refine ⟨⟨i + 1, out2, own2, tok2, nt2⟩, ⟨hli, by simp only; rw [hsucc, hc0, List.append_nil]; exact hout, hadv2⟩, by simp only; omega, Weaks.mk' hadv2.le (by simp [ToL, lk]; exact to_ptr (by rw [lb_out hkn, upd_same]; simp)) (by simp [BoxL, lk]) (fiOk rfl)⟩
    · repeat (first | refine AL.seq ?_ | refine AL.block ?_ | refine AL.skip ?_ | refine AL.blk ?_)
      refine AL.exit ?_
      simp only [AU, ↓reduceIte]
      have hin : i = g.edges.length := by omega
      subst hin
      repeat (first | refine AL.seq ?_ | refine AL.block ?_ | refine AL.skip ?_ | refine AL.blk ?_)
      refine AL.nil ?_
      refine ⟨by simp, (Fin.gen (vs := []) (av := .tup []) (tok' := tok2) (nt' := nt2) (by simp [resAs, resA]) ?_ hadv2.le (Nat.le_refl _) (fun t h => ⟨h, .inl rfl⟩) (fiOk (by simp)) (by simp [packA])).mono fun v M hq => ⟨hq.1, own2, tok2, nt2, ?_, hadv2⟩⟩
      · rw [← upd_lb_out hkn, hbox]
      · rw [hq.2, hout]
end Go.AM
/-
  What the finder lists: the embeddings behind a map. Plain laws.
-/
namespace Go.AM
open Go Go.Proofs
set_option linter.unusedSimpArgs false
set_option linter.unusedVariables false

structure Ls (ok : Nat → Nat → Bool) (m r : Nat) (L L' : List Int) : Prop where
  len : L'.length = L.length + r
  pre : ∀ j, j < L.length → L'.getD j 0 = L.getD j 0
  new : ∀ j, L.length ≤ j → j < L'.length → ∃ k : Nat, L'.getD j 0 = k ∧ k < m ∧ ok j k = true ∧ ∀ i, i < j → L'.getD i 0 ≠ k
theorem lst_mem {β : Type} (ok : Nat → Nat → Bool) (m : Nat) (fin : List Int → List β) (y : β) : ∀ (r : Nat) (L : List Int), y ∈ lst ok m fin r L ↔ ∃ L', Ls ok m r L L' ∧ y ∈ fin L'
  | 0, L => by
    simp only [lst]
    constructor
    · intro h
      exact ⟨L, ⟨by omega, fun _ _ => rfl, fun j h1 h2 => by omega⟩, h⟩
    · rintro ⟨L', h, hy⟩
      have : L' = L := ext_getD (by have := h.len; omega) fun j hj => h.pre j (by have := h.len; omega)
      rwa [this] at hy
  | r + 1, L => by
    simp only [lst, List.mem_flatMap, List.mem_range]
    constructor
    · rintro ⟨k, hk, hy⟩
      split at hy
      · rename_i hc
        simp only [Bool.and_eq_true, Bool.not_eq_true', decide_eq_false_iff_not] at hc
        obtain ⟨L', h, hf⟩ := (lst_mem ok m fin y r (L ++ [(k : Int)])).1 hy
        have hl := h.len
        simp only [List.length_append, List.length_cons, List.length_nil] at hl
        have hpre : ∀ j, j < L.length → L'.getD j 0 = L.getD j 0 := fun j hj => by rw [h.pre j (by simp; omega), getD_lt hj]
        refine ⟨L', ⟨by omega, hpre, fun j h1 h2 => ?_⟩, hf⟩
        by_cases e : j = L.length
        · subst e
          refine ⟨k, by rw [h.pre _ (by simp), getD_at], hk, hc.2, fun i hi e2 => hc.1 ?_⟩
          rw [hpre i hi] at e2
          rw [← e2]
          exact getD_mem hi
        · exact h.new j (by simp; omega) h2
      · simp at hy
    · rintro ⟨L', h, hf⟩
      have hl := h.len
      obtain ⟨k, k1, k2, k3, k4⟩ := h.new L.length (Nat.le_refl _) (by omega)
      have hk : (k : Int) ∉ L := fun hm => by
        obtain ⟨j, hj, e⟩ := mem_getD hm
        exact k4 j hj (by rw [h.pre j hj, e])
      refine ⟨k, k2, ?_⟩
      rw [if_pos (by simp [hk, k3])]
      refine (lst_mem ok m fin y r (L ++ [(k : Int)])).2 ⟨L', ⟨by simp; omega, fun j hj => ?_, fun j h1 h2 => h.new j (by simp at h1; omega) h2⟩, hf⟩
      simp only [List.length_append, List.length_cons, List.length_nil] at hj
      by_cases e : j = L.length
      · subst e; rw [getD_at, k1]
      · rw [getD_lt (by omega)]; exact h.pre j (by omega)
theorem Ls.nodup {ok : Nat → Nat → Bool} {m r : Nat} {L' : List Int} (h : Ls ok m r [] L') : L'.Nodup := by
  rw [nodup_getD]
  intro i j hij hj e
  obtain ⟨k, k1, _, _, k4⟩ := h.new j (Nat.zero_le _) hj
  exact k4 i hij (by rw [e, k1])
theorem lst_len {β : Type} (ok : Nat → Nat → Bool) (m : Nat) (fin : List Int → List β) (B : Nat) (hB : ∀ L, (fin L).length ≤ B) : ∀ (r : Nat) (L : List Int), (lst ok m fin r L).length ≤ m ^ r * B
  | 0, L => by simp only [lst, Nat.pow_zero, Nat.one_mul]; exact hB L
  | r + 1, L => by
    simp only [lst]
    have := flatMap_le (fun (k : Nat) => if (!decide ((k : Int) ∈ L) && ok L.length k) = true then lst ok m fin r (L ++ [(k : Int)]) else []) (m ^ r * B) (fun k => by
      split
      · exact lst_len ok m fin B hB r _
      · simp) (List.range m)
    rw [List.length_range] at this
    rw [Nat.pow_succ, Nat.mul_comm (m ^ r) m, Nat.mul_assoc]
    exact this
theorem exE_len (p g : Gr) (x m : Mo) (N : List Int) (r : Nat) (L : List Int) : (exE p g x m N r L).length ≤ g.edges.length ^ r := by
  have := lst_len (okXE p g x m N) g.edges.length (fun E => [(⟨N, E⟩ : Mo)]) 1 (fun _ => by simp) r L
  rw [Nat.mul_one] at this
  exact this
theorem exN_len (p g : Gr) (x m : Mo) (r : Nat) (L : List Int) : (exN p g x m r L).length ≤ g.nodes.length ^ r * g.edges.length ^ p.edges.length :=
  lst_len _ _ _ _ (fun N => exE_len p g x m N _ _) r L

theorem atB_iff {by' of : List Int} {i k : Nat} : atB by' of i k = true ↔ ∀ j, j < by'.length → indexI by' i = j → of.getD j 0 = k := by
  simp only [atB, Bool.or_eq_true, decide_eq_true_eq]
  rcases indexI_cases by' i with ⟨_, h⟩ | ⟨j, hj, h, _⟩
  · rw [h]
    constructor
    · intro _ j _ e; omega
    · intro _; exact .inl (by omega)
  · rw [h]
    constructor
    · rintro (h1 | h1) q hq e
      · omega
      · have : q = j := by omega
        subst this
        rwa [Int.toNat_natCast] at h1
    · intro h1
      exact .inr (by rw [Int.toNat_natCast]; exact h1 j hj rfl)

theorem exts_iff {a p g : Gr} {x m : Mo} (hx : Emb a p x) (hm : Emb a g m) (q : Mo) : q ∈ exts p g x m ↔ Emb p g q ∧ thenM x q = m := by
  have v := hx.vm
  have w := hm.vm
  have atN : ∀ i, i < a.nodes.length → indexI x.nodes (x.nodes.getD i 0) = i := fun i hi => indexI_at hx.n (by rw [v.ln]; exact hi)
  have atE : ∀ i, i < a.edges.length → indexI x.edges (x.edges.getD i 0) = i := fun i hi => indexI_at hx.e (by rw [v.le]; exact hi)
  unfold exts exN
  rw [lst_mem]
  constructor
  · rintro ⟨N, hN, hq⟩
    unfold exE at hq
    rw [lst_mem] at hq
    obtain ⟨E', hE, hq⟩ := hq
    rw [List.mem_singleton] at hq
    subst hq
    have lN : N.length = p.nodes.length := by simpa using hN.len
    have lE : E'.length = p.edges.length := by simpa using hE.len
    have on : ∀ i, i < a.nodes.length → N.getD (x.nodes.getD i 0).toNat 0 = m.nodes.getD i 0 := fun i hi => by
      have hxi := nat_of (v.n _ (getD_mem (d := 0) (show i < x.nodes.length by rw [v.ln]; exact hi)))
      obtain ⟨k, k1, k2, k3, _⟩ := hN.new _ (Nat.zero_le _) (by rw [lN]; exact hxi.1)
      have h3 := (Bool.and_eq_true _ _ ▸ k3).2
      rw [atB_iff, hxi.2] at h3
      rw [k1, h3 i (by rw [v.ln]; exact hi) (atN i hi)]
    have oe : ∀ i, i < a.edges.length → E'.getD (x.edges.getD i 0).toNat 0 = m.edges.getD i 0 := fun i hi => by
      have hxi := nat_of (v.e _ (getD_mem (d := 0) (show i < x.edges.length by rw [v.le]; exact hi)))
      obtain ⟨k, k1, k2, k3, _⟩ := hE.new _ (Nat.zero_le _) (by rw [lE]; exact hxi.1)
      have h3 := (Bool.and_eq_true _ _ ▸ k3).2
      rw [atB_iff, hxi.2] at h3
      rw [k1, h3 i (by rw [v.le]; exact hi) (atE i hi)]
    refine ⟨⟨validM_of ⟨v.vb, w.vb, lN, lE, fun y hy => ?_, fun y hy => ?_, fun j hj => ?_, fun j hj => ?_⟩, hN.nodup, hE.nodup⟩, ?_⟩
    · obtain ⟨j, hj, rfl⟩ := mem_getD hy
      obtain ⟨k, k1, k2, _⟩ := hN.new j (Nat.zero_le _) hj
      rw [k1]; omega
    · obtain ⟨j, hj, rfl⟩ := mem_getD hy
      obtain ⟨k, k1, k2, _⟩ := hE.new j (Nat.zero_le _) hj
      rw [k1]; omega
    · obtain ⟨k, k1, k2, k3, _⟩ := hN.new j (Nat.zero_le _) (by rw [lN]; exact hj)
      simp only
      rw [k1, Int.toNat_natCast]
      exact of_decide_eq_true (Bool.and_eq_true _ _ ▸ k3).1
    · obtain ⟨k, k1, k2, k3, _⟩ := hE.new j (Nat.zero_le _) (by rw [lE]; exact hj)
      simp only
      rw [k1, Int.toNat_natCast]
      exact of_decide_eq_true (Bool.and_eq_true _ _ ▸ k3).1
    · simp only [thenM]
      rw [byK_ext (t := m.nodes) (by rw [v.ln, w.ln]) (fun i hi => on i (by rw [← v.ln]; exact hi)), byK_ext (t := m.edges) (by rw [v.le, w.le]) (fun i hi => oe i (by rw [← v.le]; exact hi))]
  · rintro ⟨hq, he⟩
    have u := hq.vm
    have qn : ∀ i, i < x.nodes.length → q.nodes.getD (x.nodes.getD i 0).toNat 0 = m.nodes.getD i 0 := fun i hi => by rw [← he]; exact (byK_getD hi).symm
    have qe : ∀ i, i < x.edges.length → q.edges.getD (x.edges.getD i 0).toNat 0 = m.edges.getD i 0 := fun i hi => by rw [← he]; exact (byK_getD hi).symm
    have at1 : ∀ (by' of t : List Int) (j : Nat), (∀ i, i < by'.length → t.getD (by'.getD i 0).toNat 0 = of.getD i 0) → 0 ≤ t.getD j 0 → atB by' of j (t.getD j 0).toNat = true := fun by' of t j h h0 => by
      rw [atB_iff]
      intro i hi e
      rcases indexI_cases by' j with ⟨_, h1⟩ | ⟨i', hi', h1, h2⟩
      · omega
      · have : i' = i := by omega
        subst this
        have := h i' hi'
        rw [h2, Int.toNat_natCast] at this
        omega
    refine ⟨q.nodes, ⟨by simpa using u.ln, fun j hj => by simp at hj, fun j _ hj => ?_⟩, ?_⟩
    · have h1 := u.n _ (getD_mem (d := 0) hj)
      refine ⟨_, (nat_of h1).2.symm, (nat_of h1).1, ?_, fun i hi e => ?_⟩
      · unfold okXN
        rw [Bool.and_eq_true]
        exact ⟨decide_eq_true (u.nt j (by rw [← u.ln]; exact hj)), at1 _ _ _ j qn h1.1⟩
      · rw [(nat_of h1).2] at e
        exact nodup_getD.1 hq.n i j hi hj e
    · unfold exE
      rw [lst_mem]
      refine ⟨q.edges, ⟨by simpa using u.le, fun j hj => by simp at hj, fun j _ hj => ?_⟩, by simp⟩
      have h1 := u.e _ (getD_mem (d := 0) hj)
      refine ⟨_, (nat_of h1).2.symm, (nat_of h1).1, ?_, fun i hi e => ?_⟩
      · unfold okXE
        rw [Bool.and_eq_true]
        exact ⟨decide_eq_true (u.et j (by rw [← u.le]; exact hj)), at1 _ _ _ j qe h1.1⟩
      · rw [(nat_of h1).2] at e
        exact nodup_getD.1 hq.e i j hi hj e
end Go.AM
