/-
  The abstract machine, sixth part: append.
-/
import Derived.Test.YtgonmjghdkoekaaAmOps4
namespace Go.AM
open Go
set_option linter.unusedSimpArgs false
set_option linter.unusedVariables false

variable {P : Program}

/-- A slice type's element type, its cells and bytes. -/
def rowT (P : Program) (T : TypeId) : Option (TypeId × Nat × Nat) := match P.underlying T with
  | some (.slice E) => match P.info? E with
    | some i => match i.zero with
      | some z => if z.cells.size = i.size ∧ 0 < i.size ∧ 0 < i.bytes then some (E, i.size, i.bytes) else none
      | none => none
    | none => none
  | _ => none

theorem rowT_spec {T E sz by' : Nat} (h : rowT P T = some (E, sz, by')) : P.underlying T = some (.slice E) ∧ ∃ i z, P.info? E = some i ∧ i.zero = some z ∧ z.cells.size = sz ∧ i.size = sz ∧ i.bytes = by' ∧ 0 < sz ∧ 0 < by' := by
  unfold rowT at h
  split at h
  · rename_i E' hE
    split at h
    · rename_i i hi
      split at h
      · rename_i z hz
        split at h
        · rename_i hc
          simp only [Option.some.injEq, Prod.mk.injEq] at h
          obtain ⟨rfl, rfl, rfl⟩ := h
          exact ⟨hE, i, z, hi, hz, hc.1, rfl, rfl, hc.2.1, hc.2.2⟩
        · cases h
      · cases h
    · cases h
  · cases h

/-- A slice's cells as one list of values. -/
structure Flat (c : Addr → Option Value) (ps : Addr → Prop) (sz : Nat) (es : List (List D)) (A : Option Addr) (vs : List Value) : Prop where
  len : vs.length = es.length * sz
  at_ : ∀ a, A = some a → ∀ q u, vs[q]? = some u → ps (a.add q) ∧ c (a.add q) = some u
  one : ∀ u ∈ vs, u.oneCell' = true
  some_ : es ≠ [] → ∃ a, A = some a
  each : ∀ e ∈ es, e.length = sz
  read : ∀ i j (hi : i < es.length) (hj : j < es[i].length), ∃ u, vs[i * sz + j]? = some u ∧ RVd c ps es[i][j] u

theorem RVd.flat {c : Addr → Option Value} {ps : Addr → Prop} {sz : Nat} {es : List (List D)} {v : Value} (h : RVd c ps (.sl sz es) v) :
    ∃ A cap vs, v = .slice A es.length cap ∧ es.length ≤ cap ∧ cap ≤ maxLen ∧ Flat c ps sz es A vs := by
  cases h with
  | sl u hcap hmax hsz hA hc hr =>
    rename_i A cap
    refine ⟨A, cap, (List.range (es.length * sz)).map fun q => u (q / sz) (q % sz), rfl, hcap, hmax, ⟨by simp, ?_, ?_, hA, hsz, ?_⟩⟩
    · intro a ha q x hq
      simp only [List.getElem?_map] at hq
      obtain ⟨q', hq', rfl⟩ := Option.map_eq_some_iff.1 hq
      obtain ⟨hlt, rfl⟩ := List.getElem?_eq_some_iff.1 hq'
      simp at hlt ⊢
      have hpos : 0 < sz := by rcases Nat.eq_zero_or_pos sz with h | h; · subst h; simp at hlt
                               · exact h
      have h1 : q / sz < es.length := (Nat.div_lt_iff_lt_mul hpos).2 hlt
      have h2 := hc a ha (q / sz) (q % sz) h1 (Nat.mod_lt _ hpos)
      rw [Nat.mul_comm, Nat.div_add_mod] at h2
      exact h2
    · intro x hx
      simp at hx
      obtain ⟨q, hlt, rfl⟩ := hx
      have hpos : 0 < sz := by rcases Nat.eq_zero_or_pos sz with h | h; · subst h; simp at hlt
                               · exact h
      have h1 : q / sz < es.length := (Nat.div_lt_iff_lt_mul hpos).2 hlt
      have h3 := hsz _ (List.getElem_mem h1)
      exact (hr (q / sz) (q % sz) h1 (by rw [h3]; exact Nat.mod_lt _ hpos)).one
    · intro i j hi hj
      have hl := hsz _ (List.getElem_mem hi)
      have hlt : i * sz + j < es.length * sz := by
        have : (i + 1) * sz ≤ es.length * sz := Nat.mul_le_mul_right _ (by omega)
        rw [Nat.add_mul] at this; omega
      have e1 : (i * sz + j) / sz = i := by
        rw [Nat.mul_comm, Nat.mul_add_div (by omega), Nat.div_eq_of_lt (by omega)]; omega
      have e2 : (i * sz + j) % sz = j := by
        rw [Nat.mul_comm, Nat.mul_add_mod, Nat.mod_eq_of_lt (by omega)]
      exact ⟨u i j, by simp [hlt, e1, e2], hr i j hi hj⟩

theorem RVd.of_flat {c : Addr → Option Value} {ps : Addr → Prop} {sz : Nat} {es : List (List D)} {A : Option Addr} {cap : Nat} {vs : List Value} (hcap : es.length ≤ cap) (hmax : cap ≤ maxLen) (h : Flat c ps sz es A vs) :
    RVd c ps (.sl sz es) (.slice A es.length cap) := by
  refine .sl (fun i j => vs.getD (i * sz + j) default) hcap hmax h.each h.some_ ?_ ?_
  · intro a ha i j hi hj
    obtain ⟨u, hu, _⟩ := h.read i j hi (by rw [h.each _ (List.getElem_mem hi)]; exact hj)
    obtain ⟨h1, h2⟩ := h.at_ a ha _ u hu
    refine ⟨h1, ?_⟩
    simp only [List.getD_eq_getElem?_getD, hu, Option.getD_some]
    exact h2
  · intro i j hi hj
    obtain ⟨u, hu, hr⟩ := h.read i j hi hj
    simp only [List.getD_eq_getElem?_getD, hu, Option.getD_some]
    exact hr

theorem Flat.mono {c c' : Addr → Option Value} {ps ps' : Addr → Prop} (h : ∀ a u, ps a → c a = some u → ps' a ∧ c' a = some u) {sz : Nat} {es : List (List D)} {A : Option Addr} {vs : List Value} (r : Flat c ps sz es A vs) : Flat c' ps' sz es A vs where
  len := r.len
  at_ a ha q u hq := h _ _ (r.at_ a ha q u hq).1 (r.at_ a ha q u hq).2
  one := r.one
  some_ := r.some_
  each := r.each
  read i j hi hj := let ⟨u, hu, hr⟩ := r.read i j hi hj; ⟨u, hu, hr.mono h⟩

/-- Two slices' cells, one behind the other at one place. -/
theorem Flat.append {c : Addr → Option Value} {ps : Addr → Prop} {sz : Nat} {es news : List (List D)} {A B : Option Addr} {vs us : List Value} (h : Flat c ps sz es A vs) (k : Flat c ps sz news B us) (a : Addr)
    (hat : ∀ q u, (vs ++ us)[q]? = some u → ps (a.add q) ∧ c (a.add q) = some u) : Flat c ps sz (es ++ news) (some a) (vs ++ us) where
  len := by rw [List.length_append, List.length_append, h.len, k.len, Nat.add_mul]
  at_ a' ha' q u hq := by cases ha'; exact hat q u hq
  one u hu := by
    rcases List.mem_append.1 hu with h1 | h1
    · exact h.one u h1
    · exact k.one u h1
  some_ _ := ⟨a, rfl⟩
  each e he := by
    rcases List.mem_append.1 he with h1 | h1
    · exact h.each e h1
    · exact k.each e h1
  read i j hi hj := by
    by_cases hlt : i < es.length
    · simp only [List.getElem_append_left hlt] at hj ⊢
      obtain ⟨u, hu, hr⟩ := h.read i j hlt hj
      refine ⟨u, ?_, hr⟩
      rw [List.getElem?_append_left (List.getElem?_eq_some_iff.1 hu).1]
      exact hu
    · simp only [List.getElem_append_right (by omega : es.length ≤ i)] at hj ⊢
      obtain ⟨u, hu, hr⟩ := k.read (i - es.length) j (by simp at hi; omega) hj
      refine ⟨u, ?_, hr⟩
      have e1 : i * sz + j = vs.length + ((i - es.length) * sz + j) := by
        rw [h.len]
        have : i = es.length + (i - es.length) := by omega
        conv => lhs; rw [this]
        rw [Nat.add_mul]; omega
      rw [e1, List.getElem?_append_right (by omega), Nat.add_sub_cancel_left]
      exact hu

theorem Flat.resize {c : Addr → Option Value} {ps : Addr → Prop} {sz sz' : Nat} {es : List (List D)} {A : Option Addr} {vs : List Value} (h : Flat c ps sz es A vs) (hs : sz = sz' ∨ es = []) : Flat c ps sz' es A vs := by
  rcases hs with rfl | rfl
  · exact h
  · have hv : vs = [] := List.eq_nil_of_length_eq_zero (by simpa using h.len)
    subst hv
    exact ⟨by simp, fun a _ q u hq => by simp at hq, fun u hu => by simp at hu, fun h => absurd rfl h, fun e he => by simp at he, fun i j hi => by simp at hi⟩

def EffA (P : Program) (o : Oper) (ρ : Operand → AV) (tok : Nat → Bool) (nt : Nat) (v : AV) (tok' : Nat → Bool) (nt' : Nat) : Prop := match o.op with
  | .call c => match c.callee, c.args.toList, c.argTypes.toList with
    | .builtin .append, [s, x], [T, T'] => match rowT P T, ρ s, (ρ x).elems? with
      | some (_, sz, by'), .osl sz0 es own, some (sz1, news) =>
        T' = T ∧ (sz0 = sz ∨ es = [] ∧ own = .full) ∧ (sz1 = sz ∨ news = []) ∧ (es.length + news.length) * by' ≤ 140737488355328 ∧ own.live tok = true ∧
          v = .osl sz (es ++ news) (.tok nt) ∧ tok' = upd (own.kill tok) nt true ∧ nt' = nt + 1
      | _, _, _ => False
    | _, _, _ => False
  | _ => False

theorem run_append_none (t ty E : TypeId) (i : TypeInfo) (w : World) (ht : P.underlying t = some (.slice E)) (hi : P.info? E = some i) (A B : Option Addr) (n cap c : Nat) (hn : n ≤ cap) :
    (Builtin.append_ #[t, t] ty #[.slice A n cap, .slice B 0 c]).run P w = .ok (.slice A n cap) w := by
  cases A <;> cases B <;> simp [Builtin.append_, run_underlying ht, sizeOf, typeInfo, hi, Builtin.lenOf, Builtin.firstCells, loadCells, loadCellsFrom, hn, storeCells]

theorem run_append_room2 (t ty e e' : TypeId) (i : TypeInfo) (w : World) (ht : P.underlying t = some (.slice e)) (hi : P.info? e = some i)
    (g sLen sCap : Nat) (cur : Array Value) (hg : w.heap[g]? = some (.cells cur e' (0, 0)))
    (a : Addr) (m c : Nat) (news : List Value) (hl : news.length = m * i.size) (hnews : ∀ j u, news[j]? = some u → w.cell? (a.add j) = some u) (h1 : ∀ u ∈ news, u.oneCell' = true)
    (hroom : sLen + m ≤ sCap) (hfit : sLen * i.size + news.length ≤ cur.size) :
    (Builtin.append_ #[t, t] ty #[.slice (some ⟨g, 0, none⟩) sLen sCap, .slice (some a) m c]).run P w =
      .ok (.slice (some ⟨g, 0, none⟩) (sLen + m) sCap) (w.setRow g (cur.toList.take (sLen * i.size) ++ news ++ cur.toList.drop (sLen * i.size + news.length)).toArray) := by
  have hf := run_firstCells_some (P := P) w i.size m a m c news hl hnews
  have hst := run_storeCells_at P g (sLen * i.size) e' news 0 cur w hg (by simpa using hfit) h1
  simp only [Nat.add_zero] at hst
  simp [Builtin.append_, run_underlying ht, sizeOf, typeInfo, hi, Builtin.lenOf, hroom, hf, Addr.add_lit, hst]

theorem effA_sound {o : Oper} {ρ : Operand → AV} {ρv : Operand → Value} {G : Gh} {m : AMem} {w : World} {v : AV} {tok' : Nat → Bool} {nt' : Nat} (h : EffA P o ρ m.tok m.nt v tok' nt')
    (hρ : ∀ x ∈ o.op.operands, RV G w (ρ x) (ρv x)) (hm : RelM G m w) :
    After P o ρv G w fun u G' w' => RV G' w' v u ∧ RelM G' { m with tok := tok', nt := nt' } w' ∧ G'.bx = G.bx := by
  unfold EffA at h
  split at h
  · rename_i c ho
    split at h
    · rename_i s x T T' hcal hargs htys
      have hs := hρ s (by rw [ho]; simp only [Op.operands, Call.operands, hcal]; rw [← Array.mem_toList_iff]; simp [hargs])
      have hx := hρ x (by rw [ho]; simp only [Op.operands, Call.operands, hcal]; rw [← Array.mem_toList_iff]; simp [hargs])
      split at h
      · rename_i E sz by' sz0 es own sz1 news hrow hse hxe
        obtain ⟨rfl, hsz0, hsz1, hbytes, hlive, rfl, rfl, rfl⟩ := h
        obtain ⟨hE, i, z, hi, hz, hzs, his, hib, hszp, hbyp⟩ := rowT_spec hrow
        rw [hse] at hs
        have hxd := hx.elems hxe
        generalize hsv : ρv s = sv at hs
        generalize hxv : ρv x = xv at hxd
        -- the operation is one run of append
        have hexec : ∀ u w', (Builtin.append_ #[T', T'] o.type #[sv, xv]).run P w = .ok u w' → (execOp ρv o).run P w = .ok (.value u) w' := by
          intro u w' hr
          have ha : c.args = #[s, x] := by rw [← Array.toArray_toList (xs := c.args), hargs]
          have hb : c.argTypes = #[T', T'] := by rw [← Array.toArray_toList (xs := c.argTypes), htys]
          simp only [execOp, ho, resolve, hcal, ha, hb, List.map_toArray, List.map_cons, List.map_nil, hsv, hxv, Sem.run_bind, Sem.run_pure, Result.andThen_ok, invoke, builtin, hr]
        cases hs with
        | osl hsd hown =>
          obtain ⟨A, cap, vs, rfl, hcap, hmax, hf⟩ := hsd.flat
          obtain ⟨B, capx, us, rfl, hcapx, hmaxx, hfx⟩ := hxd.flat
          have hf' : Flat w.cell? G.ps sz es A vs := hf.resize (hsz0.imp id And.left)
          have hfx' : Flat w.cell? G.ps sz news B us := hfx.resize hsz1
          have hle47 : es.length + news.length ≤ 140737488355328 := Nat.le_trans (Nat.le_mul_of_pos_right _ hbyp) hbytes
          have hmk := hm.kill own
          have hlk := Le.kill (G := G) (w := w) own
          have hntk : (G.kill own).nt = G.nt := by cases own <;> rfl
          have hbxk : (G.kill own).bx = G.bx := by cases own <;> rfl
          have hmnt := hm.nt
          -- what follows once the memory is laid
          by_cases hm0 : news = []
          · -- nothing to append
            subst hm0
            have hus : us = [] := List.eq_nil_of_length_eq_zero (by simpa using hfx.len)
            have hr := run_append_none (P := P) T' o.type E i w hE hi A B es.length cap capx hcap
            have hshape : ∃ x, (∀ g, x = some g → G.kind g = .part (es.length * sz) (cap * sz) ∧ A = some ⟨g, 0, none⟩ ∧ ∃ t, own = .tok t ∧ G.tk t = some (some g)) ∧ (x = none → cap = es.length) := by
              cases own with
              | full =>
                obtain ⟨A', hA'⟩ := hown
                injection hA' with _ _ h3
                exact ⟨none, (fun g hg => by cases hg), fun _ => h3⟩
              | tok t =>
                obtain ⟨_, y, hy⟩ := hm.toks t hlive
                have hk := hown.2 y hy
                cases y with
                | none =>
                  obtain ⟨A', hA'⟩ := hk
                  injection hA' with _ _ h3
                  exact ⟨none, (fun g hg => by cases hg), fun _ => h3⟩
                | some g =>
                  obtain ⟨cap', hv, hkg⟩ := hk
                  injection hv with h1 _ h3
                  subst h3
                  have : sz0 = sz := by rcases hsz0 with h | ⟨_, h⟩; · exact h
                                        · cases h
                  subst this
                  exact ⟨some g, fun g' hg' => by cases hg'; exact ⟨hkg, h1, t, rfl, hy⟩, fun h => by cases h⟩
            obtain ⟨x0, hx0, hx1⟩ := hshape
            have hnew := hmk.newtok x0 (fun g hg => by
              obtain ⟨hk, _, t, rfl, ht⟩ := hx0 g hg
              refine ⟨fun t' ht' => ?_, ?_⟩
              · simp only [Gh.kill] at ht'
                by_cases e : t' = t
                · subst e; simp [upd_same] at ht'
                · rw [upd_other _ _ e] at ht'
                  exact e (hm.tinj t' t g ht' ht)
              · obtain ⟨f, cur, e, h1, h2⟩ := hm.tokb t g ht
                exact ⟨f, cur, e, h1, h2⟩)
            have hln := Le.newtok (G := G.kill own) (w := w) x0
            refine ⟨.value _, _, (G.kill own).newtok x0, w, hexec _ _ hr, .inl rfl, hlk.trans hln, ?_, hnew, by simp [Gh.newtok, hbxk]⟩
            have hd : RVd w.cell? ((G.kill own).newtok x0).ps (.sl sz (es ++ [])) (.slice A es.length cap) := by
              simp only [List.append_nil]
              exact .of_flat hcap hmax (hf'.mono (hlk.trans hln).cells)
            refine .osl hd ⟨by simp only [Gh.newtok, hntk]; omega, fun y hy => ?_⟩
            simp only [Gh.newtok, hntk, hmnt, upd_same, Option.some.injEq] at hy
            subst hy
            cases x0 with
            | none => simp only [List.append_nil]; rw [hx1 rfl]; exact ⟨A, rfl⟩
            | some g =>
              obtain ⟨hk, hA, t, rfl, ht⟩ := hx0 g rfl
              subst hA
              simp only [List.append_nil]
              exact ⟨cap, rfl, hk⟩
          · -- something to append
            have hmpos : 0 < news.length := List.length_pos_iff.2 hm0
            obtain ⟨a, rfl⟩ := hfx'.some_ hm0
            have husl : us.length = news.length * i.size := by rw [his]; exact hfx'.len
            have hvsl : vs.length = es.length * i.size := by rw [his]; exact hf'.len
            -- where a new array is made
            have grow : ∀ cp, (Builtin.append_ #[T', T'] o.type #[.slice A es.length cap, .slice (some a) news.length capx]).run P w =
                .ok (.slice (some ⟨w.heap.size, 0, none⟩) (es.length + news.length) cp) (w.drew.alloc (.cells (vs.toArray ++ us.toArray ++ Builtin.zeroCells z.cells (cp - (es.length + news.length))) E)) →
                es.length + news.length ≤ cp → cp ≤ maxLen →
                After P o ρv G w fun u G' w' => RV G' w' (.osl sz (es ++ news) (.tok m.nt)) u ∧ RelM G' { m with tok := upd (own.kill m.tok) m.nt true, nt := m.nt + 1 } w' ∧ G'.bx = G.bx := by
              intro cp hr hge hcm
              have hmd := hmk.drew
              let obj : Obj := .cells (vs.toArray ++ us.toArray ++ Builtin.zeroCells z.cells (cp - (es.length + news.length))) E
              have hp := hmd.newpart ((es.length + news.length) * sz) (cp * sz) obj
              have hlp := Le.newpart hmd ((es.length + news.length) * sz) (cp * sz) obj
              have hcs : (vs.toArray ++ us.toArray ++ Builtin.zeroCells z.cells (cp - (es.length + news.length))).size = cp * sz := by
                simp only [Array.size_append, List.size_toArray, size_zeroCells, hzs, hvsl, husl, his, ← Nat.add_mul]
                congr 1
                omega
              have hnew := hp.newtok (some w.heap.size) (fun g hg => by
                cases hg
                refine ⟨fun t ht => ?_, (es.length + news.length) * sz, _, E, ?_, heap_alloc_new w.drew _⟩
                · have := hmk.tlt t _ (by simpa [Gh.setKind] using ht)
                  omega
                · rw [hcs]
                  show upd _ w.heap.size _ w.heap.size = _
                  rw [upd_same])
              have hln := Le.newtok (G := (G.kill own).setKind w.heap.size (.part ((es.length + news.length) * sz) (cp * sz))) (w := w.drew.alloc obj) (some w.heap.size)
              have hall := (hlk.trans Le.drew).trans (hlp.trans hln)
              refine ⟨.value _, _, _, _, hexec _ _ hr, .inl rfl, hall, ?_, hnew, by simp [Gh.newtok, Gh.setKind, hbxk]⟩
              have hlenT : (vs ++ us).length = (es.length + news.length) * sz := by rw [List.length_append, hvsl, husl, his, Nat.add_mul]
              have hflat : Flat (w.drew.alloc obj).cell? (Gh.ps (((G.kill own).setKind w.heap.size (.part ((es.length + news.length) * sz) (cp * sz))).newtok (some w.heap.size))) sz (es ++ news) (some ⟨w.heap.size, 0, none⟩) (vs ++ us) := by
                refine (hf'.mono hall.cells).append (hfx'.mono hall.cells) _ (fun q u hq => ?_)
                have hlt : q < (vs ++ us).length := (List.getElem?_eq_some_iff.1 hq).1
                rw [add_none]
                refine ⟨?_, ?_⟩
                · show (match upd (G.kill own).kind w.heap.size (BK.part ((es.length + news.length) * sz) (cp * sz)) w.heap.size with | .whole => True | .part f _ => 0 + q < f | .box => False)
                  rw [upd_same]
                  show 0 + q < _
                  omega
                · rw [cell_of_row _ w.heap.size (0 + q) (vs.toArray ++ us.toArray ++ Builtin.zeroCells z.cells (cp - (es.length + news.length))) E (0, 0) (heap_alloc_new w.drew _)]
                  rw [Nat.zero_add, Array.getElem?_append_left (by simpa using hlt)]
                  simpa using hq
              have := RVd.of_flat (cap := cp) (by simpa using hge) hcm hflat
              rw [List.length_append] at this
              refine .osl this ⟨by simp only [Gh.newtok, Gh.setKind, hntk]; omega, fun y hy => ?_⟩
              simp only [Gh.newtok, Gh.setKind, hntk, hmnt, upd_same, Option.some.injEq] at hy
              subst hy
              refine ⟨cp, by simp, ?_⟩
              simp only [Gh.newtok, Gh.setKind, upd_same, List.length_append]
            have growA : cap < es.length + news.length → After P o ρv G w fun u G' w' => RV G' w' (.osl sz (es ++ news) (.tok m.nt)) u ∧ RelM G' { m with tok := upd (own.kill m.tok) m.nt true, nt := m.nt + 1 } w' ∧ G'.bx = G.bx := by
              intro hcl
              have hge := grownCap_ge w (es.length + news.length) cap E
              have hcm := grownCap_le_maxLen w (es.length + news.length) cap E (by unfold maxLen; omega)
              cases A with
              | some b =>
                exact grow _ (run_append_grow (P := P) w T' o.type E i z hE hi hz b es.length cap vs hvsl (fun q u hq => (hf'.at_ b rfl q u hq).2) a news.length capx us husl (fun q u hq => (hfx'.at_ a rfl q u hq).2) hcl (by omega) (growslice_fits hcl (by rw [hib]; exact hbytes))) hge hcm
              | none =>
                have hes : es = [] := Classical.byContradiction fun h => by obtain ⟨b, hb⟩ := hf'.some_ h; cases hb
                subst hes
                have hvs : vs = [] := List.eq_nil_of_length_eq_zero (by simpa using hvsl)
                subst hvs
                have hc0 : cap = 0 := by
                  cases own with
                  | full => obtain ⟨A', hA'⟩ := hown; injection hA' with _ _ h3
                  | tok t =>
                    obtain ⟨_, y, hy⟩ := hm.toks t hlive
                    have hk := hown.2 y hy
                    cases y with
                    | none => obtain ⟨A', hA'⟩ := hk; injection hA' with _ _ h3
                    | some g => obtain ⟨cap', hv, hkg⟩ := hk; injection hv with h1; cases h1
                subst hc0
                have hr := run_append_nil (P := P) w T' o.type E i z hE hi hz a news.length capx us husl (fun q u hq => (hfx'.at_ a rfl q u hq).2) hmpos (by omega) (by rw [hib]; simp only [List.length_nil, Nat.zero_add] at hbytes; omega)
                simp only [List.length_nil, Nat.zero_add] at grow hge hcm ⊢
                refine grow _ ?_ hge hcm
                simpa using hr
            by_cases hroom : es.length + news.length ≤ cap
            · -- there is room: only a token's block has it
              have hblk : ∃ t g, own = .tok t ∧ G.tk t = some (some g) ∧ A = some ⟨g, 0, none⟩ ∧ G.kind g = .part (es.length * sz) (cap * sz) := by
                cases own with
                | full => obtain ⟨A', hA'⟩ := hown; injection hA' with _ _ h3; omega
                | tok t =>
                  obtain ⟨_, y, hy⟩ := hm.toks t hlive
                  have hk := hown.2 y hy
                  cases y with
                  | none => obtain ⟨A', hA'⟩ := hk; injection hA' with _ _ h3; omega
                  | some g =>
                    obtain ⟨cap', hv, hkg⟩ := hk
                    injection hv with h1 _ h3
                    subst h3
                    have : sz0 = sz := by rcases hsz0 with h | ⟨_, h⟩; · exact h
                                          · cases h
                    subst this
                    exact ⟨t, g, rfl, hy, h1, hkg⟩
              obtain ⟨t, g, rfl, ht, rfl, hkg⟩ := hblk
              obtain ⟨f, cur, e', hkg', hg⟩ := hm.tokb t g ht
              rw [hkg] at hkg'
              injection hkg' with hf1 hc1
              have hfit : es.length * i.size + us.length ≤ cur.size := by
                rw [husl, ← Nat.add_mul, ← hc1, his]
                exact Nat.mul_le_mul_right _ hroom
              have hr := run_append_room2 (P := P) T' o.type E e' i w hE hi g es.length cap cur hg a news.length capx us husl (fun q u hq => (hfx'.at_ a rfl q u hq).2) hfx'.one hroom hfit
              rw [his] at hr hfit
              have hnot : ∀ t', (G.kill (.tok t)).tk t' ≠ some (some g) := by
                intro t' ht'
                simp only [Gh.kill] at ht'
                by_cases e : t' = t
                · subst e; simp [upd_same] at ht'
                · rw [upd_other _ _ e] at ht'
                  exact e (hm.tinj t' t g ht' ht)
              let new : Array Value := (cur.toList.take (es.length * sz) ++ us ++ cur.toList.drop (es.length * sz + us.length)).toArray
              have e1 : cur.toList.length = cur.size := by simp
              have hlt : (List.take (es.length * sz) cur.toList).length = es.length * sz := by rw [List.length_take]; omega
              have hsame : ∀ q, q < es.length * sz → new[q]? = cur[q]? := by
                intro q hq
                simp only [new, List.getElem?_toArray]
                rw [List.append_assoc, List.getElem?_append_left (by omega), List.getElem?_take_of_lt hq]
                simp
              have hfl := hmk.fill (g := g) (f := es.length * sz) (f' := (es.length + news.length) * sz) (c := cap * sz) hkg (Nat.mul_le_mul_right _ (by omega)) hnot hg hsame
              have hlfl := Le.fill (G := G.kill (.tok t)) (w := w) (g := g) (f := es.length * sz) (f' := (es.length + news.length) * sz) (c := cap * sz) hkg (Nat.mul_le_mul_right _ (by omega)) hnot hg hsame
              have hns : new.size = cap * sz := by
                simp only [new, List.size_toArray, List.length_append, List.length_take, List.length_drop, Array.length_toList]
                omega
              have hnew := hfl.newtok (some g) (fun g' hg' => by
                cases hg'
                refine ⟨fun t' ht' => hnot t' ht', (es.length + news.length) * sz, new, e', ?_, setRow_heap w g cur new e' (0, 0) hg⟩
                rw [hns]
                show upd _ g _ g = _
                rw [upd_same])
              have hln := Le.newtok (G := (G.kill (.tok t)).setKind g (.part ((es.length + news.length) * sz) (cap * sz))) (w := w.setRow g new) (some g)
              have hall := hlk.trans (hlfl.trans hln)
              refine ⟨.value _, _, _, _, hexec _ _ hr, .inl rfl, hall, ?_, hnew, by simp [Gh.newtok, Gh.setKind, hbxk]⟩
              have hlenT : (vs ++ us).length = (es.length + news.length) * sz := by rw [List.length_append, hvsl, husl, his, Nat.add_mul]
              have hflat : Flat (w.setRow g new).cell? (Gh.ps (((G.kill (.tok t)).setKind g (.part ((es.length + news.length) * sz) (cap * sz))).newtok (some g))) sz (es ++ news) (some ⟨g, 0, none⟩) (vs ++ us) := by
                refine (hf'.mono hall.cells).append (hfx'.mono hall.cells) _ (fun q u hq => ?_)
                have hqlt : q < (vs ++ us).length := (List.getElem?_eq_some_iff.1 hq).1
                rw [add_none]
                refine ⟨?_, ?_⟩
                · show (match upd (G.kill (.tok t)).kind g (BK.part ((es.length + news.length) * sz) (cap * sz)) g with | .whole => True | .part f _ => 0 + q < f | .box => False)
                  rw [upd_same]
                  show 0 + q < _
                  omega
                · rw [cell_setRow_same w g (0 + q) cur new e' (0, 0) hg, Nat.zero_add]
                  by_cases hql : q < vs.length
                  · rw [List.getElem?_append_left hql] at hq
                    rw [hsame q (by rw [← hf'.len]; exact hql)]
                    have := (hf'.at_ ⟨g, 0, none⟩ rfl q u hq).2
                    rw [add_none, cell_of_row w g _ cur e' (0, 0) hg, Nat.zero_add] at this
                    exact this
                  · rw [List.getElem?_append_right (by omega)] at hq
                    have hql' : q - vs.length < us.length := (List.getElem?_eq_some_iff.1 hq).1
                    simp only [new, List.getElem?_toArray]
                    rw [List.append_assoc, List.getElem?_append_right (by rw [hlt, ← hf'.len]; omega), hlt, ← hf'.len, List.getElem?_append_left hql']
                    exact hq
              have := RVd.of_flat (cap := cap) (by simpa using hroom) hmax hflat
              rw [List.length_append] at this
              refine .osl this ⟨by simp only [Gh.newtok, Gh.setKind, hntk]; omega, fun y hy => ?_⟩
              simp only [Gh.newtok, Gh.setKind, hntk, hmnt, upd_same, Option.some.injEq] at hy
              subst hy
              refine ⟨cap, by simp, ?_⟩
              simp only [Gh.newtok, Gh.setKind, upd_same, List.length_append]
            · exact growA (by omega)
      · exact h.elim
    · exact h.elim
  · exact h.elim

end Go.AM
