/-
  The abstract machine, fifth part: stores, new boxes, append.
-/
import Derived.Test.YtgonmjghdkoekaaAmOps3
namespace Go.AM
open Go

set_option linter.unusedSimpArgs false
set_option linter.unusedVariables false
variable {P : Program}

/-- What 'make' of a slice type lays: the cells of an element, their bytes, and the zero cells. -/
def makeT (P : Program) (T : TypeId) : Option (Nat × Nat × List Value) := match P.underlying T with
  | some (.slice E) => match P.info? E with
    | some i => match i.zero with
      | some z => if z.cells.size = i.size ∧ 0 < i.size ∧ 0 < i.bytes ∧ z.cells.toList.all (·.oneCell') = true then some (i.size, i.bytes, z.cells.toList) else none
      | none => none
    | none => none
  | _ => none

theorem makeT_spec {T sz by' : Nat} {zs : List Value} (h : makeT P T = some (sz, by', zs)) : ∃ E i z, P.underlying T = some (.slice E) ∧ P.info? E = some i ∧ i.zero = some z ∧ z.cells.toList = zs ∧ zs.length = sz ∧ i.size = sz ∧ i.bytes = by' ∧ 0 < sz ∧ 0 < by' ∧ ∀ u ∈ zs, u.oneCell' = true := by
  unfold makeT at h
  split at h
  · rename_i E hE
    split at h
    · rename_i i hi
      split at h
      · rename_i z hz
        split at h
        · rename_i hc
          simp only [Option.some.injEq, Prod.mk.injEq] at h
          obtain ⟨rfl, rfl, rfl⟩ := h
          exact ⟨E, i, z, hE, hi, hz, rfl, by simpa using hc.1, rfl, rfl, hc.2.1, hc.2.2.1, fun u hu => List.all_eq_true.1 hc.2.2.2 u hu⟩
        · cases h
      · cases h
    · cases h
  · cases h

theorem getElem?_flat_rep {α : Type} (l : List α) : ∀ (n j : Nat), j < n * l.length → (List.replicate n l).flatten[j]? = l[j % l.length]?
  | 0, j, h => by simp at h
  | n + 1, j, h => by
    rw [List.replicate_succ, List.flatten_cons]
    by_cases hj : j < l.length
    · rw [List.getElem?_append_left hj, Nat.mod_eq_of_lt hj]
    · rw [List.getElem?_append_right (by omega), getElem?_flat_rep l n (j - l.length) (by rw [Nat.add_mul, Nat.one_mul] at h; omega)]
      rw [← Nat.mod_eq_sub_mod (by omega)]

theorem made_flat (z : Array Value) (n : Nat) (h : 0 < z.size) : (madeCells z (n * z.size)).toList = (List.replicate n z.toList).flatten := by
  apply List.ext_getElem?
  intro j
  by_cases hj : j < n * z.size
  · have h1 := getElem?_flat_rep z.toList n j (by simpa using hj)
    rw [h1]
    have hm : j % z.size < z.size := Nat.mod_lt _ h
    have h2 : j < (madeCells z (n * z.size)).toList.length := by simp [madeCells]; exact hj
    rw [List.getElem?_eq_getElem h2]
    simp [madeCells, hm]
  · rw [List.getElem?_eq_none (by simp [madeCells]; omega), List.getElem?_eq_none (by simp [List.length_flatten]; omega)]

def EffW (P : Program) (base : Nat) (o : Oper) (ρ : Operand → AV) (box : Nat → Option (List (List AV))) (v : AV) (box' : Nat → Option (List (List AV))) : Prop := match o.op with
  | .store T p x => match szOf P T, (ρ x).cells?, ρ p with
    | some n, some cs, .ptr k i off => match box k with
      | some rows => match rows[i]? with
        | some r => cs.length = n ∧ off + n ≤ r.length ∧ v = .bot ∧ box' = upd box k (some (rows.set i (setCells r off cs)))
        | none => False
      | none => False
    | _, _, _ => False
  | .box _ x => match o.dst, (ρ x).cells? with
    | some s, some cs => box (base + s) = none ∧ v = .ptr (base + s) 0 0 ∧ box' = upd box (base + s) (some [cs])
    | _, _ => False
  | .makeSlice T l c => match makeT P T, o.dst, ρ l, ρ c with
    | some (sz, by', zs), some s, .d (.raw (.int _ n)), .d (.raw (.int _ n')) => n' = n ∧ 0 ≤ n ∧ n.toNat * by' ≤ 281474976710656 ∧ box (base + s) = none ∧ v = .msl (base + s) 0 n.toNat sz ∧
        box' = upd box (base + s) (some (List.replicate n.toNat (zs.map ofVal1)))
    | _, _, _, _ => False
  | _ => False

theorem run_storeVar {T b off : Nat} {v : Value} {w : World} {cur : Array Value} {e : TypeId} (hn : szOf P T = some v.cells.size) (hg : w.heap[b]? = some (.cells cur e (0, 0))) (hl : off + v.cells.size ≤ cur.size)
    (h1 : ∀ u ∈ v.cells.toList, u.oneCell' = true) : (storeVar T ⟨b, off, none⟩ v).run P w = .ok () (w.setRow b (setCells cur.toList off v.cells.toList).toArray) := by
  have hr := run_storeCells_at P b off e v.cells.toList 0 cur w hg (by simpa using hl) h1
  simp only [Nat.add_zero] at hr
  rw [setCells_eq _ _ _ (by simpa using hl)]
  simp only [storeVar, Sem.run_bind, run_sizeOf hn, Result.andThen_ok, ne_eq, not_true_eq_false, ↓reduceIte]
  exact hr

/-- What an operation that is no call leaves: a value or nothing; a later ghost and world. -/
def After (P : Program) (o : Oper) (ρv : Operand → Value) (G : Gh) (w : World) (R : Value → Gh → World → Prop) : Prop :=
  ∃ nx u G' w', (execOp ρv o).run P w = .ok nx w' ∧ (nx = .value u ∨ nx = .skip ∧ u = undef) ∧ Le G w G' w' ∧ R u G' w'

theorem effW_sound {base : Nat} {o : Oper} {ρ : Operand → AV} {ρv : Operand → Value} {G : Gh} {m : AMem} {w : World} {v : AV} {box' : Nat → Option (List (List AV))} (h : EffW P base o ρ m.box v box')
    (hρ : ∀ x ∈ o.op.operands, RV G w (ρ x) (ρv x)) (hm : RelM G m w) (hd : ∀ s, o.dst = some s → base + s < m.nb) :
    After P o ρv G w fun u G' w' => RV G' w' v u ∧ RelM G' { m with box := box' } w' ∧ ∀ k, some k ≠ o.dst.map (base + ·) → G.bx k = none → G'.bx k = none ∧ box' k = m.box k := by
  unfold EffW at h
  split at h
  · rename_i T p x ho
    have hp := hρ p (by rw [ho]; simp [Op.operands])
    have hx := hρ x (by rw [ho]; simp [Op.operands])
    split at h
    · rename_i n cs k i off hn hcs hpk
      rw [hpk] at hp
      generalize hpv : ρv p = pv at hp
      cases hp with
      | ptr hb =>
        rename_i b sz
        split at h
        · rename_i rows hbox
          split at h
          · rename_i r hrow
            obtain ⟨rfl, h2, rfl, rfl⟩ := h
            obtain ⟨_, cells, e, hh, hs, hR, h1⟩ := hm.box k rows b sz hbox hb
            have hrl : r.length = sz := hs r (List.mem_of_getElem? hrow)
            have hi : i < rows.length := (List.getElem?_eq_some_iff.1 hrow).1
            obtain ⟨hcR, hc1⟩ := hx.cells hcs
            have hcl : (ρv x).cells.size = cs.length := by have := hcR.1; simpa using this.symm
            have hfl : rows.flatten.length = cells.toList.length := hR.1
            rw [flat_len hs] at hfl
            have hle : i * sz + sz ≤ cells.size := by
              have : (i + 1) * sz ≤ rows.length * sz := Nat.mul_le_mul_right _ (by omega)
              rw [Nat.add_mul] at this
              simp at hfl
              omega
            have hrun : (storeVar T ⟨b, i * sz + off, none⟩ (ρv x)).run P w = .ok () (w.setRow b (setCells cells.toList (i * sz + off) (ρv x).cells.toList).toArray) :=
              run_storeVar (by rw [hcl]; exact hn) hh (by omega) hc1
            have hrow' : ∀ r' ∈ rows.set i (setCells r off cs), r'.length = sz := by
              intro r' hr'
              rcases List.mem_or_eq_of_mem_set hr' with h3 | h3
              · exact hs r' h3
              · rw [h3, length_setCells, hrl]
            have hflat : (rows.set i (setCells r off cs)).flatten = setCells rows.flatten (i * sz + off) cs := flat_store cs hs hrow (by omega)
            refine ⟨.skip, undef, G, w.setRow b (setCells cells.toList (i * sz + off) (ρv x).cells.toList).toArray, ?_, .inr ⟨rfl, rfl⟩, Le.setRow (hm.blt hb).2 _, .bot, hm.setRow hb hrow' hh ?_ ?_, ?_⟩
            · simp only [execOp, ho, Instr.storeAt, hpv, Instr.sureAddr, Sem.run_bind, Sem.run_pure, Result.andThen_ok, hrun]
            · rw [hflat]
              simpa using hR.setCells hcR
            · simpa using mem_setCells (p := fun u => Value.oneCell' u = true) (ρv x).cells.toList cells.toList (i * sz + off) h1 hc1
            · intro j _ hj
              refine ⟨hj, upd_other _ _ (fun e => ?_)⟩
              subst e
              rw [hb] at hj
              cases hj
          · exact h.elim
        · exact h.elim
    · exact h.elim
  · rename_i T x ho
    have hx := hρ x (by rw [ho]; simp [Op.operands])
    split at h
    · rename_i s cs hs hcs
      obtain ⟨h1, rfl, rfl⟩ := h
      obtain ⟨hcR, hc1⟩ := hx.cells hcs
      have hbx := hm.nobox _ h1
      have hrel := hm.mkbox (k := base + s) hbx (hd s hs) (sz := cs.length) (rows := [cs]) (by simp) (cs := (ρv x).cells) T (by simpa using hcR) hc1
      refine ⟨.value (.pointer (some ⟨w.heap.size, 0, none⟩)), _, G.mkbox (base + s) w.heap.size cs.length, w.alloc (.cells (ρv x).cells T), ?_, .inl rfl, Le.mkbox hm.fresh hm.tlt hbx _ _, ?_, hrel, ?_⟩
      · simp only [execOp, ho, Instr.box, newVar, newRow, Sem.run_bind, Sem.run_pure, Result.andThen_ok]
        rfl
      · have : (⟨w.heap.size, 0, none⟩ : Addr) = ⟨w.heap.size, 0 * cs.length + 0, none⟩ := by simp
        rw [this]
        exact .ptr (by simp [Gh.mkbox, upd_same])
      · intro k hk hg
        have hne : k ≠ base + s := fun e => hk (by rw [hs, e]; rfl)
        exact ⟨by simp only [Gh.mkbox]; rw [upd_other _ _ hne]; exact hg, upd_other _ _ hne⟩
    · exact h.elim
  · rename_i T l c ho
    have hl := hρ l (by rw [ho]; simp [Op.operands])
    have hc := hρ c (by rw [ho]; simp [Op.operands])
    split at h
    · rename_i sz by' zs s k1 n k2 n' hT hs hlv hcv
      obtain ⟨rfl, h0, hb, h1, rfl, rfl⟩ := h
      obtain ⟨E, i, z, hE, hi, hz, rfl, hlen, hsz, hby, hpos, hbpos, hone⟩ := makeT_spec hT
      rw [hlv] at hl
      rw [hcv] at hc
      have hl' : ρv l = .int k1 n' := by generalize ρv l = x at hl; cases hl with | d h => cases h with | raw => rfl
      have hc' : ρv c = .int k2 n' := by generalize ρv c = x at hc; cases hc with | d h => cases h with | raw => rfl
      have hbx := hm.nobox _ h1
      have hnb : n'.toNat ≤ 281474976710656 := Nat.le_trans (Nat.le_mul_of_pos_right _ hbpos) hb
      have hrun := run_make (P := P) w T E i z hE hi hz k1 k2 n' n' h0 (Int.le_refl _) (by
        have : ((n'.toNat * by' : Nat) : Int) ≤ 281474976710656 := by omega
        rw [Int.natCast_mul] at this
        rw [hby, Int.mul_comm]
        have e : ((n'.toNat : Nat) : Int) = n' := by omega
        rw [e] at this
        exact this) (by omega)
      have hzs : z.cells.size = sz := by simpa using hlen
      have hflat : (madeCells z.cells (n'.toNat * i.size)).toList = (List.replicate n'.toNat z.cells.toList).flatten := by
        rw [hsz, ← hzs]
        exact made_flat _ _ (by omega)
      have hrel := hm.mkbox (k := base + s) hbx (hd s hs) (sz := sz) (rows := List.replicate n'.toNat (z.cells.toList.map ofVal1)) (by
        intro r hr
        rw [List.eq_of_mem_replicate hr]
        simpa using hzs) (cs := madeCells z.cells (n'.toNat * i.size)) E (by
        rw [hflat]
        have e : (List.replicate n'.toNat (z.cells.toList.map ofVal1)).flatten = ((List.replicate n'.toNat z.cells.toList).flatten).map ofVal1 := by
          rw [List.map_flatten, List.map_replicate]
        rw [e]
        exact ⟨by simp, fun i h1 h2 => by simp only [List.getElem_map]; exact RV.of_ofVal1 _⟩) (by
        rw [hflat]
        intro u hu
        obtain ⟨l', hl1, hl2⟩ := List.mem_flatten.1 hu
        rw [List.eq_of_mem_replicate hl1] at hl2
        exact hone u hl2)
      refine ⟨.value (.slice (some ⟨w.heap.size, 0, none⟩) n'.toNat n'.toNat), _, G.mkbox (base + s) w.heap.size sz, w.alloc (.cells (madeCells z.cells (n'.toNat * i.size)) E), ?_, .inl rfl, Le.mkbox hm.fresh hm.tlt hbx _ _, ?_, hrel, ?_⟩
      · simp only [execOp, ho, hl', hc', Sem.run_bind, hrun, Result.andThen_ok, Sem.run_pure]
      · have : (⟨w.heap.size, 0, none⟩ : Addr) = ⟨w.heap.size, 0 * sz, none⟩ := by simp
        rw [this]
        exact .msl (by simp [Gh.mkbox, upd_same]) (Nat.le_refl _) (by unfold maxLen; omega)
      · intro k hk hg
        have hne : k ≠ base + s := fun e => hk (by rw [hs, e]; rfl)
        exact ⟨by simp only [Gh.mkbox]; rw [upd_other _ _ hne]; exact hg, upd_other _ _ hne⟩
    · exact h.elim
  · exact h.elim

/-! ### Tokens -/
def Own.live (tok : Nat → Bool) : Own → Bool
  | .full => true
  | .tok t => tok t
def Own.kill (tok : Nat → Bool) : Own → (Nat → Bool)
  | .full => tok
  | .tok t => upd tok t false

def Gh.kill (G : Gh) : Own → Gh
  | .full => G
  | .tok t => { G with tk := upd G.tk t none }

theorem Le.kill {G : Gh} {w : World} (o : Own) : Le G w (G.kill o) w := by
  cases o with
  | full => exact Le.refl G w
  | tok t =>
    exact ⟨rfl, rfl, rfl, Nat.le_refl _, fun _ _ h => ⟨h, rfl⟩, fun _ f _ h => ⟨⟨f, Nat.le_refl _, h⟩, fun _ _ _ => rfl⟩, fun _ _ h => h, Nat.le_refl _, fun s _ => by
      by_cases e : s = t
      · exact .inl (by subst e; simp [Gh.kill, upd_same])
      · exact .inr ⟨by simp only [Gh.kill]; exact upd_other _ _ e, fun _ _ => rfl⟩⟩

theorem RelM.kill {G : Gh} {m : AMem} {w : World} (h : RelM G m w) (o : Own) : RelM (G.kill o) { m with tok := o.kill m.tok } w := by
  cases o with
  | full => exact h
  | tok t =>
    have tk' : ∀ s x, (upd G.tk t none) s = some x → s ≠ t ∧ G.tk s = some x := by
      intro s x hs
      by_cases e : s = t
      · subst e; simp [upd_same] at hs
      · exact ⟨e, by rw [upd_other _ _ e] at hs; exact hs⟩
    constructor
    case box =>
      intro k rows b sz hk hb
      obtain ⟨h1, cs, e, h2, h3, h4, h5⟩ := h.box k rows b sz hk hb
      exact ⟨h1, cs, e, h2, h3, h4.mono (Le.kill (.tok t)), h5⟩
    case nobox => exact h.nobox
    case inj => exact h.inj
    case nb => exact h.nb
    case nt => exact h.nt
    case toks =>
      intro s hs
      simp only [Own.kill] at hs
      by_cases e : s = t
      · subst e; simp [upd_same] at hs
      · rw [upd_other _ _ e] at hs
        obtain ⟨h1, x, h2⟩ := h.toks s hs
        exact ⟨h1, x, by simp only [Gh.kill]; rw [upd_other _ _ e]; exact h2⟩
    case tokb => intro s g hs; exact h.tokb s g (tk' s _ hs).2
    case tinj => intro s s' g hs hs'; exact h.tinj s s' g (tk' s _ hs).2 (tk' s' _ hs').2
    case tnt => intro s x hs; exact h.tnt s x (tk' s _ hs).2
    case fresh => exact h.fresh

def Gh.newtok (G : Gh) (x : Option Nat) : Gh := { G with tk := upd G.tk G.nt (some x), nt := G.nt + 1 }

theorem Le.newtok {G : Gh} {w : World} (x : Option Nat) : Le G w (G.newtok x) w :=
  ⟨rfl, rfl, rfl, Nat.le_refl _, fun _ _ h => ⟨h, rfl⟩, fun _ f _ h => ⟨⟨f, Nat.le_refl _, h⟩, fun _ _ _ => rfl⟩, fun _ _ h => h, Nat.le_succ _, fun s hs => .inr ⟨by
    simp only [Gh.newtok]; exact upd_other _ _ (by omega), fun _ _ => rfl⟩⟩

theorem RelM.newtok {G : Gh} {m : AMem} {w : World} (h : RelM G m w) (x : Option Nat)
    (hx : ∀ g, x = some g → (∀ t, G.tk t ≠ some (some g)) ∧ ∃ f cur e, G.kind g = .part f cur.size ∧ w.heap[g]? = some (.cells cur e (0, 0))) :
    RelM (G.newtok x) { m with tok := upd m.tok m.nt true, nt := m.nt + 1 } w := by
  have tk' : ∀ s y, (upd G.tk G.nt (some x)) s = some y → (s = G.nt ∧ y = x) ∨ (s ≠ G.nt ∧ G.tk s = some y) := by
    intro s y hs
    by_cases e : s = G.nt
    · subst e
      rw [upd_same] at hs
      cases hs
      exact .inl ⟨rfl, rfl⟩
    · exact .inr ⟨e, by rw [upd_other _ _ e] at hs; exact hs⟩
  constructor
  case box =>
    intro k rows b sz hk hb
    obtain ⟨h1, cs, e, h2, h3, h4, h5⟩ := h.box k rows b sz hk hb
    exact ⟨h1, cs, e, h2, h3, h4.mono (Le.newtok x), h5⟩
  case nobox => exact h.nobox
  case inj => exact h.inj
  case nb => exact h.nb
  case nt => simp only [Gh.newtok]; rw [h.nt]
  case toks =>
    intro s hs
    simp only at hs
    by_cases e : s = m.nt
    · subst e
      exact ⟨Nat.lt_succ_self _, x, by simp only [Gh.newtok]; rw [h.nt, upd_same]⟩
    · rw [upd_other _ _ e] at hs
      obtain ⟨h1, y, h2⟩ := h.toks s hs
      exact ⟨Nat.lt_succ_of_lt h1, y, by simp only [Gh.newtok]; rw [h.nt, upd_other _ _ e]; exact h2⟩
  case tokb =>
    intro s g hs
    rcases tk' s _ hs with ⟨_, e⟩ | ⟨_, e⟩
    · exact (hx g e.symm).2
    · exact h.tokb s g e
  case tinj =>
    intro s s' g hs hs'
    rcases tk' s _ hs with ⟨e1, e⟩ | ⟨e1, e⟩ <;> rcases tk' s' _ hs' with ⟨e2, e'⟩ | ⟨e2, e'⟩
    · exact e1.trans e2.symm
    · exact absurd e' ((hx g e.symm).1 s')
    · exact absurd e ((hx g e'.symm).1 s)
    · exact h.tinj s s' g e e'
  case tnt =>
    intro s y hs
    simp only [Gh.newtok]
    rcases tk' s _ hs with ⟨e1, _⟩ | ⟨_, e⟩
    · omega
    · have := h.tnt s y e; omega
  case fresh => exact h.fresh

def Gh.setKind (G : Gh) (g : Nat) (k : BK) : Gh := { G with kind := upd G.kind g k }

/-- A new block whose first f cells never change. -/
theorem Le.newpart {G : Gh} {m : AMem} {w : World} (h : RelM G m w) (f c : Nat) (o : Obj) : Le G w (G.setKind w.heap.size (.part f c)) (w.alloc o) where
  os := rfl
  tape := rfl
  output := rfl
  size := by simp
  whole b hb hk := ⟨by simp only [Gh.setKind]; rw [upd_other _ _ (by omega)]; exact hk, Go.RowKit.Below.heap_alloc w o b hb⟩
  part b f c hk := by
    have hne : b ≠ w.heap.size := fun e => by
      have := h.fresh b (by omega)
      rw [hk] at this; cases this
    exact ⟨⟨f, Nat.le_refl _, by simp only [Gh.setKind]; rw [upd_other _ _ hne]; exact hk⟩, fun a ha _ => World.cell?_alloc_old w o a (by omega)⟩
  bx _ _ h := h
  nt := Nat.le_refl _
  tk t _ := .inr ⟨rfl, fun g hg => by
    simp only [Gh.setKind]
    rw [upd_other _ _ (by have := h.tlt t g hg; omega)]⟩

theorem RelM.newpart {G : Gh} {m : AMem} {w : World} (h : RelM G m w) (f c : Nat) (o : Obj) : RelM (G.setKind w.heap.size (.part f c)) m (w.alloc o) := by
  have hle := Le.newpart h f c o
  constructor
  case box =>
    intro k rows b sz hk hb
    obtain ⟨h1, cs, e, h2, h3, h4, h5⟩ := h.box k rows b sz hk hb
    refine ⟨?_, cs, e, (Go.RowKit.Below.heap_alloc w o b (heap_lt h2)).trans h2, h3, h4.mono hle, h5⟩
    simp only [Gh.setKind]
    rw [upd_other _ _ (by have := heap_lt h2; omega)]
    exact h1
  case nobox => exact h.nobox
  case inj => exact h.inj
  case nb => exact h.nb
  case nt => exact h.nt
  case toks => exact h.toks
  case tokb =>
    intro t g ht
    obtain ⟨f', cur, e, h1, h2⟩ := h.tokb t g ht
    refine ⟨f', cur, e, ?_, (Go.RowKit.Below.heap_alloc w o g (heap_lt h2)).trans h2⟩
    simp only [Gh.setKind]
    rw [upd_other _ _ (by have := heap_lt h2; omega)]
    exact h1
  case tinj => exact h.tinj
  case tnt => exact h.tnt
  case fresh =>
    intro b hb
    simp at hb
    simp only [Gh.setKind]
    rw [upd_other _ _ (by omega)]
    exact h.fresh b (by omega)

/-- A block that no token speaks of is filled on behind its first f cells. -/
theorem Le.fill {G : Gh} {w : World} {g f f' c : Nat} (hk : G.kind g = .part f c) (hf : f ≤ f') (ht : ∀ t, G.tk t ≠ some (some g)) {cur new : Array Value} {e : TypeId} {fr : Nat × Nat} (hg : w.heap[g]? = some (.cells cur e fr))
    (hsame : ∀ o, o < f → new[o]? = cur[o]?) : Le G w (G.setKind g (.part f' c)) (w.setRow g new) where
  os := rfl
  tape := rfl
  output := rfl
  size := by simp [World.setRow]
  whole b hb h := by
    have hne : b ≠ g := fun e => by subst e; rw [hk] at h; cases h
    exact ⟨by simp only [Gh.setKind]; rw [upd_other _ _ hne]; exact h, setRow_other w g b new hne⟩
  part b f0 c0 h := by
    by_cases e : b = g
    · subst e
      rw [hk] at h
      cases h
      refine ⟨⟨f', hf, by simp [Gh.setKind, upd_same]⟩, fun a ha ho => ?_⟩
      subst ha
      simp only [World.cell?, hg, setRow_heap w a.block cur new _ _ hg]
      split
      · rfl
      · exact hsame a.off ho
    · exact ⟨⟨f0, Nat.le_refl _, by simp only [Gh.setKind]; rw [upd_other _ _ e]; exact h⟩, fun a ha _ => cell_setRow_other w g new a (by omega)⟩
  bx _ _ h := h
  nt := Nat.le_refl _
  tk t _ := .inr ⟨rfl, fun j hj => by
    simp only [Gh.setKind]
    exact upd_other _ _ (fun e => by subst e; exact ht t hj)⟩

theorem RelM.fill {G : Gh} {m : AMem} {w : World} (h : RelM G m w) {g f f' c : Nat} (hk : G.kind g = .part f c) (hf : f ≤ f') (ht : ∀ t, G.tk t ≠ some (some g)) {cur new : Array Value} {e : TypeId}
    (hg : w.heap[g]? = some (.cells cur e (0, 0))) (hsame : ∀ o, o < f → new[o]? = cur[o]?) : RelM (G.setKind g (.part f' c)) m (w.setRow g new) := by
  have hle := Le.fill hk hf ht hg hsame
  constructor
  case box =>
    intro k rows b sz hkk hb
    obtain ⟨h1, cs, e', h2, h3, h4, h5⟩ := h.box k rows b sz hkk hb
    have hne : b ≠ g := fun e => by subst e; rw [hk] at h1; cases h1
    refine ⟨?_, cs, e', (setRow_other w g b new hne).trans h2, h3, h4.mono hle, h5⟩
    simp only [Gh.setKind]
    rw [upd_other _ _ hne]
    exact h1
  case nobox => exact h.nobox
  case inj => exact h.inj
  case nb => exact h.nb
  case nt => exact h.nt
  case toks => exact h.toks
  case tokb =>
    intro t j hj
    obtain ⟨f0, cur0, e0, h1, h2⟩ := h.tokb t j hj
    have hne : j ≠ g := fun e => by subst e; exact ht t hj
    refine ⟨f0, cur0, e0, ?_, (setRow_other w g j new hne).trans h2⟩
    simp only [Gh.setKind]
    rw [upd_other _ _ hne]
    exact h1
  case tinj => exact h.tinj
  case tnt => exact h.tnt
  case fresh =>
    intro b hb
    have hb' : w.heap.size ≤ b := by simpa [World.setRow] using hb
    simp only [Gh.setKind]
    rw [upd_other _ _ (by have := heap_lt hg; omega)]
    exact h.fresh b hb'

end Go.AM
