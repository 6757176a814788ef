/-
  The layer T, part 9: what a step leaves of a call's state; new arrays and new variables.
  The layer T, part 10: what is seen from elsewhere; what is moved; variables that become things of the heap.
  The layer T, part 11: operands as values and as cells; new variables; new arrays.
  The layer T, part 12: copies; variables; structs and lists that are built.
  The layer T, part 13: operations that change a call's state: copies, variables, structs, lists.
  The layer T, part 14: lists that are built, made, appended to; stores.
  The layer T, part 15: append.
  The layer T, part 16: stores.
  The layer T, part 17: calls.
-/
import Derived.Test.YtggflojpgncjlaaGreatDoorTa
set_option linter.unusedVariables false
set_option linter.unusedSimpArgs false
set_option linter.unusedSectionVars false
set_option linter.unusedVariables false
set_option linter.unusedSimpArgs false
namespace Go.T
open Go.RowKit

section
variable {Ev : Env} {P : Program} {T : Tab P} {g g' : Gh} {n : Nat} {s s' : TS} {a a' : Act} {w w' : World} {X : Loc → Prop}

theorem Step.of (os : w'.os = w.os) (tape : w'.tape = w.tape) (output : w'.output = w.output) (size : w.heap.size ≤ w'.heap.size) (hw : ∀ b, w.heap.size ≤ b → g.O b = none ∧ g.c b = 0)
    (hb : ∀ b, b < w.heap.size → (∃ L, g.O b = some L ∧ X L ∧ L ≠ .outer) ∨ (w'.heap[b]? = w.heap[b]? ∧ g'.O b = g.O b ∧ g'.c b = g.c b))
    (hc : ∀ b, b < w.heap.size → g.c b ≤ g'.c b) (hcell : ∀ b j, b < w.heap.size → j < g.c b → w'.cell? ⟨b, j, none⟩ = w.cell? ⟨b, j, none⟩)
    (href : ∀ i, g.O (g.ρ i) = some (.ref i) → g'.ρ i = g.ρ i ∧ g'.O (g.ρ i) = some (.ref i)) : Step X g w g' w' := {
  ext := {
    c := fun b => by
      rcases Nat.lt_or_ge b w.heap.size with h | h
      · exact hc b h
      · rw [(hw b h).2]; exact Nat.zero_le _
    cell := fun b j hj => by
      rcases Nat.lt_or_ge b w.heap.size with h | h
      · exact hcell b j h hj
      · rw [(hw b h).2] at hj; omega
    ref := href }
  kept := {
    os := os, tape := tape, output := output, size := size
    block := fun b hlt ho => by
      rcases hb b hlt with ⟨L, h1, _, h2⟩ | h
      · rw [h1] at ho
        rcases ho with ho | ho
        · cases ho
        · cases ho; exact absurd rfl h2
      · exact h }
  blk := fun b L hL hX => by
    have hlt : b < w.heap.size := by
      rcases Nat.lt_or_ge b w.heap.size with h | h
      · exact h
      · rw [(hw b h).1] at hL; cases hL
    rcases hb b hlt with ⟨L', h1, h2, _⟩ | ⟨h1, h2, h3⟩
    · rw [h1] at hL; cases hL; exact absurd h2 hX
    · exact ⟨h1, by rw [h2]; exact hL, h3⟩ }

theorem Rel.step (h : Rel Ev g n s a w) (hs : Step X g w g' w') (hw : Wf Ev g' w') (ha : a'.tmps.size = n) (hdf : a'.defers = [])
    (slots : ∀ d, (s'.sl d = s.sl d ∧ a'.tmps.getD d undef = a.tmps.getD d undef ∧ (∀ k, (s.sl d).ofA k → g'.hd k = g.hd k) ∧ (∀ k, (s.sl d).ofV k → g'.β k = g.β k) ∧ ∀ j, ¬ X (.slot d j)) ∨ SVR g' w' d (s'.sl d) (a'.tmps.getD d undef))
    (vars : ∀ d o, s'.V d = some o → (s.V d = some o ∧ g'.β d = g.β d ∧ ¬X (.var d) ∧ ∀ j, ¬X (.vcell d j)) ∨ VarR g' w' d o)
    (arrs : ∀ d o, s'.A d = some o → (s.A d = some o ∧ g'.hd d = g.hd d ∧ ¬X (.arr d)) ∨ OwnR g' w' (.arr d) o.sh o.sz o.xs (g'.hd d))
    (heap : ∀ i o, s'.H i = some o → (s.H i = some o ∧ ¬X (.ref i) ∧ ∀ j, ¬X (.cell i j)) ∨ RefR g' w' i o) : Rel Ev g' n s' a' w' := {
  size := ha
  defers := hdf
  slots d := by
    rcases slots d with ⟨e1, e2, e3, e4, e5⟩ | h'
    · rw [e1, e2]; exact (h.slots d).step hs e3 e4 e5
    · exact h'
  vars d o ho := by
    rcases vars d o ho with ⟨e1, e2, e3, e4⟩ | h'
    · exact (h.vars d o e1).step hs e2 e3 e4
    · exact h'
  arrs d o ho := by
    rcases arrs d o ho with ⟨e1, e2, e3⟩ | h'
    · rw [e2]; exact (h.arrs d o e1).step hs e3
    · exact h'
  heap i o ho := by
    rcases heap i o ho with ⟨e1, e2, e3⟩ | h'
    · exact (h.heap i o e1).step hs e2 e3
    · exact h'
  wf := hw }

/-! ### A new block -/
theorem heap_alloc_lt (w : World) (o : Obj) {b : Nat} (h : b < w.heap.size) : (w.alloc o).heap[b]? = w.heap[b]? := Below.heap_alloc w o b h

theorem Step.alloc (hw : Wf Ev g w) (o : Obj) (L : Loc) (hL : ∀ i, L ≠ .ref i) (β : Nat → Nat) (hd : Nat → Value) :
    Step (fun _ => False) g w { g with O := upd g.O w.heap.size (some L), β := β, hd := hd } (w.alloc o) ∧ Wf Ev { g with O := upd g.O w.heap.size (some L), β := β, hd := hd } (w.alloc o) := by
  have hst : Step (fun _ => False) g w { g with O := upd g.O w.heap.size (some L), β := β, hd := hd } (w.alloc o) := by
    refine Step.of rfl rfl rfl (by simp) hw.new (fun b hb => .inr ⟨heap_alloc_lt w o hb, upd_ne _ _ (by omega), rfl⟩) (fun b hb => Nat.le_refl _) (fun b j hb hj => World.cell?_alloc_lt w o _ hb) (fun i hi => ⟨rfl, ?_⟩)
    have : g.ρ i ≠ w.heap.size := fun e => by rw [e, (hw.new _ (Nat.le_refl _)).1] at hi; cases hi
    show upd g.O w.heap.size (some L) (g.ρ i) = _
    rw [upd_ne _ _ this]; exact hi
  refine ⟨hst, hw.kept hst.kept (fun b hb => ?_) ?_⟩
  · simp at hb
    have := hw.new b (by omega)
    exact ⟨by show upd g.O w.heap.size (some L) b = none; rw [upd_ne _ _ (by omega)]; exact this.1, this.2⟩
  · obtain ⟨m, hm⟩ := hw.m
    refine ⟨m, fun i hi => ?_⟩
    show upd g.O w.heap.size (some L) (g.ρ i) ≠ _
    by_cases e : g.ρ i = w.heap.size
    · rw [e, upd_same]; exact fun h => hL i (by cases h; rfl)
    · rw [upd_ne _ _ e]; exact hm i hi

/-! ### Arrays of this call -/
def SV.killA (d : Nat) : SV → SV
  | .arr k => if k = d then .und else .arr k
  | .hp k sz i o => if k = d then .und else .hp k sz i o
  | x => x
def SV.killV (d : Nat) : SV → SV
  | .lp k o => if k = d then .und else .lp k o
  | x => x
/-- The array d is given up. -/
def TS.dropA (s : TS) (d : Nat) : TS := { s with sl := fun k => (s.sl k).killA d, A := upd s.A d none }
/-- A new array d. -/
def TS.newA (s : TS) (d : Nat) (o : AObj) : TS := { s with sl := upd (fun k => (s.sl k).killA d) d (.arr d), A := upd s.A d (some o) }
/-- A new variable d. -/
def TS.newV (s : TS) (d : Nat) (cs : List CV) : TS := { s with sl := upd (fun k => (s.sl k).killV d) d (.lp d 0), V := upd s.V d (some (.cells cs)) }

theorem killA_cases (x : SV) (d : Nat) : x.killA d = .und ∨ (x.killA d = x ∧ ¬ x.ofA d) := by
  cases x with
  | arr k =>
    by_cases e : k = d
    · exact .inl (by simp [SV.killA, e])
    · exact .inr ⟨by simp [SV.killA, e], by simpa [SV.ofA] using e⟩
  | hp k sz i o =>
    by_cases e : k = d
    · exact .inl (by simp [SV.killA, e])
    · exact .inr ⟨by simp [SV.killA, e], by simpa [SV.ofA] using e⟩
  | _ => exact .inr ⟨rfl, fun h => h⟩
theorem killV_cases (x : SV) (d : Nat) : x.killV d = .und ∨ (x.killV d = x ∧ ¬ x.ofV d) := by
  cases x with
  | lp k o =>
    by_cases e : k = d
    · exact .inl (by simp [SV.killV, e])
    · exact .inr ⟨by simp [SV.killV, e], by simpa [SV.ofV] using e⟩
  | _ => exact .inr ⟨rfl, fun h => h⟩

theorem Rel.dropA (h : Rel Ev g n s a w) (d : Nat) : Rel Ev g n (s.dropA d) a w := {
  size := h.size
  defers := h.defers
  slots k := by
    rcases killA_cases (s.sl k) d with e | ⟨e, _⟩
    · simp only [TS.dropA, e]; trivial
    · simp only [TS.dropA, e]; exact h.slots k
  vars := h.vars
  arrs k o ho := by
    simp only [TS.dropA] at ho
    by_cases hk : k = d
    · subst hk; simp at ho
    · rw [upd_ne _ _ hk] at ho; exact h.arrs k o ho
  heap := h.heap
  wf := h.wf }

/-- A new array's value is in its slot. -/
theorem Rel.newA (h : Rel Ev g n s a w) {d : Nat} (hd : d < n) {o : AObj} {v : Value} (hs : Step X g w g' w') (hw : Wf Ev g' w') (hX : ∀ L, X L → ∃ k, L = .arr k ∧ (k = d ∨ s.A k = none))
    (hh : ∀ k, k ≠ d → g'.hd k = g.hd k) (hβ : g'.β = g.β) (hv : g'.hd d = v) (ho : OwnR g' w' (.arr d) o.sh o.sz o.xs v) : Rel Ev g' n (s.newA d o) (a.put (some d) v) w' := by
  have hno : ∀ L, (∀ k, L ≠ .arr k) → ¬ X L := fun L hL hx => by obtain ⟨k, e, _⟩ := hX L hx; exact hL k e
  refine h.step hs hw (by simp [Act.put, h.size]) h.defers (fun k => ?_) (fun k o hk => .inl ⟨hk, by rw [hβ], hno _ (by simp), fun j => hno _ (by simp)⟩) (fun k o' hk => ?_) (fun i o hi => .inl ⟨hi, hno _ (by simp), fun j => hno _ (by simp)⟩)
  · by_cases e : k = d
    · subst e
      right
      rw [getD_put, h.size, if_pos ⟨rfl, hd⟩]
      simp only [TS.newA, upd_same, SVR]
      exact hv.symm
    · simp only [TS.newA, upd_ne _ _ e]
      rw [getD_put, if_neg (fun h => e h.1)]
      rcases killA_cases (s.sl k) d with e1 | ⟨e1, e2⟩
      · right; rw [e1]; trivial
      · left
        refine ⟨e1, rfl, fun q hq => hh q fun eq => e2 (eq ▸ hq), fun q _ => by rw [hβ], fun j => hno _ (by simp)⟩
  · simp only [TS.newA] at hk
    by_cases e : k = d
    · subst e
      rw [upd_same] at hk; cases hk
      right; rw [hv]; exact ho
    · rw [upd_ne _ _ e] at hk
      left
      refine ⟨hk, hh k e, fun hx => ?_⟩
      obtain ⟨q, e1, e2⟩ := hX _ hx
      cases e1
      rcases e2 with e2 | e2
      · exact e e2
      · rw [e2] at hk; cases hk

/-- A new variable's place is in its slot. -/
theorem Rel.newV (h : Rel Ev g n s a w) {d : Nat} (hd : d < n) {cs : List CV} {b : Nat} (hs : Step X g w g' w') (hw : Wf Ev g' w') (hX : ∀ L, X L → L = .var d ∨ ∃ j, L = .vcell d j)
    (hh : g'.hd = g.hd) (hβ : ∀ k, k ≠ d → g'.β k = g.β k) (hv : g'.β d = b) (ho : CellsR g' w' b (.var d) (.vcell d) cs) : Rel Ev g' n (s.newV d cs) (a.put (some d) (.pointer (some ⟨b, 0, none⟩))) w' := by
  have hno : ∀ L, L ≠ .var d → (∀ j, L ≠ .vcell d j) → ¬ X L := fun L h1 h2 hx => by
    rcases hX L hx with e | ⟨j, e⟩
    · exact h1 e
    · exact h2 j e
  refine h.step hs hw (by simp [Act.put, h.size]) h.defers (fun k => ?_) (fun k o hk => ?_) (fun k o' hk => .inl ⟨hk, by rw [hh], hno _ (by simp) (by simp)⟩) (fun i o hi => .inl ⟨hi, hno _ (by simp) (by simp), fun j => hno _ (by simp) (by simp)⟩)
  · by_cases e : k = d
    · subst e
      right
      rw [getD_put, h.size, if_pos ⟨rfl, hd⟩]
      simp only [TS.newV, upd_same, SVR, hv]
    · simp only [TS.newV, upd_ne _ _ e]
      rw [getD_put, if_neg (fun h => e h.1)]
      rcases killV_cases (s.sl k) d with e1 | ⟨e1, e2⟩
      · right; rw [e1]; trivial
      · left
        refine ⟨e1, rfl, fun q _ => by rw [hh], fun q hq => hβ q fun eq => e2 (eq ▸ hq), fun j => hno _ (by simp) (by simp)⟩
  · simp only [TS.newV] at hk
    by_cases e : k = d
    · subst e
      rw [upd_same] at hk; cases hk
      right; unfold VarR; rw [hv]; exact ho
    · rw [upd_ne _ _ e] at hk
      exact .inl ⟨hk, hβ k e, hno _ (by simp [e]) (by simp [e]), fun j => hno _ (by simp) (by simp [e])⟩

theorem OwnR.nil (g : Gh) (w : World) (L : Loc) (sh : Bool) (sz : Nat) : OwnR g w L sh sz [] (.slice none 0 0) :=
  ⟨0, [], World.ownsRow_nil w 0 0 sz, .nil _ _, by simp, by simp, fun b hb => by simp [Value.ownBlock] at hb⟩

/-- nil as a slice that may be appended to. -/
theorem Rel.nilA (h : Rel Ev g n s a w) {d : Nat} (hd : d < n) (sz : Nat) :
    ∃ g', Rel Ev g' n (s.newA d ⟨sz, false, []⟩) (a.put (some d) (.slice none 0 0)) w ∧ Ext g w g' w ∧ Kept g w g' w := by
  have hs : Step (fun _ => False) g w { g with hd := upd g.hd d (.slice none 0 0) } w := ⟨⟨fun _ => Nat.le_refl _, fun _ _ _ => rfl, fun _ h => ⟨rfl, h⟩⟩, ⟨rfl, rfl, rfl, Nat.le_refl _, fun _ _ _ => ⟨rfl, rfl, rfl⟩⟩, fun _ _ h _ => ⟨rfl, h, rfl⟩⟩
  exact ⟨_, h.newA hd hs ⟨h.wf.new, h.wf.low, h.wf.lo, h.wf.env, h.wf.m⟩ (fun _ h => h.elim) (fun k hk => upd_ne _ _ hk) rfl (by simp) (OwnR.nil ..), hs.ext, hs.kept⟩

end
end Go.T
set_option linter.unusedVariables false
set_option linter.unusedSimpArgs false
namespace Go.T
open Go.RowKit

def TS.share (s : TS) (k : Nat) (o : AObj) : TS := { s with A := upd s.A k (some { o with sh := true }) }
def SV.giveA (k : Nat) (o : AObj) : SV → SV
  | .arr q => if q = k then .t (.sl o.sz o.xs) else .arr q
  | .hp q sz i p => if q = k then .und else .hp q sz i p
  | x => x
def TS.giveA (s : TS) (k : Nat) (o : AObj) : TS := { s with sl := fun d => (s.sl d).giveA k o, A := upd s.A k none }
def TS.promote (s : TS) (d : Nat) (cs : List CV) (i : Nat) : TS := { s with V := upd s.V d (some (.esc i)), H := upd s.H i (some (.cells cs)) }

def CV.tv (hint : Nat) : CV → TV
  | .v t => t
  | .own sz xs => .sl sz xs
  | .nils => .sl hint []
def cellsTV (hints : List Nat) (cs : List CV) : List TV := cs.zipIdx.map fun (c, j) => c.tv (hints.getD j 0)

/-- As a value that is handed on. -/
def asTV (s : TS) (hints : List Nat) (x : SV) (K : TV → TS → Prop) : Prop :=
  match x with
  | .t t => K t s
  | .nils => K (.sl (hints.getD 0 0) []) s
  | .arr k => match s.A k with
    | some o => K (.sl o.sz o.xs) (s.share k o)
    | none => False
  | .lp d off => match s.V d with
    | some (.esc i) => K (.ptr i off) s
    | some (.cells cs) => ∀ i, s.H i = none → K (.ptr i off) (s.promote d cs i)
    | none => False
  | .st cs => K (.agg (cellsTV hints cs)) s
  | .ea cs => K (.eptr cs) s
  | _ => False
def asTVs (s : TS) : List (SV × List Nat) → (List TV → TS → Prop) → Prop
  | [], K => K [] s
  | (x, h) :: xs, K => asTV s h x fun t s1 => asTVs s1 xs fun ts s2 => K (t :: ts) s2
/-- As cells of a variable: an array is moved there. -/
def asCells (s : TS) (x : SV) (K : List CV → TS → Prop) : Prop :=
  match x with
  | .t t => K (t.cells.map .v) s
  | .nils => K [.nils] s
  | .arr k => match s.A k with
    | some o => K [.own o.sz o.xs] (s.giveA k o)
    | none => False
  | .lp d off => match s.V d with
    | some (.esc i) => K [.v (.ptr i off)] s
    | some (.cells cs) => ∀ i, s.H i = none → K [.v (.ptr i off)] (s.promote d cs i)
    | none => False
  | .st cs => K (cs.map CV.view) s
  | .ea cs => K [.v (.eptr cs)] s
  | _ => False

section
variable {Ev : Env} {P : Program} {T : Tab P} {g g' : Gh} {n : Nat} {s s' : TS} {a a' : Act} {w w' : World} {X : Loc → Prop}

/-- A step of what is known alone. -/
theorem Step.ghost (hw : Wf Ev g w) (hb : ∀ b L, g.O b = some L → (X L ∧ L ≠ .outer) ∨ (g'.O b = some L ∧ g'.c b = g.c b)) (hn : ∀ b, g.O b = none → g'.O b = none ∧ g'.c b = g.c b) (hc : ∀ b, g.c b ≤ g'.c b)
    (href : ∀ i, g.O (g.ρ i) = some (.ref i) → g'.ρ i = g.ρ i ∧ g'.O (g.ρ i) = some (.ref i)) : Step X g w g' w := by
  refine Step.of rfl rfl rfl (Nat.le_refl _) hw.new (fun b hlt => ?_) (fun b _ => hc b) (fun b j _ _ => rfl) href
  cases hO : g.O b with
  | none => exact .inr ⟨rfl, hn b hO⟩
  | some L =>
    rcases hb b L hO with ⟨h1, h2⟩ | ⟨h1, h2⟩
    · exact .inl ⟨L, rfl, h1, h2⟩
    · exact .inr ⟨rfl, h1, h2⟩

theorem Rel.share (h : Rel Ev g n s a w) {k : Nat} {o : AObj} (hA : s.A k = some o) :
    ∃ g', Rel Ev g' n (s.share k o) a w ∧ Step (· = .arr k) g w g' w ∧ g'.hd = g.hd ∧ g'.β = g.β ∧ g'.ρ = g.ρ ∧ g'.O = g.O ∧ OwnR g' w (.arr k) true o.sz o.xs (g.hd k) := by
  obtain ⟨e, cells, o1, o2, o3, o4, o5⟩ := h.arrs k o hA
  let g' : Gh := { g with c := fun b => if (g.hd k).ownBlock = some b then o.xs.length * o.sz else g.c b }
  have hst : Step (· = .arr k) g w g' w := by
    refine Step.ghost h.wf (fun b L hL => ?_) (fun b hb => ⟨hb, ?_⟩) (fun b => ?_) (fun i hi => ⟨rfl, hi⟩)
    · by_cases e : (g.hd k).ownBlock = some b
      · have := (o5 b e).1
        rw [hL] at this; cases this
        exact .inl ⟨rfl, by simp⟩
      · exact .inr ⟨hL, by simp [g', e]⟩
    · have : (g.hd k).ownBlock ≠ some b := fun e => by rw [(o5 b e).1] at hb; cases hb
      simp [g', this]
    · simp only [g']
      split
      · rename_i e
        rw [(o5 b e).2]; split <;> omega
      · exact Nat.le_refl _
  have hown : OwnR g' w (.arr k) true o.sz o.xs (g.hd k) :=
    ⟨e, cells, o1, o2.ext hst.ext, o3, o4, fun b hb => ⟨(o5 b hb).1, by simp [g', hb]⟩⟩
  have hwf : Wf Ev g' w := h.wf.kept hst.kept (fun b hb => by
    have := h.wf.new b hb
    refine ⟨this.1, ?_⟩
    have hne : (g.hd k).ownBlock ≠ some b := fun e => by rw [(o5 b e).1] at this; cases this.1
    simp [g', hne, this.2]) h.wf.m
  refine ⟨g', h.step hst hwf h.size h.defers (fun d => .inl ⟨rfl, rfl, fun _ _ => rfl, fun _ _ => rfl, by simp⟩) (fun d o ho => .inl ⟨ho, rfl, by simp, by simp⟩) (fun d o' ho => ?_) (fun i o ho => .inl ⟨ho, by simp, by simp⟩), hst, rfl, rfl, rfl, rfl, hown⟩
  simp only [TS.share] at ho
  by_cases hd : d = k
  · subst hd
    rw [upd_same] at ho; cases ho
    exact .inr hown
  · rw [upd_ne _ _ hd] at ho
    exact .inl ⟨ho, rfl, by simpa using hd⟩

/-- What is an array of this call's becomes a cell's. -/
theorem Rel.giveA (h : Rel Ev g n s a w) {k : Nat} {o : AObj} (hA : s.A k = some o) (L : Loc) (hL : ∀ i, L ≠ .ref i) (hL2 : L ≠ .outer) :
    ∃ g', Rel Ev g' n (s.giveA k o) a w ∧ Step (· = .arr k) g w g' w ∧ g'.hd = g.hd ∧ g'.β = g.β ∧ g'.ρ = g.ρ ∧ OwnR g' w L true o.sz o.xs (g.hd k) := by
  obtain ⟨g1, h1, st1, e1, e2, e3, e4, own1⟩ := h.share hA
  let g' : Gh := { g1 with O := fun b => if g1.O b = some (.arr k) then some L else g1.O b }
  have hst : Step (· = .arr k) g1 w g' w := by
    refine Step.ghost h1.wf (fun b L' hL' => ?_) (fun b hb => ⟨by simp [g', hb], rfl⟩) (fun b => Nat.le_refl _) (fun i hi => ⟨rfl, by simp [g', hi]⟩)
    by_cases e : L' = .arr k
    · subst e; exact .inl ⟨rfl, by simp⟩
    · exact .inr ⟨by simp [g', hL', e], rfl⟩
  have hown : OwnR g' w L true o.sz o.xs (g.hd k) := by
    obtain ⟨e, cells, o1, o2, o3, o4, o5⟩ := own1
    exact ⟨e, cells, o1, o2.ext hst.ext, o3, o4, fun b hb => ⟨by simp [g', (o5 b hb).1], (o5 b hb).2⟩⟩
  have hwf : Wf Ev g' w := h1.wf.kept hst.kept (fun b hb => by
    have := h1.wf.new b hb
    exact ⟨by simp [g', this.1], this.2⟩) (by
    obtain ⟨m, hm⟩ := h1.wf.m
    refine ⟨m, fun i hi => ?_⟩
    simp only [g']
    split
    · exact fun e => hL i (by cases e; rfl)
    · exact hm i hi)
  have ext := st1.ext.trans hst.ext
  refine ⟨g', ?_, st1.trans hst, e1, e2, e3, hown⟩
  refine h1.step hst hwf h1.size h1.defers (fun d => ?_) (fun d o ho => .inl ⟨ho, rfl, by simp, by simp⟩) (fun d o' ho => ?_) (fun i o ho => .inl ⟨ho, by simp, by simp⟩)
  · have hd := h.slots d
    have same : SV.giveA k o (s.sl d) = s.sl d → (s.giveA k o).sl d = (s.share k o).sl d := fun e => e
    cases hx : s.sl d with
    | arr q =>
      by_cases e : q = k
      · subst e
        right
        rw [hx] at hd
        simp only [SVR] at hd
        simp only [TS.giveA, hx, SV.giveA, if_true, SVR]
        rw [hd]
        exact OwnR.view hown
      · exact .inl ⟨same (by rw [hx]; simp [SV.giveA, e]), rfl, fun _ _ => rfl, fun _ _ => rfl, by simp⟩
    | hp q sz i p =>
      by_cases e : q = k
      · right; simp only [TS.giveA, hx, SV.giveA, e, if_true]; trivial
      · exact .inl ⟨same (by rw [hx]; simp [SV.giveA, e]), rfl, fun _ _ => rfl, fun _ _ => rfl, by simp⟩
    | _ => exact .inl ⟨same (by rw [hx]; rfl), rfl, fun _ _ => rfl, fun _ _ => rfl, by simp⟩
  · simp only [TS.giveA] at ho
    by_cases hd : d = k
    · subst hd; simp at ho
    · rw [upd_ne _ _ hd] at ho
      exact .inl ⟨by simp only [TS.share, upd_ne _ _ hd]; exact ho, rfl, by simpa using hd⟩

theorem CVRs.imp {L L' : Nat → Loc} {cs : List CV} {vs : Array Value} (h : CVRs g w L cs vs) (hi : ∀ j x v, CVR g w (L j) x v → CVR g' w' (L' j) x v) : CVRs g' w' L' cs vs := ⟨h.1, fun j x v h1 h2 => hi j x v (h.2 j x v h1 h2)⟩

/-- A variable of this call's becomes a thing of the heap: of a number that is free. -/
theorem Rel.promote (h : Rel Ev g n s a w) {d : Nat} {cs : List CV} (hV : s.V d = some (.cells cs)) :
    ∃ i g', s.H i = none ∧ Rel Ev g' n (s.promote d cs i) a w ∧ Step (fun L => L = .var d ∨ ∃ j, L = .vcell d j) g w g' w ∧ g'.hd = g.hd ∧ g'.β = g.β ∧ g'.ρ i = g.β d ∧ g'.O (g'.ρ i) = some (.ref i) := by
  obtain ⟨m, hm⟩ := h.wf.m
  have hfree : s.H m = none := by
    cases hH : s.H m with
    | none => rfl
    | some o =>
      exfalso
      have := h.heap m o hH
      cases o with
      | cells cs => obtain ⟨_, _, h1, _⟩ := this; exact hm m (Nat.le_refl _) h1
      | map es => obtain ⟨_, _, h1, _⟩ := this; exact hm m (Nat.le_refl _) h1
      | arr sz cap xs => obtain ⟨_, _, _, h1, _⟩ := this; exact hm m (Nat.le_refl _) h1
  have hvar : CellsR g w (g.β d) (.var d) (.vcell d) cs := h.vars d _ hV
  let f : Loc → Loc := fun L => match L with
    | .var q => if q = d then .ref m else .var q
    | .vcell q j => if q = d then .cell m j else .vcell q j
    | L => L
  let g' : Gh := { g with O := fun b => (g.O b).map f, ρ := upd g.ρ m (g.β d) }
  have hst : Step (fun L => L = .var d ∨ ∃ j, L = .vcell d j) g w g' w := by
    refine Step.ghost h.wf (fun b L hL => ?_) (fun b hb => ⟨by simp [g', hb], rfl⟩) (fun b => Nat.le_refl _) (fun i hi => ?_)
    · by_cases e : L = .var d ∨ ∃ j, L = .vcell d j
      · exact .inl ⟨e, by rcases e with rfl | ⟨j, rfl⟩ <;> simp⟩
      · refine .inr ⟨?_, rfl⟩
        simp only [g', hL, Option.map_some, Option.some.injEq]
        cases L <;> simp only [f] <;> first | rfl | (rw [if_neg]; rintro rfl; exact e (by simp))
    · have hi' : i ≠ m := fun e => hm i (by omega) hi
      exact ⟨upd_ne _ _ hi', by simp [g', hi, f]⟩
  have hO : g'.O (g.β d) = some (.ref m) := by
    obtain ⟨_, _, h1, _⟩ := hvar
    simp [g', h1, f]
  have hwf : Wf Ev g' w := h.wf.kept hst.kept (fun b hb => by
    have := h.wf.new b hb
    exact ⟨by simp [g', this.1], this.2⟩) (by
    refine ⟨m + 1, fun i hi => ?_⟩
    have him : i ≠ m := by omega
    simp only [g', upd_ne _ _ him]
    intro e
    cases hO : g.O (g.ρ i) with
    | none => rw [hO] at e; cases e
    | some L =>
      rw [hO] at e
      simp only [Option.map_some, Option.some.injEq] at e
      cases L <;> simp only [f] at e <;> first
        | (cases e; exact hm i (by omega) hO)
        | cases e
        | (split at e <;> first | (cases e; omega) | cases e))
  have hcells : CellsR g' w (g.β d) (.ref m) (.cell m) cs := by
    obtain ⟨vals, e, h1, h2, h3, h4⟩ := hvar
    refine ⟨vals, e, hO, h2, h3, h4.imp fun j x v hx => ?_⟩
    cases x with
    | v t => exact ⟨hx.1.ext hst.ext, hx.2⟩
    | own sz xs =>
      obtain ⟨e, cells, o1, o2, o3, o4, o5⟩ := hx
      exact ⟨e, cells, o1, o2.ext hst.ext, o3, o4, fun b hb => ⟨by simp [g', (o5 b hb).1, f], (o5 b hb).2⟩⟩
    | nils => exact hx
  refine ⟨m, g', hfree, ?_, hst, rfl, rfl, by simp [g'], by simp only [g', upd_same]; exact hO⟩
  refine h.step hst hwf h.size h.defers (fun q => .inl ⟨rfl, rfl, fun _ _ => rfl, fun _ _ => rfl, by simp⟩) (fun q o ho => ?_) (fun q o ho => .inl ⟨ho, rfl, by simp⟩) (fun i o ho => ?_)
  · simp only [TS.promote] at ho
    by_cases e : q = d
    · subst e
      rw [upd_same] at ho; cases ho
      right
      exact ⟨by simp [g'], by simp only [g', upd_same]; exact hO⟩
    · rw [upd_ne _ _ e] at ho
      exact .inl ⟨ho, rfl, by simp [e], by simp [e]⟩
  · simp only [TS.promote] at ho
    by_cases e : i = m
    · subst e
      rw [upd_same] at ho; cases ho
      right
      unfold RefR
      simp only [g', upd_same]
      exact hcells
    · rw [upd_ne _ _ e] at ho
      exact .inl ⟨ho, by simp, by simp⟩

end
end Go.T
set_option linter.unusedVariables false
set_option linter.unusedSimpArgs false
namespace Go.T
open Go.RowKit

section
variable {Ev : Env} {P : Program} {T : Tab P} {g g' : Gh} {n : Nat} {s s' : TS} {a a' : Act} {w w' : World} {X : Loc → Prop}

/-- A step of what is known alone, that leaves the slots. -/
structure GStep (g : Gh) (w : World) (g' : Gh) : Prop where
  st : ∃ X, Step X g w g' w ∧ ∀ d j, ¬ X (.slot d j)
  hd : g'.hd = g.hd
  β : g'.β = g.β

theorem GStep.refl (g : Gh) (w : World) : GStep g w g := ⟨⟨fun _ => False, .refl _ g w, fun _ _ h => h⟩, rfl, rfl⟩
theorem GStep.trans {g1 g2 g3 : Gh} {w : World} (h : GStep g1 w g2) (k : GStep g2 w g3) : GStep g1 w g3 := by
  obtain ⟨X, hx, hx'⟩ := h.st
  obtain ⟨Y, hy, hy'⟩ := k.st
  refine ⟨⟨fun L => X L ∨ Y L, (hx.mono fun L h => .inl h).trans (hy.mono fun L h => .inr h), fun d j hh => ?_⟩, k.hd.trans h.hd, k.β.trans h.β⟩
  rcases hh with hh | hh
  · exact hx' d j hh
  · exact hy' d j hh
theorem GStep.ext (h : GStep g w g') : Ext g w g' w := by obtain ⟨X, hx, _⟩ := h.st; exact hx.ext
theorem GStep.kept (h : GStep g w g') : Kept g w g' w := by obtain ⟨X, hx, _⟩ := h.st; exact hx.kept
theorem SVR.gstep (h : GStep g w g') {d : Nat} {x : SV} {v : Value} (hx : SVR g w d x v) : SVR g' w d x v := by
  obtain ⟨X, h1, h2⟩ := h.st
  exact hx.step h1 (fun k _ => by rw [h.hd]) (fun k _ => by rw [h.β]) (h2 d)

theorem cellsTV_at (hints : List Nat) (cs : List CV) (j : Nat) : (cellsTV hints cs)[j]? = (cs[j]?).map fun c => c.tv (hints.getD j 0) := by
  simp only [cellsTV, List.getElem?_map, List.getElem?_zipIdx, Option.map_map]
  simp [Function.comp_def]
theorem CVR.tv {L : Loc} {c : CV} {v : Value} (h : CVR g w L c v) (hint : Nat) : g.VV w (c.tv hint) v ∧ v.oneCell' = true := by
  cases c with
  | v t => exact h
  | own sz xs =>
    refine ⟨OwnR.view h, ?_⟩
    obtain ⟨_, _, ⟨_, h1'⟩, _⟩ := h
    rcases h1' with ⟨rfl, _⟩ | ⟨_, _, _, rfl, _⟩ <;> rfl
  | nils => simp only [CVR] at h; subst h; exact ⟨.sl0 hint none 0, rfl⟩
theorem CVRs.tv {L : Nat → Loc} {cs : List CV} {vs : Array Value} (h : CVRs g w L cs vs) (hints : List Nat) : g.VV w (.agg (cellsTV hints cs)) (.agg vs) := by
  have hlen : (cellsTV hints cs).length = cs.length := by simp [cellsTV]
  have key : ∀ (k : Nat) (u : Value), vs[k]? = some u → ∃ c, cs[k]? = some c ∧ CVR g w (L k) c u := by
    intro k u hu
    have hk : k < cs.length := by
      rw [← h.1]
      rcases Nat.lt_or_ge k vs.size with h' | h'
      · exact h'
      · simp [Array.getElem?_eq_none h'] at hu
    exact ⟨cs[k], List.getElem?_eq_getElem hk, h.2 k _ u (List.getElem?_eq_getElem hk) hu⟩
  refine .agg _ _ (by rw [hlen, h.1]) (fun k u hu => ?_) (fun k t u ht hu => ?_)
  · obtain ⟨c, _, hc⟩ := key k u hu
    exact (hc.tv 0).2
  · obtain ⟨c, h1, hc⟩ := key k u hu
    rw [cellsTV_at, h1, Option.map_some] at ht
    cases ht
    exact (hc.tv _).1

theorem ea_tv {d : Nat} {cs : List TV} {v : Value} (h : SVR g w d (.ea cs) v) : g.VV w (.eptr cs) v := by
  obtain ⟨b, off, us, rfl, e2, e3, e4, e5⟩ := h
  exact .eptr cs b off us e2 e3.1 e4 e5 e3.2
theorem asTV_ok (h : Rel Ev g n s a w) {hints : List Nat} {x : SV} {d : Nat} {v : Value} (hx : SVR g w d x v) {K : TV → TS → Prop} (hK : asTV s hints x K) :
    ∃ t s' g', K t s' ∧ Rel Ev g' n s' a w ∧ GStep g w g' ∧ g'.VV w t v ∧ s'.sl = s.sl := by
  cases x with
  | t t => exact ⟨t, s, g, hK, h, .refl g w, hx, rfl⟩
  | nils => simp only [SVR] at hx; subst hx; exact ⟨_, s, g, hK, h, .refl g w, .sl0 _ none 0, rfl⟩
  | arr k =>
    simp only [asTV] at hK
    split at hK
    · rename_i o hA
      obtain ⟨g', h1, st, e1, e2, e3, e4, own⟩ := h.share hA
      simp only [SVR] at hx
      rw [hx]
      exact ⟨_, _, g', hK, h1, ⟨⟨_, st, by simp⟩, e1, e2⟩, own.view, rfl⟩
    · exact hK.elim
  | lp k off =>
    simp only [asTV] at hK
    simp only [SVR] at hx
    subst hx
    split at hK
    · rename_i i hV
      obtain ⟨e1, e2⟩ := h.vars k _ hV
      refine ⟨_, s, g, hK, h, .refl g w, ?_, rfl⟩
      rw [e1]; exact .ptr i off e2
    · rename_i cs hV
      obtain ⟨i, g', h1, h2, st, e1, e2, e3, e4⟩ := h.promote hV
      refine ⟨_, _, g', hK i h1, h2, ⟨⟨_, st, by simp⟩, e1, e2⟩, ?_, rfl⟩
      rw [← e3]; exact .ptr i off e4
    · exact hK.elim
  | st cs =>
    obtain ⟨vs, e1, e2⟩ := hx
    subst e1
    exact ⟨_, s, g, hK, h, .refl g w, e2.tv hints, rfl⟩
  | ea cs => exact ⟨_, s, g, hK, h, .refl g w, ea_tv hx, rfl⟩
  | _ => exact hK.elim

theorem asTVs_ok : ∀ {xs : List (SV × List Nat)} {g : Gh} {s : TS} (h : Rel Ev g n s a w) {vs : List Value} (hl : vs.length = xs.length) (hx : ∀ (k : Nat) (x : SV × List Nat) (v : Value), xs[k]? = some x → vs[k]? = some v → ∃ d, SVR g w d x.1 v)
    {K : List TV → TS → Prop} (hK : asTVs s xs K), ∃ ts s' g', K ts s' ∧ Rel Ev g' n s' a w ∧ GStep g w g' ∧ VVs g' w ts vs ∧ s'.sl = s.sl
  | [], g, s, h, vs, hl, hx, K, hK => by
    have : vs = [] := List.eq_nil_of_length_eq_zero hl
    subst this
    exact ⟨[], s, g, hK, h, .refl g w, .nil g w, rfl⟩
  | (x, hs) :: xs, g, s, h, vs, hl, hx, K, hK => by
    cases vs with
    | nil => simp at hl
    | cons v vs =>
      obtain ⟨d, hd⟩ := hx 0 _ _ rfl rfl
      obtain ⟨t, s1, g1, k1, r1, st1, v1, e1⟩ := asTV_ok h hd hK
      obtain ⟨ts, s2, g2, k2, r2, st2, v2, e2⟩ := asTVs_ok (xs := xs) r1 (vs := vs) (by simpa using hl) (fun k x v h1 h2 => by
        obtain ⟨d, hd⟩ := hx (k + 1) x v (by simpa using h1) (by simpa using h2)
        exact ⟨d, hd.gstep st1⟩) k1
      exact ⟨_, s2, g2, k2, r2, st1.trans st2, .cons (v1.ext st2.ext) v2, e2.trans e1⟩

theorem asCells_ok (h : Rel Ev g n s a w) {x : SV} {d : Nat} {v : Value} (hx : SVR g w d x v) {K : List CV → TS → Prop} (hK : asCells s x K) (L : Nat → Loc) (hL : ∀ j i, L j ≠ .ref i) (hL2 : ∀ j, L j ≠ .outer) :
    ∃ cs s' g', K cs s' ∧ Rel Ev g' n s' a w ∧ GStep g w g' ∧ CVRs g' w L cs v.cells := by
  cases x with
  | t t =>
    have hc := VV.cells hx
    refine ⟨_, s, g, hK, h, .refl g w, ?_, fun j x u h1 h2 => ?_⟩
    · have := hc.1.1; simpa using this
    · simp only [List.getElem?_map, Option.map_eq_some_iff] at h1
      obtain ⟨t', ht', rfl⟩ := h1
      have hu : v.cells.toList[j]? = some u := by simpa using h2
      exact ⟨hc.1.2 j t' u ht' hu, hc.2 u (List.mem_of_getElem? hu)⟩
  | nils =>
    simp only [SVR] at hx; subst hx
    refine ⟨_, s, g, hK, h, .refl g w, rfl, fun j x u h1 h2 => ?_⟩
    cases j with
    | zero => simp [Value.cells] at h1 h2; subst h1; subst h2; rfl
    | succ j => simp at h1
  | arr k =>
    simp only [asCells] at hK
    split at hK
    · rename_i o hA
      obtain ⟨g', h1, st, e1, e2, e3, own⟩ := h.giveA hA (L 0) (hL 0) (hL2 0)
      simp only [SVR] at hx
      have hv : v.cells = #[v] := by
        obtain ⟨_, _, ⟨_, h1'⟩, _⟩ := own
        rw [hx]
        rcases h1' with ⟨e, _⟩ | ⟨_, _, _, e, _⟩ <;> rw [e] <;> rfl
      refine ⟨_, _, g', hK, h1, ⟨⟨_, st, by simp⟩, e1, e2⟩, by rw [hv]; rfl, fun j x u k1 k2 => ?_⟩
      rw [hv] at k2
      cases j with
      | zero => simp at k1 k2; subst k1; subst k2; rw [hx]; exact own
      | succ j => simp at k1
    · exact hK.elim
  | lp k off =>
    simp only [SVR] at hx
    subst hx
    have one : ∀ {g' : Gh} {t : TV}, g'.VV w t (.pointer (some ⟨g.β k, off, none⟩)) → CVRs g' w L [.v t] (Value.pointer (some ⟨g.β k, off, none⟩)).cells := by
      intro g' t ht
      refine ⟨rfl, fun j x u k1 k2 => ?_⟩
      cases j with
      | zero => simp [Value.cells] at k1 k2; subst k1; subst k2; exact ⟨ht, rfl⟩
      | succ j => simp at k1
    simp only [asCells] at hK
    split at hK
    · rename_i i hV
      obtain ⟨e1, e2⟩ := h.vars k _ hV
      exact ⟨_, s, g, hK, h, .refl g w, one (by rw [e1]; exact .ptr i off e2)⟩
    · rename_i cs hV
      obtain ⟨i, g', h1, h2, st, e1, e2, e3, e4⟩ := h.promote hV
      exact ⟨_, _, g', hK i h1, h2, ⟨⟨_, st, by simp⟩, e1, e2⟩, one (by rw [← e3]; exact .ptr i off e4)⟩
    · exact hK.elim
  | st cs =>
    obtain ⟨vs, e1, e2⟩ := hx
    subst e1
    refine ⟨_, s, g, hK, h, .refl g w, by simp [Value.cells, e2.1], fun j x u k1 k2 => ?_⟩
    simp only [List.getElem?_map, Option.map_eq_some_iff] at k1
    obtain ⟨c, hc, rfl⟩ := k1
    exact (e2.2 j c u hc k2).view
  | ea cs =>
    have hv := ea_tv hx
    obtain ⟨b, off, us, rfl, _⟩ := hx
    refine ⟨_, s, g, hK, h, .refl g w, rfl, fun j x u k1 k2 => ?_⟩
    cases j with
    | zero => simp [Value.cells] at k1 k2; subst k1; subst k2; exact ⟨hv, rfl⟩
    | succ j => simp at k1
  | _ => exact hK.elim

/-! ### New variables -/
theorem zval_ok {t : TV} {v : Value} (h : t.zval = some v) : g.VV w t v ∧ v.oneCell' = true := by
  cases t <;> simp only [TV.zval] at h <;> try (cases h; done)
  case bool b => cases h; exact ⟨.bool b, rfl⟩
  case int k n => cases h; exact ⟨.int k n, rfl⟩
  case str l =>
    cases l with
    | nil => simp [TV.zval] at h; subst h; exact ⟨.str ⟨#[]⟩, rfl⟩
    | cons => simp [TV.zval] at h
  case nilp => cases h; exact ⟨.nilp, rfl⟩
  case nilfn => cases h; exact ⟨.nilfn, rfl⟩
  case nilif => cases h; exact ⟨.nilif, rfl⟩
  case nilmap => cases h; exact ⟨.nilmap, rfl⟩
theorem CV.zval_ok {c : CV} {v : Value} (h : c.zval = some v) (L : Loc) : CVR g w L c v := by
  cases c with
  | v t => exact Go.T.zval_ok h
  | own sz xs => cases h
  | nils => cases h; rfl

/-- A new block of cells for a variable. -/
theorem Rel.allocV (h : Rel Ev g n s a w) {d : Nat} (hd : d < n) {cs : List CV} {vals : Array Value} (e : TypeId) (hc : CVRs g w (.vcell d) cs vals) :
    ∃ g', Rel Ev g' n (s.newV d cs) (a.put (some d) (.pointer (some ⟨w.heap.size, 0, none⟩))) (w.alloc (.cells vals e)) ∧ Ext g w g' (w.alloc (.cells vals e)) ∧ Kept g w g' (w.alloc (.cells vals e)) := by
  obtain ⟨st, wf⟩ := Step.alloc h.wf (.cells vals e) (.var d) (by simp) (upd g.β d w.heap.size) g.hd
  refine ⟨_, h.newV hd st wf (fun _ h => h.elim) rfl (fun k hk => upd_ne _ _ hk) (upd_same _ _ _) ⟨vals, e, upd_same _ _ _, heap_alloc_new w _, (h.wf.new _ (Nat.le_refl _)).2, hc.step st (fun _ h => h)⟩, st.ext, st.kept⟩

/-! ### New arrays -/
theorem OwnR.fresh {g : Gh} {w : World} {vals : Array Value} {e : TypeId} {L : Loc} {sz : Nat} {xs : List TV} (hO : g.O w.heap.size = some L) (hc : g.c w.heap.size = 0) (hv : VVs g (w.alloc (.cells vals e)) (flat xs) vals.toList)
    (hsz : ∀ x, x ∈ xs → x.cells.length = sz) (h1 : ∀ u, u ∈ vals.toList → u.oneCell' = true) (hm : xs.length ≤ 9223372036854775807) :
    OwnR g (w.alloc (.cells vals e)) L false sz xs (.slice (some ⟨w.heap.size, 0, none⟩) xs.length xs.length) := by
  have hlen : vals.size = xs.length * sz := by have := hv.1; rw [flat_length hsz] at this; simpa using this
  refine ⟨e, vals.toList, ⟨by simp [hlen], .inr ⟨w.heap.size, xs.length, vals, rfl, Nat.zero_le _, heap_alloc_new w _, Nat.le_refl _, hm, hlen, by rw [← hlen]; exact List.take_of_length_le (by simp)⟩⟩, hv, hsz, h1, fun b hb => ?_⟩
  simp only [Value.ownBlock] at hb
  cases hb
  exact ⟨hO, by simp [hc]⟩

theorem Rel.allocA (h : Rel Ev g n s a w) {d : Nat} (hd : d < n) {sz : Nat} {xs : List TV} {vals : Array Value} (e : TypeId) (hv : VVs g w (flat xs) vals.toList) (hsz : ∀ x, x ∈ xs → x.cells.length = sz)
    (h1 : ∀ u, u ∈ vals.toList → u.oneCell' = true) (hm : xs.length ≤ 9223372036854775807) :
    ∃ g', Rel Ev g' n (s.newA d ⟨sz, false, xs⟩) (a.put (some d) (.slice (some ⟨w.heap.size, 0, none⟩) xs.length xs.length)) (w.alloc (.cells vals e)) ∧ Ext g w g' (w.alloc (.cells vals e)) ∧ Kept g w g' (w.alloc (.cells vals e)) := by
  obtain ⟨st, wf⟩ := Step.alloc h.wf (.cells vals e) (.arr d) (by simp) g.β (upd g.hd d (.slice (some ⟨w.heap.size, 0, none⟩) xs.length xs.length))
  refine ⟨_, h.newA hd st wf (fun _ h => h.elim) (fun k hk => upd_ne _ _ hk) rfl (upd_same _ _ _) (OwnR.fresh (upd_same _ _ _) (h.wf.new _ (Nat.le_refl _)).2 (hv.ext st.ext) hsz h1 hm), st.ext, st.kept⟩

end
end Go.T
set_option linter.unusedVariables false
set_option linter.unusedSimpArgs false
namespace Go.T
open Go.RowKit

/-- As cells, what it has left as it is. -/
def viewC (s : TS) (x : SV) (K : List CV → TS → Prop) : Prop :=
  match x with
  | .t t => K (t.cells.map .v) s
  | .nils => K [.nils] s
  | .arr k => match s.A k with
    | some o => K [.v (.sl o.sz o.xs)] (s.share k o)
    | none => False
  | .lp d off => match s.V d with
    | some (.esc i) => K [.v (.ptr i off)] s
    | some (.cells cs) => ∀ i, s.H i = none → K [.v (.ptr i off)] (s.promote d cs i)
    | none => False
  | .st cs => K (cs.map CV.view) s
  | .ea cs => K [.v (.eptr cs)] s
  | _ => False

def fillC (s0 : TS) (pl : Nat → Option (Nat × Nat)) : List (Nat × Operand) → TS → List CV → (List CV → TS → Prop) → Prop
  | [], s, cs, K => K cs s
  | (f, x) :: ps, s, cs, K => match pl f with
    | some (off, sz) => viewC s (evs s0 x) fun new s1 => Chk (decide (new.length = sz)) (Chk (decide (off + sz ≤ cs.length)) (fillC s0 pl ps s1 (cs.take off ++ new ++ cs.drop (off + sz)) K))
    | none => False

/-- Where a struct's field, or an array's element, lies, and how many cells it has. -/
def placeOf {P : Program} (T : Tab P) (d : TD) (f : Nat) : Option (Nat × Nat) :=
  match d with
  | .struct fs => match fs[f]? with
    | some (off, ft) => match T.ty ft with
      | some fi => some (off, fi.sz)
      | none => none
    | none => none
  | .array _ e => match T.ty e with
    | some ei => some (f * ei.sz, ei.sz)
    | none => none
  | _ => none

def SV.moveA (k d : Nat) : SV → SV
  | .arr q => if q = k then .arr d else .arr q
  | .hp q sz i o => if q = k then .hp d sz i o else .hp q sz i o
  | x => x
/-- The array k becomes the variable d's. -/
def TS.rekey (s : TS) (k d : Nat) (o : AObj) : TS := { s with sl := upd (fun q => ((s.sl q).killA d).moveA k d) d (.arr d), A := upd (upd s.A k none) d (some o) }

section
variable {Ev : Env} {P : Program} {T : Tab P} {g g' : Gh} {n : Nat} {s s' : TS} {a a' : Act} {w w' : World} {X : Loc → Prop}

/-- A cell of which nothing may be appended to but nil. -/
def PVR (g : Gh) (w : World) : CV → Value → Prop
  | .v t, v => g.VV w t v ∧ v.oneCell' = true
  | .own _ _, _ => False
  | .nils, v => v = .slice none 0 0
def PVRs (g : Gh) (w : World) (cs : List CV) (vs : Array Value) : Prop := vs.size = cs.length ∧ ∀ (j : Nat) (x : CV) (v : Value), cs[j]? = some x → vs[j]? = some v → PVR g w x v
theorem PVR.ext (h : Ext g w g' w') {x : CV} {v : Value} (hx : PVR g w x v) : PVR g' w' x v := by
  cases x with
  | v t => exact ⟨hx.1.ext h, hx.2⟩
  | own sz xs => exact hx.elim
  | nils => exact hx
theorem PVRs.ext (h : Ext g w g' w') {cs : List CV} {vs : Array Value} (hx : PVRs g w cs vs) : PVRs g' w' cs vs := ⟨hx.1, fun j x v h1 h2 => (hx.2 j x v h1 h2).ext h⟩
theorem PVR.cvr {L : Loc} {x : CV} {v : Value} (hx : PVR g w x v) : CVR g w L x v := by
  cases x with
  | v t => exact hx
  | own sz xs => exact hx.elim
  | nils => exact hx
theorem PVRs.cvrs {L : Nat → Loc} {cs : List CV} {vs : Array Value} (hx : PVRs g w cs vs) : CVRs g w L cs vs := ⟨hx.1, fun j x v h1 h2 => (hx.2 j x v h1 h2).cvr⟩
theorem CVR.pview {L : Loc} {c : CV} {v : Value} (h : CVR g w L c v) : PVR g w c.view v := by
  cases c with
  | v t => exact h
  | own sz xs => exact CVR.view (L' := L) (c := .own sz xs) h
  | nils => exact h

theorem viewC_ok (h : Rel Ev g n s a w) {x : SV} {d : Nat} {v : Value} (hx : SVR g w d x v) {K : List CV → TS → Prop} (hK : viewC s x K) :
    ∃ cs s' g', K cs s' ∧ Rel Ev g' n s' a w ∧ GStep g w g' ∧ PVRs g' w cs v.cells ∧ s'.sl = s.sl := by
  have one : ∀ {g' : Gh} {t : TV} {v : Value}, g'.VV w t v → v.oneCell' = true → v.cells = #[v] → PVRs g' w [.v t] v.cells := by
    intro g' t v ht h1 hv
    refine ⟨by rw [hv]; rfl, fun j x u k1 k2 => ?_⟩
    rw [hv] at k2
    cases j with
    | zero => simp at k1 k2; subst k1; subst k2; exact ⟨ht, h1⟩
    | succ j => simp at k1
  cases x with
  | t t =>
    have hc := VV.cells hx
    refine ⟨_, s, g, hK, h, .refl g w, ⟨by have := hc.1.1; simpa using this, fun j x u h1 h2 => ?_⟩, rfl⟩
    simp only [List.getElem?_map, Option.map_eq_some_iff] at h1
    obtain ⟨t', ht', rfl⟩ := h1
    have hu : v.cells.toList[j]? = some u := by simpa using h2
    exact ⟨hc.1.2 j t' u ht' hu, hc.2 u (List.mem_of_getElem? hu)⟩
  | nils =>
    simp only [SVR] at hx; subst hx
    refine ⟨_, s, g, hK, h, .refl g w, ⟨rfl, fun j x u h1 h2 => ?_⟩, rfl⟩
    cases j with
    | zero => simp [Value.cells] at h1 h2; subst h1; subst h2; rfl
    | succ j => simp at h1
  | arr k =>
    simp only [viewC] at hK
    split at hK
    · rename_i o hA
      obtain ⟨g', h1, st, e1, e2, e3, e4, own⟩ := h.share hA
      simp only [SVR] at hx
      have hv : v.cells = #[v] ∧ v.oneCell' = true := by
        obtain ⟨_, _, ⟨_, h1'⟩, _⟩ := own
        rw [hx]
        rcases h1' with ⟨e, _⟩ | ⟨_, _, _, e, _⟩ <;> rw [e] <;> exact ⟨rfl, rfl⟩
      refine ⟨_, _, g', hK, h1, ⟨⟨_, st, by simp⟩, e1, e2⟩, one ?_ hv.2 hv.1, rfl⟩
      rw [hx]; exact own.view
    · exact hK.elim
  | lp k off =>
    simp only [SVR] at hx
    subst hx
    simp only [viewC] at hK
    split at hK
    · rename_i i hV
      obtain ⟨e1, e2⟩ := h.vars k _ hV
      exact ⟨_, s, g, hK, h, .refl g w, one (by rw [e1]; exact .ptr i off e2) rfl rfl, rfl⟩
    · rename_i cs hV
      obtain ⟨i, g', h1, h2, st, e1, e2, e3, e4⟩ := h.promote hV
      exact ⟨_, _, g', hK i h1, h2, ⟨⟨_, st, by simp⟩, e1, e2⟩, one (by rw [← e3]; exact .ptr i off e4) rfl rfl, rfl⟩
    · exact hK.elim
  | st cs =>
    obtain ⟨vs, e1, e2⟩ := hx
    subst e1
    refine ⟨_, s, g, hK, h, .refl g w, ⟨by simp [Value.cells, e2.1], fun j x u k1 k2 => ?_⟩, rfl⟩
    simp only [List.getElem?_map, Option.map_eq_some_iff] at k1
    obtain ⟨c, hc, rfl⟩ := k1
    exact (e2.2 j c u hc k2).pview
  | ea cs =>
    have hv := ea_tv hx
    obtain ⟨b, off, us, rfl, _⟩ := hx
    exact ⟨_, s, g, hK, h, .refl g w, one hv rfl rfl, rfl⟩
  | _ => exact hK.elim

theorem foldset_size (off : Nat) : ∀ (l : List Value) (m : Nat) (cells : Array Value), ((l.zipIdx m).foldl (fun cs (p : Value × Nat) => cs.setIfInBounds (off + p.2) p.1) cells).size = cells.size
  | [], m, cells => by simp
  | v :: l, m, cells => by simp [List.zipIdx_cons, foldset_size off l]
theorem foldset_get (off k : Nat) : ∀ (l : List Value) (m : Nat) (cells : Array Value), off + m + l.length ≤ cells.size →
    ((l.zipIdx m).foldl (fun cs (p : Value × Nat) => cs.setIfInBounds (off + p.2) p.1) cells)[k]? = if off + m ≤ k ∧ k < off + m + l.length then l[k - (off + m)]? else cells[k]?
  | [], m, cells, _ => by
    rw [if_neg (by simp)]; simp
  | v :: l, m, cells, h => by
    simp only [List.zipIdx_cons, List.foldl_cons]
    rw [foldset_get off k l (m + 1) _ (by simp only [List.length_cons, Array.size_setIfInBounds] at h ⊢; omega)]
    simp only [List.length_cons] at h ⊢
    by_cases h1 : off + (m + 1) ≤ k ∧ k < off + (m + 1) + l.length
    · rw [if_pos h1, if_pos (by omega)]
      have : k - (off + m) = (k - (off + (m + 1))) + 1 := by omega
      rw [this]; simp
    · rw [if_neg h1]
      by_cases h2 : off + m ≤ k ∧ k < off + m + (l.length + 1)
      · have : k = off + m := by omega
        subst this
        have hlt : off + m < cells.size := by omega
        rw [if_pos h2, Nat.sub_self]
        simp [hlt]
      · rw [if_neg h2]
        have : off + m ≠ k := by omega
        simp [Array.getElem?_setIfInBounds, this]

/-- Cells, some of them set anew. -/
theorem CVRs.set {L : Nat → Loc} {cs new : List CV} {vals nv : Array Value} (h : CVRs g w L cs vals) {off sz : Nat} (hl : new.length = sz) (hle : off + sz ≤ cs.length) (hn : CVRs g w (fun j => L (off + j)) new nv)
    {vals' : Array Value} (hs : vals'.size = vals.size) (hg : ∀ k, vals'[k]? = if off ≤ k ∧ k < off + sz then nv[k - off]? else vals[k]?) : CVRs g w L (cs.take off ++ new ++ cs.drop (off + sz)) vals' := by
  refine ⟨by rw [hs, h.1]; simp; omega, fun j x v hx hv => ?_⟩
  rw [hg] at hv
  by_cases hj : off ≤ j ∧ j < off + sz
  · rw [if_pos hj] at hv
    rw [List.getElem?_append_left (by simp; omega), List.getElem?_append_right (by simp; omega)] at hx
    have : j - (cs.take off).length = j - off := by simp; omega
    rw [this] at hx
    have := hn.2 (j - off) x v hx hv
    have e : off + (j - off) = j := by omega
    simp only [e] at this
    exact this
  · rw [if_neg hj] at hv
    refine h.2 j x v ?_ hv
    rcases Nat.lt_or_ge j off with h1 | h1
    · rw [List.append_assoc, List.getElem?_append_left (by simp; omega), List.getElem?_take, if_pos h1] at hx
      exact hx
    · rw [List.getElem?_append_right (by simp; omega), List.getElem?_drop] at hx
      rw [← hx]
      congr 1
      simp
      omega

theorem PVRs.set {cs new : List CV} {vals nv : Array Value} (h : PVRs g w cs vals) {off sz : Nat} (hl : new.length = sz) (hle : off + sz ≤ cs.length) (hn : PVRs g w new nv)
    {vals' : Array Value} (hs : vals'.size = vals.size) (hg : ∀ k, vals'[k]? = if off ≤ k ∧ k < off + sz then nv[k - off]? else vals[k]?) : PVRs g w (cs.take off ++ new ++ cs.drop (off + sz)) vals' := by
  refine ⟨by rw [hs, h.1]; simp; omega, fun j x v hx hv => ?_⟩
  rw [hg] at hv
  by_cases hj : off ≤ j ∧ j < off + sz
  · rw [if_pos hj] at hv
    rw [List.getElem?_append_left (by simp; omega), List.getElem?_append_right (by simp; omega)] at hx
    have : j - (cs.take off).length = j - off := by simp; omega
    rw [this] at hx
    exact hn.2 (j - off) x v hx hv
  · rw [if_neg hj] at hv
    refine h.2 j x v ?_ hv
    rcases Nat.lt_or_ge j off with h1 | h1
    · rw [List.append_assoc, List.getElem?_append_left (by simp; omega), List.getElem?_take, if_pos h1] at hx
      exact hx
    · rw [List.getElem?_append_right (by simp; omega), List.getElem?_drop] at hx
      rw [← hx]
      congr 1
      simp
      omega

theorem evs_same {s s0 : TS} (hs : s.sl = s0.sl) (x : Operand) : evs s0 x = evs s x := by cases x <;> simp [evs, hs]

theorem fillC_ok {s0 : TS} {pl pl' : Nat → Option (Nat × Nat)} (hpl : ∀ f q, pl f = some q → pl' f = some q) :
    ∀ {ps : List (Nat × Operand)} {g : Gh} {s : TS} (h : Rel Ev g n s a w) (hs : s.sl = s0.sl) {cs : List CV} {vals : Array Value} (hc : PVRs g w cs vals) {K : List CV → TS → Prop} (hK : fillC s0 pl ps s cs K),
    ∃ cs' vals' s' g', K cs' s' ∧ Rel Ev g' n s' a w ∧ GStep g w g' ∧ PVRs g' w cs' vals' ∧ s'.sl = s0.sl ∧ Instr.fill pl' vals (ps.map fun p => (p.1, a.eval p.2)) = some vals'
  | [], g, s, h, hs, cs, vals, hc, K, hK => ⟨cs, vals, s, g, hK, h, .refl g w, hc, hs, rfl⟩
  | (f, x) :: ps, g, s, h, hs, cs, vals, hc, K, hK => by
    simp only [fillC, chk_iff] at hK
    split at hK
    · rename_i off sz hp
      rw [evs_same hs] at hK
      obtain ⟨new, s1, g1, ⟨k1, k2, k3⟩, r1, st1, c1, e1⟩ := viewC_ok h (evs_rel h x) hK
      have hsz : (a.eval x).cells.size = sz := by rw [c1.1, k1]
      have hle : off + sz ≤ vals.size := by rw [hc.1]; exact k2
      have hsize := foldset_size off (a.eval x).cells.toList 0 vals
      have hget := fun k => foldset_get off k (a.eval x).cells.toList 0 vals (by simp [hsz]; exact hle)
      have hnew := (hc.ext st1.ext).set k1 k2 c1 (vals' := ((a.eval x).cells.toList.zipIdx 0).foldl (fun cs (p : Value × Nat) => cs.setIfInBounds (off + p.2) p.1) vals) hsize (fun k => by
        rw [hget k]
        simp [hsz])
      obtain ⟨cs', vals', s2, g2, m1, m2, m3, m4, m5, m6⟩ := fillC_ok hpl (ps := ps) r1 (e1.trans hs) hnew k3
      refine ⟨cs', vals', s2, g2, m1, m2, st1.trans m3, m4, m5, ?_⟩
      simp only [List.map_cons, Instr.fill, hpl _ _ hp]
      rw [if_neg (by simp [hsz]; omega)]
      rw [← m6]
      congr 1
      rw [← Array.foldl_toList, Array.toList_zipIdx]
    · exact hK.elim

/-! ### Copies -/
theorem Rel.rekey (h : Rel Ev g n s a w) {k d : Nat} {o : AObj} (hd : d < n) (hk : k ≠ d) (hA : s.A k = some o) {v : Value} (hv : v = g.hd k) :
    ∃ g', Rel Ev g' n (s.rekey k d o) (a.put (some d) v) w ∧ Ext g w g' w ∧ Kept g w g' w := by
  let g' : Gh := { g with O := fun b => if g.O b = some (.arr k) then some (.arr d) else g.O b, hd := upd g.hd d (g.hd k) }
  have hst : Step (· = .arr k) g w g' w := by
    refine Step.ghost h.wf (fun b L hL => ?_) (fun b hb => ⟨by simp [g', hb], rfl⟩) (fun b => Nat.le_refl _) (fun i hi => ⟨rfl, by simp [g', hi]⟩)
    by_cases e : L = .arr k
    · subst e; exact .inl ⟨rfl, by simp⟩
    · exact .inr ⟨by simp [g', hL, e], rfl⟩
  have hwf : Wf Ev g' w := h.wf.kept hst.kept (fun b hb => by
    have := h.wf.new b hb
    exact ⟨by simp [g', this.1], this.2⟩) (by
    obtain ⟨m, hm⟩ := h.wf.m
    refine ⟨m, fun i hi => ?_⟩
    simp only [g']
    split
    · simp
    · exact hm i hi)
  have hown : OwnR g' w (.arr d) o.sh o.sz o.xs (g'.hd d) := by
    obtain ⟨e, cells, o1, o2, o3, o4, o5⟩ := h.arrs k o hA
    refine ⟨e, cells, ?_, o2.ext hst.ext, o3, o4, fun b hb => ?_⟩
    · simp only [g', upd_same]; exact o1
    · simp only [g', upd_same] at hb
      exact ⟨by simp [g', (o5 b hb).1], (o5 b hb).2⟩
  refine ⟨g', ?_, hst.ext, hst.kept⟩
  refine h.step hst hwf (by simp [Act.put, h.size]) h.defers (fun q => ?_) (fun q o ho => .inl ⟨ho, rfl, by simp, by simp⟩) (fun q o' ho => ?_) (fun i o ho => .inl ⟨ho, by simp, by simp⟩)
  · by_cases e : q = d
    · subst e
      right
      rw [getD_put, h.size, if_pos ⟨rfl, hd⟩]
      simp only [TS.rekey, upd_same, SVR, g', hv]
    · simp only [TS.rekey, upd_ne _ _ e]
      rw [getD_put, if_neg (fun h => e h.1)]
      have hq := h.slots q
      rcases killA_cases (s.sl q) d with e1 | ⟨e1, e2⟩
      · right; rw [e1]; trivial
      · rw [e1]
        cases hx : s.sl q with
        | arr p =>
          rw [hx] at hq e2
          by_cases ep : p = k
          · subst ep
            right
            simp only [SVR] at hq
            simp [SV.moveA, SVR, g', hq]
          · have hpd : p ≠ d := e2
            exact .inl ⟨by simp [SV.moveA, ep], rfl, fun r hr => by cases hr; exact upd_ne _ _ hpd, fun r hr => hr.elim, by simp⟩
        | hp p sz i off =>
          rw [hx] at hq e2
          by_cases ep : p = k
          · subst ep
            right
            obtain ⟨b, m, cap, f1, f2⟩ := hq
            simp only [SV.moveA, if_true, SVR]
            exact ⟨b, m, cap, by simp [g', f1], f2⟩
          · have hpd : p ≠ d := e2
            exact .inl ⟨by simp [SV.moveA, ep], rfl, fun r hr => by cases hr; exact upd_ne _ _ hpd, fun r hr => hr.elim, by simp⟩
        | _ => exact .inl ⟨rfl, rfl, fun r hr => hr.elim, fun r hr => rfl, by simp⟩
  · simp only [TS.rekey] at ho
    by_cases e : q = d
    · subst e
      rw [upd_same] at ho; cases ho
      exact .inr hown
    · rw [upd_ne _ _ e] at ho
      by_cases e2 : q = k
      · subst e2; simp at ho
      · rw [upd_ne _ _ e2] at ho
        exact .inl ⟨ho, upd_ne _ _ e, by simpa using e2⟩

end
end Go.T
set_option linter.unusedVariables false
set_option linter.unusedSimpArgs false
namespace Go.T
open Go.RowKit

section
variable {Ev : Env} {P : Program} {T : Tab P} {g g' : Gh} {n : Nat} {s s' : TS} {a a' : Act} {w w' : World} {X : Loc → Prop} {K : TS → Prop} {ty : TypeId} {d : Tmp} {pos : String} {after : Array Edge} {gd : Option (Nat × Bool)}

/-- What is shown of each: a state that fits. -/
def AOk (P : Program) (Ev : Env) (n : Nat) (g : Gh) (w : World) (a : Act) (o : Oper) (K : TS → Prop) : Prop :=
  ∃ r v w' g' s', (execOp a.eval o).run P w = .ok r w' ∧ (r = .value v ∨ (r = .skip ∧ v = undef)) ∧ K s' ∧ Rel Ev g' n s' (a.put o.dst v) w' ∧ Ext g w g' w' ∧ Kept g w g' w'

def nilTo {P : Program} (T : Tab P) (s : TS) (ty : TypeId) (d : Nat) (K : TS → Prop) : Prop :=
  match kindOf T ty with
  | some (.slice e) => match T.ty e with
    | some ei => K (s.newA d ⟨ei.sz, false, []⟩)
    | none => False
  | _ => False

def tmove {P : Program} (T : Tab P) (s : TS) (ty : TypeId) (d : Nat) (x : Operand) (K : TS → Prop) : Prop :=
  match evs s x with
  | .nils => nilTo T s ty d K
  | x' => x'.copy.force fun v => K (s.put d v)
def tassign {P : Program} (T : Tab P) (s : TS) (ty : TypeId) (d : Nat) (x : Operand) (K : TS → Prop) : Prop :=
  match evs s x with
  | .nils => nilTo T s ty d K
  | .arr k => if k = d then K (s.put d (.arr d)) else match s.A k with
    | some o => K (s.rekey k d o)
    | none => False
  | x' => x'.copy.force fun v => K (s.put d v)
def talloc {P : Program} (T : Tab P) (s : TS) (d : Nat) (e : TypeId) (K : TS → Prop) : Prop :=
  match T.ty e with
  | some i => K (s.newV d i.zero)
  | none => False
def tbox (s : TS) (d : Nat) (x : Operand) (K : TS → Prop) : Prop := asCells s (evs s x) fun cs s1 => K (s1.newV d cs)
def arrB {P : Program} (T : Tab P) : TD → Bool
  | .array _ e => (T.ty e).isSome
  | _ => true
def tbuild {P : Program} (T : Tab P) (s : TS) (d : Nat) (t : TypeId) (parts : List (Nat × Operand)) (K : TS → Prop) : Prop :=
  match T.ty t with
  | some i => Chk (i.d.agg && arrB T i.d) (fillC s (placeOf T i.d) parts s i.zero fun cs s1 => K (s1.put d (.st cs)))
  | none => False
def tbuildSlice {P : Program} (T : Tab P) (hint : TypeId → List Nat) (s : TS) (d : Nat) (t : TypeId) (len : Nat) (parts : List (Nat × Operand)) (K : TS → Prop) : Prop :=
  match kindOf T t with
  | some (.slice e) => match T.ty e with
    | some ei => Chk (parts.map (·.1) == List.range len) (Chk (decide (len * ei.sz ≤ 16777216)) (Chk (decide (0 < ei.sz)) (asTVs s (parts.map fun p => (evs s p.2, hint e)) fun xs s1 => Chk (xs.all fun x => x.cells.length == ei.sz) (K (s1.newA d ⟨ei.sz, false, xs⟩)))))
    | none => False
  | _ => False

theorem nilTo_ok (h : Rel Ev g n s a w) (hd : d < n) (hK : nilTo T s ty d K) : ∃ s' g', K s' ∧ Rel Ev g' n s' (a.put (some d) (.slice none 0 0)) w ∧ Ext g w g' w ∧ Kept g w g' w := by
  unfold nilTo at hK
  split at hK
  · split at hK
    · rename_i ei hei
      obtain ⟨g', h1, h2, h3⟩ := h.nilA hd ei.sz
      exact ⟨_, g', hK, h1, h2, h3⟩
    · exact hK.elim
  · exact hK.elim

theorem tmove_ok (h : Rel Ev g n s a w) (hd : d < n) {x : Operand} (hK : tmove T s ty d x K) : AOk P Ev n g w a { dst := some d, op := .move x, type := ty, pos, after, guard := gd } K := by
  have hX := evs_rel h x
  have other : K (s.put d (evs s x).copy) → AOk P Ev n g w a { dst := some d, op := .move x, type := ty, pos, after, guard := gd } K := fun hk =>
    ⟨_, a.eval x, w, g, _, rfl, .inl rfl, hk, h.put hd hX.copy, .refl g w, .refl g w⟩
  unfold tmove at hK
  simp only [force_iff] at hK
  split at hK
  · rename_i e
    rw [e] at hX
    simp only [SVR] at hX
    obtain ⟨s', g', h1, h2, h3, h4⟩ := nilTo_ok h hd hK
    exact ⟨_, _, w, g', s', rfl, .inl rfl, h1, by rw [hX]; exact h2, h3, h4⟩
  · exact other hK

theorem tassign_ok (h : Rel Ev g n s a w) (hd : d < n) {x : Operand} (hK : tassign T s ty d x K) : AOk P Ev n g w a { dst := some d, op := .assign x, type := ty, pos, after, guard := gd } K := by
  have hX := evs_rel h x
  have other : K (s.put d (evs s x).copy) → AOk P Ev n g w a { dst := some d, op := .assign x, type := ty, pos, after, guard := gd } K := fun hk =>
    ⟨_, a.eval x, w, g, _, rfl, .inl rfl, hk, h.put hd hX.copy, .refl g w, .refl g w⟩
  unfold tassign at hK
  simp only [force_iff] at hK
  split at hK
  · rename_i e
    rw [e] at hX
    simp only [SVR] at hX
    obtain ⟨s', g', h1, h2, h3, h4⟩ := nilTo_ok h hd hK
    exact ⟨_, _, w, g', s', rfl, .inl rfl, h1, by rw [hX]; exact h2, h3, h4⟩
  · rename_i k e
    split at hK
    · rename_i hk
      subst hk
      rw [e] at other
      exact other hK
    · rename_i hk
      split at hK
      · rename_i o hA
        rw [e] at hX
        obtain ⟨g', h1, h2, h3⟩ := h.rekey hd hk hA hX
        exact ⟨_, _, w, g', _, rfl, .inl rfl, hK, h1, h2, h3⟩
      · exact hK.elim
  · exact other hK

theorem zero_ok {t : TypeId} {i : TyI} (hi : T.ty t = some i) : ∃ f z, P.info? t = some f ∧ f.size = i.sz ∧ f.bytes = i.bytes ∧ f.zero = some z ∧ ∀ g w, PVRs g w i.zero z.cells := by
  obtain ⟨f, z, h1, h2, h3, h4, h5⟩ := (T.ok t i hi).info
  refine ⟨f, z, h1, h2, h3, h4, fun g w => ⟨?_, fun j x v hx hv => ?_⟩⟩
  · have := congrArg List.length h5; simpa using this
  · have := congrArg (fun l => l[j]?) h5
    simp only [List.getElem?_map, hx, Option.map_some] at this
    have hv' : z.cells.toList[j]? = some v := by simpa using hv
    rw [hv', Option.map_some] at this
    have hz : x.zval = some v := by simpa using this.symm
    cases x with
    | v t => exact Go.T.zval_ok hz
    | own sz xs => cases hz
    | nils => cases hz; rfl

theorem talloc_ok (h : Rel Ev g n s a w) (hd : d < n) {e : TypeId} (hK : talloc T s d e K) : AOk P Ev n g w a { dst := some d, op := .alloc e, type := ty, pos, after, guard := gd } K := by
  unfold talloc at hK
  split at hK
  · rename_i i hi
    obtain ⟨f, z, h1, h2, h3, h4, h5⟩ := zero_ok hi
    obtain ⟨g', r1, r2, r3⟩ := h.allocV hd e (h5 g w).cvrs
    refine ⟨_, _, _, g', _, ?_, .inl rfl, hK, r1, r2, r3⟩
    simp [execOp, Instr.alloc, zeroValue, typeInfo, h1, h4, newVar, newRow, newObj]
    rfl
  · exact hK.elim

theorem tbox_ok (h : Rel Ev g n s a w) (hd : d < n) {e : TypeId} {x : Operand} (hK : tbox s d x K) : AOk P Ev n g w a { dst := some d, op := .box e x, type := ty, pos, after, guard := gd } K := by
  unfold tbox at hK
  obtain ⟨cs, s1, g1, k1, r1, st1, c1⟩ := asCells_ok h (evs_rel h x) hK (.vcell d) (by simp) (by simp)
  obtain ⟨g', r2, e2, kp2⟩ := r1.allocV hd e c1
  refine ⟨_, _, _, g', _, ?_, .inl rfl, k1, r2, st1.ext.trans e2, st1.kept.trans kp2⟩
  simp [execOp, Instr.box, newVar, newRow, newObj]
  rfl

theorem run_mapM_list {α β : Type} (f : α → Sem β) (k : α → β) : ∀ (l : List α), (∀ x, x ∈ l → (f x).run P w = .ok (k x) w) → (l.mapM f).run P w = .ok (l.map k) w
  | [], _ => by simp
  | x :: l, h => by
    simp only [List.mapM_cons, Sem.run_bind, h x (by simp), Result.andThen_ok, run_mapM_list f k l (fun y hy => h y (by simp [hy])), Sem.run_pure, List.map_cons]
theorem run_mapM_arr {α β : Type} (f : α → Sem β) (k : α → β) (l : Array α) (h : ∀ x, x ∈ l → (f x).run P w = .ok (k x) w) : (l.mapM f).run P w = .ok (l.map k) w := by
  rw [Array.mapM_eq_mapM_toList, Sem.run_map, run_mapM_list f k l.toList (fun x hx => h x (by simpa using hx))]
  simp only [Result.andThen_ok]
  congr 1
  apply Array.ext'
  simp

theorem tbuild_ok (h : Rel Ev g n s a w) (hd : d < n) {t : TypeId} {parts : Array (Nat × Operand)} (hK : tbuild T s d t parts.toList K) : AOk P Ev n g w a { dst := some d, op := .build t parts, type := ty, pos, after, guard := gd } K := by
  unfold tbuild at hK
  split at hK
  · rename_i i hi
    obtain ⟨hag0, hK⟩ := chkb_iff.1 hK
    simp only [Bool.and_eq_true] at hag0
    have hag := hag0.1
    have harr : ∀ m e, i.d = .array m e → (T.ty e).isSome = true := fun m e he => by have := hag0.2; rw [he] at this; exact this
    obtain ⟨f, z, h1, h2, h3, h4, h5⟩ := zero_ok hi
    cases hdd : i.d with
    | struct fs =>
      obtain ⟨ar, hu, hm⟩ := und_struct T hi hdd
      rw [hdd] at hK
      have hpl : ∀ f q, placeOf T (.struct fs) f = some q → (ar.map fun f => (f.offset, ((P.info? f.type).map (·.size)).getD 0))[f]? = some q := by
        intro f q hq
        simp only [placeOf] at hq
        split at hq
        · rename_i off ft hf
          split at hq
          · rename_i fi hfi
            cases hq
            rw [← hm, List.getElem?_map, Option.map_eq_some_iff] at hf
            obtain ⟨fld, hf1, hf2⟩ := hf
            simp only [Prod.mk.injEq] at hf2
            obtain ⟨ff, zz, q1, q2, _⟩ := (T.ok ft fi hfi).info
            have : ar[f]? = some fld := by simpa using hf1
            simp [this, hf2.1, hf2.2, q1, q2]
          · cases hq
        · cases hq
      obtain ⟨cs', vals', s2, g2, m1, m2, m3, m4, m5, m6⟩ := fillC_ok (pl' := fun f => (ar.map fun f => (f.offset, ((P.info? f.type).map (·.size)).getD 0))[f]?) hpl h rfl (h5 g w) hK
      refine ⟨_, .agg vals', w, g2, _, ?_, .inl rfl, m1, m2.put hd ⟨vals', rfl, m4.cvrs⟩, m3.ext, m3.kept⟩
      -- the fields' places are found
      have hfm := run_mapM_arr (P := P) (w := w) (fun f : Field => (do pure (f.offset, ← sizeOf f.type) : Sem (Nat × Nat))) (fun f => (f.offset, ((P.info? f.type).map (·.size)).getD 0)) ar (fun f hf => by
        have hmem : (f.offset, f.type) ∈ fs := by rw [← hm]; exact List.mem_map.2 ⟨f, by simpa using hf, rfl⟩
        have := (T.ok t i hi).flds fs hdd _ hmem
        cases hinf : P.info? f.type with
        | none => rw [hinf] at this; cases this
        | some inf => simp [sizeOf, typeInfo, hinf])
      have hp : (parts.map fun (i, x) => (i, a.eval x)).toList = parts.toList.map fun p => (p.1, a.eval p.2) := by simp
      simp only [execOp, Instr.build, zeroValue, typeInfo, Sem.run_bind, program, Sem.run, Result.andThen_ok, h1, Sem.run_pure, h4, run_underlying hu, hfm, hp, m6]
    | array m e =>
      rw [hdd] at hK
      cases hte : T.ty e with
      | none =>
        have := harr m e hdd
        rw [hte] at this; cases this
      | some ei =>
        have hpl : ∀ f q, placeOf T (.array m e) f = some q → (fun f => some (f * ei.sz, ei.sz)) f = some q := by
          intro f q hq
          simp only [placeOf, hte] at hq
          exact hq
        obtain ⟨cs', vals', s2, g2, m1, m2, m3, m4, m5, m6⟩ := fillC_ok (pl' := fun f => some (f * ei.sz, ei.sz)) hpl h rfl (h5 g w) hK
        refine ⟨_, .agg vals', w, g2, _, ?_, .inl rfl, m1, m2.put hd ⟨vals', rfl, m4.cvrs⟩, m3.ext, m3.kept⟩
        have hp : (parts.map fun (i, x) => (i, a.eval x)).toList = parts.toList.map fun p => (p.1, a.eval p.2) := by simp
        simp only [execOp, Instr.build, zeroValue, typeInfo, Sem.run_bind, program, Sem.run, Result.andThen_ok, h1, Sem.run_pure, h4, run_underlying (und_array T hi hdd), run_sizeOf' T hte, hp, m6]
    | _ => rw [hdd] at hag; simp [TD.agg] at hag
  · exact hK.elim

end
end Go.T
set_option linter.unusedVariables false
set_option linter.unusedSimpArgs false
namespace Go.T
open Go.RowKit

section
variable {Ev : Env} {P : Program} {T : Tab P} {g g' : Gh} {n : Nat} {s s' : TS} {a a' : Act} {w w' : World} {X : Loc → Prop} {K : TS → Prop} {ty : TypeId} {d : Tmp} {pos : String} {after : Array Edge} {gd : Option (Nat × Bool)}

theorem VVs.flat : ∀ {ts : List TV} {vs : List Value}, VVs g w ts vs → VVs g w (flat ts) (vs.flatMap fun v => v.cells.toList) ∧ ∀ u, u ∈ (vs.flatMap fun v => v.cells.toList) → u.oneCell' = true
  | [], vs, h => by
    have : vs = [] := List.eq_nil_of_length_eq_zero h.1
    subst this
    exact ⟨.nil g w, by simp⟩
  | t :: ts, [], h => by have := h.1; simp at this
  | t :: ts, v :: vs, h => by
    have h0 : g.VV w t v := h.2 0 t v rfl rfl
    have ht : VVs g w ts vs := ⟨by have := h.1; simpa using this, fun k x u h1 h2 => h.2 (k + 1) x u (by simpa using h1) (by simpa using h2)⟩
    obtain ⟨a1, a2⟩ := VVs.flat ht
    obtain ⟨b1, b2⟩ := h0.cells
    refine ⟨by rw [flat_cons, List.flatMap_cons]; exact b1.append a1, fun u hu => ?_⟩
    rw [List.flatMap_cons, List.mem_append] at hu
    rcases hu with hu | hu
    · exact b2 u hu
    · exact a2 u hu

theorem VVs.sizes {sz : Nat} {ts : List TV} {vs : List Value} (h : VVs g w ts vs) (hsz : ∀ x, x ∈ ts → x.cells.length = sz) : ∀ v, v ∈ vs → v.cells.size = sz := by
  intro v hv
  obtain ⟨k, hk⟩ := List.getElem?_of_mem hv
  have hlt : k < ts.length := by
    rw [← h.1]
    rcases Nat.lt_or_ge k vs.length with h' | h'
    · exact h'
    · simp [List.getElem?_eq_none h'] at hk
  have ht := List.getElem?_eq_getElem hlt
  have hc := (h.2 k _ v ht hk).cells.1.1
  have := hsz _ (List.mem_of_getElem? ht)
  rw [this] at hc
  simpa using hc

theorem fill_seq (sz : Nat) : ∀ (vs : List Value) (m : Nat) (cells : Array Value), (∀ v, v ∈ vs → v.cells.size = sz) → (m + vs.length) * sz = cells.size →
    ∃ out : Array Value, Instr.fill (fun i => some (i * sz, sz)) cells ((List.range' m vs.length).zip vs) = some out ∧ out.toList = cells.toList.take (m * sz) ++ vs.flatMap fun v => v.cells.toList
  | [], m, cells, _, hs => by
    refine ⟨cells, rfl, ?_⟩
    simp only [List.length_nil, Nat.add_zero] at hs
    rw [hs, List.take_of_length_le (by simp)]; simp
  | v :: vs, m, cells, hv, hs => by
    have hvz := hv v (by simp)
    have hle : m * sz + sz ≤ cells.size := by
      rw [← hs, List.length_cons, show m + (vs.length + 1) = (m + 1) + vs.length by omega, Nat.add_mul (m + 1), Nat.add_mul m 1]
      omega
    have hsize := foldset_size (m * sz) v.cells.toList 0 cells
    have hget := fun k => foldset_get (m * sz) k v.cells.toList 0 cells (by simp [hvz]; exact hle)
    obtain ⟨out, h1, h2⟩ := fill_seq sz vs (m + 1) ((v.cells.toList.zipIdx 0).foldl (fun cs (p : Value × Nat) => cs.setIfInBounds (m * sz + p.2) p.1) cells) (fun u hu => hv u (by simp [hu])) (by rw [hsize, ← hs, List.length_cons]; congr 1; omega)
    refine ⟨out, ?_, ?_⟩
    · simp only [List.length_cons, List.range'_succ, List.zip_cons_cons, Instr.fill]
      rw [if_neg (by simp [hvz]; omega), ← h1]
      congr 1
      rw [← Array.foldl_toList, Array.toList_zipIdx]
    · rw [h2, List.flatMap_cons, ← List.append_assoc]
      congr 1
      apply List.ext_getElem?
      intro k
      rw [List.getElem?_take]
      have hk := hget k
      simp only [Array.length_toList, hvz, Nat.add_zero] at hk
      have e1 : (m + 1) * sz = m * sz + sz := by rw [Nat.add_mul]; omega
      rw [Array.getElem?_toList, hk, e1]
      have hl1 : (cells.toList.take (m * sz)).length = m * sz := by simp; omega
      rcases Nat.lt_or_ge k (m * sz) with c1 | c1
      · rw [if_pos (by omega), if_neg (by omega), List.getElem?_append_left (by omega), List.getElem?_take, if_pos c1, Array.getElem?_toList]
      · rw [List.getElem?_append_right (by omega), hl1]
        by_cases c2 : k < m * sz + sz
        · rw [if_pos c2, if_pos ⟨c1, c2⟩]
        · rw [if_neg c2, List.getElem?_eq_none (by simp [hvz]; omega)]

theorem zip_map {α β : Type} (l : List (Nat × α)) (f : α → β) {m : Nat} (h : l.map (·.1) = List.range' m l.length) : l.map (fun p => (p.1, f p.2)) = (List.range' m l.length).zip (l.map fun p => f p.2) := by
  rw [← h]
  clear h
  induction l with
  | nil => rfl
  | cons x l ih => simp [ih]

theorem tbuildSlice_ok {hint : TypeId → List Nat} (h : Rel Ev g n s a w) (hd : d < n) {t : TypeId} {len : Nat} {parts : Array (Nat × Operand)} (hK : tbuildSlice T hint s d t len parts.toList K) :
    AOk P Ev n g w a { dst := some d, op := .buildSlice t len parts, type := ty, pos, after, guard := gd } K := by
  unfold tbuildSlice at hK
  simp only [chkb_iff, decide_eq_true_iff, beq_iff_eq, List.all_eq_true] at hK
  split at hK
  · rename_i e hk
    obtain ⟨i, hi, hdd⟩ := kindOf_some hk
    split at hK
    · rename_i ei hei
      obtain ⟨hidx, hbig, hsz0, hK⟩ := hK
      have hplen : parts.toList.length = len := by have := congrArg List.length hidx; simpa using this
      obtain ⟨xs, s1, g1, ⟨k1, k2⟩, r1, st1, v1, e1⟩ := asTVs_ok h (vs := parts.toList.map fun p => a.eval p.2) (by simp) (fun k x v hx hv => by
        simp only [List.getElem?_map, Option.map_eq_some_iff] at hx hv
        obtain ⟨p, hp, rfl⟩ := hx
        obtain ⟨q, hq, rfl⟩ := hv
        rw [hp] at hq; cases hq
        exact ⟨_, evs_rel h p.2⟩) hK
      have hxl : xs.length = len := by have := v1.1; simp at this; rw [← hplen]; simp; omega
      have hsizes := v1.sizes k1
      obtain ⟨f1, f2⟩ := v1.flat
      obtain ⟨fz, z, q1, q2, q3, q4, q5⟩ := zero_ok hei
      have hzs : z.cells.size = ei.sz := by rw [(q5 g w).1]; exact (T.ok e ei hei).zsz
      obtain ⟨out, o1, o2⟩ := fill_seq ei.sz (parts.toList.map fun p => a.eval p.2) 0 ((Array.range (len * ei.sz)).map (z.cells[· % z.cells.size]!)) hsizes (by simp [hplen])
      simp only [Nat.zero_mul, List.take_zero, List.nil_append] at o2
      have hm : xs.length ≤ 9223372036854775807 := by
        rw [hxl]
        have : len ≤ len * ei.sz := Nat.le_mul_of_pos_right _ hsz0
        omega
      obtain ⟨g', r2, x2, y2⟩ := r1.allocA hd (vals := out) e (by rw [o2]; exact f1) k1 (by rw [o2]; exact f2) hm
      refine ⟨_, _, _, g', _, ?_, .inl rfl, k2, r2, st1.ext.trans x2, st1.kept.trans y2⟩
      have hp : (parts.map fun (i, x) => (i, a.eval x)).toList = (List.range' 0 (parts.toList.map fun p => a.eval p.2).length).zip (parts.toList.map fun p => a.eval p.2) := by
        rw [List.length_map]
        rw [← zip_map parts.toList a.eval (by rw [hidx, hplen, List.range_eq_range'])]
        simp
      have hrun : ∀ ps : Array (Nat × Value), ps.toList = (List.range' 0 (parts.toList.map fun p => a.eval p.2).length).zip (parts.toList.map fun p => a.eval p.2) →
          (Instr.buildSlice t len ps).run P w = .ok (.slice (some ⟨w.heap.size, 0, none⟩) xs.length xs.length) (w.alloc (.cells out e)) := by
        intro ps hps
        simp only [Instr.buildSlice]
        simp only [Sem.run_bind, run_underlying (und_slice T hi hdd), Result.andThen_ok, run_sizeOf' T hei]
        rw [if_neg (by omega)]
        by_cases h0 : len * ei.sz = 0
        · have hr : ∀ f : Nat → Value, (Array.range (len * ei.sz)).map f = #[] := by intro f; rw [h0]; simp
          rw [hr] at o1
          simp only [if_pos h0, Sem.run_bind, Sem.run_pure, Result.andThen_ok, hr, hps, o1]
          simp [newRow, newObj, hxl]
          rfl
        · simp only [if_neg h0, Sem.run_bind, Sem.run_pure, Result.andThen_ok, zeroValue, typeInfo, program, Sem.run, q1, q4, hps, o1]
          simp [newRow, newObj, hxl]
          rfl
      simp only [execOp, Sem.run_bind, hrun _ hp, Result.andThen_ok, Sem.run_pure]
    · exact hK.elim
  · exact hK.elim

end
end Go.T
set_option linter.unusedVariables false
set_option linter.unusedSimpArgs false
namespace Go.T
open Go.RowKit

section
variable {P : Program} (w : World)

theorem run_append_in_place (t ty e e' : TypeId) (i : TypeInfo) (ht : P.underlying t = some (.slice e)) (hi : P.info? e = some i)
    (g sLen sCap : Nat) (cur : Array Value) (hg : w.heap[g]? = some (.cells cur e' (0, 0)))
    (a : Addr) (m c : Nat) (news : List Value) (hl : news.length = m * i.size) (hnews : ∀ (j : Nat) (u : Value), news[j]? = some u → w.cell? (a.add j) = some u) (h1 : ∀ u ∈ news, u.oneCell' = true)
    (hroom : sLen + m ≤ sCap) (hfit : sLen * i.size + news.length ≤ cur.size) :
    (Builtin.append_ #[t, t] ty #[.slice (some ⟨g, 0, none⟩) sLen sCap, .slice (some a) m c]).run P w =
      .ok (.slice (some ⟨g, 0, none⟩) (sLen + m) sCap) (w.setRow g (cur.toList.take (sLen * i.size) ++ news ++ cur.toList.drop (sLen * i.size + news.length)).toArray) := by
  have hf := run_firstCells_some (P := P) w i.size m a m c news hl hnews
  have hst := run_storeCells_at P g (sLen * i.size) e' news 0 cur w hg (by simpa using hfit) h1
  simp only [Nat.add_zero] at hst
  simp [Builtin.append_, run_underlying ht, sizeOf, typeInfo, hi, Builtin.lenOf, hroom, hf, Addr.add_lit, hst]

theorem World.grownBy.refl' (w : World) (row : Option Nat) : w.grownBy w row := ⟨rfl, rfl, rfl, Nat.le_refl _, fun _ _ _ => rfl⟩
theorem run_append_none' (t ty e : TypeId) (i : TypeInfo) (size : Nat) (ht : P.underlying t = some (.slice e)) (hi : P.info? e = some i)
    (v : Value) (n : Nat) (xs : List Value) (e0 : TypeId) (hown : w.ownsRow 0 e0 size v n xs) (c : Nat) :
    (Builtin.append_ #[t, t] ty #[v, .slice none 0 c]).run P w = .ok v w := by
  rcases hown.2 with ⟨rfl, rfl⟩ | ⟨g, cap, cur, rfl, _, _, hnc, _⟩
  · simp [Builtin.append_, run_underlying ht, sizeOf, typeInfo, hi, Builtin.lenOf, Builtin.firstCells]
  · simp [Builtin.append_, run_underlying ht, sizeOf, typeInfo, hi, Builtin.lenOf, Builtin.firstCells, hnc, storeCells]

/-- append to a row of the call's own. -/
theorem run_append_t (t ty e e0 : TypeId) (i : TypeInfo) (z : Value) (size bytes : Nat) (ht : P.underlying t = some (.slice e)) (hi : P.info? e = some i) (hz : i.zero = some z)
    (hsize : i.size = size) (hby : i.bytes = bytes) (hzs : z.cells.size = size) (hsz : 0 < size)
    (v : Value) (n : Nat) (xs : List Value) (hown : w.ownsRow 0 e0 size v n xs)
    (a : Addr) (m c : Nat) (news : List Value) (hl : news.length = m * size) (hnews : ∀ (j : Nat) (u : Value), news[j]? = some u → w.cell? (a.add j) = some u) (h1 : ∀ u ∈ news, u.oneCell' = true)
    (h63 : n + m ≤ maxLen) (hbytes : (n + m) * bytes ≤ 140737488355328) :
    ∃ v' w' e', (Builtin.append_ #[t, t] ty #[v, .slice (some a) m c]).run P w = .ok v' w' ∧ w'.ownsRow 0 e' size v' (n + m) (xs ++ news) ∧
      ((v'.ownBlock = v.ownBlock ∧ w.grownBy w' v.ownBlock) ∨ (v'.ownBlock = some w.heap.size ∧ w.grownBy w' none)) := by
  rcases hown.2 with ⟨rfl, rfl⟩ | ⟨g, cap, cur, rfl, hbg, hg, hnc, hcm, hcs, htake⟩
  · obtain ⟨v', w', r1, r2, r3, r4, r5⟩ := run_append_own_at (P := P) w 0 t ty e i z size bytes ht hi hz hsize hby hzs hsz (.slice none 0 0) 0 xs ⟨hown.1, .inl ⟨rfl, rfl⟩⟩ a m c news hl hnews h1 h63 hbytes (Nat.zero_le _)
    refine ⟨v', w', e, r1, r2, ?_⟩
    rcases r5 with r5 | r5
    · exact .inl ⟨r5, r3⟩
    · exact .inr ⟨r5, r3⟩
  · by_cases hroom : n + m ≤ cap
    · subst hsize
      have hlen : (xs ++ news).length = (n + m) * i.size := by rw [List.length_append, hown.1, hl, Nat.add_mul]
      have hfit : n * i.size + news.length ≤ cur.size := by rw [hl, hcs, ← Nat.add_mul]; exact Nat.mul_le_mul_right _ hroom
      have hr := run_append_in_place (P := P) w t ty e e0 i ht hi g n cap cur hg a m c news hl hnews h1 hroom hfit
      refine ⟨_, _, e0, hr, ⟨hlen, .inr ⟨g, cap, _, rfl, hbg, setRow_heap w g cur _ e0 _ hg, hroom, hcm, ?_, ?_⟩⟩, .inl ⟨rfl, rfl, rfl, rfl, by simp, fun k _ hk => setRow_other w g k _ (fun e => hk (by simp [Value.ownBlock, e]))⟩⟩
      · simp only [List.size_toArray, List.length_append, List.length_take, List.length_drop, Array.length_toList]
        omega
      · rw [htake, ← hlen]
        exact List.take_left
    · -- a new array
      have holds : ∀ (j : Nat) (u : Value), xs[j]? = some u → w.cell? ((⟨g, 0, none⟩ : Addr).add j) = some u := hown.cells (g := g) rfl
      have hr := run_append_grow (P := P) w t ty e i z ht hi hz ⟨g, 0, none⟩ n cap xs (by rw [hown.1, hsize]) holds a m c news (by rw [hl, hsize]) hnews (by omega) (by simp only [maxLen] at h63; omega) (growslice_fits (by omega) (by rw [hby]; exact hbytes))
      have hge := grownCap_ge w (n + m) cap e
      have hcm2 : grownCap w (n + m) cap e ≤ maxLen := grownCap_le_maxLen w (n + m) cap e h63
      have hlen : (xs ++ news).length = (n + m) * size := by rw [List.length_append, hown.1, hl, Nat.add_mul]
      refine ⟨_, _, e, hr, ⟨hlen, .inr ⟨w.heap.size, _, _, rfl, Nat.zero_le _, heap_alloc_new w.drew _, hge, hcm2, ?_, ?_⟩⟩, .inr ⟨rfl, rfl, rfl, rfl, by simp, fun k hk _ => heap_alloc_old w.drew _ k hk⟩⟩
      · simp only [Array.size_append, List.size_toArray, size_zeroCells, hzs, hown.1, hl, ← Nat.add_mul]
        congr 1
        omega
      · simp only [Array.toList_append, List.append_assoc]
        rw [← List.append_assoc, ← hlen]
        exact List.take_left
end

section
variable {Ev : Env} {P : Program} {T : Tab P} {g g' : Gh} {n : Nat} {s s' : TS} {a a' : Act} {w w' : World} {X : Loc → Prop} {K : TS → Prop} {ty : TypeId} {d : Tmp} {pos : String} {after : Array Edge} {gd : Option (Nat × Bool)}

/-- What is appended: elements of so many cells. -/
def srcOf (s : TS) (sz : Nat) (y : SV) (K : List TV → Prop) : Prop :=
  match y with
  | .nils => K []
  | .t (.sl sz' ys) => Chk (decide (sz' = sz)) (K ys)
  | .arr k => match s.A k with
    | some o => Chk (decide (o.sz = sz)) (K o.xs)
    | none => False
  | _ => False

def tappend {P : Program} (T : Tab P) (s : TS) (d : Nat) (t : TypeId) (x y : Operand) (K : TS → Prop) : Prop :=
  match kindOf T t with
  | some (.slice e) => match T.ty e with
    | some ei => Chk (decide (0 < ei.sz)) (match evs s x with
      | .nils => srcOf s ei.sz (evs s y) fun ys => ys.length * ei.bytes ≤ 140737488355328 ∧ ys.length ≤ 9223372036854775807 ∧ K (s.newA d ⟨ei.sz, false, ys⟩)
      | .arr k => match s.A k with
        | some o => Chk (decide (o.sz = ei.sz)) (srcOf s ei.sz (evs s y) fun ys => (o.xs.length + ys.length) * ei.bytes ≤ 140737488355328 ∧ o.xs.length + ys.length ≤ 9223372036854775807 ∧ K ((s.dropA k).newA d ⟨ei.sz, o.sh, o.xs ++ ys⟩))
        | none => False
      | .t (.slr sz r m cap) => Chk (decide (sz = ei.sz)) (srcOf s ei.sz (evs s y) fun ys => (m + ys.length) * ei.bytes ≤ 140737488355328 ∧ m + ys.length ≤ 9223372036854775807 ∧ ys ≠ [] ∧
          ∃ xs, (m = 0 ∧ xs = [] ∨ s.H r = some (.arr ei.sz cap xs)) ∧ xs.length = m ∧ ∀ r' cap', (r' = r ∧ 0 < m ∨ s.H r' = none) → m + ys.length ≤ cap' →
            K ({ s with H := upd s.H r' (some (.arr ei.sz cap' (xs ++ ys))) }.put d (.t (.slr ei.sz r' (m + ys.length) cap'))))
      | _ => False)
    | none => False
  | _ => False

theorem srcOf_ok (h : Rel Ev g n s a w) {sz : Nat} {y : Operand} {K : List TV → Prop} (hK : srcOf s sz (evs s y) K) :
    ∃ ys A c news, K ys ∧ a.eval y = .slice A ys.length c ∧ VVs g w (flat ys) news ∧ (∀ x, x ∈ ys → x.cells.length = sz) ∧ (∀ u, u ∈ news → u.oneCell' = true) ∧ (A = none → ys = []) ∧
      ∀ ad, A = some ad → ∀ (j : Nat) (u : Value), news[j]? = some u → w.cell? (ad.add j) = some u := by
  have hY := evs_rel h y
  unfold srcOf at hK
  simp only [chk_iff] at hK
  split at hK
  · rename_i e
    rw [e] at hY
    simp only [SVR] at hY
    exact ⟨[], none, 0, [], hK, hY, .nil g w, by simp, by simp, fun _ => rfl, fun ad hA => by cases hA⟩
  · rename_i sz' ys e
    rw [e] at hY
    simp only [SVR] at hY
    obtain ⟨h1, h2⟩ := hK
    generalize a.eval y = v at hY
    cases hY with
    | sl0 _ A c => exact ⟨[], A, c, [], h2, rfl, .nil g w, by simp, by simp, fun _ => rfl, fun ad _ j u hu => by simp at hu⟩
    | sl _ _ b off cap cs h0 hcm hsz hm hcap g1 hl hc hv =>
      refine ⟨ys, _, cap, cs, h2, rfl, ⟨hl, hv⟩, fun x hx => by rw [hsz x hx, h1], g1, fun hh => (by cases hh), fun ad hA j u hu => ?_⟩
      cases hA
      rw [add_at]
      exact hc j u hu
  · rename_i k e
    rw [e] at hY
    simp only [SVR] at hY
    split at hK
    · rename_i o hA
      obtain ⟨rfl, hK⟩ := hK
      obtain ⟨et, cells, o1, o3, o4, o5, o6⟩ := h.arrs k o hA
      rw [← hY] at o1
      have o1' := o1
      obtain ⟨_, o2⟩ := o1'
      rcases o2 with ⟨f1, f2⟩ | ⟨b, cap, cur, f1, _⟩
      · have : o.xs = [] := List.eq_nil_of_length_eq_zero f2
        exact ⟨o.xs, none, 0, cells, hK, by rw [f1, f2], o3, o4, o5, fun _ => this, fun ad hA => by cases hA⟩
      · refine ⟨o.xs, _, cap, cells, hK, f1, o3, o4, o5, fun hh => (by cases hh), fun ad hA j u hu => ?_⟩
        cases hA
        rw [f1] at o1
        exact o1.cells (g := b) rfl j u hu
    · exact hK.elim
  · exact hK.elim

/-- The state behind an append. -/
theorem append_rel (h : Rel Ev g n s a w) (hd : d < n) {v v' : Value} {sh : Bool} {sz : Nat} {xs ys : List TV} {k : Nat} {e' : TypeId} {cells news : List Value} (hsz0 : 0 < sz) {e0 : TypeId}
    (ho : w.ownsRow 0 e0 sz v xs.length cells) (hx : VVs g w (flat xs) cells) (hxs : ∀ x, x ∈ xs → x.cells.length = sz) (hx1 : ∀ u, u ∈ cells → u.oneCell' = true)
    (hb : ∀ b, v.ownBlock = some b → g.O b = some (.arr k) ∧ g.c b = if sh then xs.length * sz else 0) (hk : k = d ∨ s.A k = none)
    (hy : VVs g w (flat ys) news) (hys : ∀ x, x ∈ ys → x.cells.length = sz) (hy1 : ∀ u, u ∈ news → u.oneCell' = true)
    (r2 : w'.ownsRow 0 e' sz v' (xs.length + ys.length) (cells ++ news)) (r5 : (v'.ownBlock = v.ownBlock ∧ w.grownBy w' v.ownBlock) ∨ (v'.ownBlock = some w.heap.size ∧ w.grownBy w' none)) :
    ∃ g', Rel Ev g' n (s.newA d ⟨sz, sh, xs ++ ys⟩) (a.put (some d) v') w' ∧ Ext g w g' w' ∧ Kept g w g' w' := by
  let g' : Gh := { g with O := fun b => if v'.ownBlock = some b then some (.arr d) else g.O b, c := fun b => if v'.ownBlock = some b then (if sh then (xs ++ ys).length * sz else 0) else g.c b, hd := upd g.hd d v' }
  have r3 : w.grownBy w' v.ownBlock := by
    rcases r5 with ⟨_, r5⟩ | ⟨_, r5⟩
    · exact r5
    · exact ⟨r5.os, r5.tape, r5.output, r5.size, fun k hk _ => r5.block k hk (by simp)⟩
  have hold : ∀ b, b < w.heap.size → v'.ownBlock = some b → v.ownBlock = some b := fun b hlt e => by
    rcases r5 with ⟨r5, _⟩ | ⟨r5, _⟩
    · rw [← r5]; exact e
    · rw [r5] at e; cases e; omega
  have hcl : cells.length = xs.length * sz := ho.1
  have hst : Step (· = .arr k) g w g' w' := by
    refine Step.of r3.os r3.tape r3.output r3.size h.wf.new (fun b hlt => ?_) (fun b hlt => ?_) (fun b j hlt hj => ?_) (fun i hi => ⟨rfl, ?_⟩)
    · by_cases e : v.ownBlock = some b
      · exact .inl ⟨_, (hb b e).1, rfl, by simp⟩
      · refine .inr ⟨r3.block b hlt (fun e2 => e e2.symm), ?_, ?_⟩
        · have : v'.ownBlock ≠ some b := fun e2 => e (hold b hlt e2)
          simp [g', this]
        · have : v'.ownBlock ≠ some b := fun e2 => e (hold b hlt e2)
          simp [g', this]
    · simp only [g']
      split
      · rename_i e
        rw [(hb b (hold b hlt e)).2]
        split
        · exact Nat.mul_le_mul_right _ (by simp)
        · exact Nat.le_refl _
      · exact Nat.le_refl _
    · by_cases e : v.ownBlock = some b
      · -- what stays as it is of the array itself
        rw [(hb b e).2] at hj
        split at hj
        · have hjc : j < cells.length := by omega
          have c1 := ho.cells e j _ (List.getElem?_eq_getElem hjc)
          rw [add_at, Nat.zero_add] at c1
          rw [c1]
          rcases r5 with ⟨r5, _⟩ | ⟨r5, r6⟩
          · have c2 := r2.cells (by rw [r5]; exact e) j cells[j] (by rw [List.getElem?_append_left hjc]; exact List.getElem?_eq_getElem hjc)
            rw [add_at, Nat.zero_add] at c2
            exact c2
          · rw [World.cell?_of_block (r6.block b hlt (by simp)), c1]
        · omega
      · exact World.cell?_of_block (r3.block b hlt (fun e2 => e e2.symm))
    · have : v'.ownBlock ≠ some (g.ρ i) := fun e => by
        have hlt : g.ρ i < w.heap.size := by
          rcases Nat.lt_or_ge (g.ρ i) w.heap.size with h' | h'
          · exact h'
          · rw [(h.wf.new _ h').1] at hi; cases hi
        rw [(hb _ (hold _ hlt e)).1] at hi; cases hi
      simp [g', this, hi]
  have hnew : ∀ b, v'.ownBlock = some b → b < w'.heap.size := fun b e => (r2.lt b e).2
  have hwf : Wf Ev g' w' := h.wf.kept hst.kept (fun b hb' => by
    have hne : v'.ownBlock ≠ some b := fun e => by have := hnew b e; omega
    have := h.wf.new b (Nat.le_trans r3.size hb')
    exact ⟨by simp [g', hne, this.1], by simp [g', hne, this.2]⟩) (by
    obtain ⟨m, hm⟩ := h.wf.m
    refine ⟨m, fun i hi => ?_⟩
    simp only [g']
    split
    · simp
    · exact hm i hi)
  have hlen : (xs ++ ys).length = xs.length + ys.length := by simp
  have hown : OwnR g' w' (.arr d) sh sz (xs ++ ys) v' := by
    refine ⟨e', cells ++ news, by rw [hlen]; exact r2, ?_, fun x hx' => ?_, fun u hu => ?_, fun b hb' => ⟨by simp [g', hb'], by simp [g', hb']⟩⟩
    · rw [flat_append]; exact (hx.ext hst.ext).append (hy.ext hst.ext)
    · rcases List.mem_append.1 hx' with h1 | h1
      · exact hxs x h1
      · exact hys x h1
    · rcases List.mem_append.1 hu with h1 | h1
      · exact hx1 u h1
      · exact hy1 u h1
  exact ⟨g', h.newA hd hst hwf (fun L hL => ⟨k, hL, hk⟩) (fun q hq => upd_ne _ _ hq) rfl (upd_same _ _ _) hown, hst.ext, hst.kept⟩

/-- The state behind an append to an array of the heap. -/
theorem append_ref (h : Rel Ev g n s a w) (hd : d < n) {v v' : Value} {sz r cap : Nat} {xs ys : List TV} {e' : TypeId} {cells news : List Value} (hv : g.VV w (.slr sz r xs.length cap) v)
    (hH : xs.length = 0 ∧ xs = [] ∨ s.H r = some (.arr sz cap xs)) (hx : VVs g w (flat xs) cells) (hxs : ∀ x, x ∈ xs → x.cells.length = sz) (hx1 : ∀ u, u ∈ cells → u.oneCell' = true)
    (hy : VVs g w (flat ys) news) (hys : ∀ x, x ∈ ys → x.cells.length = sz) (hy1 : ∀ u, u ∈ news → u.oneCell' = true) (hy0 : ys ≠ [])
    (r2 : w'.ownsRow 0 e' sz v' (xs.length + ys.length) (cells ++ news)) (r5 : (v'.ownBlock = v.ownBlock ∧ w.grownBy w' v.ownBlock) ∨ (v'.ownBlock = some w.heap.size ∧ w.grownBy w' none))
    {K : TS → Prop} (hK : ∀ r' cap', (r' = r ∧ 0 < xs.length ∨ s.H r' = none) → xs.length + ys.length ≤ cap' → K ({ s with H := upd s.H r' (some (.arr sz cap' (xs ++ ys))) }.put d (.t (.slr sz r' (xs.length + ys.length) cap')))) :
    ∃ s' g', K s' ∧ Rel Ev g' n s' (a.put (some d) v') w' ∧ Ext g w g' w' ∧ Kept g w g' w' := by
  have hyl : 0 < ys.length := List.length_pos_iff.2 hy0
  obtain ⟨rl, r2'⟩ := r2
  rcases r2' with ⟨rfl, h0⟩ | ⟨b, cap', cur, rfl, _, f2, f3, f4, f5, f6⟩
  · omega
  have hall : VVs g w (flat (xs ++ ys)) (cells ++ news) := by rw [flat_append]; exact hx.append hy
  have hallz : ∀ x, x ∈ xs ++ ys → x.cells.length = sz := fun x hx' => by
    rcases List.mem_append.1 hx' with h1 | h1
    · exact hxs x h1
    · exact hys x h1
  have hall1 : ∀ u, u ∈ cells ++ news → u.oneCell' = true := fun u hu => by
    rcases List.mem_append.1 hu with h1 | h1
    · exact hx1 u h1
    · exact hy1 u h1
  have hlen : (xs ++ ys).length = xs.length + ys.length := by simp
  rcases r5 with ⟨r5, r3⟩ | ⟨r5, r3⟩
  · -- in place
    have r5 : some b = v.ownBlock := r5
    have hm0 : 0 < xs.length := by
      rcases Nat.eq_zero_or_pos xs.length with h0 | h0
      · rw [h0] at hv
        cases hv with
        | slr0 => simp [Value.ownBlock] at r5
        | slr _ _ _ _ h1 => omega
      · exact h0
    have hHr : s.H r = some (.arr sz cap xs) := by
      rcases hH with ⟨h1, _⟩ | h1
      · omega
      · exact h1
    obtain ⟨vals, e, cs, q1, q2, q3, _⟩ := h.heap r _ hHr
    have hb : b = g.ρ r := by
      generalize hmm : xs.length = m at hv hm0
      cases hv with
      | slr0 => omega
      | slr _ _ _ _ h1 => simpa [Value.ownBlock] using r5
    have hvb : v.ownBlock = some (g.ρ r) := by rw [← r5, hb]
    have hlt : g.ρ r < w.heap.size := by
      rcases Nat.lt_or_ge (g.ρ r) w.heap.size with h' | h'
      · exact h'
      · rw [(h.wf.new _ h').1] at q1; cases q1
    have hst : Step (· = .ref r) g w g w' := by
      refine Step.of r3.os r3.tape r3.output r3.size h.wf.new (fun k hk => ?_) (fun k _ => Nat.le_refl _) (fun k j hk hj => ?_) (fun i hi => ⟨rfl, hi⟩)
      · by_cases e : k = g.ρ r
        · subst e; exact .inl ⟨_, q1, rfl, by simp⟩
        · exact .inr ⟨r3.block k hk (fun e2 => e (by rw [hvb] at e2; cases e2; rfl)), rfl, rfl⟩
      · have e : k ≠ g.ρ r := fun e => by rw [e, q3] at hj; omega
        exact World.cell?_of_block (r3.block k hk (fun e2 => e (by rw [hvb] at e2; cases e2; rfl)))
    have hwf : Wf Ev g w' := h.wf.kept hst.kept (fun k hk => h.wf.new k (Nat.le_trans r3.size hk)) h.wf.m
    have hrel : Rel Ev g n { s with H := upd s.H r (some (.arr sz cap' (xs ++ ys))) } a w' := by
      refine h.step hst hwf h.size h.defers (fun q => .inl ⟨rfl, rfl, fun _ _ => rfl, fun _ _ => rfl, by simp⟩) (fun q o ho => .inl ⟨ho, rfl, by simp, by simp⟩) (fun q o ho => .inl ⟨ho, rfl, by simp⟩) (fun q o ho => ?_)
      dsimp only at ho
      by_cases hq : q = r
      · subst hq
        rw [upd_same] at ho; cases ho
        exact .inr ⟨cur, e', _, q1, by rw [← hb]; exact f2, q3, f5, by rw [hlen]; exact f3, f4, by rw [hlen]; exact f6, hall.ext hst.ext, hallz, hall1⟩
      · rw [upd_ne _ _ hq] at ho
        exact .inl ⟨ho, by simpa using hq, by simp⟩
    refine ⟨_, g, hK r cap' (.inl ⟨rfl, hm0⟩) f3, hrel.put hd ?_, hst.ext, hst.kept⟩
    show g.VV w' _ _
    rw [hb]
    exact .slr sz r _ cap' (by omega) f3 f4 q1
  · -- a new block
    simp only [Value.ownBlock] at r5
    cases r5
    obtain ⟨m, hm⟩ := h.wf.m
    have hfree : s.H m = none := by
      cases hHm : s.H m with
      | none => rfl
      | some o =>
        exfalso
        have := h.heap m o hHm
        cases o with
        | cells cs => obtain ⟨_, _, h1, _⟩ := this; exact hm m (Nat.le_refl _) h1
        | map es => obtain ⟨_, _, h1, _⟩ := this; exact hm m (Nat.le_refl _) h1
        | arr sz cap xs => obtain ⟨_, _, _, h1, _⟩ := this; exact hm m (Nat.le_refl _) h1
    let g' : Gh := { g with O := upd g.O w.heap.size (some (.ref m)), ρ := upd g.ρ m w.heap.size }
    have hne : ∀ k, k < w.heap.size → g'.O k = g.O k := fun k hk => upd_ne _ _ (by omega)
    have hst : Step (fun _ => False) g w g' w' := by
      refine Step.of r3.os r3.tape r3.output r3.size h.wf.new (fun k hk => .inr ⟨r3.block k hk (by simp), hne k hk, rfl⟩) (fun k _ => Nat.le_refl _) (fun k j hk hj => World.cell?_of_block (r3.block k hk (by simp))) (fun i hi => ?_)
      have hi' : i ≠ m := fun e => hm i (by omega) hi
      have hlt : g.ρ i < w.heap.size := by
        rcases Nat.lt_or_ge (g.ρ i) w.heap.size with h' | h'
        · exact h'
        · rw [(h.wf.new _ h').1] at hi; cases hi
      exact ⟨upd_ne _ _ hi', by rw [hne _ hlt]; exact hi⟩
    have hsz : w.heap.size < w'.heap.size := by
      rcases Nat.lt_or_ge w.heap.size w'.heap.size with h' | h'
      · exact h'
      · rw [Array.getElem?_eq_none h'] at f2; cases f2
    have hwf : Wf Ev g' w' := h.wf.kept hst.kept (fun k hk => by
      have := h.wf.new k (by omega)
      exact ⟨by show upd g.O w.heap.size _ k = none; rw [upd_ne _ _ (by omega)]; exact this.1, this.2⟩) (by
      refine ⟨m + 1, fun i hi => ?_⟩
      have him : i ≠ m := by omega
      show upd g.O w.heap.size _ (upd g.ρ m w.heap.size i) ≠ _
      rw [upd_ne _ _ him]
      by_cases e : g.ρ i = w.heap.size
      · rw [e, upd_same]; intro hh; cases hh; exact him rfl
      · rw [upd_ne _ _ e]; exact hm i (by omega))
    have hO : g'.O (g'.ρ m) = some (.ref m) := by simp [g']
    have hrel : Rel Ev g' n { s with H := upd s.H m (some (.arr sz cap' (xs ++ ys))) } a w' := by
      refine h.step hst hwf h.size h.defers (fun q => .inl ⟨rfl, rfl, fun _ _ => rfl, fun _ _ => rfl, by simp⟩) (fun q o ho => .inl ⟨ho, rfl, by simp, by simp⟩) (fun q o ho => .inl ⟨ho, rfl, by simp⟩) (fun q o ho => ?_)
      dsimp only at ho
      by_cases hq : q = m
      · subst hq
        rw [upd_same] at ho; cases ho
        refine .inr ⟨cur, e', _, hO, by simp only [g', upd_same]; exact f2, ?_, f5, by rw [hlen]; exact f3, f4, by rw [hlen]; exact f6, hall.ext hst.ext, hallz, hall1⟩
        simp only [g', upd_same]
        exact (h.wf.new _ (Nat.le_refl _)).2
      · rw [upd_ne _ _ hq] at ho
        exact .inl ⟨ho, by simp, by simp⟩
    refine ⟨_, g', hK m cap' (.inr hfree) f3, hrel.put hd ?_, hst.ext, hst.kept⟩
    have : g'.ρ m = w.heap.size := upd_same _ _ _
    show g'.VV w' _ _
    rw [← this]
    exact .slr sz m _ cap' (by omega) f3 f4 hO

theorem tappend_ok (h : Rel Ev g n s a w) (hd : d < n) {t : TypeId} {x y : Operand} (hK : tappend T s d t x y K) :
    AOk P Ev n g w a { dst := some d, op := .call { callee := .builtin .append, args := #[x, y], argTypes := #[t, t] }, type := ty, pos, after, guard := gd } K := by
  unfold tappend at hK
  simp only [chk_iff] at hK
  split at hK
  · rename_i e hk
    obtain ⟨i, hi, hdd⟩ := kindOf_some hk
    have hu := und_slice T hi hdd
    split at hK
    · rename_i ei hei
      obtain ⟨hsz0, hK⟩ := hK
      obtain ⟨f, z, q1, q2, q3, q4, q5⟩ := zero_ok hei
      have hzs : z.cells.size = ei.sz := by rw [(q5 g w).1]; exact (T.ok e ei hei).zsz
      have hX := evs_rel h x
      -- one append
      have one : ∀ {xs ys : List TV} {sh : Bool} {k : Nat} {s1 : TS} {v : Value} {cells : List Value} {e0 : TypeId} {A : Option Addr} {c : Nat} {news : List Value}, Rel Ev g n s1 a w → a.eval x = v → w.ownsRow 0 e0 ei.sz v xs.length cells → VVs g w (flat xs) cells →
          (∀ x, x ∈ xs → x.cells.length = ei.sz) → (∀ u, u ∈ cells → u.oneCell' = true) → (∀ b, v.ownBlock = some b → g.O b = some (.arr k) ∧ g.c b = if sh then xs.length * ei.sz else 0) → (k = d ∨ s1.A k = none) →
          a.eval y = .slice A ys.length c → VVs g w (flat ys) news → (∀ x, x ∈ ys → x.cells.length = ei.sz) → (∀ u, u ∈ news → u.oneCell' = true) → (A = none → ys = []) →
          (∀ ad, A = some ad → ∀ (j : Nat) (u : Value), news[j]? = some u → w.cell? (ad.add j) = some u) → (xs.length + ys.length) * ei.bytes ≤ 140737488355328 → xs.length + ys.length ≤ 9223372036854775807 →
          K (s1.newA d ⟨ei.sz, sh, xs ++ ys⟩) → AOk P Ev n g w a { dst := some d, op := .call { callee := .builtin .append, args := #[x, y], argTypes := #[t, t] }, type := ty, pos, after, guard := gd } K := by
        intro xs ys sh k s1 v cells e0 A c news h1 hv ho hx hxs hx1 hb hk hy1 hy hys hyo hA hc hby hmx hK
        have hnl : news.length = ys.length * ei.sz := by rw [hy.1, flat_length hys]
        have hrun : ∃ v' w' e', (Builtin.append_ #[t, t] ty #[v, .slice A ys.length c]).run P w = .ok v' w' ∧ w'.ownsRow 0 e' ei.sz v' (xs.length + ys.length) (cells ++ news) ∧
            ((v'.ownBlock = v.ownBlock ∧ w.grownBy w' v.ownBlock) ∨ (v'.ownBlock = some w.heap.size ∧ w.grownBy w' none)) := by
          cases A with
          | none =>
            obtain rfl := hA rfl
            have : news = [] := List.eq_nil_of_length_eq_zero (by simpa using hnl)
            subst this
            have hr := run_append_none' (P := P) w t ty e f ei.sz hu q1 v xs.length cells e0 ho c
            exact ⟨v, w, e0, hr, by simpa using ho, .inl ⟨rfl, World.grownBy.refl' w _⟩⟩
          | some ad => exact run_append_t w t ty e e0 f z ei.sz ei.bytes hu q1 q4 q2 q3 hzs hsz0 v xs.length cells ho ad ys.length c news hnl (hc ad rfl) hyo (by simpa [maxLen] using hmx) hby
        obtain ⟨v', w', e', r1, r2, r5⟩ := hrun
        obtain ⟨g', m1, m2, m3⟩ := append_rel h1 hd hsz0 ho hx hxs hx1 hb hk hy hys hyo r2 r5
        refine ⟨_, v', w', g', _, ?_, .inl rfl, hK, m1, m2, m3⟩
        simp [execOp, resolve, invoke, builtin, hv, hy1, r1]
      split at hK
      · rename_i ex
        obtain ⟨ys, A, c, news, ⟨k1, k2, k3⟩, p1, p2, p3, p4, p5, p6⟩ := srcOf_ok h hK
        rw [ex] at hX
        simp only [SVR] at hX
        exact one (xs := []) (sh := false) (k := d) (e0 := 0) h hX (World.ownsRow_nil w 0 0 ei.sz) (.nil g w) (by simp) (by simp) (fun b hb => by simp [Value.ownBlock] at hb) (.inl rfl) p1 p2 p3 p4 p5 p6 (by simpa using k1) (by simpa using k2) (by simpa using k3)
      · rename_i k ex
        split at hK
        · rename_i o hA
          obtain ⟨e1, hK⟩ := hK
          obtain ⟨ys, A, c, news, ⟨k1, k2, k3⟩, p1, p2, p3, p4, p5, p6⟩ := srcOf_ok h hK
          rw [ex] at hX
          simp only [SVR] at hX
          obtain ⟨e0, cells, o1, o3, o4, o5, o6⟩ := h.arrs k o hA
          rw [e1] at o1 o4 o6
          exact one (h.dropA k) hX o1 o3 o4 o5 o6 (.inr (upd_same _ _ _)) p1 p2 p3 p4 p5 p6 k1 k2 k3
        · exact hK.elim
      · rename_i sz r m cap ex
        obtain ⟨rfl, hK⟩ := hK
        obtain ⟨ys, A, c, news, ⟨k1, k2, k3, xs, k4, rfl, k5⟩, p1, p2, p3, p4, p5, p6⟩ := srcOf_ok h hK
        rw [ex] at hX
        simp only [SVR] at hX
        obtain ⟨ad, rfl⟩ : ∃ ad, A = some ad := by
          cases A with
          | none => exact absurd (p5 rfl) k3
          | some ad => exact ⟨ad, rfl⟩
        obtain ⟨e0, cells, o1, o3, o4, o5⟩ : ∃ e0 cells, w.ownsRow 0 e0 ei.sz (a.eval x) xs.length cells ∧ VVs g w (flat xs) cells ∧ (∀ x, x ∈ xs → x.cells.length = ei.sz) ∧ ∀ u, u ∈ cells → u.oneCell' = true := by
          rcases k4 with ⟨k4, k6⟩ | k4
          · subst k6
            generalize a.eval x = v at hX
            cases hX with
            | slr0 => exact ⟨0, [], World.ownsRow_nil w 0 0 ei.sz, .nil g w, by simp, by simp⟩
            | slr _ _ _ _ h0 => simp at h0
          · obtain ⟨vals, e, cs, q1, q2, q3, q4, q5, q6, q7, q8, q9, q10⟩ := h.heap r _ k4
            have hcl : cs.length = xs.length * ei.sz := by rw [q8.1, flat_length q9]
            generalize a.eval x = v at hX
            generalize hm : xs.length = m at hX
            cases hX with
            | slr0 =>
              have : xs = [] := List.eq_nil_of_length_eq_zero hm
              subst this
              have : cs = [] := List.eq_nil_of_length_eq_zero (by simpa using hcl)
              subst this
              exact ⟨0, [], World.ownsRow_nil w 0 0 ei.sz, .nil g w, by simp, by simp⟩
            | slr _ _ _ _ h0 hcap hm' hi =>
              exact ⟨e, cs, ⟨by rw [hcl, hm], .inr ⟨g.ρ r, cap, vals, rfl, Nat.zero_le _, q2, by omega, hm', q4, by rw [← hm]; exact q7⟩⟩, q8, q9, q10⟩
        have hnl : news.length = ys.length * ei.sz := by rw [p2.1, flat_length p3]
        obtain ⟨v', w', e', r1, r2, r5⟩ := run_append_t (P := P) w t ty e e0 f z ei.sz ei.bytes hu q1 q4 q2 q3 hzs hsz0 _ xs.length cells o1 ad ys.length c news hnl (p6 ad rfl) p4 (by simpa [maxLen] using k2) k1
        obtain ⟨s', g', m1, m2, m3, m4⟩ := append_ref h hd hX (k4.imp (fun hh => ⟨hh.1, hh.2⟩) id) o3 o4 o5 p2 p3 p4 k3 r2 r5 k5
        refine ⟨_, v', w', g', s', ?_, .inl rfl, m1, m2, m3, m4⟩
        simp [execOp, resolve, invoke, builtin, p1, r1]
      · exact hK.elim
    · exact hK.elim
  · exact hK.elim

end
end Go.T
set_option linter.unusedVariables false
set_option linter.unusedSimpArgs false
namespace Go.T
open Go.RowKit

def repl {α : Type} (cs : List α) (off : Nat) (new : List α) : List α := cs.take off ++ new ++ cs.drop (off + new.length)

def setRef (s : TS) (i off : Nat) (new : List CV) (K : TS → Prop) : Prop :=
  ∃ cs, s.H i = some (.cells cs) ∧ Chk (decide (off + new.length ≤ cs.length)) (K { s with H := upd s.H i (some (.cells (repl cs off new))) })
def setVar (s : TS) (d off : Nat) (new : List CV) (K : TS → Prop) : Prop :=
  match s.V d with
  | some (.cells cs) => Chk (decide (off + new.length ≤ cs.length)) <| K { s with V := upd s.V d (some (.cells (repl cs off new))) }
  | _ => False
def setElem (s : TS) (k sz e off n : Nat) (x : TV) (K : TS → Prop) : Prop :=
  match s.A k with
  | some o => Chk (!o.sh && (decide (sz = o.sz) && (decide (off + n ≤ sz) && (decide (x.cells.length = n) && decide (0 < sz))))) <| e < o.xs.length ∧
      K { s with A := upd s.A k (some { o with xs := o.xs.set e (if n = sz then x else .agg (repl (o.xs.getD e default).cells off x.cells)) }) }
  | none => False

def setArr (s : TS) (r sz e off n : Nat) (x : TV) (K : TS → Prop) : Prop :=
  ∃ cap xs, s.H r = some (.arr sz cap xs) ∧ Chk (decide (off + n ≤ sz) && (decide (x.cells.length = n) && decide (0 < sz))) (e < xs.length ∧
      K { s with H := upd s.H r (some (.arr sz cap (xs.set e (if n = sz then x else .agg (repl (xs.getD e default).cells off x.cells))))) })

def tstore {P : Program} (T : Tab P) (hint : TypeId → List Nat) (s : TS) (t : TypeId) (a x : Operand) (K : TS → Prop) : Prop :=
  match T.ty t with
  | some i => match evs s a with
    | .lp d off => match s.V d with
      | some (.cells _) => asCells s (evs s x) fun new s1 => Chk (decide (new.length = i.sz)) <| setVar s1 d off new K
      | some (.esc r) => asCells s (evs s x) fun new s1 => Chk (decide (new.length = i.sz)) <| setRef s1 r off new K
      | none => False
    | .t (.ptr r off) => asCells s (evs s x) fun new s1 => Chk (decide (new.length = i.sz)) <| setRef s1 r off new K
    | .hp k sz e off => asTV s (hint t) (evs s x) fun tv s1 => setElem s1 k sz e off i.sz tv K
    | .t (.aptr r sz e off) => asTV s (hint t) (evs s x) fun tv s1 => setArr s1 r sz e off i.sz tv K
    | _ => False
  | none => False

section
variable {Ev : Env} {P : Program} {T : Tab P} {g g' : Gh} {n : Nat} {s s' : TS} {a a' : Act} {w w' : World} {X : Loc → Prop} {K : TS → Prop} {ty : TypeId} {d : Tmp} {pos : String} {after : Array Edge} {gd : Option (Nat × Bool)}

/-- A store into a block that is one's own, and of which no cell is seen from elsewhere. -/
theorem Step.setRow (hw : Wf Ev g w) {b : Nat} {L : Loc} (hO : g.O b = some L) (hL : L ≠ .outer) (hc : g.c b = 0) (cs : Array Value) : Step (· = L) g w g (w.setRow b cs) ∧ Wf Ev g (w.setRow b cs) := by
  have hst : Step (· = L) g w g (w.setRow b cs) := by
    refine Step.of rfl rfl rfl (by simp) hw.new (fun k hk => ?_) (fun k _ => Nat.le_refl _) (fun k j hk hj => ?_) (fun i hi => ⟨rfl, hi⟩)
    · by_cases e : k = b
      · subst e; exact .inl ⟨L, hO, rfl, hL⟩
      · exact .inr ⟨setRow_other w b k cs e, rfl, rfl⟩
    · have e : k ≠ b := fun e => by rw [e, hc] at hj; omega
      exact World.cell?_of_block (setRow_other w b k cs e)
  exact ⟨hst, hw.kept hst.kept (fun k hk => hw.new k (by simpa using hk)) hw.m⟩

theorem run_storeAt {t : TypeId} {i : TyI} (hi : T.ty t = some i) {b off : Nat} {v : Value} {cur : Array Value} {e : TypeId} (hg : w.heap[b]? = some (.cells cur e (0, 0))) (hv : v.cells.size = i.sz) (hle : off + i.sz ≤ cur.size) (h1 : ∀ u, u ∈ v.cells.toList → u.oneCell' = true) :
    (Instr.storeAt t (.pointer (some ⟨b, off, none⟩)) v).run P w = .ok () (w.setRow b (repl cur.toList off v.cells.toList).toArray) := by
  have hl : v.cells.toList.length = i.sz := by simp [hv]
  have hr := run_storeCells_at P b off e v.cells.toList 0 cur w hg (by simp [hv]; omega) h1
  simp only [Nat.add_zero] at hr
  simp only [Instr.storeAt, Instr.sureAddr, storeVar, Sem.run_bind, Sem.run_pure, Result.andThen_ok, run_sizeOf' T hi]
  rw [if_neg (by simp [hv])]
  exact hr

theorem repl_get {α : Type} (cs new : List α) (off k : Nat) (h : off + new.length ≤ cs.length) : (repl cs off new)[k]? = if off ≤ k ∧ k < off + new.length then new[k - off]? else cs[k]? := by
  unfold repl
  have hl : (cs.take off).length = off := by simp; omega
  rcases Nat.lt_or_ge k off with h1 | h1
  · rw [if_neg (by omega), List.append_assoc, List.getElem?_append_left (by omega), List.getElem?_take, if_pos h1]
  · rcases Nat.lt_or_ge k (off + new.length) with h2 | h2
    · rw [if_pos ⟨h1, h2⟩, List.getElem?_append_left (by simp; omega), List.getElem?_append_right (by omega), hl]
    · rw [if_neg (by omega), List.getElem?_append_right (by simp; omega), List.getElem?_drop]
      congr 1
      simp
      omega
theorem repl_length {α : Type} (cs new : List α) (off : Nat) (h : off + new.length ≤ cs.length) : (repl cs off new).length = cs.length := by
  unfold repl; simp; omega

theorem CVRs.one {L : Nat → Loc} {cs : List CV} {vs : Array Value} (h : CVRs g w L cs vs) : ∀ u, u ∈ vs.toList → u.oneCell' = true := by
  intro u hu
  obtain ⟨k, hk⟩ := List.getElem?_of_mem hu
  have hk' : vs[k]? = some u := by simpa using hk
  have hlt : k < cs.length := by
    rw [← h.1]
    rcases Nat.lt_or_ge k vs.size with h' | h'
    · exact h'
    · simp [Array.getElem?_eq_none h'] at hk'
  exact ((h.2 k _ u (List.getElem?_eq_getElem hlt) hk').tv 0).2

theorem CellsR.store {b off : Nat} {L : Loc} {Lc : Nat → Loc} {cs new : List CV} {v : Value} (h : CellsR g w b L Lc cs) (hn : CVRs g w (fun j => Lc (off + j)) new v.cells) (hle : off + new.length ≤ cs.length) (hL : ∀ j, Lc j ≠ L) :
    ∃ cur e, w.heap[b]? = some (.cells cur e (0, 0)) ∧ cur.size = cs.length ∧ ∀ {g' : Gh}, Step (· = L) g w g' (w.setRow b (repl cur.toList off v.cells.toList).toArray) → g'.O b = some L → g'.c b = 0 →
      CellsR g' (w.setRow b (repl cur.toList off v.cells.toList).toArray) b L Lc (repl cs off new) := by
  obtain ⟨cur, e, h1, h2, h3, h4⟩ := h
  have hvl : v.cells.toList.length = new.length := by simp [hn.1]
  refine ⟨cur, e, h2, h4.1, fun {g'} hst hO hc => ⟨_, e, hO, setRow_heap w b cur _ e _ h2, hc, ?_⟩⟩
  have hs : ∀ j, ¬ (Lc j = L) := hL
  have h4' := h4.step hst (fun j => hs j)
  have hn' := hn.step hst (fun j => hs (off + j))
  exact h4'.set (sz := new.length) rfl hle hn' (by simp; rw [repl_length _ _ _ (by rw [hvl]; simp [h4.1]; exact hle)]; simp) (fun k => by
    rw [List.getElem?_toArray, repl_get _ _ _ _ (by rw [hvl]; simp [h4.1]; exact hle), hvl]
    simp)

theorem setVar_ok (h : Rel Ev g n s a w) {d off : Nat} {new : List CV} {v : Value} (hc : CVRs g w (fun j => .vcell d (off + j)) new v.cells) (hK : setVar s d off new K) {t : TypeId} {i : TyI} (hi : T.ty t = some i) (hsz : new.length = i.sz) :
    ∃ s' g' w', (Instr.storeAt t (.pointer (some ⟨g.β d, off, none⟩)) v).run P w = .ok () w' ∧ K s' ∧ Rel Ev g' n s' a w' ∧ Ext g w g' w' ∧ Kept g w g' w' := by
  unfold setVar at hK
  simp only [chk_iff] at hK
  split at hK
  · rename_i cs hV
    obtain ⟨hle, hK⟩ := hK
    have hvar : CellsR g w (g.β d) (.var d) (.vcell d) cs := h.vars d _ hV
    obtain ⟨cur, e, c1, c2, c3⟩ := hvar.store (off := off) hc hle (by simp)
    obtain ⟨_, _, hO, _, hc0, _⟩ := hvar
    obtain ⟨hst, hwf⟩ := Step.setRow h.wf hO (by simp) hc0 (repl cur.toList off v.cells.toList).toArray
    refine ⟨_, g, _, run_storeAt hi c1 (by rw [hc.1, hsz]) (by omega) hc.one, hK, ?_, hst.ext, hst.kept⟩
    refine h.step hst hwf h.size h.defers (fun q => .inl ⟨rfl, rfl, fun _ _ => rfl, fun _ _ => rfl, by simp⟩) (fun q o ho => ?_) (fun q o ho => .inl ⟨ho, rfl, by simp⟩) (fun q o ho => .inl ⟨ho, by simp, by simp⟩)
    dsimp only at ho
    by_cases hq : q = d
    · subst hq
      rw [upd_same] at ho; cases ho
      exact .inr (c3 hst hO hc0)
    · rw [upd_ne _ _ hq] at ho
      exact .inl ⟨ho, rfl, by simpa using hq, by simp⟩
  · exact hK.elim

theorem setRef_ok (h : Rel Ev g n s a w) {r off : Nat} {new : List CV} {v : Value} (hc : CVRs g w (fun j => .cell r (off + j)) new v.cells) (hK : setRef s r off new K) {t : TypeId} {i : TyI} (hi : T.ty t = some i) (hsz : new.length = i.sz) :
    ∃ s' g' w', (Instr.storeAt t (.pointer (some ⟨g.ρ r, off, none⟩)) v).run P w = .ok () w' ∧ K s' ∧ Rel Ev g' n s' a w' ∧ Ext g w g' w' ∧ Kept g w g' w' := by
  unfold setRef at hK
  simp only [chk_iff] at hK
  obtain ⟨cs, hH, hle, hK⟩ := hK
  · have hvar : CellsR g w (g.ρ r) (.ref r) (.cell r) cs := h.heap r _ hH
    obtain ⟨cur, e, c1, c2, c3⟩ := hvar.store (off := off) hc hle (by simp)
    obtain ⟨_, _, hO, _, hc0, _⟩ := hvar
    obtain ⟨hst, hwf⟩ := Step.setRow h.wf hO (by simp) hc0 (repl cur.toList off v.cells.toList).toArray
    refine ⟨_, g, _, run_storeAt hi c1 (by rw [hc.1, hsz]) (by omega) hc.one, hK, ?_, hst.ext, hst.kept⟩
    refine h.step hst hwf h.size h.defers (fun q => .inl ⟨rfl, rfl, fun _ _ => rfl, fun _ _ => rfl, by simp⟩) (fun q o ho => .inl ⟨ho, rfl, by simp, by simp⟩) (fun q o ho => .inl ⟨ho, rfl, by simp⟩) (fun q o ho => ?_)
    dsimp only at ho
    by_cases hq : q = r
    · subst hq
      rw [upd_same] at ho; cases ho
      exact .inr (c3 hst hO hc0)
    · rw [upd_ne _ _ hq] at ho
      exact .inl ⟨ho, by simpa using hq, by simp⟩

theorem flat_set {sz : Nat} : ∀ {xs : List TV} {e : Nat} {x : TV}, (∀ y, y ∈ xs → y.cells.length = sz) → e < xs.length → x.cells.length = sz → flat (xs.set e x) = repl (flat xs) (e * sz) x.cells
  | [], e, x, _, he, _ => by simp at he
  | y :: xs, 0, x, h, _, hx => by
    have hy := h y (by simp)
    simp only [List.set_cons_zero, flat_cons, repl, Nat.zero_mul, List.take_zero, List.nil_append, Nat.zero_add]
    rw [List.drop_append, List.drop_eq_nil_of_le (by omega), List.nil_append, hx, hy, Nat.sub_self, List.drop_zero]
  | y :: xs, e + 1, x, h, he, hx => by
    have hy := h y (by simp)
    have ih := flat_set (xs := xs) (e := e) (x := x) (fun z hz => h z (by simp [hz])) (by simpa using he) hx
    rw [List.set_cons_succ, flat_cons, ih, flat_cons]
    simp only [repl]
    have e1 : (e + 1) * sz = y.cells.length + e * sz := by rw [Nat.add_mul, hy]; omega
    rw [e1, List.take_append, List.take_of_length_le (l := y.cells) (by omega), List.drop_append, List.drop_eq_nil_of_le (as := y.cells) (by omega)]
    simp only [List.nil_append, List.append_assoc]
    congr 3
    · omega
    · congr 1; omega

theorem VVs.repl {ts ts' : List TV} {vs vs' : List Value} (h : VVs g w ts vs) (h' : VVs g w ts' vs') {off : Nat} (hle : off + ts'.length ≤ ts.length) : VVs g w (repl ts off ts') (repl vs off vs') := by
  have hle' : off + vs'.length ≤ vs.length := by rw [h.1, h'.1]; exact hle
  refine ⟨by rw [repl_length _ _ _ hle, repl_length _ _ _ hle', h.1], fun k t u h1 h2 => ?_⟩
  rw [repl_get _ _ _ _ hle] at h1
  rw [repl_get _ _ _ _ hle', h'.1] at h2
  split at h1
  · rename_i hk
    rw [if_pos hk] at h2
    exact h'.2 _ t u h1 h2
  · rename_i hk
    rw [if_neg hk] at h2
    exact h.2 _ t u h1 h2

theorem repl_repl {α : Type} (cs mid new : List α) (o1 o2 : Nat) (h1 : o1 + mid.length ≤ cs.length) (h2 : o2 + new.length ≤ mid.length) (hm : ∀ k, k < mid.length → mid[k]? = cs[o1 + k]?) :
    repl cs o1 (repl mid o2 new) = repl cs (o1 + o2) new := by
  apply List.ext_getElem?
  intro k
  have hl := repl_length mid new o2 h2
  rw [repl_get cs (repl mid o2 new) o1 k (by rw [hl]; exact h1), repl_get cs new (o1 + o2) k (by omega), hl]
  by_cases c1 : o1 ≤ k ∧ k < o1 + mid.length
  · rw [if_pos c1, repl_get mid new o2 _ h2]
    by_cases c2 : o1 + o2 ≤ k ∧ k < o1 + o2 + new.length
    · rw [if_pos c2, if_pos (by omega)]; congr 1; omega
    · rw [if_neg c2, if_neg (by omega), hm _ (by omega)]; congr 1; omega
  · rw [if_neg c1, if_neg (by omega)]

theorem setElem_ok (h : Rel Ev g n s a w) {k sz e off : Nat} {x : TV} {v pv : Value} (hx : g.VV w x v) {t : TypeId} {i : TyI} (hi : T.ty t = some i) (hp : ∃ b m cap, g.hd k = .slice (some ⟨b, 0, none⟩) m cap ∧ pv = .pointer (some ⟨b, e * sz + off, none⟩)) (hK : setElem s k sz e off i.sz x K) :
    ∃ s' g' w', (Instr.storeAt t pv v).run P w = .ok () w' ∧ K s' ∧ Rel Ev g' n s' a w' ∧ Ext g w g' w' ∧ Kept g w g' w' := by
  unfold setElem at hK
  simp only [chkb_iff, Bool.and_eq_true, Bool.not_eq_true', decide_eq_true_iff] at hK
  split at hK
  · rename_i o hA
    obtain ⟨⟨hsh, rfl, hle, hxl, hsz0⟩, he, hK⟩ := hK
    obtain ⟨b, m, cap, hd1, rfl⟩ := hp
    obtain ⟨et, cells, o1, o3, o4, o5, o6⟩ := h.arrs k o hA
    have o1' := o1
    rw [hd1] at o1'
    obtain ⟨oc, o2⟩ := o1'
    rcases o2 with ⟨f1, _⟩ | ⟨b', cap', cur, f1, _, f2, f3, f4, f5, f6⟩
    · cases f1
    cases f1
    have hOc := o6 b (by rw [hd1]; rfl)
    rw [hsh, if_neg (by simp)] at hOc
    have hcx := hx.cells
    have hvs : v.cells.size = i.sz := by have := hcx.1.1; simp at this; omega
    have hmul : e * o.sz + o.sz ≤ o.xs.length * o.sz := by rw [← Nat.succ_mul]; exact Nat.mul_le_mul_right _ he
    have hcap : o.xs.length * o.sz ≤ cap * o.sz := Nat.mul_le_mul_right _ f3
    have hcl : cells.length = o.xs.length * o.sz := oc
    obtain ⟨hst, hwf⟩ := Step.setRow h.wf hOc.1 (by simp) hOc.2 (repl cur.toList (e * o.sz + off) v.cells.toList).toArray
    have hrl : (repl cur.toList (e * o.sz + off) v.cells.toList).length = cur.size := by rw [repl_length _ _ _ (by simp [hvs]; omega)]; simp
    have hvl : v.cells.toList.length = x.cells.length := hcx.1.1
    have hxe := getD_some he default
    have hel := o4 _ (List.mem_of_getElem? hxe)
    -- the new element
    let x' : TV := if i.sz = o.sz then x else .agg (repl (o.xs.getD e default).cells off x.cells)
    have hx'l : x'.cells.length = o.sz := by
      simp only [x']
      split
      · rename_i hh; rw [hxl, hh]
      · show (repl _ _ _).length = _
        rw [repl_length _ _ _ (by omega)]; exact hel
    have hflat : flat (o.xs.set e x') = repl (flat o.xs) (e * o.sz + off) x.cells := by
      rw [flat_set o4 he hx'l]
      simp only [x']
      split
      · rename_i hh
        have : off = 0 := by omega
        rw [this, Nat.add_zero]
      · show repl _ _ (repl _ _ _) = _
        refine repl_repl _ _ _ _ _ (by rw [flat_length o4, hel]; omega) (by omega) (fun q hq => ?_)
        rw [← List.getElem?_drop, flat_at o4 hxe, List.getElem?_append_left hq]
    have hown : OwnR g (w.setRow b (repl cur.toList (e * o.sz + off) v.cells.toList).toArray) (.arr k) false o.sz (o.xs.set e x') (g.hd k) := by
      refine ⟨et, repl cells (e * o.sz + off) v.cells.toList, ?_, ?_, fun y hy => ?_, fun u hu => ?_, fun b' hb' => ?_⟩
      · refine ⟨by rw [repl_length _ _ _ (by simp [hvs]; omega)]; simp [hcl], .inr ⟨b, cap, _, by rw [hd1]; simp, Nat.zero_le _, setRow_heap w b cur _ et _ f2, by simpa using f3, f4, by simp [hrl, f5], ?_⟩⟩
        apply List.ext_getElem?
        intro q
        rw [repl_get _ _ _ _ (by simp [hvs]; omega), List.getElem?_take]
        simp only [List.length_set]
        by_cases hq : q < o.xs.length * o.sz
        · rw [if_pos hq, repl_get _ _ _ _ (by simp [hvs]; omega)]
          split
          · rfl
          · rw [← f6, List.getElem?_take, if_pos hq]
        · rw [if_neg hq, if_neg (by simp [hvs]; omega), List.getElem?_eq_none (by omega)]
      · rw [hflat]
        exact (o3.ext hst.ext).repl (hcx.1.ext hst.ext) (by rw [flat_length o4]; omega)
      · rcases List.mem_or_eq_of_mem_set hy with h1 | h1
        · exact o4 y h1
        · rw [h1]; exact hx'l
      · obtain ⟨q, hq⟩ := List.getElem?_of_mem hu
        rw [repl_get _ _ _ _ (by simp [hvs]; omega)] at hq
        split at hq
        · exact hcx.2 u (List.mem_of_getElem? hq)
        · exact o5 u (List.mem_of_getElem? hq)
      · rw [hd1] at hb'
        cases hb'
        exact ⟨hOc.1, by simp [hOc.2]⟩
    refine ⟨_, g, _, run_storeAt hi f2 hvs (by omega) hcx.2, hK, ?_, hst.ext, hst.kept⟩
    refine h.step hst hwf h.size h.defers (fun q => .inl ⟨rfl, rfl, fun _ _ => rfl, fun _ _ => rfl, by simp⟩) (fun q o ho => .inl ⟨ho, rfl, by simp, by simp⟩) (fun q o' ho => ?_) (fun q o ho => .inl ⟨ho, by simp, by simp⟩)
    dsimp only at ho
    by_cases hq : q = k
    · subst hq
      rw [upd_same] at ho; cases ho
      right
      dsimp only
      rw [hsh]
      exact hown
    · rw [upd_ne _ _ hq] at ho
      exact .inl ⟨ho, rfl, by simpa using hq⟩
  · exact hK.elim

theorem setArr_ok (h : Rel Ev g n s a w) {r sz e off : Nat} {x : TV} {v pv : Value} (hx : g.VV w x v) {t : TypeId} {i : TyI} (hi : T.ty t = some i) (hp : pv = .pointer (some ⟨g.ρ r, e * sz + off, none⟩)) (hK : setArr s r sz e off i.sz x K) :
    ∃ s' g' w', (Instr.storeAt t pv v).run P w = .ok () w' ∧ K s' ∧ Rel Ev g' n s' a w' ∧ Ext g w g' w' ∧ Kept g w g' w' := by
  unfold setArr at hK
  simp only [chkb_iff, Bool.and_eq_true, decide_eq_true_iff] at hK
  obtain ⟨cap, xs, hH, ⟨hle, hxl, hsz0⟩, he, hK⟩ := hK
  subst hp
  obtain ⟨cur, et, cells, q1, f2, q3, f5, f3, f4, f6, o3, o4, o5⟩ := h.heap r _ hH
  have hcx := hx.cells
  have hvs : v.cells.size = i.sz := by have := hcx.1.1; simp at this; omega
  have hmul : e * sz + sz ≤ xs.length * sz := by rw [← Nat.succ_mul]; exact Nat.mul_le_mul_right _ he
  have hcap : xs.length * sz ≤ cap * sz := Nat.mul_le_mul_right _ f3
  have hcl : cells.length = xs.length * sz := by rw [o3.1, flat_length o4]
  obtain ⟨hst, hwf⟩ := Step.setRow h.wf q1 (by simp) q3 (repl cur.toList (e * sz + off) v.cells.toList).toArray
  have hrl : (repl cur.toList (e * sz + off) v.cells.toList).length = cur.size := by rw [repl_length _ _ _ (by simp [hvs]; omega)]; simp
  have hvl : v.cells.toList.length = x.cells.length := hcx.1.1
  have hxe := getD_some he default
  have hel := o4 _ (List.mem_of_getElem? hxe)
  let x' : TV := if i.sz = sz then x else .agg (repl (xs.getD e default).cells off x.cells)
  have hx'l : x'.cells.length = sz := by
    simp only [x']
    split
    · rename_i hh; rw [hxl, hh]
    · show (repl _ _ _).length = _
      rw [repl_length _ _ _ (by omega)]; exact hel
  have hflat : flat (xs.set e x') = repl (flat xs) (e * sz + off) x.cells := by
    rw [flat_set o4 he hx'l]
    simp only [x']
    split
    · rename_i hh
      have : off = 0 := by omega
      rw [this, Nat.add_zero]
    · show repl _ _ (repl _ _ _) = _
      refine repl_repl _ _ _ _ _ (by rw [flat_length o4, hel]; omega) (by omega) (fun q hq => ?_)
      rw [← List.getElem?_drop, flat_at o4 hxe, List.getElem?_append_left hq]
  have hown : RefR g (w.setRow (g.ρ r) (repl cur.toList (e * sz + off) v.cells.toList).toArray) r (.arr sz cap (xs.set e x')) := by
    refine ⟨_, et, repl cells (e * sz + off) v.cells.toList, q1, setRow_heap w _ cur _ et _ f2, q3, by simp [hrl, f5], by simpa using f3, f4, ?_, ?_, fun y hy => ?_, fun u hu => ?_⟩
    · apply List.ext_getElem?
      intro q
      rw [repl_get _ _ _ _ (by simp [hvs]; omega), List.getElem?_take]
      simp only [List.length_set]
      by_cases hq : q < xs.length * sz
      · rw [if_pos hq, repl_get _ _ _ _ (by simp [hvs]; omega)]
        split
        · rfl
        · rw [← f6, List.getElem?_take, if_pos hq]
      · rw [if_neg hq, if_neg (by simp [hvs]; omega), List.getElem?_eq_none (by omega)]
    · rw [hflat]
      exact (o3.ext hst.ext).repl (hcx.1.ext hst.ext) (by rw [flat_length o4]; omega)
    · rcases List.mem_or_eq_of_mem_set hy with h1 | h1
      · exact o4 y h1
      · rw [h1]; exact hx'l
    · obtain ⟨q, hq⟩ := List.getElem?_of_mem hu
      rw [repl_get _ _ _ _ (by simp [hvs]; omega)] at hq
      split at hq
      · exact hcx.2 u (List.mem_of_getElem? hq)
      · exact o5 u (List.mem_of_getElem? hq)
  refine ⟨_, g, _, run_storeAt hi f2 hvs (by omega) hcx.2, hK, ?_, hst.ext, hst.kept⟩
  refine h.step hst hwf h.size h.defers (fun q => .inl ⟨rfl, rfl, fun _ _ => rfl, fun _ _ => rfl, by simp⟩) (fun q o ho => .inl ⟨ho, rfl, by simp, by simp⟩) (fun q o ho => .inl ⟨ho, rfl, by simp⟩) (fun q o ho => ?_)
  dsimp only at ho
  by_cases hq : q = r
  · subst hq
    rw [upd_same] at ho; cases ho
    exact .inr hown
  · rw [upd_ne _ _ hq] at ho
    exact .inl ⟨ho, by simpa using hq, by simp⟩

theorem tstore_ok (h : Rel Ev g n s a w) {hint : TypeId → List Nat} {t : TypeId} {p x : Operand} (hK : tstore T hint s t p x K) :
    AOk P Ev n g w a { dst := none, op := .store t p x, type := ty, pos, after, guard := gd } K := by
  have fin : ∀ {g1 : Gh} {s1 : TS}, Ext g w g1 w → Kept g w g1 w → (∃ s' g' w', (Instr.storeAt t (a.eval p) (a.eval x)).run P w = .ok () w' ∧ K s' ∧ Rel Ev g' n s' a w' ∧ Ext g1 w g' w' ∧ Kept g1 w g' w') →
      AOk P Ev n g w a { dst := none, op := .store t p x, type := ty, pos, after, guard := gd } K := by
    intro g1 s1 hx hk ⟨s', g', w', r1, r2, r3, r4, r5⟩
    exact ⟨.skip, undef, w', g', s', by simp [execOp, r1], .inr ⟨rfl, rfl⟩, r2, r3, hx.trans r4, hk.trans r5⟩
  have hP := evs_rel h p
  have hX := evs_rel h x
  unfold tstore at hK
  simp only [chk_iff] at hK
  split at hK
  · rename_i i hi
    split at hK
    · rename_i d off e
      rw [e] at hP
      simp only [SVR] at hP
      split at hK
      · rename_i hV
        obtain ⟨cs, s1, g1, ⟨k1, k2⟩, r1, st1, c1⟩ := asCells_ok h hX hK (fun j => .vcell d (off + j)) (by simp) (by simp)
        have hr := setVar_ok r1 (v := a.eval x) c1 k2 hi k1
        rw [st1.β] at hr
        rw [← hP] at hr
        exact fin (s1 := s1) st1.ext st1.kept hr
      · rename_i r hV
        obtain ⟨cs, s1, g1, ⟨k1, k2⟩, r1, st1, c1⟩ := asCells_ok h hX hK (fun j => .cell r (off + j)) (by simp) (by simp)
        have hr := setRef_ok r1 (v := a.eval x) c1 k2 hi k1
        obtain ⟨e1, e2⟩ := h.vars d _ hV
        rw [(st1.ext.ref r e2).1, ← e1, ← hP] at hr
        exact fin (s1 := s1) st1.ext st1.kept hr
      · exact hK.elim
    · rename_i r off e
      rw [e] at hP
      simp only [SVR] at hP
      obtain ⟨cs, s1, g1, ⟨k1, k2⟩, r1, st1, c1⟩ := asCells_ok h hX hK (fun j => .cell r (off + j)) (by simp) (by simp)
      have hr := setRef_ok r1 (v := a.eval x) c1 k2 hi k1
      have hpe : a.eval p = .pointer (some ⟨g.ρ r, off, none⟩) ∧ g.O (g.ρ r) = some (.ref r) := by
        generalize a.eval p = vp at hP
        cases hP with
        | ptr _ _ h0 => exact ⟨rfl, h0⟩
      rw [(st1.ext.ref r hpe.2).1, ← hpe.1] at hr
      exact fin (s1 := s1) st1.ext st1.kept hr
    · rename_i k sz el off e
      rw [e] at hP
      obtain ⟨tv, s1, g1, k1, r1, st1, v1, e1⟩ := asTV_ok h hX hK
      have hP1 : SVR g1 w (slotOf p) (.hp k sz el off) (a.eval p) := hP.gstep st1
      exact fin (s1 := s1) st1.ext st1.kept (setElem_ok r1 v1 hi hP1 k1)
    · rename_i r sz el off e
      rw [e] at hP
      simp only [SVR] at hP
      obtain ⟨tv, s1, g1, k1, r1, st1, v1, e1⟩ := asTV_ok h hX hK
      have hpe : a.eval p = .pointer (some ⟨g.ρ r, el * sz + off, none⟩) ∧ g.O (g.ρ r) = some (.ref r) := by
        generalize a.eval p = vp at hP
        cases hP with
        | aptr _ _ _ _ h0 => exact ⟨rfl, h0⟩
      exact fin (s1 := s1) st1.ext st1.kept (setArr_ok r1 v1 hi (by rw [(st1.ext.ref r hpe.2).1]; exact hpe.1) k1)
    · exact hK.elim
  · exact hK.elim

end
end Go.T
set_option linter.unusedVariables false
set_option linter.unusedSimpArgs false
namespace Go.T
open Go.RowKit

/-- What a call hands back. -/
inductive RV where
  | t (x : TV)
  | own (sz : Nat) (xs : List TV)
  | nils
  | tup (ts : List TV)
inductive TOut where
  | ret (r : RV)
  | panic (x : TV)

def RVR (g : Gh) (w : World) : RV → Value → Prop
  | .t x, v => g.VV w x v
  | .own sz xs, v => OwnR g w (.res 0) true sz xs v
  | .nils, v => v = .slice none 0 0
  | .tup ts, v => ∃ vs, v = .tuple vs ∧ VVs g w ts vs.toList
def OutR (g : Gh) (w : World) : TOut → Ending → Prop
  | .ret r, .returned v => RVR g w r v
  | .panic x, .panicked ch => ∃ v, ch = [{ v, recovered := false }] ∧ g.VV w x v
  | _, _ => False

/-- A function that has a body, and is none that the machine takes apart. -/
def Enters (P : Program) (f : FuncId) : Prop := ∃ fn, P.funcs[f]? = some fn ∧ (fn.name == "runtime.NumGoroutine") = false ∧ fn.body.isNone = false

/-- A function's contract over trees. -/
def TCalls (P : Program) (Ev : Env) (f : FuncId) (args : List TV) (H : Nat → Option RObj) (K : TOut → (Nat → Option RObj) → Prop) : Prop :=
  Enters P f ∧ ∀ (g : Gh) (w : World) (vs : Array Value), RelH Ev g H w → VVs g w args vs.toList →
    Calls P f vs w fun e w' => ∃ o H' g', K o H' ∧ RelH Ev g' H' w' ∧ Ext g w g' w' ∧ Kept g w g' w' ∧ OutR g' w' o e

theorem TCalls.mono {P : Program} {Ev : Env} {f : FuncId} {args : List TV} {H : Nat → Option RObj} {K K' : TOut → (Nat → Option RObj) → Prop} (h : TCalls P Ev f args H K) (hk : ∀ o H', K o H' → K' o H') : TCalls P Ev f args H K' :=
  ⟨h.1, fun g w vs hr hv => (h.2 g w vs hr hv).mono fun e w' ⟨o, H', g', k, r⟩ => ⟨o, H', g', hk o H' k, r⟩⟩

def Loc.own : Loc → Bool
  | .outer | .ref _ | .cell _ _ => false
  | _ => true
/-- What a callee knows of blocks. -/
def calleeO (g : Gh) : Gh := { g with O := fun b => match g.O b with
    | some L => if L.own then some .outer else some L
    | none => none }
/-- What the caller knows of them again. -/
def backO (g g' : Gh) (d : Option Nat) : Gh := { g' with
    O := fun b => match g.O b with
      | some L => if L.own then some L else relab d (g'.O b)
      | none => relab d (g'.O b)
    β := g.β, hd := g.hd }
where relab (d : Option Nat) : Option Loc → Option Loc
  | some (.ref i) => some (.ref i)
  | some (.cell i j) => some (.cell i j)
  | some .outer => some .outer
  | some (.res _) => d.map .arr
  | _ => none

section
variable {Ev : Env} {P : Program} {T : Tab P} {g g' : Gh} {n : Nat} {s s' : TS} {a a' : Act} {w w' : World} {X : Loc → Prop} {K : TS → Prop} {ty : TypeId} {d : Option Tmp} {pos : String} {after : Array Edge} {gd : Option (Nat × Bool)}

theorem calleeO_ref (i : Nat) (h : g.O (g.ρ i) = some (.ref i)) : (calleeO g).O (g.ρ i) = some (.ref i) := by simp [calleeO, h, Loc.own]
theorem calleeO_ext (g : Gh) (w : World) : Ext g w (calleeO g) w := ⟨fun _ => Nat.le_refl _, fun _ _ _ => rfl, fun i h => ⟨rfl, calleeO_ref i h⟩⟩

/-- A cell of a thing of the heap, of which more is known. -/
theorem CVR.relab {L : Loc} (hx : Ext g w g' w) (hO : ∀ b, g.O b = some L → g'.O b = some L ∧ g'.c b = g.c b) {x : CV} {v : Value} (h : CVR g w L x v) : CVR g' w L x v := by
  cases x with
  | v t => exact ⟨h.1.ext hx, h.2⟩
  | own sz xs =>
    obtain ⟨e, cells, o1, o2, o3, o4, o5⟩ := h
    exact ⟨e, cells, o1, o2.ext hx, o3, o4, fun b hb => ⟨(hO b (o5 b hb).1).1, (hO b (o5 b hb).1).2.trans (o5 b hb).2⟩⟩
  | nils => exact h

theorem RefR.relab (hx : Ext g w g' w) (hO : ∀ b L, (∃ i, L = .ref i) ∨ (∃ i j, L = .cell i j) → g.O b = some L → g'.O b = some L ∧ g'.c b = g.c b) {i : Nat} {o : RObj} (h : RefR g w i o) : RefR g' w i o := by
  cases o with
  | cells cs =>
    obtain ⟨vals, e, h1, h2, h3, h4⟩ := h
    have := hO _ _ (.inl ⟨i, rfl⟩) h1
    unfold RefR
    rw [(hx.ref i h1).1]
    exact ⟨vals, e, this.1, h2, this.2.trans h3, h4.imp fun j x v hc => hc.relab hx (fun b hb => hO b _ (.inr ⟨i, j, rfl⟩) hb)⟩
  | map es =>
    obtain ⟨ents, clock, h1, h2, h3, h4, h5⟩ := h
    have := hO _ _ (.inl ⟨i, rfl⟩) h1
    unfold RefR
    rw [(hx.ref i h1).1]
    exact ⟨ents, clock, this.1, h2, this.2.trans h3, h4, fun j x en k1 k2 => ⟨(h5 j x en k1 k2).1.ext hx, (h5 j x en k1 k2).2.ext hx⟩⟩
  | arr sz cap xs =>
    obtain ⟨vals, e, cs, h1, h2, h3, h4, h5, h6, h7, h8, h9, h10⟩ := h
    have := hO _ _ (.inl ⟨i, rfl⟩) h1
    unfold RefR
    rw [(hx.ref i h1).1]
    exact ⟨vals, e, cs, this.1, h2, this.2.trans h3, h4, h5, h6, h7, h8.ext hx, h9, h10⟩

theorem Rel.callee (h : Rel Ev g n s a w) : RelH Ev (calleeO g) s.H w := {
  heap i o ho := (h.heap i o ho).relab (calleeO_ext g w) fun b L hL hO => by
    refine ⟨?_, rfl⟩
    rcases hL with ⟨i, rfl⟩ | ⟨i, j, rfl⟩ <;> simp [calleeO, hO, Loc.own]
  wf := {
    new := fun b hb => ⟨by simp [calleeO, (h.wf.new b hb).1], (h.wf.new b hb).2⟩
    low := fun b hb => by simp [calleeO, h.wf.low b hb]
    lo := h.wf.lo
    env := h.wf.env
    m := by
      obtain ⟨m, hm⟩ := h.wf.m
      refine ⟨m, fun i hi => ?_⟩
      have := hm i hi
      simp only [calleeO]
      split
      · rename_i L hL
        rw [hL] at this
        split
        · simp
        · exact this
      · simp } }

/-- Behind a call: the caller's own is as it was. -/
theorem Rel.back (h : Rel Ev g n s a w) {H' : Nat → Option RObj} (hr : RelH Ev g' H' w') (hx : Ext (calleeO g) w g' w') (hk : Kept (calleeO g) w g' w') (d : Option Nat) :
    Step (fun L => L.own = false ∧ L ≠ .outer) g w (backO g g' d) w' ∧ Ext g' w' (backO g g' d) w' ∧ Wf Ev (backO g g' d) w' ∧ (∀ i o, H' i = some o → RefR (backO g g' d) w' i o) ∧
      Rel Ev (backO g g' d) n { s with H := H' } a w' := by
  have hlt : ∀ b L, g.O b = some L → b < w.heap.size := fun b L hL => by
    rcases Nat.lt_or_ge b w.heap.size with h' | h'
    · exact h'
    · rw [(h.wf.new b h').1] at hL; cases hL
  -- what is one's own, or outside, is kept
  have kown : ∀ b L, g.O b = some L → L.own = true ∨ L = .outer → w'.heap[b]? = w.heap[b]? ∧ g'.O b = some .outer ∧ g'.c b = g.c b := by
    intro b L hL ho
    have hc : (calleeO g).O b = some .outer := by
      rcases ho with ho | ho
      · simp [calleeO, hL, ho]
      · simp [calleeO, hL, ho, Loc.own]
    obtain ⟨e1, e2, e3⟩ := hk.block b (hlt b L hL) (.inr hc)
    exact ⟨e1, e2.trans hc, e3⟩
  have knone : ∀ b, b < w.heap.size → g.O b = none → w'.heap[b]? = w.heap[b]? ∧ g'.O b = none ∧ g'.c b = g.c b := by
    intro b hb hO
    have hc : (calleeO g).O b = none := by simp [calleeO, hO]
    obtain ⟨e1, e2, e3⟩ := hk.block b hb (.inl hc)
    exact ⟨e1, e2.trans hc, e3⟩
  have keep : ∀ b L, (∃ i, L = .ref i) ∨ (∃ i j, L = .cell i j) → g'.O b = some L → (backO g g' d).O b = some L := by
    intro b L hL hO
    simp only [backO]
    split
    · rename_i L' hL'
      split
      · rename_i ho
        have := (kown b L' hL' (.inl ho)).2.1
        rw [hO] at this
        rcases hL with ⟨i, rfl⟩ | ⟨i, j, rfl⟩ <;> cases this
      · rw [hO]; rcases hL with ⟨i, rfl⟩ | ⟨i, j, rfl⟩ <;> rfl
    · rw [hO]; rcases hL with ⟨i, rfl⟩ | ⟨i, j, rfl⟩ <;> rfl
  have hx2 : Ext g' w' (backO g g' d) w' := ⟨fun _ => Nat.le_refl _, fun _ _ _ => rfl, fun i hi => ⟨rfl, keep _ _ (.inl ⟨i, rfl⟩) hi⟩⟩
  have hxx : Ext g w (backO g g' d) w' := ((calleeO_ext g w).trans hx).trans hx2
  have hst : Step (fun L => L.own = false ∧ L ≠ .outer) g w (backO g g' d) w' := by
    refine ⟨hxx, ⟨hk.os, hk.tape, hk.output, hk.size, fun b hb ho => ?_⟩, fun b L hL hX => ?_⟩
    · rcases ho with ho | ho
      · obtain ⟨e1, e2, e3⟩ := knone b hb ho
        refine ⟨e1, ?_, e3⟩
        simp only [backO, ho, e2, backO.relab]
      · obtain ⟨e1, e2, e3⟩ := kown b _ ho (.inr rfl)
        refine ⟨e1, ?_, e3⟩
        simp only [backO, ho, Loc.own, e2, backO.relab, Bool.false_eq_true, if_false]
    · have ho : L.own = true ∨ L = .outer := by
        by_cases h1 : L.own = true
        · exact .inl h1
        · by_cases h2 : L = .outer
          · exact .inr h2
          · exact absurd ⟨by simpa using h1, h2⟩ hX
      obtain ⟨e1, e2, e3⟩ := kown b L hL ho
      refine ⟨e1, ?_, e3⟩
      simp only [backO, hL, e2]
      rcases ho with ho | ho
      · simp [ho]
      · subst ho; simp [Loc.own, backO.relab]
  have hwf : Wf Ev (backO g g' d) w' := h.wf.kept hst.kept (fun b hb => by
    have h1 := hr.wf.new b hb
    have h2 := h.wf.new b (Nat.le_trans hk.size hb)
    exact ⟨by simp [backO, h2.1, h1.1, backO.relab], h1.2⟩) (by
    obtain ⟨m, hm⟩ := hr.wf.m
    refine ⟨m, fun i hi => ?_⟩
    have hmi := hm i hi
    have hrel : backO.relab d (g'.O (g'.ρ i)) ≠ some (.ref i) := by
      cases hO : g'.O (g'.ρ i) with
      | none => simp [backO.relab]
      | some L =>
        rw [hO] at hmi
        cases L <;> simp [backO.relab] <;> first | (intro h; apply hmi; rw [h]) | (cases d <;> simp)
    simp only [backO]
    split
    · split
      · rename_i L hL ho
        intro e; cases e; simp [Loc.own] at ho
      · exact hrel
    · exact hrel)
  have hheap : ∀ i o, H' i = some o → RefR (backO g g' d) w' i o := fun i o ho => (hr.heap i o ho).relab hx2 fun b L hL hO => ⟨keep b L hL hO, rfl⟩
  refine ⟨hst, hx2, hwf, hheap, ?_⟩
  exact h.step hst hwf h.size h.defers (fun q => .inl ⟨rfl, rfl, fun _ _ => rfl, fun _ _ => rfl, by simp [Loc.own]⟩) (fun q o ho => .inl ⟨ho, rfl, by simp [Loc.own], by simp [Loc.own]⟩) (fun q o ho => .inl ⟨ho, rfl, by simp [Loc.own]⟩)
    (fun i o ho => .inr (hheap i o ho))

end
end Go.T
