/-
  The layer T, part 18: a cell's array is taken back to append to it; calls; every operation.
  The layer T, part 19: calls; functions as values; parts of results; every operation.
  The layer T, part 20: every operation; regions whose order is the text's.
  The layer T, part 21: code; loops; functions.
  The layer T, part 22: regions of which the order is drawn: an operation that only reads may be done first.
  The layer T, part 23: regions of which the order is drawn, by a plan.
  The layer T, part 24: a table of types that is checked by the kernel.
  The layer T, part 25: what proofs over it use.
  The layer T, part 26: less that is known of the heap; arrays of the heap that are written no more.
-/
import Derived.Test.YtggflojpgncjlaaGreatDoorTb
import Derived.Orders
import Derived.KernelRfl
import Derived.Scope
set_option linter.unusedVariables false
set_option linter.unusedSimpArgs false
set_option linter.unusedSectionVars false
set_option linter.unusedVariables false
set_option linter.unusedSimpArgs false
namespace Go.T
open Go.RowKit

/-- What is left to be shown. -/
inductive Hold (p : Prop) : Prop where
  | mk (h : p)
theorem Hold.get {p : Prop} : Hold p → p | .mk h => h

/-- How code goes on. -/
inductive XT where
  | normal | exit (id : Nat) | goto (l : Nat) | ret | panic (x : TV)

def TS.setV (s : TS) (k : Nat) (cs : List CV) : TS := { s with V := upd s.V k (some (.cells cs)) }
def TS.setH (s : TS) (i : Nat) (cs : List CV) : TS := { s with H := upd s.H i (some (.cells cs)) }

section
variable {Ev : Env} {P : Program} {T : Tab P} {g g' : Gh} {n : Nat} {s s' : TS} {a a' : Act} {w w' : World} {X : Loc → Prop} {K : TS → Prop} {ty : TypeId} {d : Option Tmp} {pos : String} {after : Array Edge} {gd : Option (Nat × Bool)}

theorem CellsR.take {b : Nat} {L : Loc} {Lc : Nat → Loc} {cs : List CV} {j sz : Nat} {xs : List TV} (h : CellsR g w b L Lc cs) (hj : cs[j]? = some (.own sz xs)) (inj : ∀ q, Lc q = Lc j → q = j) (hL : L ≠ Lc j) {g' : Gh} (hst : Step (· = Lc j) g w g' w) :
    CellsR g' w b L Lc (cs.set j (.v (.sl sz xs))) := by
  obtain ⟨vals, e, h1, h2, h3, h4, h5⟩ := h
  obtain ⟨a1, a2, a3⟩ := hst.blk b L h1 hL
  refine ⟨vals, e, a2, h2, a3.trans h3, by simp [h4], fun q x v hx hv => ?_⟩
  by_cases e : q = j
  · subst e
    have hlt : q < cs.length := by
      rcases Nat.lt_or_ge q cs.length with h' | h'
      · exact h'
      · simp [List.getElem?_eq_none h'] at hj
    rw [List.getElem?_set_self hlt] at hx
    cases hx
    have ho : CVR g w (Lc q) (.own sz xs) v := h5 q _ v hj hv
    have hv' := CVR.view (L' := Lc q) ho
    exact ⟨hv'.1.ext hst.ext, hv'.2⟩
  · rw [List.getElem?_set_ne (Ne.symm e)] at hx
    exact (h5 q x v hx hv).step hst (fun hh => e (inj q hh))

/-- Another name for the blocks of a place. -/
def Gh.ren (g : Gh) (A B : Loc) : Gh := { g with O := fun b => if g.O b = some A then some B else g.O b }
theorem Step.ren (hw : Wf Ev g w) {A B : Loc} (hA : A ≠ .outer) (hB : ∀ i, B ≠ .ref i) (hA2 : ∀ i, A ≠ .ref i) : Step (· = A) g w (g.ren A B) w ∧ Wf Ev (g.ren A B) w := by
  have hst : Step (· = A) g w (g.ren A B) w := by
    refine Step.ghost hw (fun b L hL => ?_) (fun b hb => ⟨by simp [Gh.ren, hb], rfl⟩) (fun b => Nat.le_refl _) (fun i hi => ⟨rfl, ?_⟩)
    · by_cases e : L = A
      · exact .inl ⟨e, by rw [e]; exact hA⟩
      · exact .inr ⟨by simp [Gh.ren, hL, e], rfl⟩
    · simp only [Gh.ren, hi]
      rw [if_neg (fun e => hA2 i (by cases e; rfl))]
  refine ⟨hst, hw.kept hst.kept (fun b hb => ?_) ?_⟩
  · have := hw.new b hb
    exact ⟨by simp [Gh.ren, this.1], this.2⟩
  · obtain ⟨m, hm⟩ := hw.m
    refine ⟨m, fun i hi => ?_⟩
    simp only [Gh.ren]
    split
    · exact fun e => hB i (by cases e; rfl)
    · exact hm i hi
theorem OwnR.ren {A B : Loc} {sh : Bool} {sz : Nat} {xs : List TV} {v : Value} (h : OwnR g w A sh sz xs v) (hx : Ext g w (g.ren A B) w) : OwnR (g.ren A B) w B sh sz xs v := by
  obtain ⟨e, cells, o1, o2, o3, o4, o5⟩ := h
  exact ⟨e, cells, o1, o2.ext hx, o3, o4, fun b hb => ⟨by simp [Gh.ren, (o5 b hb).1], (o5 b hb).2⟩⟩

theorem noStep (hw : Wf Ev g w) (f : Nat → Value) : Step (fun _ => False) g w { g with hd := f } w ∧ Wf Ev { g with hd := f } w :=
  ⟨⟨⟨fun _ => Nat.le_refl _, fun _ _ _ => rfl, fun _ h => ⟨rfl, h⟩⟩, ⟨rfl, rfl, rfl, Nat.le_refl _, fun _ _ _ => ⟨rfl, rfl, rfl⟩⟩, fun _ _ h _ => ⟨rfl, h, rfl⟩⟩, ⟨hw.new, hw.low, hw.lo, hw.env, hw.m⟩⟩

/-- An array that is had, and is not yet in a slot. -/
theorem Rel.adoptA (h : Rel Ev g n s a w) {d : Nat} (hd : d < n) {sz : Nat} {xs : List TV} {v : Value} (ho : OwnR g w (.arr d) true sz xs v) :
    ∃ g', Rel Ev g' n (s.newA d ⟨sz, true, xs⟩) (a.put (some d) v) w ∧ Ext g w g' w ∧ Kept g w g' w := by
  obtain ⟨hs, hw⟩ := noStep h.wf (upd g.hd d v)
  have ho' : OwnR { g with hd := upd g.hd d v } w (.arr d) true sz xs v := ho.step hs (fun h => h)
  exact ⟨_, h.newA hd hs hw (fun _ h => h.elim) (fun k hk => upd_ne _ _ hk) rfl (upd_same _ _ _) ho', hs.ext, hs.kept⟩

theorem Rel.takeV (h : Rel Ev g n s a w) {d k j sz : Nat} (hd : d < n) {cs : List CV} {xs : List TV} {v : Value} (hV : s.V k = some (.cells cs)) (hj : cs[j]? = some (.own sz xs)) (hv : w.cell? ⟨g.β k, j, none⟩ = some v) :
    ∃ g', Rel Ev g' n (((s.dropA d).setV k (cs.set j (.v (.sl sz xs)))).newA d ⟨sz, true, xs⟩) (a.put (some d) v) w ∧ Ext g w g' w ∧ Kept g w g' w := by
  have h0 := h.dropA d
  have hvar : CellsR g w (g.β k) (.var k) (.vcell k) cs := h.vars k _ hV
  have hown : OwnR g w (.vcell k j) true sz xs v := by
    obtain ⟨v', hv', hc⟩ := hvar.at_ hj
    rw [hv] at hv'; cases hv'
    exact hc
  obtain ⟨hst, hwf⟩ := Step.ren (A := .vcell k j) (B := .arr d) h.wf (by simp) (by simp) (by simp)
  have h1 : Rel Ev (g.ren (.vcell k j) (.arr d)) n ((s.dropA d).setV k (cs.set j (.v (.sl sz xs)))) a w := by
    refine h0.step hst hwf h.size h.defers (fun q => .inl ⟨rfl, rfl, fun _ _ => rfl, fun _ _ => rfl, by simp⟩) (fun q o ho => ?_) (fun q o ho => .inl ⟨ho, rfl, by simp⟩) (fun i o ho => .inl ⟨ho, by simp, by simp⟩)
    simp only [TS.setV] at ho
    by_cases e : q = k
    · subst e
      rw [upd_same] at ho; cases ho
      exact .inr (hvar.take hj (fun q h => by cases h; rfl) (by simp) hst)
    · rw [upd_ne _ _ e] at ho
      exact .inl ⟨ho, rfl, by simp, by simp [e]⟩
  obtain ⟨g', m1, m2, m3⟩ := h1.adoptA hd (hown.ren hst.ext)
  exact ⟨g', m1, hst.ext.trans m2, hst.kept.trans m3⟩

theorem Rel.takeH (h : Rel Ev g n s a w) {d i j sz : Nat} (hd : d < n) {cs : List CV} {xs : List TV} {v : Value} (hH : s.H i = some (.cells cs)) (hj : cs[j]? = some (.own sz xs)) (hv : w.cell? ⟨g.ρ i, j, none⟩ = some v) :
    ∃ g', Rel Ev g' n (((s.dropA d).setH i (cs.set j (.v (.sl sz xs)))).newA d ⟨sz, true, xs⟩) (a.put (some d) v) w ∧ Ext g w g' w ∧ Kept g w g' w := by
  have h0 := h.dropA d
  have hvar : CellsR g w (g.ρ i) (.ref i) (.cell i) cs := h.heap i _ hH
  have hown : OwnR g w (.cell i j) true sz xs v := by
    obtain ⟨v', hv', hc⟩ := hvar.at_ hj
    rw [hv] at hv'; cases hv'
    exact hc
  obtain ⟨hst, hwf⟩ := Step.ren (A := .cell i j) (B := .arr d) h.wf (by simp) (by simp) (by simp)
  have h1 : Rel Ev (g.ren (.cell i j) (.arr d)) n ((s.dropA d).setH i (cs.set j (.v (.sl sz xs)))) a w := by
    refine h0.step hst hwf h.size h.defers (fun q => .inl ⟨rfl, rfl, fun _ _ => rfl, fun _ _ => rfl, by simp⟩) (fun q o ho => .inl ⟨ho, rfl, by simp, by simp⟩) (fun q o ho => .inl ⟨ho, rfl, by simp⟩) (fun q o ho => ?_)
    simp only [TS.setH] at ho
    by_cases e : q = i
    · subst e
      rw [upd_same] at ho; cases ho
      exact .inr (hvar.take hj (fun q h => by cases h; rfl) (by simp) hst)
    · rw [upd_ne _ _ e] at ho
      exact .inl ⟨ho, by simp, by simp [e]⟩
  obtain ⟨g', m1, m2, m3⟩ := h1.adoptA hd (hown.ren hst.ext)
  exact ⟨g', m1, hst.ext.trans m2, hst.kept.trans m3⟩
end

/-- A slice that is appended to is loaded: it is taken out of its cell. -/
def takeC (c : Option CV) (own : Nat → List TV → Prop) (nil : Prop) (oth : TV → Prop) : Prop :=
  match c with
  | some (.own sz xs) => own sz xs
  | some .nils => nil
  | some (.v t) => oth t
  | none => False
def ttake {P : Program} (T : Tab P) (s : TS) (t : TypeId) (d : Nat) (x : Operand) (K : TS → Prop) : Prop :=
  match kindOf T t with
  | some (.slice e) =>
    match T.ty e with
    | some ei =>
      match evs s x with
      | .lp k j => match s.V k with
        | some (.cells cs) => takeC cs[j]? (fun sz xs => K (((s.dropA d).setV k (cs.set j (.v (.sl sz xs)))).newA d ⟨sz, true, xs⟩)) (K (s.newA d ⟨ei.sz, false, []⟩)) (fun t => K (s.put d (.t t)))
        | some (.esc i) => ∃ cs, s.H i = some (.cells cs) ∧ takeC cs[j]? (fun sz xs => K (((s.dropA d).setH i (cs.set j (.v (.sl sz xs)))).newA d ⟨sz, true, xs⟩)) (K (s.newA d ⟨ei.sz, false, []⟩)) (fun t => K (s.put d (.t t)))
        | none => False
      | .t (.ptr i j) => ∃ cs, s.H i = some (.cells cs) ∧ takeC cs[j]? (fun sz xs => K (((s.dropA d).setH i (cs.set j (.v (.sl sz xs)))).newA d ⟨sz, true, xs⟩)) (K (s.newA d ⟨ei.sz, false, []⟩)) (fun t => K (s.put d (.t t)))
      | _ => False
    | none => False
  | _ => False

section
variable {Ev : Env} {P : Program} {T : Tab P} {g g' : Gh} {n : Nat} {s s' : TS} {a a' : Act} {w w' : World} {X : Loc → Prop} {K : TS → Prop} {ty : TypeId} {d : Tmp} {pos : String} {after : Array Edge} {gd : Option (Nat × Bool)}

theorem ttake_ok (h : Rel Ev g n s a w) (hd : d < n) {t : TypeId} {x : Operand} (hK : ttake T s t d x K) : AOk P Ev n g w a { dst := some d, op := .load t x, type := ty, pos, after, guard := gd } K := by
  unfold ttake at hK
  split at hK
  · rename_i e hk
    obtain ⟨i, hi, hdd⟩ := kindOf_some hk
    have hag : i.d.agg = false := by rw [hdd]; rfl
    split at hK
    · rename_i ei hei
      have hX := evs_rel h x
      -- what is loaded, and what is left
      have fin : ∀ {b j : Nat} {v : Value} {s1 : TS} {g1 : Gh}, a.eval x = .pointer (some ⟨b, j, none⟩) → w.cell? ⟨b, j, none⟩ = some v → Rel Ev g1 n s1 (a.put (some d) v) w → Ext g w g1 w → Kept g w g1 w → K s1 →
          AOk P Ev n g w a { dst := some d, op := .load t x, type := ty, pos, after, guard := gd } K := by
        intro b j v s1 g1 he hc hr hx hk hK
        refine ⟨_, v, w, g1, s1, ?_, .inl rfl, hK, hr, hx, hk⟩
        simp only [execOp, he, Sem.run_bind, run_loadAt_one hi hag hc, Result.andThen_ok, Sem.run_pure]
      have nil : ∀ {b j : Nat} {L : Loc} {Lc : Nat → Loc} {cs : List CV}, CellsR g w b L Lc cs → cs[j]? = some .nils → a.eval x = .pointer (some ⟨b, j, none⟩) → K (s.newA d ⟨ei.sz, false, []⟩) → AOk P Ev n g w a { dst := some d, op := .load t x, type := ty, pos, after, guard := gd } K := by
        intro b j L Lc cs hc hj he hK
        obtain ⟨v, hv, hv2⟩ := hc.at_ hj
        have hv2 : v = .slice none 0 0 := hv2
        subst hv2
        obtain ⟨g1, r1, r2, r3⟩ := h.nilA hd ei.sz
        exact fin he hv r1 r2 r3 hK
      have onH : ∀ {i j : Nat} {cs : List CV}, s.H i = some (.cells cs) → a.eval x = .pointer (some ⟨g.ρ i, j, none⟩) → takeC cs[j]? (fun sz xs => K (((s.dropA d).setH i (cs.set j (.v (.sl sz xs)))).newA d ⟨sz, true, xs⟩)) (K (s.newA d ⟨ei.sz, false, []⟩)) (fun t => K (s.put d (.t t))) →
          AOk P Ev n g w a { dst := some d, op := .load t x, type := ty, pos, after, guard := gd } K := by
        intro i j cs hH he hK
        have hc : CellsR g w (g.ρ i) (.ref i) (.cell i) cs := h.heap i _ hH
        unfold takeC at hK
        split at hK
        · rename_i sz xs hj
          obtain ⟨v, hv, _⟩ := hc.at_ hj
          obtain ⟨g1, r1, r2, r3⟩ := h.takeH hd hH hj hv
          exact fin he hv r1 r2 r3 hK
        · rename_i hj
          exact nil hc hj he hK
        · rename_i t hj
          obtain ⟨v, hv, hv2⟩ := hc.at_ hj
          exact fin he hv (h.put (x := .t t) hd hv2.1) (.refl g w) (.refl g w) hK
        · exact hK.elim
      split at hK
      · rename_i k j ex
        rw [ex] at hX
        simp only [SVR] at hX
        split at hK
        · rename_i cs hV
          have hc : CellsR g w (g.β k) (.var k) (.vcell k) cs := h.vars k _ hV
          unfold takeC at hK
          split at hK
          · rename_i sz xs hj
            obtain ⟨v, hv, _⟩ := hc.at_ hj
            obtain ⟨g1, r1, r2, r3⟩ := h.takeV hd hV hj hv
            exact fin hX hv r1 r2 r3 hK
          · rename_i hj
            exact nil hc hj hX hK
          · rename_i t hj
            obtain ⟨v, hv, hv2⟩ := hc.at_ hj
            exact fin hX hv (h.put (x := .t t) hd hv2.1) (.refl g w) (.refl g w) hK
          · exact hK.elim
        · rename_i q hV
          obtain ⟨cs, hH, hK⟩ := hK
          have := (h.vars k _ hV).1
          rw [this] at hX
          exact onH hH hX hK
        · exact hK.elim
      · rename_i q j ex
        rw [ex] at hX
        simp only [SVR] at hX
        obtain ⟨cs, hH, hK⟩ := hK
        have hX' : a.eval x = .pointer (some ⟨g.ρ q, j, none⟩) := by
          generalize a.eval x = v at hX
          cases hX; rfl
        exact onH hH hX' hK
      · exact hK.elim
    · exact hK.elim
  · exact hK.elim
end
end Go.T
set_option linter.unusedVariables false
set_option linter.unusedSimpArgs false
namespace Go.T
open Go.RowKit

def argL (hint : TypeId → List Nat) (s : TS) : List Operand → List TypeId → List (SV × List Nat)
  | [], _ => []
  | x :: xs, [] => (evs s x, []) :: argL hint s xs []
  | x :: xs, t :: ts => (evs s x, hint t) :: argL hint s xs ts

theorem argL_len (hint : TypeId → List Nat) (s : TS) : ∀ (xs : List Operand) (ts : List TypeId), (argL hint s xs ts).length = xs.length
  | [], _ => rfl
  | x :: xs, [] => by simp [argL, argL_len hint s xs []]
  | x :: xs, t :: ts => by simp [argL, argL_len hint s xs ts]
theorem argL_get (hint : TypeId → List Nat) (s : TS) : ∀ (xs : List Operand) (ts : List TypeId) (k : Nat) (p : SV × List Nat), (argL hint s xs ts)[k]? = some p → ∃ x, xs[k]? = some x ∧ p.1 = evs s x
  | [], _, k, p, h => by simp [argL] at h
  | x :: xs, [], 0, p, h => by simp [argL] at h; subst h; exact ⟨x, rfl, rfl⟩
  | x :: xs, t :: ts, 0, p, h => by simp [argL] at h; subst h; exact ⟨x, rfl, rfl⟩
  | x :: xs, [], k + 1, p, h => by
    obtain ⟨y, h1, h2⟩ := argL_get hint s xs [] k p (by simpa [argL] using h)
    exact ⟨y, by simpa using h1, h2⟩
  | x :: xs, t :: ts, k + 1, p, h => by
    obtain ⟨y, h1, h2⟩ := argL_get hint s xs ts k p (by simpa [argL] using h)
    exact ⟨y, by simpa using h1, h2⟩

/-- What a call hands back, into a slot. -/
def adopt (s : TS) (d : Option Nat) (r : RV) (K : TS → Prop) : Prop :=
  match r with
  | .t x => K (s.putO d (.t x))
  | .nils => K (s.putO d .nils)
  | .tup ts => K (s.putO d (.tup (ts.map .v)))
  | .own sz xs => match d with
    | some d => K (s.newA d ⟨sz, true, xs⟩)
    | none => K s

def tcall (P : Program) (Ev : Env) (hint : TypeId → List Nat) (s : TS) (d : Option Nat) (f : Operand) (args : List Operand) (ts : List TypeId) (K : TS → Prop) (Q : TV → TS → Prop) : Prop :=
  match evs s f with
  | .t (.fn (.func fid) fs cs) => asTVs s (argL hint s args ts) fun xs s1 =>
    Hold (TCalls P Ev fid (fs ++ xs ++ cs) s1.H fun o H' => match o with
      | .ret r => adopt { s1 with H := H' } d r K
      | .panic x => Q x { s1 with H := H' })
  | _ => False

def tmakeFunc (s : TS) (d : Nat) (fn : Fn) (first captured : List Operand) (K : TS → Prop) : Prop :=
  asTVs s (argL (fun _ => []) s (first ++ captured) []) fun xs s1 => K (s1.put d (.t (.fn fn (xs.take first.length) (xs.drop first.length))))

/-- A variable that is never changed. -/
def tboxI (hint : List Nat) (s : TS) (d : Nat) (x : Operand) (K : TS → Prop) : Prop := asTV s hint (evs s x) fun tv s1 => K (s1.put d (.ea tv.cells))
def textract (s : TS) (d : Option Nat) (x : Operand) (i : Nat) (K : TS → Prop) : Prop :=
  match evs s x with
  | .tup cs => match cs[i]? with
    | some c => K (s.putO d c.sv)
    | none => False
  | _ => False

/-- An operand as a value that is handed on, in its slot. -/
def tsee (hint : TypeId → List Nat) (s : TS) (t : TypeId) (x : Operand) (K : TS → Prop) : Prop :=
  match evs s x with
  | .t _ => K s
  | v => match x with
    | .tmp q => asTV s (hint t) v fun tv s1 => K (s1.put q (.t tv))
    | _ => False

def appends (o : Oper) (d : Nat) : Bool :=
  match o.op with
  | .call { callee := .builtin .append, args := ⟨.tmp q :: _⟩, .. } => Nat.beq q d
  | _ => false

section
variable {Ev : Env} {P : Program} {T : Tab P} {g g' : Gh} {n : Nat} {s s' : TS} {a a' : Act} {w w' : World} {X : Loc → Prop} {K : TS → Prop} {ty : TypeId} {pos : String} {after : Array Edge} {gd : Option (Nat × Bool)}

theorem fn_parts {f : Fn} {fs cs : List TV} {v : Value} (h : g.VV w (.fn f fs cs) v) : ∃ us vs : Array Value, v = .func f us vs ∧ VVs g w fs us.toList ∧ VVs g w cs vs.toList := by
  cases h with
  | fn f fs cs us vs h1 h2 g1 g2 =>
    exact ⟨us, vs, rfl, ⟨by simpa using h1, fun k t u a b => g1 k t u a (by simpa using b)⟩, ⟨by simpa using h2, fun k t u a b => g2 k t u a (by simpa using b)⟩⟩

theorem run_callFunc {f : FuncId} {args : Array Value} (h : Enters P f) (w : World) : (callFunc f args).run P w = .ok (.enter f args) w := by
  obtain ⟨fn, h1, h2, h3⟩ := h
  simp only [callFunc, Sem.run_bind, program, Sem.run, Result.andThen_ok, h1, h2, h3, Bool.false_eq_true, if_false, Sem.run_pure]

/-- A call's own blocks, when it is over. -/
theorem backO_res (h : Rel Ev g n s a w) (hk : Kept (calleeO g) w g' w') (q : Nat) {b j : Nat} (hO : g'.O b = some (.res j)) : (backO g g' (some q)).O b = some (.arr q) := by
  simp only [backO]
  split
  · rename_i L hL
    split
    · rename_i ho
      exfalso
      have hlt : b < w.heap.size := by
        rcases Nat.lt_or_ge b w.heap.size with h' | h'
        · exact h'
        · rw [(h.wf.new b h').1] at hL; cases hL
      have hc : (calleeO g).O b = some .outer := by simp [calleeO, hL, ho]
      have := (hk.block b hlt (.inr hc)).2.1
      rw [hO, hc] at this; cases this
    · rw [hO]; rfl
  · rw [hO]; rfl

theorem tcall_ok (h : Rel Ev g n s a w) {hint : TypeId → List Nat} {d : Option Nat} (hd : ∀ q, d = some q → q < n) {f : Operand} {args : Array Operand} {ts : Array TypeId} {Q : TV → TS → Prop}
    (hK : tcall P Ev hint s d f args.toList ts.toList K Q) {Km : Act → World → Prop} {Qm : Exit → Act → World → Prop}
    (hKm : ∀ s' g' v w', K s' → Rel Ev g' n s' (a.put d v) w' → Ext g w g' w' → Kept g w g' w' → Km (a.put d v) w')
    (hQm : ∀ x v s' g' w', Q x s' → g'.VV w' x v → Rel Ev g' n s' a w' → Ext g w g' w' → Kept g w g' w' → Qm (.panic [{ v, recovered := false }]) a w') :
    Oper.wp P { dst := d, op := .call { callee := .value f, args, argTypes := ts }, type := ty, pos, after, guard := gd } a w Km Qm := by
  unfold tcall at hK
  split at hK
  · rename_i fid fs cs ef
    obtain ⟨us, vs, e1, hus, hvs⟩ := fn_parts (evs_t h ef)
    obtain ⟨xs, s1, g1, hc, h1, st1, hxs, esl⟩ := asTVs_ok h (vs := args.toList.map a.eval) (by simp [argL_len]) (fun k p v h1 h2 => by
      obtain ⟨x, hx, e⟩ := argL_get _ _ _ _ _ _ h1
      rw [List.getElem?_map, hx] at h2
      simp only [Option.map_some, Option.some.injEq] at h2
      subst h2
      exact ⟨_, by rw [e]; exact evs_rel h x⟩) hK
    replace hc := hc.get
    have hall : VVs g1 w (fs ++ xs ++ cs) ((us ++ args.map a.eval) ++ vs).toList := by
      simp only [Array.toList_append, Array.toList_map]
      exact ((hus.ext st1.ext).append hxs).append (hvs.ext st1.ext)
    have hrun : (execOp a.eval { dst := d, op := .call { callee := .value f, args, argTypes := ts }, type := ty, pos, after, guard := gd }).run P w = .ok (.enter fid ((us ++ args.map a.eval) ++ vs)) w := by
      simp only [execOp, resolve, e1, Deferred.ofValue, Sem.run_bind, Sem.run_pure, Result.andThen_ok, invoke, run_callFunc hc.1]
    unfold Oper.wp
    rw [hrun, Oper.upon_enter]
    refine (hc.2 (calleeO g1) w _ h1.callee (hall.ext (calleeO_ext g1 w))).mono ?_
    intro e w' ⟨o, H', g', hk, hr, hx, hkp, ho⟩
    obtain ⟨hst, hx2, hwf, hheap, hrel⟩ := h1.back hr hx hkp d
    have hxa : Ext g w (backO g1 g' d) w' := st1.ext.trans hst.ext
    have hka : Kept g w (backO g1 g' d) w' := st1.kept.trans hst.kept
    cases e with
    | outgrown => cases o <;> exact ho.elim
    | panicked ch =>
      cases o with
      | ret r => exact ho.elim
      | panic x =>
        obtain ⟨v, rfl, hv⟩ := ho
        exact hQm x v _ _ _ hk (VV.ext hx2 hv) hrel hxa hka
    | returned v =>
      cases o with
      | panic x => exact ho.elim
      | ret r =>
        simp only [OutR] at ho
        simp only [adopt] at hk
        cases r with
        | t x => exact hKm _ _ _ _ hk (hrel.putO hd (fun _ => VV.ext hx2 ho)) hxa hka
        | nils => exact hKm _ _ _ _ hk (hrel.putO hd (fun _ => ho)) hxa hka
        | tup ts =>
          obtain ⟨vs', rfl, h2⟩ := ho
          refine hKm _ _ _ _ hk (hrel.putO hd (fun _ => ⟨vs', rfl, by have := h2.1; simpa using this, fun j x v h3 h4 => ?_⟩)) hxa hka
          simp only [List.getElem?_map, Option.map_eq_some_iff] at h3
          obtain ⟨t, h5, rfl⟩ := h3
          exact VV.ext hx2 (h2.2 j t v h5 (by simpa using h4))
        | own sz ys =>
          cases d with
          | none => exact hKm _ _ v _ hk hrel hxa hka
          | some q =>
            have hown : OwnR (backO g1 g' (some q)) w' (.arr q) true sz ys v := by
              obtain ⟨e, cells, o1, o2, o3, o4, o5⟩ := ho
              exact ⟨e, cells, o1, o2.ext hx2, o3, o4, fun b hb => ⟨backO_res h1 hkp q (o5 b hb).1, (o5 b hb).2⟩⟩
            obtain ⟨g2, r1, r2, r3⟩ := hrel.adoptA (hd q rfl) hown
            exact hKm _ _ _ _ hk r1 (hxa.trans r2) (hka.trans r3)
  · exact hK.elim

theorem VVs.take' {ts : List TV} {vs : List Value} (h : VVs g w ts vs) (m : Nat) : VVs g w (ts.take m) (vs.take m) := h.take m

theorem tmakeFunc_ok (h : Rel Ev g n s a w) {d : Nat} (hd : d < n) {fn : Fn} {first captured : Array Operand} (hK : tmakeFunc s d fn first.toList captured.toList K) :
    AOk P Ev n g w a { dst := some d, op := .makeFunc fn first captured, type := ty, pos, after, guard := gd } K := by
  unfold tmakeFunc at hK
  obtain ⟨xs, s1, g1, hc, h1, st1, hxs, esl⟩ := asTVs_ok h (vs := (first.toList ++ captured.toList).map a.eval) (by simp [argL_len]) (fun k p v h1 h2 => by
    obtain ⟨x, hx, e⟩ := argL_get _ _ _ _ _ _ h1
    rw [List.getElem?_map, hx] at h2
    simp only [Option.map_some, Option.some.injEq] at h2
    subst h2
    exact ⟨_, by rw [e]; exact evs_rel h x⟩) hK
  have ht := hxs.take first.toList.length
  have hdp := hxs.drop first.toList.length
  have e1 : ((first.toList ++ captured.toList).map a.eval).take first.toList.length = (first.map a.eval).toList := by simp
  have e2 : ((first.toList ++ captured.toList).map a.eval).drop first.toList.length = (captured.map a.eval).toList := by simp
  rw [e1] at ht
  rw [e2] at hdp
  refine ⟨_, .func fn (first.map a.eval) (captured.map a.eval), w, g1, _, by simp [execOp, Instr.makeFunc], .inl rfl, hc, h1.put hd ?_, st1.ext, st1.kept⟩
  exact .fn fn _ _ _ _ (by have := ht.1; simpa using this) (by have := hdp.1; simpa using this) (fun k t u a b => ht.2 k t u a (by simpa using b)) (fun k t u a b => hdp.2 k t u a (by simpa using b))

theorem tboxI_ok (h : Rel Ev g n s a w) {d : Nat} (hd : d < n) {hs : List Nat} {e : TypeId} {x : Operand} (hK : tboxI hs s d x K) : AOk P Ev n g w a { dst := some d, op := .box e x, type := ty, pos, after, guard := gd } K := by
  unfold tboxI at hK
  obtain ⟨tv, s1, g1, k1, r1, st1, v1, e1⟩ := asTV_ok h (evs_rel h x) hK
  have hc := VV.cells v1
  have hcl : (a.eval x).cells.toList.length = tv.cells.length := hc.1.1
  let g' : Gh := { g1 with c := upd g1.c w.heap.size tv.cells.length, O := upd g1.O w.heap.size (some .outer) }
  have hst : Step (fun _ => False) g1 w g' (w.alloc (.cells (a.eval x).cells e)) := by
    refine Step.of rfl rfl rfl (by simp) r1.wf.new (fun b hb => .inr ⟨heap_alloc_lt w _ hb, upd_ne _ _ (by omega), upd_ne _ _ (by omega)⟩) (fun b hb => by show _ ≤ upd g1.c _ _ b; rw [upd_ne _ _ (by omega)]; exact Nat.le_refl _) (fun b j hb hj => World.cell?_alloc_lt w _ _ hb) (fun i hi => ⟨rfl, ?_⟩)
    have : g1.ρ i ≠ w.heap.size := fun e => by rw [e, (r1.wf.new _ (Nat.le_refl _)).1] at hi; cases hi
    show upd g1.O w.heap.size (some .outer) (g1.ρ i) = _
    rw [upd_ne _ _ this]; exact hi
  have hwf : Wf Ev g' (w.alloc (.cells (a.eval x).cells e)) := r1.wf.kept hst.kept (fun b hb => by
    simp at hb
    have := r1.wf.new b (by omega)
    exact ⟨by show upd g1.O w.heap.size (some .outer) b = none; rw [upd_ne _ _ (by omega)]; exact this.1, by show upd g1.c w.heap.size _ b = 0; rw [upd_ne _ _ (by omega)]; exact this.2⟩) (by
    obtain ⟨m, hm⟩ := r1.wf.m
    refine ⟨m, fun i hi => ?_⟩
    show upd g1.O w.heap.size (some .outer) (g1.ρ i) ≠ _
    by_cases e : g1.ρ i = w.heap.size
    · rw [e, upd_same]; simp
    · rw [upd_ne _ _ e]; exact hm i hi)
  have hrel : Rel Ev g' n s1 a (w.alloc (.cells (a.eval x).cells e)) := r1.step hst hwf r1.size r1.defers (fun q => .inl ⟨rfl, rfl, fun _ _ => rfl, fun _ _ => rfl, fun _ h => h⟩) (fun q o ho => .inl ⟨ho, rfl, fun h => h, fun _ h => h⟩) (fun q o ho => .inl ⟨ho, rfl, fun h => h⟩) (fun i o ho => .inl ⟨ho, fun h => h, fun _ h => h⟩)
  refine ⟨_, _, _, g', _, ?_, .inl rfl, k1, hrel.put hd ⟨w.heap.size, 0, (a.eval x).cells.toList, rfl, ?_, hc.1.ext hst.ext, hc.2, fun k u hu => ?_⟩, st1.ext.trans hst.ext, st1.kept.trans hst.kept⟩
  · simp [execOp, Instr.box, newVar, newRow, newObj]
    rfl
  · show 0 + tv.cells.length ≤ upd g1.c w.heap.size tv.cells.length w.heap.size
    rw [upd_same]; omega
  · simp only [World.cell?, heap_alloc_new, Nat.zero_add]
    simpa using hu

theorem textract_ok (h : Rel Ev g n s a w) {d : Option Nat} (hd : ∀ q, d = some q → q < n) {x : Operand} {i : Nat} (hK : textract s d x i K) :
    AOk P Ev n g w a { dst := d, op := .extract x i, type := ty, pos, after, guard := gd } K := by
  have hX := evs_rel h x
  unfold textract at hK
  split at hK
  · rename_i cs e
    rw [e] at hX
    obtain ⟨vs, e1, e2, e3⟩ := hX
    split at hK
    · rename_i c hc
      have hlt : i < cs.length := by
        rcases Nat.lt_or_ge i cs.length with h' | h'
        · exact h'
        · simp [List.getElem?_eq_none h'] at hc
      have hv : vs[i]? = some (vs[i]'(by omega)) := Array.getElem?_eq_getElem (by omega)
      refine ⟨_, vs[i]'(by omega), w, g, _, by simp only [execOp, e1, Instr.extract, hv, Sem.run_bind, Sem.run_pure, Result.andThen_ok], .inl rfl, hK, h.putO hd ?_, .refl g w, .refl g w⟩
      have := e3 i c _ hc hv
      intro d'
      cases c with
      | v t => exact this
      | own sz xs => exact OwnR.view this
      | nils => exact this
    · exact hK.elim
  · exact hK.elim

theorem Rel.see (h : Rel Ev g n s a w) {q : Nat} {x : SV} (hx : SVR g w q x (a.tmps.getD q undef)) : Rel Ev g n (s.put q x) a w := {
  size := h.size
  defers := h.defers
  slots k := by
    by_cases hk : k = q
    · subst hk; simpa [TS.put] using hx
    · simp only [TS.put, upd_ne _ _ hk]; exact h.slots k
  vars := h.vars
  arrs := h.arrs
  heap := h.heap
  wf := h.wf }

theorem tsee_ok (h : Rel Ev g n s a w) {hint : TypeId → List Nat} {t : TypeId} {x : Operand} (hK : tsee hint s t x K) : ∃ s' g', K s' ∧ Rel Ev g' n s' a w ∧ GStep g w g' := by
  have hX := evs_rel h x
  unfold tsee at hK
  split at hK
  · exact ⟨s, g, hK, h, .refl g w⟩
  · split at hK
    · rename_i q hne
      obtain ⟨tv, s1, g1, k1, r1, st1, v1, e1⟩ := asTV_ok h hX hK
      exact ⟨_, g1, k1, r1.see v1, st1⟩
    · exact hK.elim
end
end Go.T
set_option linter.unusedVariables false
set_option linter.unusedSimpArgs false
namespace Go.T
open Go.RowKit

def top {P : Program} (T : Tab P) (Ev : Env) (hint : TypeId → List Nat) (imm app : Nat → Bool) (s : TS) (o : Oper) (K : TS → Prop) (Q : TV → TS → Prop) : Prop :=
  match o.op, o.dst with
  | .move x, some d => tmove T s o.type d x K
  | .assign x, some d => tassign T s o.type d x K
  | .alloc e, some d => talloc T s d e K
  | .box e x, some d => match imm d with
    | true => tboxI (hint e) s d x K
    | false => tbox s d x K
  | .build t ⟨parts⟩, some d => tbuild T s d t parts K
  | .buildSlice t len ⟨parts⟩, some d => tbuildSlice T hint s d t len parts K
  | .load t x, some d => match app d with
    | true => match kindOf T t with
      | some (.slice _) => ttake T s t d x K
      | _ => tval T s (.load t x) fun v => K (s.put d v)
    | false => tval T s (.load t x) fun v => K (s.put d v)
  | .store t x y, none => tstore T hint s t x y K
  | .makeFunc fn ⟨first⟩ ⟨cap⟩, some d => tmakeFunc s d fn first cap K
  | .extract x i, d => textract s d x i K
  | .panic x, _ => match evs s x with
    | .t (.iface t v) => Q (.iface t v) s
    | _ => False
  | .slice t x lo hi mx, d => tsee hint s t x fun s1 => tval T s1 (.slice t x lo hi mx) fun v => K (s1.putO d v)
  | .makeInterface t x, d => tsee hint s t x fun s1 => tval T s1 (.makeInterface t x) fun v => K (s1.putO d v)
  | .call { callee := .value f, args := ⟨args⟩, argTypes := ⟨ts⟩ }, d => tcall P Ev hint s d f args ts K Q
  | .call { callee := .builtin .append, args := ⟨[x, y]⟩, argTypes := ⟨[t, t']⟩ }, some d => match Nat.beq t t' with
    | true => tappend T s d t x y K
    | false => False
  | op, d => tval T s op fun v => K (s.putO d v)

section
variable {Ev : Env} {P : Program} {T : Tab P} {g g' : Gh} {n : Nat} {s s' : TS} {a a' : Act} {w w' : World} {X : Loc → Prop}

def opC (s : TS) (g : Gh) (w : World) (op : Op) (w1 : World) : Prop :=
  match op with
  | .load _ x => loadC s g w x w1
  | _ => True
theorem opC_self (s : TS) (g : Gh) (w : World) (op : Op) : opC s g w op w := by
  cases op <;> simp only [opC]
  unfold loadC
  split
  · exact fun _ _ _ => rfl
  · exact fun _ _ _ => rfl
  · rfl
theorem VOk.c {o : Oper} {K : SV → Prop} {C : World → Prop} (h : VOk P g w a o K) : VOkC P g w a o C K :=
  let ⟨x, v, h1, h2, h3⟩ := h; ⟨x, v, h1, h2, fun w1 _ => h3 w1⟩

theorem tval_ok (hr : Rel Ev g n s a w) {K : SV → Prop} {o : Oper} (h : tval T s o.op K) : VOkC P g w a o (opC s g w o.op) K := by
  obtain ⟨dst, op, ty, pos, after, gd⟩ := o
  dsimp only at h
  cases op with
  | binOp op xt x y yt => exact (v_binOp hr h).c
  | unOp op t x => exact (v_unOp hr h).c
  | pick c x y => exact (v_pick hr h).c
  | convert src dt x => exact (v_convert hr h).c
  | fieldAddr t x f => exact (v_fieldAddr hr h).c
  | field t x f => exact (v_field hr h).c
  | indexAddr t x ix => exact (v_indexAddr hr h).c
  | load t x => exact v_load hr h
  | nilCheck x => exact (v_nilCheck hr h).c
  | index t x ix => exact (v_index hr h).c
  | slice t x lo hi mx => exact (v_slice hr h).c
  | makeInterface t x => exact (v_makeInterface hr h).c
  | call c =>
    unfold tval at h
    split at h
    case h_13 x t e => cases e; exact (v_len (T := T) hr (by unfold tval; exact h)).c
    case h_14 x y ts e => cases e; exact (v_min (T := T) hr (by unfold tval; exact h)).c
    case h_15 x y ts e => cases e; exact (v_max (T := T) hr (by unfold tval; exact h)).c
    all_goals first | exact h.elim | (rename_i e; cases e)
  | _ => unfold tval at h; exact h.elim

/-- What an operation's run leaves to be shown. -/
theorem top_ok (h : Rel Ev g n s a w) {hint : TypeId → List Nat} {imm app : Nat → Bool} {o : Oper} (hd : ∀ q, o.dst = some q → q < n) {K : TS → Prop} {Q : TV → TS → Prop} (hK : top T Ev hint imm app s o K Q) {Km : Act → World → Prop} {Qm : Exit → Act → World → Prop}
    (hKm : ∀ s' g' v w', K s' → Rel Ev g' n s' (a.put o.dst v) w' → Ext g w g' w' → Kept g w g' w' → Km (a.put o.dst v) w')
    (hQm : ∀ x v s' g' w', Q x s' → g'.VV w' x v → Rel Ev g' n s' a w' → Ext g w g' w' → Kept g w g' w' → Qm (.panic [{ v, recovered := false }]) a w') : o.wp P a w Km Qm := by
  have A : AOk P Ev n g w a o K → o.wp P a w Km Qm := by
    rintro ⟨r, v, w', g', s', hr, hv, hk, hrel, hx, hkp⟩
    unfold Oper.wp
    rw [hr]
    rcases hv with rfl | ⟨rfl, rfl⟩
    · exact hKm s' g' v w' hk hrel hx hkp
    · exact hKm s' g' undef w' hk hrel hx hkp
  have V : ∀ {s1 : TS} {g1 : Gh}, Rel Ev g1 n s1 a w → GStep g w g1 → tval T s1 o.op (fun v => K (s1.putO o.dst v)) → o.wp P a w Km Qm := by
    intro s1 g1 h1 st1 hv
    obtain ⟨x, v, hk, hsv, hr⟩ := tval_ok h1 hv
    unfold Oper.wp
    rw [hr w (opC_self s1 g1 w o.op)]
    exact hKm _ g1 v w hk (h1.putO hd hsv) st1.ext st1.kept
  obtain ⟨dst, op, ty, pos, after, gd⟩ := o
  dsimp only at hd hK A V hKm
  unfold top at hK
  dsimp only at hK
  split at hK
  · exact A (tmove_ok h (hd _ rfl) hK)
  · exact A (tassign_ok h (hd _ rfl) hK)
  · exact A (talloc_ok h (hd _ rfl) hK)
  · split at hK
    · exact A (tboxI_ok h (hd _ rfl) hK)
    · exact A (tbox_ok h (hd _ rfl) hK)
  · exact A (tbuild_ok h (hd _ rfl) hK)
  · exact A (tbuildSlice_ok h (hd _ rfl) hK)
  · split at hK
    · split at hK
      · exact A (ttake_ok h (hd _ rfl) hK)
      · exact V h (.refl g w) hK
    · exact V h (.refl g w) hK
  · exact A (tstore_ok h hK)
  · exact A (tmakeFunc_ok h (hd _ rfl) hK)
  · exact A (textract_ok h hd hK)
  · rename_i x
    split at hK
    · rename_i t v e
      have hv := evs_t h e
      generalize hvx : a.eval x = u at hv
      cases hv with
      | iface _ _ u hu =>
        unfold Oper.wp
        have hrun : (execOp a.eval { dst, op := .panic x, type := ty, pos, after, guard := gd }).run P w = .halt (.panic (.iface t u)) w := by
          simp [execOp, Instr.panic, hvx, goPanic, Sem.run]
        rw [hrun]
        exact hQm _ _ s g w hK (.iface t v u hu) h (.refl g w) (.refl g w)
    · exact hK.elim
  · obtain ⟨s1, g1, k1, r1, st1⟩ := tsee_ok h hK
    exact V r1 st1 k1
  · obtain ⟨s1, g1, k1, r1, st1⟩ := tsee_ok h hK
    exact V r1 st1 k1
  · exact tcall_ok h hd hK hKm hQm
  · split at hK
    · rename_i x y t t' d hb
      obtain rfl := Nat.eq_of_beq_eq_true hb
      exact A (tappend_ok h (hd _ rfl) hK)
    · exact hK.elim
  · exact V h (.refl g w) hK

/-! ### Regions -/
def dstOf (ops : List Oper) (j : Nat) : Option Nat := (ops[j]?).bind (·.dst)
/-- What is known of the guards: of an operation that was left out, nothing; of another one, its bool. -/
def kget : List (Nat × Option Bool) → Nat → Option (Option Bool)
  | [], _ => none
  | (i, b) :: l, j => bif Nat.beq i j then some b else kget l j
def kforget (ops : List Oper) (kn : List (Nat × Option Bool)) (d : Option Nat) : List (Nat × Option Bool) :=
  match d with
  | none => kn
  | some d => kn.filter fun p => match dstOf ops p.1 with
    | some q => !(Nat.beq q d)
    | none => true

def tguard (ops : List Oper) (kn : List (Nat × Option Bool)) (s : TS) (gd : Option (Nat × Bool)) (yes no : List (Nat × Option Bool) → TS → Prop) : Prop :=
  match gd with
  | none => yes kn s
  | some (j, want) => match kget kn j with
    | some (some b) => bif b == want then yes kn s else no kn s
    | some none => no kn s
    | none => match dstOf ops j with
      | some q => match s.sl q with
        | .t (.bool b) => (b = want → yes ((j, some want) :: kn) (s.put q (.t (.bool want)))) ∧ (b = !want → no ((j, some (!want)) :: kn) (s.put q (.t (.bool (!want)))))
        | _ => False
      | none => False

def dstB (n : Nat) (o : Oper) : Bool :=
  match o.dst with
  | some d => Nat.blt d n
  | none => true
theorem dstB_ok {n : Nat} {o : Oper} (h : dstB n o = true) : ∀ q, o.dst = some q → q < n := by
  intro q hq
  unfold dstB at h
  rw [hq] at h
  exact Nat.le_of_ble_eq_true h

def tops {P : Program} (T : Tab P) (Ev : Env) (hint : TypeId → List Nat) (imm : Nat → Bool) (n : Nat) (ops : List Oper) (K : TS → Prop) (Q : TV → TS → Prop) : List Oper → Nat → List (Nat × Option Bool) → TS → Prop
  | [], _, _, s => K s
  | o :: rest, i, kn, s =>
    Chk (dstB n o) <| tguard ops kn s o.guard
      (fun kn s => top T Ev hint imm (fun d => ops.any (appends · d)) s o (fun s' => tops T Ev hint imm n ops K Q rest (i + 1) (kforget ops kn o.dst) s') Q)
      (fun kn s => tops T Ev hint imm n ops K Q rest (i + 1) ((i, none) :: kforget ops kn o.dst) (s.putO o.dst .und))

def KnOk (ops : List Oper) (kn : List (Nat × Option Bool)) (a : Act) : Prop := ∀ j b, (j, b) ∈ kn → yielded ops.toArray a.tmps j = b

theorem kget_mem : ∀ {kn : List (Nat × Option Bool)} {j : Nat} {b : Option Bool}, kget kn j = some b → (j, b) ∈ kn
  | [], j, b, h => by simp [kget] at h
  | (i, c) :: l, j, b, h => by
    simp only [kget] at h
    cases hb : Nat.beq i j with
    | true =>
      rw [hb] at h
      simp only [cond_true, Option.some.injEq] at h
      obtain rfl := Nat.eq_of_beq_eq_true hb
      simp [h]
    | false =>
      rw [hb] at h
      exact List.mem_cons_of_mem _ (kget_mem h)

theorem yielded_dst {ops : List Oper} {tmps : Array Value} {j : Nat} : yielded ops.toArray tmps j = match (dstOf ops j).bind (tmps[·]?) with
    | some (.bool b) => some b
    | _ => none := by
  simp only [yielded, dstOf, List.getElem?_toArray]
  rfl

theorem KnOk.forget {ops : List Oper} {kn : List (Nat × Option Bool)} (h : KnOk ops kn a) (d : Option Nat) (v : Value) : KnOk ops (kforget ops kn d) (a.put d v) := by
  cases d with
  | none => exact h
  | some d =>
    intro j b hj
    simp only [kforget, List.mem_filter] at hj
    obtain ⟨h1, h2⟩ := hj
    rw [← h j b h1, yielded_dst, yielded_dst]
    cases hq : dstOf ops j with
    | none => rfl
    | some q =>
      rw [hq] at h2
      have hne : q ≠ d := fun e => by subst e; simp [Nat.beq_refl] at h2
      simp only [Option.bind_some, Act.put]
      rw [Array.getElem?_setIfInBounds_ne (Ne.symm hne)]

theorem kforget_skip {ops : List Oper} {kn : List (Nat × Option Bool)} {i : Nat} {o : Oper} (ho : ops[i]? = some o) {d : Nat} (hdst : o.dst = some d) (hd : d < a.tmps.size) (h : KnOk ops kn a) : KnOk ops ((i, none) :: kforget ops kn o.dst) (a.put o.dst undef) := by
  intro j b hj
  rcases List.mem_cons.1 hj with e | hj
  · cases e
    rw [yielded_dst]
    have : dstOf ops i = some d := by simp [dstOf, ho, hdst]
    rw [this, hdst]
    simp [Act.put, hd, undef]
  · exact h.forget o.dst undef j b hj
theorem kforget_skip0 {ops : List Oper} {kn : List (Nat × Option Bool)} {i : Nat} {o : Oper} (ho : ops[i]? = some o) (hdst : o.dst = none) (h : KnOk ops kn a) : KnOk ops ((i, none) :: kforget ops kn o.dst) (a.put o.dst undef) := by
  intro j b hj
  rcases List.mem_cons.1 hj with e | hj
  · cases e
    rw [yielded_dst]
    have : dstOf ops i = none := by simp [dstOf, ho, hdst]
    rw [this]
    rfl
  · exact h.forget o.dst undef j b hj

theorem tguard_ok {ops : List Oper} {kn : List (Nat × Option Bool)} (h : Rel Ev g n s a w) (hkn : KnOk ops kn a) {o : Oper} {yes no : List (Nat × Option Bool) → TS → Prop} (hg : tguard ops kn s o.guard yes no) :
    ∃ kn' s', KnOk ops kn' a ∧ Rel Ev g n s' a w ∧ (if Region.wanted o (yielded ops.toArray a.tmps) then yes kn' s' else no kn' s') := by
  unfold tguard at hg
  split at hg
  · rename_i hgd
    exact ⟨kn, s, hkn, h, by simp only [Region.wanted, hgd, if_true]; exact hg⟩
  · rename_i j want hgd
    split at hg
    · rename_i b hk
      refine ⟨kn, s, hkn, h, ?_⟩
      simp only [Region.wanted, hgd, hkn j _ (kget_mem hk)]
      cases b <;> cases want <;> simpa using hg
    · rename_i hk
      refine ⟨kn, s, hkn, h, ?_⟩
      simp only [Region.wanted, hgd, hkn j _ (kget_mem hk)]
      simpa using hg
    · split at hg
      · rename_i q hq
        split at hg
        · rename_i b hs
          have hv := h.slots q
          rw [hs] at hv
          simp only [SVR] at hv
          have hv' : a.tmps.getD q undef = .bool b := by
            generalize a.tmps.getD q undef = v at hv
            cases hv; rfl
          have hat : a.tmps[q]? = some (.bool b) := by
            rw [Array.getD_eq_getD_getElem?] at hv'
            cases e : a.tmps[q]? with
            | none => rw [e] at hv'; simp [undef] at hv'
            | some u => rw [e] at hv'; simp at hv'; rw [hv']
          have hy : yielded ops.toArray a.tmps j = some b := by rw [yielded_dst, hq]; simp [hat]
          by_cases hb : b = want
          · refine ⟨(j, some want) :: kn, _, fun i c hi => ?_, h.see (q := q) (x := .t (.bool want)) (by rw [hv', hb]; exact .bool _), ?_⟩
            · rcases List.mem_cons.1 hi with e | hi
              · cases e; rw [hy, hb]
              · exact hkn i c hi
            · simp only [Region.wanted, hgd, hy, hb]
              simpa using hg.1 hb
          · have hb' : b = !want := by cases b <;> cases want <;> simp_all
            refine ⟨(j, some (!want)) :: kn, _, fun i c hi => ?_, h.see (q := q) (x := .t (.bool (!want))) (by rw [hv', hb']; exact .bool _), ?_⟩
            · rcases List.mem_cons.1 hi with e | hi
              · cases e; rw [hy, hb']
              · exact hkn i c hi
            · have hw : Region.wanted o (yielded ops.toArray a.tmps) = false := by
                rw [hb'] at hy
                simp only [Region.wanted, hgd, hy]
                cases want <;> rfl
              rw [hw]
              exact hg.2 hb'
        · exact hg.elim
      · exact hg.elim

theorem tops_ok {hint : TypeId → List Nat} {imm : Nat → Bool} {ops : List Oper} {K : TS → Prop} {Q : TV → TS → Prop} {Qm : Exit → Act → World → Prop} :
    ∀ (rest : List Oper) (i : Nat) (kn : List (Nat × Option Bool)) (s : TS) (g : Gh) (a : Act) (w : World), Rel Ev g n s a w → KnOk ops kn a → ops.drop i = rest → tops T Ev hint imm n ops K Q rest i kn s →
      (∀ s' g' a' w', K s' → Rel Ev g' n s' a' w' → Ext g w g' w' → Kept g w g' w' → Qm .normal a' w') →
      (∀ x v s' g' a' w', Q x s' → g'.VV w' x v → Rel Ev g' n s' a' w' → Ext g w g' w' → Kept g w g' w' → Qm (.panic [{ v, recovered := false }]) a' w') →
      wpOps P ops.toArray Qm (List.range' i rest.length) a w
  | [], i, kn, s, g, a, w, h, hkn, hr, hK, hN, hQ => hN s g a w hK h (.refl g w) (.refl g w)
  | o :: rest, i, kn, s, g, a, w, h, hkn, hr, hK, hN, hQ => by
    have hlt : i < ops.length := by
      rcases Nat.lt_or_ge i ops.length with h' | h'
      · exact h'
      · rw [List.drop_eq_nil_of_le h'] at hr; cases hr
    have ho : ops[i]? = some o := by
      have := congrArg (fun l => l[0]?) hr
      simp only [List.getElem?_drop, List.getElem?_cons_zero, Nat.add_zero] at this
      exact this
    have hdr : ops.drop (i + 1) = rest := by
      have := congrArg (fun l => l.drop 1) hr
      simpa [List.drop_drop, Nat.add_comm] using this
    simp only [tops] at hK
    obtain ⟨hdst, hK⟩ := chkb_iff.1 hK
    have hd := dstB_ok hdst
    obtain ⟨kn', s1, hkn', h, hK⟩ := tguard_ok h hkn hK
    simp only [List.length_cons, List.range'_succ, wpOps_cons, wpOp, List.getElem?_toArray, ho]
    split
    · rename_i hw
      rw [if_pos hw] at hK
      refine .inl (top_ok h hd hK (fun s' g' v w' hk hr' hx hkp => ?_) (fun x v s' g' w' hq hv hr' hx hkp => hQ x v s' g' a w' hq hv hr' hx hkp))
      exact tops_ok rest (i + 1) _ s' g' _ w' hr' (hkn'.forget o.dst v) hdr hk (fun s2 g2 a2 w2 k2 r2 x2 p2 => hN s2 g2 a2 w2 k2 r2 (hx.trans x2) (hkp.trans p2)) (fun x v s2 g2 a2 w2 k2 v2 r2 x2 p2 => hQ x v s2 g2 a2 w2 k2 v2 r2 (hx.trans x2) (hkp.trans p2))
    · rename_i hw
      rw [if_neg hw] at hK
      have hkn2 : KnOk ops ((i, none) :: kforget ops kn' o.dst) (a.put o.dst undef) := by
        cases hq : o.dst with
        | none => have := kforget_skip0 ho hq hkn'; rw [hq] at this; exact this
        | some q => have := kforget_skip ho hq (by rw [h.size]; exact hd q hq) hkn'; rw [hq] at this; exact this
      exact tops_ok rest (i + 1) _ _ g _ w (h.putO (x := .und) hd (fun _ => trivial)) hkn2 hdr hK hN hQ

end
end Go.T
set_option linter.unusedVariables false
set_option linter.unusedSimpArgs false
namespace Go.T
open Go.RowKit

def XR (g : Gh) (w : World) : XT → Exit → Prop
  | .normal, .normal => True
  | .exit i, .exit j => i = j
  | .goto i, .goto j => i = j
  | .ret, .ret => True
  | .panic x, .panic ch => ∃ v, ch = [{ v, recovered := false }] ∧ g.VV w x v
  | _, _ => False

/-- Behind a panic the slots are nobody's concern. -/
def AR (Ev : Env) (n : Nat) (x : XT) (g : Gh) (s : TS) (a : Act) (w : World) : Prop :=
  match x with
  | .panic _ => RelH Ev g s.H w ∧ a.defers = []
  | _ => Rel Ev g n s a w
def QOk (Ev : Env) (n : Nat) (g0 : Gh) (w0 : World) (Q : XT → TS → Prop) : Exit → Act → World → Prop := fun e a w =>
  ∃ x s g, Q x s ∧ XR g w x e ∧ AR Ev n x g s a w ∧ Ext g0 w0 g w ∧ Kept g0 w0 g w

/-- Code from a state on. -/
def TWp (P : Program) (Ev : Env) (n : Nat) (c : Code) (s : TS) (Q : XT → TS → Prop) : Prop := ∀ g a w, Rel Ev g n s a w → c.wp P (QOk Ev n g w Q) a w

def leadOf : Code → Nat
  | .region i _ _ => i
  | .seq a _ => leadOf a
  | .block _ c => leadOf c
  | .loop c => leadOf c
  | .scope c => leadOf c
  | _ => 1000000

/-- 'st' tells the regions ahead of which is stopped. -/
def tx {P : Program} (T : Tab P) (Ev : Env) (hint : TypeId → List Nat) (imm : Nat → Bool) (n : Nat) (st : Nat → Bool) : Code → TS → (XT → TS → Prop) → Prop
  | .skip, s, Q => Q .normal s
  | .region i ops false, s, Q => tops T Ev hint imm n ops.toList (Q .normal) (fun x => Q (.panic x)) ops.toList 0 [] s
  | .seq a b, s, Q => match st (leadOf a) with
    | true => Hold (TWp P Ev n (.seq a b) s Q)
    | false => tx T Ev hint imm n st a s fun e s' => match e with
      | .normal => tx T Ev hint imm n st b s' Q
      | e => Q e s'
  | .cond c a b, s, Q => match evs s c with
    | .t (.bool v) => (v = true → tx T Ev hint imm n st a s Q) ∧ (v = false → tx T Ev hint imm n st b s Q)
    | _ => False
  | .block i c, s, Q => tx T Ev hint imm n st c s fun e s' => match e with
    | .exit j => match Nat.beq j i with
      | true => Q .normal s'
      | false => Q (.exit j) s'
    | e => Q e s'
  | .exit i, s, Q => Q (.exit i) s
  | .label _, s, Q => Q .normal s
  | .goto l, s, Q => Q (.goto l) s
  | .ret, s, Q => Q .ret s
  | c, s, Q => Hold (TWp P Ev n c s Q)

/-- The smaller state is known of the greater one. -/
structure Sub (S s : TS) : Prop where
  sl : ∀ d, S.sl d = .und ∨ s.sl d = S.sl d
  V : ∀ d, S.V d = none ∨ s.V d = S.V d
  A : ∀ d, S.A d = none ∨ s.A d = S.A d
  H : ∀ i, S.H i = none ∨ s.H i = S.H i

def fromL {α : Type} (z : α) : List (Nat × α) → Nat → α
  | [], _ => z
  | (i, x) :: l, j => bif Nat.beq i j then x else fromL z l j
def AllEq {α : Type} (f : Nat → α) : List (Nat × α) → Prop
  | [] => True
  | (i, x) :: l => f i = x ∧ AllEq f l
/-- A state that is told by lists. -/
def TS.of (sl : List (Nat × SV)) (V : List (Nat × Option VObj)) (A : List (Nat × Option AObj)) (H : Nat → Option RObj) : TS := ⟨fromL .und sl, fromL none V, fromL none A, H⟩
theorem AllEq.fromL {α : Type} {f : Nat → α} {z : α} : ∀ {l : List (Nat × α)}, AllEq f l → ∀ j, Go.T.fromL z l j = z ∨ f j = Go.T.fromL z l j
  | [], _, j => .inl rfl
  | (i, x) :: l, h, j => by
    simp only [Go.T.fromL]
    cases hb : Nat.beq i j with
    | true =>
      obtain rfl := Nat.eq_of_beq_eq_true hb
      exact .inr h.1
    | false => exact AllEq.fromL h.2 j
theorem Sub.of {s : TS} {sl : List (Nat × SV)} {V : List (Nat × Option VObj)} {A : List (Nat × Option AObj)} {H : Nat → Option RObj} (h1 : AllEq s.sl sl) (h2 : AllEq s.V V) (h3 : AllEq s.A A) (h4 : ∀ i, H i = none ∨ s.H i = H i) : Sub (.of sl V A H) s :=
  ⟨fun d => h1.fromL d, fun d => h2.fromL d, fun d => h3.fromL d, h4⟩
theorem Sub.refl (s : TS) : Sub s s := ⟨fun _ => .inr rfl, fun _ => .inr rfl, fun _ => .inr rfl, fun _ => .inr rfl⟩

section
variable {Ev : Env} {P : Program} {T : Tab P} {g g' : Gh} {n : Nat} {s s' S : TS} {a a' : Act} {w w' : World} {X : Loc → Prop} {Q Q' : XT → TS → Prop} {c : Code} {hint : TypeId → List Nat} {imm st : Nat → Bool}

theorem Rel.sub (h : Rel Ev g n s a w) (hs : Sub S s) : Rel Ev g n S a w := {
  size := h.size
  defers := h.defers
  slots d := by
    rcases hs.sl d with e | e
    · rw [e]; trivial
    · rw [← e]; exact h.slots d
  vars d o ho := by
    rcases hs.V d with e | e
    · rw [e] at ho; cases ho
    · exact h.vars d o (e.trans ho)
  arrs d o ho := by
    rcases hs.A d with e | e
    · rw [e] at ho; cases ho
    · exact h.arrs d o (e.trans ho)
  heap i o ho := by
    rcases hs.H i with e | e
    · rw [e] at ho; cases ho
    · exact h.heap i o (e.trans ho)
  wf := h.wf }

theorem TWp.sub (hs : Sub S s) (h : TWp P Ev n c S Q) : TWp P Ev n c s Q := fun g a w hr => h g a w (hr.sub hs)
theorem TWp.mono (h : TWp P Ev n c s Q) (hq : ∀ e s, Q e s → Q' e s) : TWp P Ev n c s Q' := fun g a w hr => wp_mono (h g a w hr) fun e a w ⟨x, s, g, h1, h2⟩ => ⟨x, s, g, hq _ _ h1, h2⟩
theorem QOk.trans {w2 : World} {e : Exit} (hx : Ext g w g' w') (hk : Kept g w g' w') (h : QOk Ev n g' w' Q e a' w2) : QOk Ev n g w Q e a' w2 := by
  obtain ⟨x, s, g2, h1, h2, h3, h4, h5⟩ := h
  exact ⟨x, s, g2, h1, h2, h3, hx.trans h4, hk.trans h5⟩

theorem TWp.seq {x y : Code} {R : TS → Prop} (h1 : TWp P Ev n x s fun e s' => match e with
    | .normal => R s'
    | e => Q e s') (h2 : ∀ s', R s' → TWp P Ev n y s' Q) : TWp P Ev n (.seq x y) s Q := by
  intro g a w hr
  refine wp_seq (wp_mono (h1 g a w hr) fun e a1 w1 ⟨xe, s1, g1, q1, q2, q3, q4, q5⟩ => ?_)
  have other : Q xe s1 → e ≠ .normal → Exit.then (y.wp P (QOk Ev n g w Q)) (QOk Ev n g w Q) e a1 w1 := by
    intro hq hne
    have : QOk Ev n g w Q e a1 w1 := ⟨xe, s1, g1, hq, q2, q3, q4, q5⟩
    cases e <;> first | exact absurd rfl hne | exact this
  cases xe with
  | normal =>
    cases e with
    | normal =>
      show y.wp P (QOk Ev n g w Q) a1 w1
      refine wp_mono (h2 s1 q1 g1 a1 w1 q3) fun e2 a2 w2 ⟨x2, s2, g2, r1, r2, r3, r4, r5⟩ => ⟨x2, s2, g2, r1, r2, r3, q4.trans r4, q5.trans r5⟩
    | _ => exact q2.elim
  | exit i => exact other q1 (by rintro rfl; exact q2.elim)
  | goto i => exact other q1 (by rintro rfl; exact q2.elim)
  | ret => exact other q1 (by rintro rfl; exact q2.elim)
  | panic v => exact other q1 (by rintro rfl; exact q2.elim)

theorem TWp.block {i : Nat} (h : TWp P Ev n c s fun e s' => match e with
    | .exit j => match Nat.beq j i with
      | true => Q .normal s'
      | false => Q (.exit j) s'
    | e => Q e s') : TWp P Ev n (.block i c) s Q := by
  intro g a w hr
  refine wp_block (wp_mono (h g a w hr) fun e a1 w1 ⟨xe, s1, g1, q1, q2, q3, q4, q5⟩ => ?_)
  cases xe with
  | exit j =>
    cases e with
    | exit j' =>
      obtain rfl : j = j' := q2
      show (if j = i then _ else _)
      dsimp only at q1
      by_cases hji : j = i
      · rw [if_pos hji]
        subst hji
        have : Nat.beq j j = true := Nat.beq_refl j
        rw [this] at q1
        exact ⟨.normal, s1, g1, q1, trivial, q3, q4, q5⟩
      · rw [if_neg hji]
        have : Nat.beq j i = false := by
          cases hb : Nat.beq j i with
          | false => rfl
          | true => exact absurd (Nat.eq_of_beq_eq_true hb) hji
        rw [this] at q1
        exact ⟨.exit j, s1, g1, q1, rfl, q3, q4, q5⟩
    | _ => exact q2.elim
  | normal => cases e <;> first | exact ⟨_, s1, g1, q1, q2, q3, q4, q5⟩ | exact q2.elim
  | goto l => cases e <;> first | exact ⟨_, s1, g1, q1, q2, q3, q4, q5⟩ | exact q2.elim
  | ret => cases e <;> first | exact ⟨_, s1, g1, q1, q2, q3, q4, q5⟩ | exact q2.elim
  | panic v => cases e <;> first | exact ⟨_, s1, g1, q1, q2, q3, q4, q5⟩ | exact q2.elim

theorem tx_ok : ∀ (c : Code) (s : TS) (Q : XT → TS → Prop), tx T Ev hint imm n st c s Q → TWp P Ev n c s Q
  | .skip, s, Q, h => fun g a w hr => wp_skip ⟨.normal, s, g, h, trivial, hr, .refl g w, .refl g w⟩
  | .region i ops false, s, Q, h => fun g a w hr => by
    unfold tx at h
    have := tops_ok (P := P) (Qm := QOk Ev n g w Q) ops.toList 0 [] s g a w hr (fun j b hj => by simp at hj) rfl h
      (fun s' g' a' w' k r x p => ⟨.normal, s', g', k, trivial, r, x, p⟩) (fun x v s' g' a' w' k hv r hx p => ⟨.panic x, s', g', k, ⟨v, rfl, hv⟩, ⟨⟨r.heap, r.wf⟩, r.defers⟩, hx, p⟩)
    refine wp_region ?_
    rw [List.range_eq_range', ← Array.length_toList]
    exact this
  | .region i ops true, s, Q, h => by unfold tx at h; exact h.get
  | .seq x y, s, Q, h => by
    unfold tx at h
    split at h
    · exact h.get
    · exact TWp.seq (R := fun s' => tx T Ev hint imm n st y s' Q) (tx_ok x s _ h) fun s' hs => tx_ok y s' Q hs
  | .cond b x y, s, Q, h => fun g a w hr => by
    unfold tx at h
    split at h
    · rename_i v e
      exact wp_cond_split (evs_bool hr e) (fun hv => tx_ok x s Q (h.1 hv) g a w hr) (fun hv => tx_ok y s Q (h.2 hv) g a w hr)
    · exact h.elim
  | .block i c, s, Q, h => TWp.block (tx_ok c s _ h)
  | .exit i, s, Q, h => fun g a w hr => wp_exit ⟨.exit i, s, g, h, rfl, hr, .refl g w, .refl g w⟩
  | .label l, s, Q, h => fun g a w hr => wp_label ⟨.normal, s, g, h, trivial, hr, .refl g w, .refl g w⟩
  | .goto l, s, Q, h => fun g a w hr => wp_goto ⟨.goto l, s, g, h, rfl, hr, .refl g w, .refl g w⟩
  | .ret, s, Q, h => fun g a w hr => wp_ret ⟨.ret, s, g, h, trivial, hr, .refl g w, .refl g w⟩
  | .loop c, s, Q, h => by unfold tx at h; exact h.get
  | .scope c, s, Q, h => by unfold tx at h; exact h.get
  | .rangeFunc f ps x y, s, Q, h => by unfold tx at h; exact h.get
  | .refuse y, s, Q, h => by unfold tx at h; exact h.get

/-! ### Loops -/
theorem wp_loop_rel {β : Type} {Qm : Exit → Act → World → Prop} (I : β → Act → World → Prop) (μ : β → Nat) (b0 : β) (h₀ : I b0 a w)
    (round : ∀ b a w, I b a w → c.wp P (Exit.then (fun a' w' => ∃ b', I b' a' w' ∧ μ b' < μ b) Qm) a w) : (Code.loop c).wp P Qm a w := by
  intro b k cs
  have key : ∀ m β a w, μ β = m → I β a w →
      ∃ e a' w', Qm e a' w' ∧ Arrives P (lone (b.at a (.code c :: .inLoop c :: k)) cs w) b k cs e a' w' := by
    intro m
    induction m using Nat.strongRecOn with
    | _ m ih =>
      intro β a w hm hI
      obtain ⟨e, a₁, w₁, hq, harr⟩ := round β a w hI b (.inLoop c :: k) cs
      cases e with
      | normal =>
        obtain ⟨β', hI₁, hlt⟩ := hq
        obtain ⟨e₂, a₂, w₂, hq₂, harr₂⟩ := ih (μ β') (hm ▸ hlt) β' a₁ w₁ rfl hI₁
        exact ⟨e₂, a₂, w₂, hq₂, .of_steps (Steps.trans harr (.one step_inLoop)) harr₂⟩
      | exit id => exact ⟨_, a₁, w₁, hq, .pass (x := .inLoop c) rfl (fun _ _ => .inl (by simp)) harr⟩
      | goto l => exact ⟨_, a₁, w₁, hq, .pass (x := .inLoop c) rfl (fun _ _ => .inl (by simp)) harr⟩
      | ret => exact ⟨_, a₁, w₁, hq, .pass (x := .inLoop c) rfl (fun _ _ => .inl (by simp)) harr⟩
      | panic ch => exact ⟨_, a₁, w₁, hq, .pass (x := .inLoop c) rfl (fun _ _ => .inl (by simp)) harr⟩
      | outgrown => exact ⟨_, a₁, w₁, hq, .pass (x := .inLoop c) rfl (fun _ _ => .inl (by simp)) harr⟩
  obtain ⟨e, a', w', hq, harr⟩ := key _ b0 a w rfl h₀
  exact ⟨e, a', w', hq, .of_steps (.one step_loop) harr⟩

/-- A loop: of each round a state is told, by a parameter. -/
theorem TWp.loop {β : Type} (S : β → TS) (I : β → Prop) (μ : β → Nat) (b0 : β) (h0 : I b0) (hs : Sub (S b0) s)
    (round : ∀ b, I b → TWp P Ev n c (S b) fun e s' => match e with
      | .normal => ∃ b', I b' ∧ μ b' < μ b ∧ Sub (S b') s'
      | e => Q e s') : TWp P Ev n (.loop c) s Q := by
  intro g a w hr
  refine wp_loop_rel (fun b a1 w1 => ∃ g1, I b ∧ Rel Ev g1 n (S b) a1 w1 ∧ Ext g w g1 w1 ∧ Kept g w g1 w1) μ b0 ⟨g, h0, hr.sub hs, .refl g w, .refl g w⟩ ?_
  intro b a1 w1 ⟨g1, hI, r1, x1, k1⟩
  refine wp_mono (round b hI g1 a1 w1 r1) fun e a2 w2 ⟨xe, s2, g2, q1, q2, q3, q4, q5⟩ => ?_
  have other : Q xe s2 → e ≠ .normal → Exit.then (fun a' w' => ∃ b', (∃ g1, I b' ∧ Rel Ev g1 n (S b') a' w' ∧ Ext g w g1 w' ∧ Kept g w g1 w') ∧ μ b' < μ b) (QOk Ev n g w Q) e a2 w2 := by
    intro hq hne
    have : QOk Ev n g w Q e a2 w2 := ⟨xe, s2, g2, hq, q2, q3, x1.trans q4, k1.trans q5⟩
    cases e <;> first | exact absurd rfl hne | exact this
  cases xe with
  | normal =>
    cases e with
    | normal =>
      obtain ⟨b', hI', hlt, hsub⟩ := q1
      exact ⟨b', ⟨g2, hI', q3.sub hsub, x1.trans q4, k1.trans q5⟩, hlt⟩
    | _ => exact q2.elim
  | exit i => exact other q1 (by rintro rfl; exact q2.elim)
  | goto i => exact other q1 (by rintro rfl; exact q2.elim)
  | ret => exact other q1 (by rintro rfl; exact q2.elim)
  | panic v => exact other q1 (by rintro rfl; exact q2.elim)

/-! ### Functions -/
def argSl : List TV → Nat → SV
  | [], _ => .und
  | t :: _, 0 => .t t
  | _ :: ts, k + 1 => argSl ts k
def entry (args : List TV) (H : Nat → Option RObj) : TS := ⟨argSl args, fun _ => none, fun _ => none, H⟩

theorem argSl_eq : ∀ (args : List TV) (k : Nat), argSl args k = match args[k]? with
    | some t => .t t
    | none => .und
  | [], k => by simp [argSl]
  | t :: ts, 0 => by simp [argSl]
  | t :: ts, k + 1 => by simp only [argSl, List.getElem?_cons_succ]; exact argSl_eq ts k

/-- What the results' variables hold. -/
def resVals {P : Program} (T : Tab P) (s : TS) : List ResultVar → (List SV → Prop) → Prop
  | [], K => K []
  | .tmp t :: rs, K => (s.sl t).force fun x => resVals T s rs fun xs => K (x :: xs)
  | .cell a t :: rs, K => tval T s (.load t (.tmp a)) fun x => resVals T s rs fun xs => K (x :: xs)
/-- A function's one result. -/
def tres1 (hint : List Nat) (s : TS) (x : SV) (K : RV → TS → Prop) : Prop :=
  match x with
  | .arr k => match s.A k with
    | some o => K (.own o.sz o.xs) (s.giveA k o)
    | none => False
  | .nils => K .nils s
  | x => asTV s hint x fun tv s1 => K (.t tv) s1
def hintZip (hint : TypeId → List Nat) : List SV → List TypeId → List (SV × List Nat)
  | [], _ => []
  | x :: xs, [] => (x, []) :: hintZip hint xs []
  | x :: xs, t :: ts => (x, hint t) :: hintZip hint xs ts
def tresL (hint : TypeId → List Nat) (s : TS) (ts : List TypeId) (K : RV → TS → Prop) : List SV → Prop
  | [x] => tres1 (hint (ts.getD 0 0)) s x K
  | xs => asTVs s (hintZip hint xs ts) fun vs s1 => K (.tup vs) s1
def tres {P : Program} (T : Tab P) (hint : TypeId → List Nat) (s : TS) (rs : List ResultVar) (ts : List TypeId) (K : RV → TS → Prop) : Prop := resVals T s rs (tresL hint s ts K)
def tpost {P : Program} (T : Tab P) (hint : TypeId → List Nat) (fn : Func) (K : TOut → (Nat → Option RObj) → Prop) : XT → TS → Prop
  | .normal, s => tres T hint s fn.results.toList fn.resultTypes.toList fun r s1 => K (.ret r) s1.H
  | .ret, s => tres T hint s fn.results.toList fn.resultTypes.toList fun r s1 => K (.ret r) s1.H
  | .panic x, s => K (.panic x) s.H
  | _, _ => False

theorem hintZip_get (hint : TypeId → List Nat) : ∀ (xs : List SV) (ts : List TypeId), (hintZip hint xs ts).length = xs.length ∧ ∀ (k : Nat) (p : SV × List Nat), (hintZip hint xs ts)[k]? = some p → xs[k]? = some p.1
  | [], _ => ⟨rfl, fun k p h => by simp [hintZip] at h⟩
  | x :: xs, [] => by
    obtain ⟨h1, h2⟩ := hintZip_get hint xs []
    refine ⟨by simp [hintZip, h1], fun k p h => ?_⟩
    cases k with
    | zero => simp [hintZip] at h; subst h; rfl
    | succ k => exact h2 k p (by simpa [hintZip] using h)
  | x :: xs, t :: ts => by
    obtain ⟨h1, h2⟩ := hintZip_get hint xs ts
    refine ⟨by simp [hintZip, h1], fun k p h => ?_⟩
    cases k with
    | zero => simp [hintZip] at h; subst h; rfl
    | succ k => exact h2 k p (by simpa [hintZip] using h)

theorem resVals_ok (h : Rel Ev g n s a w) : ∀ {rs : List ResultVar} {K : List SV → Prop}, resVals T s rs K → ∃ xs vs, K xs ∧ (rs.mapM (fun
    | .tmp t => pure (a.tmps.getD t undef)
    | .cell x t => do loadVar t (← asAddr (a.tmps.getD x undef)) : ResultVar → Sem Value)).run P w = .ok vs w ∧ vs.length = xs.length ∧ ∀ (k : Nat) (x : SV) (v : Value), xs[k]? = some x → vs[k]? = some v → ∃ d, SVR g w d x v
  | [], K, hK => ⟨[], [], hK, by simp, rfl, fun k x v h1 => by simp at h1⟩
  | .tmp t :: rs, K, hK => by
    simp only [resVals, force_iff] at hK
    obtain ⟨xs, vs, h1, h2, h3, h4⟩ := resVals_ok h hK
    refine ⟨_, a.tmps.getD t undef :: vs, h1, ?_, by simp [h3], fun k x v k1 k2 => ?_⟩
    · simp only [List.mapM_cons, Sem.run_bind, Sem.run_pure, Result.andThen_ok, h2]
    · cases k with
      | zero => simp only [List.getElem?_cons_zero, Option.some.injEq] at k1 k2; subst k1; subst k2; exact ⟨t, h.slots t⟩
      | succ k => exact h4 k x v (by simpa using k1) (by simpa using k2)
  | .cell y t :: rs, K, hK => by
    simp only [resVals] at hK
    obtain ⟨x0, v0, k0, s0, r0⟩ := v_load (T := T) (ty := 0) (dst := none) (pos := "") (after := #[]) (gd := none) h hK
    obtain ⟨xs, vs, h1, h2, h3, h4⟩ := resVals_ok h k0
    have hr := r0 w (opC_self s g w (.load t (.tmp y)))
    have hl : (Instr.loadAt t (a.tmps.getD y undef)).run P w = .ok v0 w := by
      simp only [execOp, Sem.run_bind] at hr
      have e : a.eval (.tmp y) = a.tmps.getD y undef := rfl
      rw [e] at hr
      cases hrun : (Instr.loadAt t (a.tmps.getD y undef)).run P w with
      | ok u w' => rw [hrun] at hr; simp only [Result.andThen_ok, Sem.run_pure, Result.ok.injEq, Next.value.injEq] at hr; rw [hr.1, hr.2]
      | halt u w' => rw [hrun] at hr; simp [Result.andThen] at hr
    have hl2 : (do loadVar t (← asAddr (a.tmps.getD y undef)) : Sem Value).run P w = .ok v0 w := by
      revert hl
      generalize a.tmps.getD y undef = u
      intro hl
      unfold Instr.loadAt at hl
      cases u with
      | pointer ad =>
        cases ad with
        | none => simp [Instr.sureAddr, stuck, Sem.run] at hl
        | some ad => simpa [Instr.sureAddr, asAddr] using hl
      | _ => simp [Instr.sureAddr, stuck, Sem.run] at hl
    refine ⟨_, v0 :: vs, h1, ?_, by simp [h3], fun k x v k1 k2 => ?_⟩
    · rw [List.mapM_cons, Sem.run_bind]
      show (Result.andThen (Sem.run P (asAddr (a.tmps.getD y undef) >>= loadVar t) w) _) = _
      rw [hl2]
      simp only [Result.andThen_ok, Sem.run_bind, h2, Sem.run_pure]
    · cases k with
      | zero => simp only [List.getElem?_cons_zero, Option.some.injEq] at k1 k2; subst k1; subst k2; exact ⟨0, s0 0⟩
      | succ k => exact h4 k x v (by simpa using k1) (by simpa using k2)

theorem tres1_ok (h : Rel Ev g n s a w) {hs : List Nat} {x : SV} {d : Nat} {v : Value} (hx : SVR g w d x v) {K : RV → TS → Prop} (hK : tres1 hs s x K) :
    ∃ r s' g', K r s' ∧ Rel Ev g' n s' a w ∧ Ext g w g' w ∧ Kept g w g' w ∧ RVR g' w r v := by
  unfold tres1 at hK
  split at hK
  · rename_i k
    split at hK
    · rename_i o hA
      obtain ⟨g', r1, r2, r3, r4, r5, r6⟩ := h.giveA hA (.res 0) (by simp) (by simp)
      simp only [SVR] at hx
      exact ⟨_, _, g', hK, r1, r2.ext, r2.kept, by rw [hx]; exact r6⟩
    · exact hK.elim
  · exact ⟨_, s, g, hK, h, .refl g w, .refl g w, hx⟩
  · obtain ⟨tv, s1, g1, k1, r1, st1, v1, e1⟩ := asTV_ok h hx hK
    exact ⟨_, s1, g1, k1, r1, st1.ext, st1.kept, v1⟩

theorem tres_ok (h : Rel Ev g n s a w) {fn : Func} {K : RV → TS → Prop} (hK : tres T hint s fn.results.toList fn.resultTypes.toList K) :
    ∃ r s' g' v, (results fn a.tmps).run P w = .ok v w ∧ K r s' ∧ Rel Ev g' n s' a w ∧ Ext g w g' w ∧ Kept g w g' w ∧ RVR g' w r v := by
  unfold tres at hK
  obtain ⟨xs, vs, hK, h1, h2, h3⟩ := resVals_ok h hK
  have hrun : (results fn a.tmps).run P w = .ok (if h : vs.length = 1 then vs[0]'(by omega) else .tuple vs.toArray) w := by
    unfold results
    rw [Array.mapM_eq_mapM_toList]
    simp only [Sem.run_bind, Sem.run_map, Sem.run_pure]
    show ((Result.andThen (Sem.run P (fn.results.toList.mapM (fun
      | .tmp t => pure (a.tmps.getD t undef)
      | .cell x t => do loadVar t (← asAddr (a.tmps.getD x undef)) : ResultVar → Sem Value)) w) fun a w' => Result.ok a.toArray w').andThen fun a w' => Result.ok (if h : a.size = 1 then a[0] else .tuple a) w') = _
    rw [h1]
    simp only [Result.andThen_ok]
    congr 1
  unfold tresL at hK
  split at hK
  · rename_i x
    obtain ⟨v, rfl⟩ : ∃ v, vs = [v] := by
      match vs, h2 with
      | [v], _ => exact ⟨v, rfl⟩
    obtain ⟨d, hd⟩ := h3 0 x v rfl rfl
    obtain ⟨r, s', g', k1, r1, r2, r3, r4⟩ := tres1_ok h hd hK
    exact ⟨r, s', g', _, hrun, k1, r1, r2, r3, r4⟩
  · rename_i hne
    obtain ⟨z1, z2⟩ := hintZip_get hint xs fn.resultTypes.toList
    obtain ⟨ts, s1, g1, hc, r1, st1, hxs, esl⟩ := asTVs_ok h (vs := vs) (by rw [z1, h2]) (fun k p v k1 k2 => h3 k _ v (z2 k p k1) k2) hK
    refine ⟨_, s1, g1, _, hrun, hc, r1, st1.ext, st1.kept, ?_⟩
    have hl1 : vs.length ≠ 1 := by
      intro e
      rw [h2] at e
      obtain ⟨y, hy⟩ := List.length_eq_one_iff.1 e
      exact hne y hy
    rw [dif_neg hl1]
    exact ⟨_, rfl, by simpa using hxs⟩

/-- A function, of which the body is told. -/
theorem tcalls_intro {f : FuncId} {fn : Func} {c : Code} {args : List TV} {H : Nat → Option RObj} {K : TOut → (Nat → Option RObj) → Prop} (hf : P.funcs[f]? = some fn) (hb : fn.body = some c) (hn : (fn.name == "runtime.NumGoroutine") = false)
    (hsz : args.length ≤ fn.ntmps) (h : TWp P Ev fn.ntmps c (entry args H) (tpost T hint fn K)) : TCalls P Ev f args H K := by
  refine ⟨⟨fn, hf, hn, by rw [hb]; rfl⟩, fun g w vs hr hv => ?_⟩
  refine calls_of_wp hf hb ?_
  have hvs : vs.size = args.length := by have := hv.1; simpa using this
  have hrel : Rel Ev g fn.ntmps (entry args H) { tmps := vs ++ Array.replicate (fn.ntmps - vs.size) undef, defers := [] } w := {
    size := by simp; omega
    defers := rfl
    slots := fun d => by
      simp only [entry, argSl_eq]
      split
      · rename_i t ht
        have hd : d < args.length := by
          rcases Nat.lt_or_ge d args.length with h' | h'
          · exact h'
          · simp [List.getElem?_eq_none h'] at ht
        have hd' : d < vs.size := by omega
        have hat : vs.toList[d]? = some (vs[d]'hd') := by simp [hd']
        have := hv.2 d t _ ht hat
        have e : (vs ++ Array.replicate (fn.ntmps - vs.size) undef).getD d undef = vs[d]'hd' := by
          rw [Array.getD_eq_getD_getElem?, Array.getElem?_append_left hd', Array.getElem?_eq_getElem hd']
          rfl
        simp only [e]
        exact this
      · trivial
    vars := fun d o ho => by simp [entry] at ho
    arrs := fun d o ho => by simp [entry] at ho
    heap := hr.heap
    wf := hr.wf }
  refine wp_mono (h g _ w hrel) fun e a' w' ⟨xe, s1, g1, q1, q2, q3, q4, q5⟩ => ?_
  have res : Rel Ev g1 fn.ntmps s1 a' w' → tres T hint s1 fn.results.toList fn.resultTypes.toList (fun r s1 => K (.ret r) s1.H) → a'.defers = [] ∧ ∃ v, (results fn a'.tmps).run P w' = .ok v w' ∧ ∃ o H' g', K o H' ∧ RelH Ev g' H' w' ∧ Ext g w g' w' ∧ Kept g w g' w' ∧ OutR g' w' o (.returned v) := by
    intro q3 hq
    obtain ⟨r, s2, g2, v, k0, k1, k2, k3, k4, k5⟩ := tres_ok (P := P) q3 hq
    exact ⟨q3.defers, v, k0, .ret r, s2.H, g2, k1, ⟨k2.heap, k2.wf⟩, q4.trans k3, q5.trans k4, k5⟩
  cases xe with
  | normal => cases e <;> first | exact res q3 q1 | exact q2.elim
  | ret => cases e <;> first | exact res q3 q1 | exact q2.elim
  | panic x =>
    cases e <;> first | exact q2.elim | skip
    exact ⟨q3.2, .panic x, s1.H, g1, q1, q3.1, q4, q5, q2⟩
  | exit i => exact q1.elim
  | goto l => exact q1.elim

end
end Go.T
set_option linter.unusedVariables false
set_option linter.unusedSimpArgs false
namespace Go.T
open Go.RowKit

section
variable {P : Program} {ops : Array Oper} {Q : Exit → Act → World → Prop}

/-- Whatever is listed, all it waits for is listed. -/
structure Closed (ops : Array Oper) (l : Array Bool) : Prop where
  size : l.size = ops.size
  dep : ∀ j oj, ops[j]? = some oj → l.getD j false = true → ∀ e ∈ oj.after, Region.binds .any e = true → l.getD e.on false = true

/-- All orders; what is shown of each world on the way is W. -/
def AnyW (P : Program) (ops : Array Oper) (Q : Exit → Act → World → Prop) (W : Array Bool → World → Prop) : Nat → Array Bool → Act → World → Prop
  | 0, l, a, w => Region.ready .any ops l = [] ∧ Q .normal a w
  | f + 1, l, a, w => (Region.ready .any ops l = [] → Q .normal a w) ∧
    ∀ i ∈ Region.ready .any ops l, wpOp P ops Q i (fun a' w' => W (l.setIfInBounds i true) w' ∧ AnyW P ops Q W f (l.setIfInBounds i true) a' w') a w

theorem AnyW.any {W : Array Bool → World → Prop} : ∀ (f : Nat) (l : Array Bool) (a : Act) (w : World), AnyW P ops Q W f l a w → wpAny P .any ops Q f l a w
  | 0, l, a, w, h => h
  | f + 1, l, a, w, h => ⟨h.1, fun i hi => wpOp_mono (fun a' w' h' => AnyW.any f _ a' w' h'.2) (h.2 i hi)⟩
theorem AnyW.mono {W W' : Array Bool → World → Prop} (hW : ∀ l w, W l w → W' l w) : ∀ (f : Nat) (l : Array Bool) (a : Act) (w : World), AnyW P ops Q W f l a w → AnyW P ops Q W' f l a w
  | 0, l, a, w, h => h
  | f + 1, l, a, w, h => ⟨h.1, fun i hi => wpOp_mono (fun a' w' h' => ⟨hW _ _ h'.1, AnyW.mono hW f _ a' w' h'.2⟩) (h.2 i hi)⟩
theorem AnyW.post {W : Array Bool → World → Prop} {Q' : Exit → Act → World → Prop} (hQ : ∀ e a w, Q e a w → Q' e a w) : ∀ (f : Nat) (l : Array Bool) (a : Act) (w : World), AnyW P ops Q W f l a w → AnyW P ops Q' W f l a w
  | 0, l, a, w, h => ⟨h.1, hQ _ _ _ h.2⟩
  | f + 1, l, a, w, h => ⟨fun h0 => hQ _ _ _ (h.1 h0), fun i hi => wpOp_post hQ (wpOp_mono (fun a' w' h' => ⟨h'.1, AnyW.post hQ f _ a' w' h'.2⟩) (h.2 i hi))⟩
where
  wpOp_post {i : Nat} {K : Act → World → Prop} {a : Act} {w : World} {Q Q' : Exit → Act → World → Prop} (hQ : ∀ e a w, Q e a w → Q' e a w) (h : wpOp P ops Q i K a w) : wpOp P ops Q' i K a w := by
    have hlet : LetsOut Q → LetsOut Q' := fun ⟨a, w, h⟩ => ⟨a, w, hQ _ _ _ h⟩
    unfold wpOp at *
    split
    · rename_i ho; rw [ho] at h; exact h
    · rename_i o ho
      rw [ho] at h
      dsimp only at h
      split
      · rename_i hw
        rw [if_pos hw] at h
        rcases h with h | ⟨h1, h2⟩
        · refine .inl ?_
          unfold Oper.wp at *
          generalize (execOp a.eval o).run P w = r at *
          cases r with
          | ok n w' =>
            cases n <;> simp only [Oper.upon] at h ⊢ <;> first
              | exact h
              | exact Calls.mono h (fun e w'' he => by cases e <;> first | exact he | exact hQ _ _ _ he | exact hlet he)
          | halt x w' => cases x <;> simp only [Oper.upon] at h ⊢ <;> first | exact h | exact hQ _ _ _ h
        · exact .inr ⟨h1, hlet h2⟩
      · rename_i hw
        rw [if_neg hw] at h
        exact h

/-- The act behind an operation stands to the one ahead of it. -/
def AfterOp (oj : Oper) (a a' : Act) : Prop := ∃ ds u, a' = ({ a with defers := ds } : Act).put oj.dst u

theorem wpOp_swap {j : Nat} {oi oj : Oper} {v : Value} (hj : ops[j]? = some oj) (hap : oi.apart ops oj = true) (hsj : ∀ cs b, oj.op ≠ .select cs b)
    (hQ : ∀ c a w, Q (.panic c) (a.put oi.dst v) w → Q (.panic c) a w) {K : Act → World → Prop} {a : Act} {w : World}
    (h : wpOp P ops Q j K (a.put oi.dst v) w) : wpOp P ops Q j (fun a' w' => AfterOp oj a a' ∧ K (a'.put oi.dst v) w') a w := by
  obtain ⟨h1, h2, h3⟩ := Oper.apart_spec hap
  unfold wpOp at *
  simp only [hj] at *
  rw [wanted_put oj a oi.dst v h1] at h
  have fin : ∀ (ds : List Deferred) (u : Value) (w' : World), K ((({ a with defers := ds } : Act).put oi.dst v).put oj.dst u) w' → AfterOp oj a (({ a with defers := ds } : Act).put oj.dst u) ∧ K ((({ a with defers := ds } : Act).put oj.dst u).put oi.dst v) w' :=
    fun ds u w' hk => ⟨⟨ds, u, rfl⟩, by rw [← Act.put_comm _ v u h2]; exact hk⟩
  split
  · rename_i hw
    rw [if_pos hw] at h
    rcases h with h | ⟨hasks, hlets⟩
    · refine .inl ?_
      unfold Oper.wp at *
      rw [execOp_put oj hsj a oi.dst v h1] at h
      generalize (execOp a.eval oj).run P w = r at *
      cases r with
      | ok nx w' =>
        cases nx <;> simp only [Oper.upon] at h ⊢
        case value u => exact fin a.defers u w' h
        case skip => exact fin a.defers undef w' h
        case defer d => exact fin (d :: a.defers) undef w' (by rw [← Act.put_defers]; exact h)
        case enter f args =>
          refine Calls.mono h fun e w2 he => ?_
          cases e with
          | returned u => exact fin a.defers u w2 he
          | panicked c => exact hQ _ _ _ he
          | outgrown => exact he
        case row row args => exact Rows.mono h fun u w2 he => fin a.defers u w2 he
      | halt x w' =>
        cases x <;> simp only [Oper.upon] at h ⊢
        case panic u => exact hQ _ _ _ h
    · exact .inr ⟨by unfold Oper.asks at *; rw [execOp_put oj hsj a oi.dst v h1] at hasks; exact hasks, hlets⟩
  · rename_i hw
    rw [if_neg hw] at h
    exact fin a.defers undef w h

theorem getD_set_self {l : Array Bool} {i : Nat} (hi : i < l.size) (b d : Bool) : (l.setIfInBounds i b).getD i d = b := by simp [hi]
theorem getD_set_other {l : Array Bool} {i j : Nat} (h : i ≠ j) (b d : Bool) : (l.setIfInBounds i b).getD j d = l.getD j d := by simp [Array.getElem?_setIfInBounds_ne h]

theorem Closed.set {l : Array Bool} (h : Closed ops l) {i : Nat} (hi : i ∈ Region.ready .any ops l) : Closed ops (l.setIfInBounds i true) := by
  obtain ⟨_, oi, hoi, hall⟩ := mem_ready.1 hi
  refine ⟨by simp [h.size], fun j oj hj hl e he hb => ?_⟩
  by_cases hij : i = j
  · subst hij
    obtain rfl : oj = oi := Option.some.inj (hj.symm.trans hoi)
    exact getD_set_true (hall e he hb)
  · rw [getD_set_other hij] at hl
    exact getD_set_true (h.dep j oj hj hl e he hb)

/-- An operation that is ready, and yields the same whenever it is done, may be done first. -/
theorem AnyW.first {W : Array Bool → World → Prop} {i : Nat} {oi : Oper} {v : Value} {c : Sem Next} {wd : Bool} (hi : ops[i]? = some oi) (hsel : ∀ (j : Nat) (o : Oper) cs b, ops[j]? = some o → o.op ≠ .select cs b)
    (hQ : ∀ c a w, Q (.panic c) (a.put oi.dst v) w → Q (.panic c) a w) (hv : wd = false → v = undef) :
    ∀ (f : Nat) (l : Array Bool) (a : Act) (w : World), Closed ops l →
      (∀ j oj, ops[j]? = some oj → j ≠ i → l.getD j true = false → (∀ e ∈ oj.after, Region.binds .any e = true → e.on ≠ i) → oi.apart ops oj = true) →
      i ∈ Region.ready .any ops l → Region.wanted oi (yielded ops a.tmps) = wd → (wd = true → execOp a.eval oi = c) → (wd = true → c.run P w = .ok (.value v) w) → W (l.setIfInBounds i true) w →
      AnyW P ops Q (fun l' w' => W l' w' ∧ (Closed ops (l'.setIfInBounds i false) → W (l'.setIfInBounds i false) w' ∧ (wd = true → c.run P w' = .ok (.value v) w'))) f (l.setIfInBounds i true) (a.put oi.dst v) w →
      AnyW P ops Q W (f + 1) l a w := by
  intro f
  have self : ∀ {K : Act → World → Prop} {a : Act} {w : World}, Region.wanted oi (yielded ops a.tmps) = wd → (wd = true → execOp a.eval oi = c) → (wd = true → c.run P w = .ok (.value v) w) → K (a.put oi.dst v) w → wpOp P ops Q i K a w := by
    intro K a w hw hc hs hk
    unfold wpOp
    simp only [hi, hw]
    cases wd with
    | true =>
      rw [if_pos rfl]
      refine .inl ?_
      unfold Oper.wp
      rw [hc rfl, hs rfl]
      exact hk
    | false =>
      rw [if_neg (by simp)]
      rw [hv rfl] at hk
      exact hk
  induction f with
  | zero =>
    intro l a w hcl hfree hr hw hc hs hWi H
    refine ⟨fun h0 => (by rw [h0] at hr; cases hr), fun j hj => ?_⟩
    by_cases hji : j = i
    · subst hji
      exact self hw hc hs ⟨hWi, AnyW.mono (fun _ _ h => h.1) _ _ _ _ H⟩
    · have := ready_mono hj hji
      rw [H.1] at this
      cases this
  | succ f ih =>
    intro l a w hcl hfree hr hw hc hs hWi H
    refine ⟨fun h0 => (by rw [h0] at hr; cases hr), fun j hj => ?_⟩
    by_cases hji : j = i
    · subst hji
      exact self hw hc hs ⟨hWi, AnyW.mono (fun _ _ h => h.1) _ _ _ _ H⟩
    · have h1 := H.2 j (ready_mono hj hji)
      obtain ⟨hjun, oj, hoj, hall⟩ := mem_ready.1 hj
      obtain ⟨hiun, oi', hoi', halli⟩ := mem_ready.1 hr
      have hilt : i < l.size := by
        rw [hcl.size]
        exact (Array.getElem?_eq_some_iff.1 hi).1
      have hnot : ∀ e ∈ oj.after, Region.binds .any e = true → e.on ≠ i := fun e he hb heq => by
        have h2 := hall e he hb
        rw [heq] at h2
        simp [hilt] at hiun h2
        rw [hiun] at h2; cases h2
      have hap := hfree j oj hoj hji hjun hnot
      have h2 := wpOp_swap hoj hap (fun cs b => hsel j oj cs b hoj) hQ h1
      refine wpOp_mono (fun a' w' ⟨⟨ds, u, hau⟩, ⟨hW1, hW2⟩, hrest⟩ => ?_) h2
      obtain ⟨q1, q2, q3⟩ := Oper.apart_spec hap
      have e1 : ((l.setIfInBounds i true).setIfInBounds j true).setIfInBounds i false = l.setIfInBounds j true := by
        apply Array.ext_getElem?
        intro k
        by_cases hk : k = i
        · subst hk
          rw [Array.getElem?_setIfInBounds_ne hji]
          simp [hilt] at hiun ⊢
          exact hiun
        · by_cases hk2 : k = j
          · subst hk2
            rw [Array.getElem?_setIfInBounds_ne (Ne.symm hk)]
            simp [Array.getElem?_setIfInBounds, hilt]
          · simp [Array.getElem?_setIfInBounds_ne (Ne.symm hk), Array.getElem?_setIfInBounds_ne (Ne.symm hk2)]
      have e2 : (l.setIfInBounds i true).setIfInBounds j true = (l.setIfInBounds j true).setIfInBounds i true := Array.setIfInBounds_comm _ _ (Ne.symm hji)
      rw [e1] at hW2
      have hcl' := hcl.set hj
      obtain ⟨hW3, hs'⟩ := hW2 hcl'
      have hev : Region.wanted oi (yielded ops a'.tmps) = Region.wanted oi (yielded ops a.tmps) := by
        rw [hau]
        exact wanted_put oi { a with defers := ds } oj.dst u q3
      have hex : execOp a'.eval oi = execOp a.eval oi := by
        rw [hau]
        exact execOp_put oi (fun cs b => hsel i oi cs b hi) { a with defers := ds } oj.dst u q3
      refine ⟨hW3, ih (l.setIfInBounds j true) a' w' hcl' (fun k ok hk hki hun hno => hfree k ok hk hki ?_ hno) (ready_mono hr (Ne.symm hji)) (hev.trans hw) (fun h => hex.trans (hc h)) hs' (by rw [← e2]; exact hW1) (by rw [← e2]; exact hrest)⟩
      by_cases hjk : j = k
      · subst hjk; exact hjun
      · rw [getD_set_other hjk] at hun; exact hun

end
end Go.T
set_option linter.unusedVariables false
set_option linter.unusedSimpArgs false
namespace Go.T
open Go.RowKit

/-- How the orders of a region are gone through: an operation that may be done first (true: it reads what isn't changed ahead of it; false: what is never changed); one of those that are ready. -/
inductive Plan where
  | fin
  | first (i : Nat) (m : Bool) (p : Plan)
  | alt (i : Nat) (p rest : Plan)
  | noalt

def tq {P : Program} (T : Tab P) (s : TS) (o : Oper) (K : SV → Prop) : Prop :=
  match o.op with
  | .move x => (evs s x).copy.force K
  | .assign x => (evs s x).copy.force K
  | .extract x i => match evs s x with
    | .tup cs => match cs[i]? with
      | some c => K c.sv
      | none => False
    | _ => False
  | op => tval T s op K

def eaB (s : TS) (o : Oper) : Bool :=
  match o.op with
  | .load _ x => match evs s x with
    | .ea _ => true
    | .t (.eptr _) => true
    | _ => false
  | _ => true

def tdraw {P : Program} (T : Tab P) (Ev : Env) (hint : TypeId → List Nat) (imm : Nat → Bool) (n : Nat) (ops : List Oper) (K : TS → Prop) (Q : TV → TS → Prop) : Plan → List (Nat × Option Bool) → TS → Prop
  | .fin, _, s => K s
  | .first i m p, kn, s => match ops[i]? with
    | some o => Chk (dstB n o) <| tguard ops kn s o.guard
        (fun kn s => Chk (m || eaB s o) <| tq T s o fun x => tdraw T Ev hint imm n ops K Q p (kforget ops kn o.dst) (s.putO o.dst x))
        (fun kn s => tdraw T Ev hint imm n ops K Q p ((i, none) :: kforget ops kn o.dst) (s.putO o.dst .und))
    | none => False
  | .alt i p rest, kn, s => (match ops[i]? with
    | some o => Chk (dstB n o) <| tguard ops kn s o.guard
        (fun kn s => top T Ev hint imm (fun d => ops.any (appends · d)) s o (fun s' => tdraw T Ev hint imm n ops K Q p (kforget ops kn o.dst) s') Q)
        (fun kn s => tdraw T Ev hint imm n ops K Q p ((i, none) :: kforget ops kn o.dst) (s.putO o.dst .und))
    | none => False) ∧ tdraw T Ev hint imm n ops K Q rest kn s
  | .noalt, _, _ => True

/-- An operation that only reads. -/
def isLoad (ops : Array Oper) (j : Nat) : Bool :=
  match ops[j]? with
  | some o => match o.op with
    | .load _ _ => true
    | _ => false
  | none => false
def quiet (ops : Array Oper) (qs : List Nat) (j : Nat) : Bool := qs.contains j || isLoad ops j
def needs (ops : Array Oper) : Nat → Nat → Nat → Bool
  | 0, _, _ => false
  | f + 1, j, i => match ops[j]? with
    | some o => o.after.any fun e => Region.binds .any e && (e.on == i || needs ops f e.on i)
    | none => false
def memOK (ops : Array Oper) (qs : List Nat) (l : Array Bool) (i : Nat) : Bool :=
  (List.range ops.size).all fun j => l.getD j true || j == i || quiet ops qs j || needs ops ops.size j i
def Plan.idx : Plan → List Nat
  | .alt i _ rest => i :: rest.idx
  | _ => []
def planOK (ops : Array Oper) (qs : List Nat) : Plan → Nat → Array Bool → Bool → Bool
  | .fin, _, l, b => !b && (Region.ready .any ops l).isEmpty
  | .first i m p, f + 1, l, b => !b && qs.contains i && (Region.ready .any ops l).contains i && Region.free .any ops l i && (!m || memOK ops qs l i) && planOK ops qs p f (l.setIfInBounds i true) false
  | .alt i p rest, f + 1, l, b => (b || (Region.ready .any ops l).all ((Plan.alt i p rest).idx.contains ·)) && !qs.contains i && (Region.ready .any ops l).contains i && planOK ops qs p f (l.setIfInBounds i true) false && planOK ops qs rest (f + 1) l true
  | .noalt, _, _, b => b
  | _, 0, _, _ => false

section
variable {Ev : Env} {P : Program} {T : Tab P} {g g' : Gh} {n : Nat} {s s' S : TS} {a a' : Act} {w w' : World} {X : Loc → Prop} {Q Q' : XT → TS → Prop} {c : Code} {hint : TypeId → List Nat} {imm st : Nat → Bool}

theorem tq_ok (hr : Rel Ev g n s a w) {K : SV → Prop} {o : Oper} (h : tq T s o K) : VOkC P g w a o (opC s g w o.op) K := by
  obtain ⟨dst, op, ty, pos, after, gd⟩ := o
  unfold tq at h
  simp only [force_iff] at h
  split at h
  · rename_i x
    exact ⟨_, a.eval x, h, fun d => (evs_rel hr x).copy, fun w1 _ => rfl⟩
  · rename_i x
    exact ⟨_, a.eval x, h, fun d => (evs_rel hr x).copy, fun w1 _ => rfl⟩
  · rename_i x i
    have hX := evs_rel hr x
    split at h
    · rename_i cs e
      rw [e] at hX
      obtain ⟨vs, e1, e2, e3⟩ := hX
      split at h
      · rename_i c hc
        have hlt : i < cs.length := by
          rcases Nat.lt_or_ge i cs.length with h' | h'
          · exact h'
          · simp [List.getElem?_eq_none h'] at hc
        have hv : vs[i]? = some (vs[i]'(by omega)) := Array.getElem?_eq_getElem (by omega)
        refine ⟨_, vs[i]'(by omega), h, fun d => ?_, fun w1 _ => by simp only [execOp, e1, Instr.extract, hv, Sem.run_bind, Sem.run_pure, Result.andThen_ok]⟩
        have := e3 i c _ hc hv
        cases c with
        | v t => exact this
        | own sz xs => exact OwnR.view this
        | nils => exact this
      · exact h.elim
    · exact h.elim
  · exact tval_ok hr (o := { dst, op, type := ty, pos, after, guard := gd }) h

/-- What leaves the world as it was. -/
def Still {α : Type} (x : Sem α) : Prop := ∀ (P : Program) (w w' : World) (r : α), x.run P w = .ok r w' → w' = w
theorem Still.bind {α β : Type} {x : Sem α} {f : α → Sem β} (hx : Still x) (hf : ∀ a, Still (f a)) : Still (x >>= f) := by
  intro P w w' r h
  rw [Sem.run_bind] at h
  cases hr : x.run P w with
  | ok a w1 =>
    rw [hr, Result.andThen_ok] at h
    rw [hf a P w1 w' r h, hx P w w1 a hr]
  | halt e w1 => rw [hr] at h; simp [Result.andThen] at h
theorem Still.pure {α : Type} (a : α) : Still (Pure.pure a : Sem α) := by
  intro P w w' r h
  rw [Sem.run_pure] at h; cases h; rfl
theorem Still.stuck {α : Type} (m : String) : Still (Go.stuck m : Sem α) := by
  intro P w w' r h
  simp [Go.stuck, Sem.run] at h
theorem still_load (a : Addr) : Still (Go.load a) := by
  intro P w w' r h
  rw [run_load] at h
  repeat' split at h
  all_goals first | (cases h; rfl) | cases h
theorem still_cells (a : Addr) : ∀ (n i : Nat) (acc : Array Value), Still (loadCellsFrom a i n acc)
  | 0, i, acc => Still.pure acc
  | n + 1, i, acc => (still_load _).bind fun v => still_cells a n (i + 1) (acc.push v)
theorem still_program : Still program := by
  intro P w w' r h
  simp [program, Sem.run] at h; exact h.2.symm
theorem still_und (t : TypeId) : Still (underlying t) := by
  unfold underlying
  refine still_program.bind fun p => ?_
  split
  · exact Still.pure _
  · exact Still.stuck _
theorem still_size (t : TypeId) : Still (sizeOf t) := by
  unfold sizeOf typeInfo
  refine Still.bind (still_program.bind fun p => ?_) fun i => Still.pure _
  split
  · exact Still.pure _
  · exact Still.stuck _
theorem still_isAgg (t : TypeId) : Still (isAgg t) := by
  unfold isAgg
  refine (still_und t).bind fun d => ?_
  split <;> exact Still.pure _
theorem still_loadAt (t : TypeId) (v : Value) : Still (Instr.loadAt t v) := by
  unfold Instr.loadAt
  refine Still.bind ?_ fun a => ?_
  · unfold Instr.sureAddr
    split
    · exact Still.pure _
    · exact Still.stuck _
  · unfold loadVar
    refine (still_isAgg t).bind fun b => ?_
    cases b with
    | true => exact (still_size t).bind fun n => (still_cells a n 0 #[]).bind fun cs => Still.pure _
    | false => exact still_load a
theorem Oper.wp_mono' {o : Oper} {Km Km' : Act → World → Prop} {Qm : Exit → Act → World → Prop} (h : o.wp P a w Km Qm) (hk : ∀ a' w', Km a' w' → Km' a' w') : o.wp P a w Km' Qm := by
  unfold Go.Oper.wp at *
  generalize (execOp a.eval o).run P w = r at *
  cases r with
  | ok nx w' =>
    cases nx <;> simp only [Oper.upon] at h ⊢
    case value u => exact hk _ _ h
    case skip => exact hk _ _ h
    case defer d => exact hk _ _ h
    case enter f args => exact Calls.mono h fun e w2 he => by cases e <;> first | exact hk _ _ he | exact he
    case row row args => exact Rows.mono h fun u w2 he => hk _ _ he
  | halt x w' => cases x <;> exact h
theorem load_wp {o : Oper} {t : TypeId} {x : Operand} (ho : o.op = .load t x) {Km : Act → World → Prop} {Qm : Exit → Act → World → Prop} (h : o.wp P a w Km Qm) : o.wp P a w (fun a' w' => w' = w ∧ Km a' w') Qm := by
  have hs : Still (execOp a.eval o) := by
    obtain ⟨dst, op, ty, pos, after, gd⟩ := o
    dsimp only at ho
    subst ho
    exact (still_loadAt t (a.eval x)).bind fun v => Still.pure _
  have hv : ∀ r w1, (execOp a.eval o).run P w = .ok r w1 → ∃ v, r = .value v := by
    obtain ⟨dst, op, ty, pos, after, gd⟩ := o
    dsimp only at ho
    subst ho
    intro r w1 hr
    simp only [execOp, Sem.run_bind] at hr
    cases hl : (Instr.loadAt t (a.eval x)).run P w with
    | ok v w2 => rw [hl, Result.andThen_ok, Sem.run_pure] at hr; cases hr; exact ⟨v, rfl⟩
    | halt e w2 => rw [hl] at hr; simp [Result.andThen] at hr
  unfold Oper.wp at *
  cases hr : (execOp a.eval o).run P w with
  | ok r w1 =>
    obtain ⟨v, rfl⟩ := hv r w1 hr
    rw [hr, Oper.upon_value] at h
    rw [Oper.upon_value]
    exact ⟨hs P w w1 _ hr, h⟩
  | halt e w1 => rw [hr] at h; cases e <;> exact h

/-- What must be shown of each world on the way, from here on. -/
def Adm (ops : Array Oper) (qs : List Nat) (l : Array Bool) (g : Gh) (w : World) (W : Array Bool → World → Prop) : Prop :=
  ∀ l' g' w', Closed ops l' → (∀ j, l.getD j false = true → l'.getD j false = true) → Ext g w g' w' → ((∀ j, quiet ops qs j = false → l'.getD j false = l.getD j false) → w' = w) → W l' w'

def TAny (P : Program) (Ev : Env) (n : Nat) (ops : List Oper) (qs : List Nat) (Q : XT → TS → Prop) (f : Nat) (l : Array Bool) (kn : List (Nat × Option Bool)) (s : TS) : Prop :=
  ∀ g a w, Rel Ev g n s a w → KnOk ops kn a → Closed ops.toArray l → ∀ W, Adm ops.toArray qs l g w W → AnyW P ops.toArray (QOk Ev n g w Q) W f l a w

theorem needs_ok {ops : Array Oper} {l : Array Bool} (hc : Closed ops l) {i : Nat} : ∀ (f j : Nat), needs ops f j i = true → l.getD j false = true → l.getD i false = true
  | 0, j, h, hj => by simp [needs] at h
  | f + 1, j, h, hj => by
    simp only [needs] at h
    split at h
    · rename_i o ho
      obtain ⟨e, he, hb⟩ := Array.any_eq_true'.1 h
      simp only [Bool.and_eq_true, Bool.or_eq_true, beq_iff_eq] at hb
      have hl := hc.dep j o ho hj e he hb.1
      rcases hb.2 with h2 | h2
      · rw [← h2]; exact hl
      · exact needs_ok hc f e.on h2 hl
    · simp at h

theorem put_defers (a : Act) (d : Option Nat) (v : Value) : (a.put d v).defers = a.defers := by cases d <;> rfl

theorem QOk.put (g : Gh) (w0 : World) (d : Option Nat) (v : Value) : ∀ c a w, QOk Ev n g w0 Q (.panic c) (a.put d v) w → QOk Ev n g w0 Q (.panic c) a w := by
  intro c a w ⟨x, s, g1, h1, h2, h3, h4, h5⟩
  cases x with
  | panic x => exact ⟨_, s, g1, h1, h2, ⟨h3.1, by rw [← put_defers a d v]; exact h3.2⟩, h4, h5⟩
  | _ => exact h2.elim

theorem KnOk.skip {ops : List Oper} {kn : List (Nat × Option Bool)} {i : Nat} {o : Oper} (ho : ops[i]? = some o) (hd : ∀ q, o.dst = some q → q < a.tmps.size) (h : KnOk ops kn a) : KnOk ops ((i, none) :: kforget ops kn o.dst) (a.put o.dst undef) := by
  cases hq : o.dst with
  | none => have := kforget_skip0 ho hq h; rw [hq] at this; exact this
  | some q => have := kforget_skip ho hq (hd q hq) h; rw [hq] at this; exact this

theorem mem_ready' {ops : Array Oper} {l : Array Bool} {i : Nat} (h : i ∈ Region.ready .any ops l) (hc : Closed ops l) : l.getD i false = false ∧ i < l.size := by
  obtain ⟨h1, o, ho, _⟩ := mem_ready.1 h
  have hlt : i < l.size := by rw [hc.size]; exact (Array.getElem?_eq_some_iff.1 ho).1
  simp [hlt] at h1 ⊢
  exact h1

theorem tdraw_ok {ops : List Oper} {qs : List Nat} (hs : Region.noSelect ops.toArray = true) :
    ∀ (p : Plan) (f : Nat) (l : Array Bool) (b : Bool) (kn : List (Nat × Option Bool)) (s : TS), planOK ops.toArray qs p f l b = true → tdraw T Ev hint imm n ops (Q .normal) (fun x => Q (.panic x)) p kn s →
      (b = false → TAny P Ev n ops qs Q f l kn s) ∧
      (∀ g a w, Rel Ev g n s a w → KnOk ops kn a → Closed ops.toArray l → ∀ W, Adm ops.toArray qs l g w W → ∀ i ∈ p.idx, wpOp P ops.toArray (QOk Ev n g w Q) i (fun a' w' => W (l.setIfInBounds i true) w' ∧ AnyW P ops.toArray (QOk Ev n g w Q) W (f - 1) (l.setIfInBounds i true) a' w') a w)
  | .fin, f, l, b, kn, s, hp, h => by
    refine ⟨fun _ g a w hr hkn hc W hW => ?_, fun g a w hr hkn hc W hW i hi => by simp [Plan.idx] at hi⟩
    simp only [planOK, Bool.and_eq_true, List.isEmpty_iff] at hp
    have hq : QOk Ev n g w Q .normal a w := ⟨.normal, s, g, h, trivial, hr, .refl g w, .refl g w⟩
    cases f with
    | zero => exact ⟨hp.2, hq⟩
    | succ f => exact ⟨fun _ => hq, fun i hi => by rw [hp.2] at hi; cases hi⟩
  | .first i m p, 0, l, b, kn, s, hp, h => by simp [planOK] at hp
  | .first i m p, f + 1, l, b, kn, s, hp, h => by
    refine ⟨fun _ g a w hr hkn hc W hW => ?_, fun g a w hr hkn hc W hW i hi => by simp [Plan.idx] at hi⟩
    simp only [planOK, Bool.and_eq_true] at hp
    obtain ⟨⟨⟨⟨⟨hb, hqi⟩, hrd⟩, hfr⟩, hm⟩, hp⟩ := hp
    have hrd' : i ∈ Region.ready .any ops.toArray l := by simpa using hrd
    obtain ⟨hli, hil⟩ := mem_ready' hrd' hc
    simp only [tdraw] at h
    split at h
    · rename_i o ho
      obtain ⟨hd, hg⟩ := chkb_iff.1 h
      have hd := dstB_ok hd
      have hoa : ops.toArray[i]? = some o := by simpa using ho
      obtain ⟨kn', s, hkn', hr, hg⟩ := tguard_ok hr hkn hg
      -- what is shown of the worlds, with this one done first
      have adm : ∀ (v : Value) (wd : Bool) (c : Sem Next), (∀ w1, opC s g w o.op w1 → wd = true → c.run P w1 = .ok (.value v) w1) → (wd = true → m = true ∨ eaB s o = true) →
          Adm ops.toArray qs (l.setIfInBounds i true) g w (fun l' w' => W l' w' ∧ (Closed ops.toArray (l'.setIfInBounds i false) → W (l'.setIfInBounds i false) w' ∧ (wd = true → c.run P w' = .ok (.value v) w'))) := by
        intro v wd c hrun hme l' g' w' hc' hmono hx hq
        have hset : ∀ j, j ≠ i → (l.setIfInBounds i true).getD j false = l.getD j false := fun j hj => getD_set_other (Ne.symm hj) _ _
        have huns : ∀ j, j ≠ i → (l'.setIfInBounds i false).getD j false = l'.getD j false := fun j hj => getD_set_other (Ne.symm hj) _ _
        have hneq : ∀ j, quiet ops.toArray qs j = false → j ≠ i := fun j hj e => by subst e; simp only [quiet, hqi, Bool.true_or] at hj; cases hj
        have hmono0 : ∀ j, l.getD j false = true → l'.getD j false = true := fun j hj => hmono j (getD_set_true hj)
        refine ⟨hW l' g' w' hc' hmono0 hx (fun hh => hq fun j hj => by rw [hset j (hneq j hj)]; exact hh j hj), fun hcu => ⟨?_, fun hwd => ?_⟩⟩
        · refine hW _ g' w' hcu (fun j hj => ?_) hx (fun hh => hq fun j hj => ?_)
          · have hji : j ≠ i := fun e => by subst e; rw [hli] at hj; cases hj
            rw [huns j hji]; exact hmono0 j hj
          · rw [hset j (hneq j hj), ← huns j (hneq j hj)]; exact hh j hj
        · refine hrun w' ?_ hwd
          rcases hme hwd with rfl | he
          · have hmo : memOK ops.toArray qs l i = true := by simpa using hm
            have : w' = w := hq fun j hj => by
              have hji := hneq j hj
              rw [hset j hji, ← huns j hji]
              cases hlj : l.getD j false with
              | true => rw [huns j hji]; exact hmono0 j hlj
              | false =>
                cases hu : (l'.setIfInBounds i false).getD j false with
                | false => rfl
                | true =>
                  exfalso
                  have hjs : j < ops.toArray.size := by
                    rw [← hcu.size]
                    rcases Nat.lt_or_ge j (l'.setIfInBounds i false).size with h' | h'
                    · exact h'
                    · simp [Array.getElem?_eq_none h'] at hu
                  have h1 := List.all_eq_true.1 hmo j (List.mem_range.2 hjs)
                  have hlt : l.getD j true = false := by
                    have : j < l.size := by rw [hc.size]; exact hjs
                    simp [this] at hlj ⊢; exact hlj
                  have hjb : (j == i) = false := by simpa using hji
                  rw [hlt, hj, hjb] at h1
                  simp only [Bool.false_or] at h1
                  have h2 := needs_ok hcu _ _ h1 hu
                  have : i < l'.size := by rw [hc'.size, ← hc.size]; exact hil
                  rw [getD_set_self this] at h2
                  cases h2
            rw [this]; exact opC_self s g w o.op
          · unfold eaB at he
            unfold opC
            cases hop : o.op with
            | load t x =>
              rw [hop] at he
              dsimp only at he ⊢
              unfold loadC
              split at he
              · rename_i cs hcs
                rw [hcs]
                exact fun b j hj => hx.cell b j hj
              · rename_i cs hcs
                rw [hcs]
                exact fun b j hj => hx.cell b j hj
              · cases he
            | _ => trivial
      have hWi : W (l.setIfInBounds i true) w := hW _ g w (hc.set hrd') (fun j hj => getD_set_true hj) (.refl g w) (fun _ => rfl)
      by_cases hw : Region.wanted o (yielded ops.toArray a.tmps) = true
      · rw [if_pos hw] at hg
        obtain ⟨hme, hg⟩ := chkb_iff.1 hg
        obtain ⟨x, v, hk, hsv, hrun⟩ := tq_ok hr hg
        have ih := (tdraw_ok hs p f _ false _ _ hp hk).1 rfl g _ w (hr.putO hd hsv) (hkn'.forget o.dst v) (hc.set hrd') _ (adm v true (execOp a.eval o) (fun w1 h1 _ => hrun w1 h1) (fun _ => by simpa using hme))
        exact AnyW.first hoa (Region.noSelect_spec hs) (QOk.put g w o.dst v) (by simp) f l a w hc (Region.free_spec hoa hfr) hrd' hw (fun _ => rfl) (fun _ => hrun w (opC_self s g w o.op)) hWi ih
      · rw [if_neg hw] at hg
        have ih := (tdraw_ok hs p f _ false _ _ hp hg).1 rfl g _ w (hr.putO (x := .und) hd (fun _ => trivial)) (hkn'.skip ho (by rw [hr.size]; exact hd)) (hc.set hrd') _ (adm undef false (execOp a.eval o) (fun w1 h1 h2 => by cases h2) (fun h => by cases h))
        exact AnyW.first hoa (Region.noSelect_spec hs) (QOk.put g w o.dst undef) (fun _ => rfl) f l a w hc (Region.free_spec hoa hfr) hrd' (by simpa using hw) (fun _ => rfl) (fun h => by cases h) hWi ih
    · exact h.elim
  | .alt i p rest, 0, l, b, kn, s, hp, h => by simp [planOK] at hp
  | .alt i p rest, f + 1, l, b, kn, s, hp, h => by
    simp only [planOK, Bool.and_eq_true] at hp
    obtain ⟨⟨⟨⟨hall, hqi⟩, hrd⟩, hp1⟩, hp2⟩ := hp
    have hrd' : i ∈ Region.ready .any ops.toArray l := by simpa using hrd
    have hqi' : qs.contains i = false := by simpa using hqi
    simp only [tdraw] at h
    obtain ⟨h1, h2⟩ := h
    have rst := (tdraw_ok hs rest (f + 1) l true kn s hp2 h2).2
    have all : ∀ g a w, Rel Ev g n s a w → KnOk ops kn a → Closed ops.toArray l → ∀ W, Adm ops.toArray qs l g w W → ∀ j ∈ (Plan.alt i p rest).idx, wpOp P ops.toArray (QOk Ev n g w Q) j (fun a' w' => W (l.setIfInBounds j true) w' ∧ AnyW P ops.toArray (QOk Ev n g w Q) W f (l.setIfInBounds j true) a' w') a w := by
      intro g a w hr hkn hc W hW j hj
      simp only [Plan.idx, List.mem_cons] at hj
      rcases hj with rfl | hj
      · obtain ⟨hli, hil⟩ := mem_ready' hrd' hc
        split at h1
        · rename_i o ho
          obtain ⟨hd, hg⟩ := chkb_iff.1 h1
          have hd := dstB_ok hd
          have hoa : ops.toArray[j]? = some o := by simpa using ho
          obtain ⟨kn', s, hkn', hr, hg⟩ := tguard_ok hr hkn hg
          have hqj : quiet ops.toArray qs j = isLoad ops.toArray j := by simp only [quiet, hqi', Bool.false_or]
          have absurd' : isLoad ops.toArray j = false → ∀ l' : Array Bool, (∀ q, (l.setIfInBounds j true).getD q false = true → l'.getD q false = true) → ¬ ∀ q, quiet ops.toArray qs q = false → l'.getD q false = l.getD q false := by
            intro hlj l' hm hh
            have e := hh j (by rw [hqj]; exact hlj)
            rw [hm j (getD_set_self hil true false), hli] at e
            cases e
          have hWi : ∀ g' w', Ext g w g' w' → (isLoad ops.toArray j = true → w' = w) → W (l.setIfInBounds j true) w' := fun g' w' hx hst => hW _ g' w' (hc.set hrd') (fun q hq => getD_set_true hq) hx (fun hh => by
            cases hlj : isLoad ops.toArray j with
            | true => exact hst hlj
            | false => exact absurd hh (absurd' hlj _ fun _ h => h))
          have hAdm : ∀ g' w', Ext g w g' w' → (isLoad ops.toArray j = true → w' = w) → Adm ops.toArray qs (l.setIfInBounds j true) g' w' W := fun g' w' hx hst l' g2 w2 hc' hm hx2 hq2 =>
            hW l' g2 w2 hc' (fun q hq => hm q (getD_set_true hq)) (hx.trans hx2) (fun hh => by
              cases hlj : isLoad ops.toArray j with
              | true =>
                rw [← hst hlj]
                refine hq2 fun q hq => ?_
                have hne : j ≠ q := fun e => by subst e; rw [hqj, hlj] at hq; cases hq
                rw [getD_set_other hne]
                exact hh q hq
              | false => exact absurd hh (absurd' hlj _ hm))
          unfold wpOp
          simp only [hoa]
          split
          · rename_i hw
            rw [if_pos hw] at hg
            have main : o.wp P a w (fun a' w' => (isLoad ops.toArray j = true → w' = w) → W (l.setIfInBounds j true) w' ∧ AnyW P ops.toArray (QOk Ev n g w Q) W f (l.setIfInBounds j true) a' w') (QOk Ev n g w Q) := by
              refine top_ok hr hd hg (fun s' g' v w' hk hr' hx hkp hst => ⟨hWi g' w' hx hst, ?_⟩) (fun x v s' g' w' hq hv hr' hx hkp => ⟨.panic x, s', g', hq, ⟨v, rfl, hv⟩, ⟨⟨hr'.heap, hr'.wf⟩, hr'.defers⟩, hx, hkp⟩)
              have ih := (tdraw_ok hs p f _ false _ _ hp1 hk).1 rfl g' _ w' hr' (hkn'.forget o.dst v) (hc.set hrd') W (hAdm g' w' hx hst)
              exact AnyW.post (fun e a2 w2 hq => hq.trans hx hkp) _ _ _ _ ih
            refine .inl ?_
            cases hlj : isLoad ops.toArray j with
            | true =>
              rw [hlj] at main
              obtain ⟨t, x, hop⟩ : ∃ t x, o.op = .load t x := by
                simp only [isLoad, hoa] at hlj
                split at hlj
                · rename_i t x e; exact ⟨t, x, e⟩
                · cases hlj
              exact Oper.wp_mono' (load_wp hop main) fun a' w' hh => hh.2 fun _ => hh.1
            | false =>
              rw [hlj] at main
              exact Oper.wp_mono' main fun a' w' hh => hh (fun h => by cases h)
          · rename_i hw
            rw [if_neg hw] at hg
            exact ⟨hWi g w (.refl g w) (fun _ => rfl), (tdraw_ok hs p f _ false _ _ hp1 hg).1 rfl g _ w (hr.putO (x := .und) hd (fun _ => trivial)) (hkn'.skip ho (by rw [hr.size]; exact hd)) (hc.set hrd') W (hAdm g w (.refl g w) (fun _ => rfl))⟩
        · exact h1.elim
      · exact rst g a w hr hkn hc W hW j hj
    refine ⟨fun hb g a w hr hkn hc W hW => ?_, fun g a w hr hkn hc W hW j hj => all g a w hr hkn hc W hW j hj⟩
    subst hb
    simp only [Bool.false_or, List.all_eq_true] at hall
    refine ⟨fun h0 => (by rw [h0] at hrd'; cases hrd'), fun j hj => all g a w hr hkn hc W hW j (by simpa using hall j hj)⟩
  | .noalt, f, l, b, kn, s, hp, h => by
    refine ⟨fun hb => ?_, fun g a w hr hkn hc W hW i hi => by simp [Plan.idx] at hi⟩
    subst hb
    simp [planOK] at hp

theorem getD_replicate_false' (m j : Nat) : (Array.replicate m false).getD j false = false := by
  rcases Nat.lt_or_ge j m with h | h
  · simp [h]
  · simp [h]
theorem drawn_ext (g : Gh) (w : World) (m : Nat) : Ext g w g { w with drawn := m } := ⟨fun _ => Nat.le_refl _, fun _ _ _ => rfl, fun _ h => ⟨rfl, h⟩⟩
theorem drawn_kept (g : Gh) (w : World) (m : Nat) : Kept g w g { w with drawn := m } := ⟨rfl, rfl, rfl, Nat.le_refl _, fun _ _ _ => ⟨rfl, rfl, rfl⟩⟩
theorem Rel.drawn (h : Rel Ev g n s a w) (m : Nat) : Rel Ev g n s a { w with drawn := m } := by
  have hst : Step (fun _ => False) g w g { w with drawn := m } := ⟨drawn_ext g w m, drawn_kept g w m, fun _ _ h _ => ⟨rfl, h, rfl⟩⟩
  have hwf : Wf Ev g { w with drawn := m } := ⟨h.wf.new, h.wf.low, h.wf.lo, Ev.st w _ rfl rfl (Nat.le_refl _) (fun _ _ => rfl) h.wf.env, h.wf.m⟩
  exact h.step hst hwf h.size h.defers (fun q => .inl ⟨rfl, rfl, fun _ _ => rfl, fun _ _ => rfl, fun _ h => h⟩) (fun q o ho => .inl ⟨ho, rfl, fun h => h, fun _ h => h⟩) (fun q o ho => .inl ⟨ho, rfl, fun h => h⟩) (fun i o ho => .inl ⟨ho, fun h => h, fun _ h => h⟩)

/-- A region of which the order is drawn. -/
theorem TWp.draw {id : Nat} {ops : List Oper} (qs : List Nat) (p : Plan) (hm : P.follows .mixedOrders = true) (hs : Region.noSelect ops.toArray = true)
    (hp : planOK ops.toArray qs p ops.toArray.size (Array.replicate ops.toArray.size false) false = true) (h : tdraw T Ev hint imm n ops (Q .normal) (fun x => Q (.panic x)) p [] s) :
    TWp P Ev n (.region id ops.toArray true) s Q := by
  intro g a w hr
  refine wp_region_any hm ?_
  have hc : Closed ops.toArray (Array.replicate ops.toArray.size false) := ⟨by simp, fun j oj hj hl => by
    rw [getD_replicate_false'] at hl
    cases hl⟩
  have := ((tdraw_ok hs p _ _ false [] s hp h).1 rfl g a { w with drawn := w.drawn + 1 } (hr.drawn _) (fun j b hj => by simp at hj) hc (fun _ _ => True) (fun _ _ _ _ _ _ _ => trivial)).any
  exact wpAny_post (fun e a2 w2 hq => hq.trans (drawn_ext g w _) (drawn_kept g w _)) _ _ _ _ this
where
  wpAny_post {P : Program} {ops : Array Oper} {Q Q' : Exit → Act → World → Prop} (hQ : ∀ e a w, Q e a w → Q' e a w) : ∀ (f : Nat) (l : Array Bool) (a : Act) (w : World), wpAny P .any ops Q f l a w → wpAny P .any ops Q' f l a w
    | 0, l, a, w, h => ⟨h.1, hQ _ _ _ h.2⟩
    | f + 1, l, a, w, h => ⟨fun h0 => hQ _ _ _ (h.1 h0), fun i hi => AnyW.post.wpOp_post hQ (wpOp_mono (fun a' w' h' => wpAny_post hQ f _ a' w' h') (h.2 i hi))⟩

end
end Go.T
set_option linter.unusedVariables false
set_option linter.unusedSimpArgs false
namespace Go.T
open Go.RowKit

def cellB : Value → CV → Bool
  | .bool b, .v (.bool c) => b == c
  | .int k n, .v (.int k' m) => k == k' && n == m
  | .string s, .v (.str []) => s.data.isEmpty
  | .pointer none, .v .nilp => true
  | .nilFunc, .v .nilfn => true
  | .nilIface, .v .nilif => true
  | .map none, .v .nilmap => true
  | .slice none 0 0, .nils => true
  | _, _ => false
def cellsB : List Value → List CV → Bool
  | [], [] => true
  | v :: vs, c :: cs => cellB v c && cellsB vs cs
  | _, _ => false

def TD.okB : TypeDesc → TD → Bool
  | .int k, .int k' => k == k'
  | .bool, .bool => true
  | .string, .str => true
  | .pointer e, .ptr e' => e == e'
  | .slice e, .slice e' => e == e'
  | .struct a, .struct fs => a.toList.map (fun f => (f.offset, f.type)) == fs
  | .array n e, .array n' e' => n == n' && e == e'
  | .map k e, .map k' e' => k == k' && e == e'
  | .interface _, .iface => true
  | .func _ _ _, .func => true
  | _, _ => false

def TyI.okB (P : Program) (t : TypeId) (i : TyI) : Bool :=
  (match P.info? t with
   | some f => f.size == i.sz && f.bytes == i.bytes && (match f.zero with
     | some z => cellsB z.cells.toList i.zero
     | none => false)
   | none => false) &&
  (match P.underlying t with
   | some d => TD.okB d i.d
   | none => false) && (i.d.agg || i.sz == 1) && i.zero.length == i.sz &&
  (match i.d with
   | .struct fs => fs.all fun f => (P.info? f.2).isSome
   | _ => true)

theorem cellB_ok {v : Value} {c : CV} (h : cellB v c = true) : c.zval = some v := by
  unfold cellB at h
  split at h <;> first | (cases h; done) | skip
  · have := eq_of_beq h; subst this; rfl
  · simp only [Bool.and_eq_true] at h
    obtain ⟨h1, h2⟩ := h
    have e1 := eq_of_beq h1; have e2 := eq_of_beq h2
    subst e1; subst e2; rfl
  · rename_i s
    have : s = ⟨#[]⟩ := by
      cases s with
      | mk d =>
        have : d = #[] := by simpa using h
        rw [this]
    subst this; rfl
  all_goals rfl
theorem cellsB_ok : ∀ {vs : List Value} {cs : List CV}, cellsB vs cs = true → vs.map some = cs.map CV.zval
  | [], [], _ => rfl
  | v :: vs, c :: cs, h => by
    simp only [cellsB, Bool.and_eq_true] at h
    simp only [List.map_cons, cellB_ok h.1, cellsB_ok h.2]
  | [], _ :: _, h => by simp [cellsB] at h
  | _ :: _, [], h => by simp [cellsB] at h

theorem TD.okB_ok {d : TypeDesc} {i : TD} (h : TD.okB d i = true) : i.ok d ∧ (i.agg = true ↔ (∃ fs, d = .struct fs) ∨ ∃ n e, d = .array n e) := by
  unfold TD.okB at h
  split at h <;> first | (cases h; done) | skip
  · have := eq_of_beq h; subst this; exact ⟨rfl, by simp [TD.agg]⟩
  · exact ⟨rfl, by simp [TD.agg]⟩
  · exact ⟨rfl, by simp [TD.agg]⟩
  · have := eq_of_beq h; subst this; exact ⟨rfl, by simp [TD.agg]⟩
  · have := eq_of_beq h; subst this; exact ⟨rfl, by simp [TD.agg]⟩
  · have := eq_of_beq h; exact ⟨⟨_, rfl, this⟩, by simp [TD.agg]⟩
  · simp only [Bool.and_eq_true] at h
    have e1 := eq_of_beq h.1; have e2 := eq_of_beq h.2; subst e1; subst e2; exact ⟨rfl, by simp [TD.agg]⟩
  · simp only [Bool.and_eq_true] at h
    have e1 := eq_of_beq h.1; have e2 := eq_of_beq h.2; subst e1; subst e2; exact ⟨rfl, by simp [TD.agg]⟩
  · exact ⟨⟨_, rfl⟩, by simp [TD.agg]⟩
  · exact ⟨⟨_, _, _, rfl⟩, by simp [TD.agg]⟩

theorem TyI.okB_ok {P : Program} {t : TypeId} {i : TyI} (h : TyI.okB P t i = true) : i.Ok P t := by
  simp only [TyI.okB, Bool.and_eq_true] at h
  obtain ⟨⟨⟨⟨h1, h2⟩, h3⟩, h4⟩, h5⟩ := h
  have d : ∃ d, P.underlying t = some d ∧ TD.okB d i.d = true := by
    split at h2
    · rename_i d e; exact ⟨d, e, h2⟩
    · cases h2
  obtain ⟨d, hd, hdd⟩ := d
  obtain ⟨q1, q2⟩ := TD.okB_ok hdd
  refine ⟨?_, ⟨d, hd, q1⟩, ⟨d, hd, q2⟩, fun ha => ?_, by simpa using h4, fun fs hf f hm => ?_⟩
  · split at h1
    · rename_i f hf
      simp only [Bool.and_eq_true, beq_iff_eq] at h1
      obtain ⟨⟨e1, e2⟩, e3⟩ := h1
      split at e3
      · rename_i z hz
        exact ⟨f, z, hf, e1, e2, hz, cellsB_ok e3⟩
      · cases e3
    · cases h1
  · rw [ha] at h3
    simpa using h3
  · rw [hf] at h5
    exact List.all_eq_true.1 h5 f hm

def tabL : List (Nat × TyI) → Nat → Option TyI
  | [], _ => none
  | (t, i) :: l, j => bif Nat.beq t j then some i else tabL l j
theorem tabL_mem {t : Nat} {i : TyI} : ∀ {l : List (Nat × TyI)}, tabL l t = some i → (t, i) ∈ l
  | [], h => by simp [tabL] at h
  | (u, k) :: l, h => by
    simp only [tabL] at h
    cases hb : Nat.beq u t with
    | true =>
      rw [hb] at h
      obtain rfl := Nat.eq_of_beq_eq_true hb
      simp only [cond_true, Option.some.injEq] at h
      simp [h]
    | false =>
      rw [hb] at h
      exact List.mem_cons_of_mem _ (tabL_mem h)
/-- The table of a list, of which each row is checked. -/
def Tab.of (P : Program) (l : List (Nat × TyI)) (h : (l.all fun p => TyI.okB P p.1 p.2) = true) : Tab P := {
  ty := tabL l
  ok t i hi := TyI.okB_ok (List.all_eq_true.1 h (t, i) (tabL_mem hi)) }

end Go.T
set_option linter.unusedVariables false
namespace Go.T
open Go.RowKit
/-- A call that returns, and leaves what is in memory. -/
def Ret (P : Program) (Ev : Env) (f : FuncId) (args : List TV) (H : Nat → Option RObj) (r : RV) : Prop := TCalls P Ev f args H fun o H' => o = .ret r ∧ H' = H
theorem Ret.use {P : Program} {Ev : Env} {f : FuncId} {args : List TV} {H : Nat → Option RObj} {r : RV} {K : TOut → (Nat → Option RObj) → Prop} (h : Ret P Ev f args H r) (k : K (.ret r) H) : Hold (TCalls P Ev f args H K) :=
  ⟨h.mono fun o H' ⟨h1, h2⟩ => by rw [h1, h2]; exact k⟩
/-- A function of which the kit tells what it computes, with the world left as it was. -/
theorem Ret.ofCalls {P : Program} {Ev : Env} {f : FuncId} {args : List TV} {H : Nat → Option RObj} {r : RV} (hE : Enters P f)
    (h : ∀ (g : Gh) (w : World) (vs : Array Value), Ev.E w → VVs g w args vs.toList → ∃ v, RVR g w r v ∧ Calls P f vs w fun e w' => e = .returned v ∧ w' = w) : Ret P Ev f args H r := by
  refine ⟨hE, fun g w vs hr hv => ?_⟩
  obtain ⟨v, h1, h2⟩ := h g w vs hr.wf.env hv
  refine h2.mono fun e w' ⟨e1, e2⟩ => ?_
  subst e1; subst e2
  exact ⟨.ret r, H, g, ⟨rfl, rfl⟩, hr, .refl g w', .refl g w', h1⟩
theorem VVs.nil_inv {g : Gh} {w : World} {vs : List Value} (h : VVs g w [] vs) : vs = [] := List.eq_nil_of_length_eq_zero h.1
theorem VVs.cons_inv {g : Gh} {w : World} {t : TV} {ts : List TV} {vs : List Value} (h : VVs g w (t :: ts) vs) : ∃ v vs', vs = v :: vs' ∧ g.VV w t v ∧ VVs g w ts vs' := by
  cases vs with
  | nil => have := h.1; simp at this
  | cons v vs => exact ⟨v, vs, rfl, h.2 0 t v rfl rfl, by have := h.1; simpa using this, fun k t' u h1 h2 => h.2 (k + 1) t' u (by simpa using h1) (by simpa using h2)⟩
theorem VV.str_inv {g : Gh} {w : World} {l : List UInt8} {v : Value} (h : g.VV w (.str l) v) : ∃ b : ByteArray, b.data.toList = l ∧ v = .string b := by
  cases h with
  | str b => exact ⟨b, rfl, rfl⟩
theorem VV.int_inv {g : Gh} {w : World} {k : IntKind} {n : Int} {v : Value} (h : g.VV w (.int k n) v) : v = .int k n := by cases h; rfl
theorem arr2 {vs : Array Value} {a b : Value} (h : vs.toList = [a, b]) : vs = #[a, b] := by
  apply Array.ext'
  exact h
section
variable {Ev : Env} {P : Program} {n : Nat} {c x y : Code} {s : TS} {Q : XT → TS → Prop} {β : Type}
/-- What code ends in is told by a family of states. -/
theorem TWp.to (S : β → TS) (I : β → Prop) (h : TWp P Ev n c s fun e s' => match e with
    | .normal => ∃ b, I b ∧ Sub (S b) s'
    | e => Q e s') (k : ∀ b, I b → Q .normal (S b)) : TWp P Ev n c s Q := by
  intro g a w hr
  refine wp_mono (h g a w hr) fun e a1 w1 ⟨xe, s1, g1, q1, q2, q3, q4, q5⟩ => ?_
  cases xe with
  | normal =>
    obtain ⟨b, hb, hs⟩ := q1
    exact ⟨.normal, S b, g1, k b hb, q2, Rel.sub q3 hs, q4, q5⟩
  | exit i => exact ⟨_, s1, g1, q1, q2, q3, q4, q5⟩
  | goto i => exact ⟨_, s1, g1, q1, q2, q3, q4, q5⟩
  | ret => exact ⟨_, s1, g1, q1, q2, q3, q4, q5⟩
  | panic v => exact ⟨_, s1, g1, q1, q2, q3, q4, q5⟩
theorem TWp.seqTo (S : β → TS) (I : β → Prop) (h1 : TWp P Ev n x s fun e s' => match e with
    | .normal => ∃ b, I b ∧ Sub (S b) s'
    | e => Q e s') (h2 : ∀ b, I b → TWp P Ev n y (S b) Q) : TWp P Ev n (.seq x y) s Q :=
  TWp.seq (R := fun s' => ∃ b, I b ∧ Sub (S b) s') h1 fun s' ⟨b, hb, hs⟩ => (h2 b hb).sub hs
/-- Code of which no goto leads to a label of its own. -/
theorem TWp.scope (h : TWp P Ev n c s fun e s' => match e with
    | .goto _ => False
    | e => Q e s') : TWp P Ev n (.scope c) s Q := by
  intro g a w hr
  refine wp_scope_straight (wp_mono (h g a w hr) fun e a1 w1 ⟨xe, s1, g1, q1, q2, q3, q4, q5⟩ => ?_)
  cases xe with
  | goto l => exact q1.elim
  | normal => cases e <;> first | exact ⟨_, s1, g1, q1, q2, q3, q4, q5⟩ | exact q2.elim
  | exit i => cases e <;> first | exact ⟨_, s1, g1, q1, q2, q3, q4, q5⟩ | exact q2.elim
  | ret => cases e <;> first | exact ⟨_, s1, g1, q1, q2, q3, q4, q5⟩ | exact q2.elim
  | panic v => cases e <;> first | exact ⟨_, s1, g1, q1, q2, q3, q4, q5⟩ | exact q2.elim
end
theorem wrap_i64 {n : Int} (h1 : -9223372036854775808 ≤ n) (h2 : n ≤ 9223372036854775807) : IntKind.i64.wrap n = n := by
  simp [IntKind.wrap, IntKind.signed, IntKind.bits]
  omega
theorem get_map {α β : Type} {f : α → β} {l : List α} {i : Nat} {y : β} (h : (l.map f)[i]? = some y) : ∃ x, l[i]? = some x ∧ y = f x := by
  rw [List.getElem?_map, Option.map_eq_some_iff] at h
  obtain ⟨x, h1, h2⟩ := h
  exact ⟨x, h1, h2.symm⟩
theorem get_map' {α β : Type} {f : α → β} {l : List α} {i : Nat} {y : β} (h : (l.map f)[(i : Int).toNat]? = some y) : ∃ x, l[i]? = some x ∧ y = f x := by
  rw [Int.toNat_natCast] at h
  exact get_map h
theorem drop_get {α : Type} {l : List α} {i : Nat} {z : α} (h : l[i]? = some z) : l.drop i = z :: l.drop (i + 1) := by
  obtain ⟨h1, h2⟩ := List.getElem?_eq_some_iff.1 h
  rw [← h2]
  exact List.drop_eq_getElem_cons h1
end Go.T
set_option linter.unusedVariables false
set_option linter.unusedSimpArgs false
namespace Go.T
open Go.RowKit

/-- A cell of which less is known. -/
inductive CLe : CV → CV → Prop where
  | refl (c : CV) : CLe c c
  | own (sz : Nat) : CLe .nils (.own sz [])
  | sl (sz : Nat) : CLe .nils (.v (.sl sz []))
  | slr (sz r cap : Nat) : CLe .nils (.v (.slr sz r 0 cap))
  | view (sz : Nat) (xs : List TV) : CLe (.own sz xs) (.v (.sl sz xs))
def CsLe : List CV → List CV → Prop
  | [], [] => True
  | c :: cs, c' :: cs' => CLe c c' ∧ CsLe cs cs'
  | _, _ => False
theorem CsLe.get : ∀ {cs cs' : List CV}, CsLe cs cs' → cs.length = cs'.length ∧ ∀ (j : Nat) (c c' : CV), cs[j]? = some c → cs'[j]? = some c' → CLe c c'
  | [], [], _ => ⟨rfl, fun j c c' h => by simp at h⟩
  | [], _ :: _, h => h.elim
  | _ :: _, [], h => h.elim
  | c :: cs, c' :: cs', h => by
    obtain ⟨h1, h2⟩ := CsLe.get h.2
    refine ⟨by simp [h1], fun j x x' hx hx' => ?_⟩
    cases j with
    | zero => simp at hx hx'; subst hx; subst hx'; exact h.1
    | succ j => exact h2 j x x' (by simpa using hx) (by simpa using hx')
theorem CsLe.refl : ∀ (cs : List CV), CsLe cs cs
  | [] => trivial
  | c :: cs => ⟨.refl c, CsLe.refl cs⟩
def HLe (H H' : Nat → Option RObj) : Prop := ∀ i o', H' i = some o' → H i = some o' ∨ ∃ cs cs', H i = some (.cells cs) ∧ o' = .cells cs' ∧ CsLe cs cs'
theorem HLe.upd {H : Nat → Option RObj} {i : Nat} {cs cs' : List CV} (h : H i = some (.cells cs)) (hc : CsLe cs cs') : HLe H (upd H i (some (.cells cs'))) := by
  intro k o' ho
  by_cases e : k = i
  · subst e
    rw [upd_same] at ho
    cases ho
    exact .inr ⟨cs, cs', h, rfl, hc⟩
  · rw [upd_ne _ _ e] at ho
    exact .inl ho

section
variable {Ev : Env} {P : Program} {T : Tab P} {g g' : Gh} {n : Nat} {s s' S : TS} {a a' : Act} {w w' : World} {X : Loc → Prop} {Q Q' : XT → TS → Prop} {c : Code}
theorem CLe.cvr {L : Loc} {c c' : CV} {v : Value} (h : CLe c c') (hv : CVR g w L c v) : CVR g w L c' v := by
  cases h with
  | refl => exact hv
  | own sz => have hv : v = .slice none 0 0 := hv; subst hv; exact OwnR.nil g w L true sz
  | sl sz => have hv : v = .slice none 0 0 := hv; subst hv; exact ⟨.sl0 sz none 0, rfl⟩
  | slr sz r cap => have hv : v = .slice none 0 0 := hv; subst hv; exact ⟨.slr0 sz r cap, rfl⟩
  | view sz xs => exact CVR.view (L' := L) hv
theorem CsLe.cvrs {L : Nat → Loc} {cs cs' : List CV} {vs : Array Value} (h : CsLe cs cs') (hv : CVRs g w L cs vs) : CVRs g w L cs' vs := by
  obtain ⟨h1, h2⟩ := h.get
  refine ⟨by rw [hv.1, h1], fun j x v hx hv' => ?_⟩
  have hj : j < cs.length := by
    rw [h1]
    rcases Nat.lt_or_ge j cs'.length with h' | h'
    · exact h'
    · simp [List.getElem?_eq_none h'] at hx
  exact (h2 j _ x (List.getElem?_eq_getElem hj) hx).cvr (hv.2 j _ v (List.getElem?_eq_getElem hj) hv')
theorem RefR.le {H H' : Nat → Option RObj} (h : HLe H H') (hr : ∀ i o, H i = some o → RefR g w i o) : ∀ i o, H' i = some o → RefR g w i o := by
  intro i o ho
  rcases h i o ho with e | ⟨cs, cs', e1, rfl, e3⟩
  · exact hr i o e
  · obtain ⟨vals, e, h1, h2, h3, h4⟩ := hr i _ e1
    exact ⟨vals, e, h1, h2, h3, e3.cvrs h4⟩
theorem RelH.le {H H' : Nat → Option RObj} (h : HLe H H') (hr : RelH Ev g H w) : RelH Ev g H' w := ⟨RefR.le h hr.heap, hr.wf⟩
theorem TCalls.heapLe {f : FuncId} {args : List TV} {H H' : Nat → Option RObj} {K : TOut → (Nat → Option RObj) → Prop} (h : HLe H H') (hc : TCalls P Ev f args H' K) : TCalls P Ev f args H K :=
  ⟨hc.1, fun g w vs hr hv => hc.2 g w vs (hr.le h) hv⟩
theorem TWp.heapLe {H' : Nat → Option RObj} (h : HLe s.H H') (hc : TWp P Ev n c { s with H := H' } Q) : TWp P Ev n c s Q :=
  fun g a w hr => hc g a w { hr with heap := RefR.le h hr.heap }
/-- What is new in the heap is forgotten. -/
theorem Ret.tol {f : FuncId} {args : List TV} {H : Nat → Option RObj} {r : RV} (h : TCalls P Ev f args H fun o H' => o = .ret r ∧ ∀ i, H i = none ∨ H' i = H i) : Ret P Ev f args H r :=
  ⟨h.1, fun g w vs hr hv => (h.2 g w vs hr hv).mono fun e w' ⟨o, H', g', ⟨k1, k2⟩, k3, k4⟩ => ⟨o, H, g', ⟨k1, rfl⟩, ⟨fun i o ho => k3.heap i o (by rcases k2 i with e | e; (rw [e] at ho; cases ho); rw [e]; exact ho), k3.wf⟩, k4⟩⟩
/-- A variable becomes a thing of the heap. -/
theorem TWp.promote {d : Nat} {cs : List CV} (hV : s.V d = some (.cells cs)) (hc : ∀ i, s.H i = none → TWp P Ev n c (s.promote d cs i) Q) : TWp P Ev n c s Q := by
  intro g a w hr
  obtain ⟨i, g', h1, h2, st, _⟩ := hr.promote hV
  refine wp_mono (hc i h1 g' a w h2) fun e a1 w1 ⟨x, s1, g1, q1, q2, q3, q4, q5⟩ => ⟨x, s1, g1, q1, q2, q3, st.ext.trans q4, st.kept.trans q5⟩
/-- Less is known of a variable. -/
theorem TWp.varLe {d : Nat} {cs : List CV} (cs' : List CV) (hV : s.V d = some (.cells cs)) (h : CsLe cs cs') (hc : TWp P Ev n c { s with V := upd s.V d (some (.cells cs')) } Q) : TWp P Ev n c s Q := by
  intro g a w hr
  refine hc g a w { hr with vars := fun k o ho => ?_ }
  dsimp only at ho
  by_cases e : k = d
  · subst e
    rw [upd_same] at ho; cases ho
    obtain ⟨vals, e, h1, h2, h3, h4⟩ := hr.vars k _ hV
    exact ⟨vals, e, h1, h2, h3, h.cvrs h4⟩
  · rw [upd_ne _ _ e] at ho
    exact hr.vars k o ho
end

/-! ### Arrays that are written no more -/
/-- With arrays of the heap as lists. -/
inductive Fr (F : Nat → Option (Nat × List TV)) : TV → TV → Prop where
  | refl (t : TV) : Fr F t t
  | slr0 (sz r cap : Nat) : Fr F (.slr sz r 0 cap) (.sl sz [])
  | slr (sz r cap : Nat) (xs : List TV) (h : F r = some (sz, xs)) : Fr F (.slr sz r xs.length cap) (.sl sz xs)
  | agg (cs cs' : List TV) (hl : cs'.length = cs.length) (h : ∀ (k : Nat) (t t' : TV), cs[k]? = some t → cs'[k]? = some t' → Fr F t t') : Fr F (.agg cs) (.agg cs')
  | sl (sz : Nat) (xs xs' : List TV) (hl : xs'.length = xs.length) (h : ∀ (k : Nat) (t t' : TV), xs[k]? = some t → xs'[k]? = some t' → Fr F t t') : Fr F (.sl sz xs) (.sl sz xs')
def FrL (F : Nat → Option (Nat × List TV)) (xs xs' : List TV) : Prop := xs'.length = xs.length ∧ ∀ (k : Nat) (t t' : TV), xs[k]? = some t → xs'[k]? = some t' → Fr F t t'
inductive FrC (F : Nat → Option (Nat × List TV)) : CV → CV → Prop where
  | refl (c : CV) : FrC F c c
  | v (t t' : TV) (h : Fr F t t') : FrC F (.v t) (.v t')
  | own (sz : Nat) (xs xs' : List TV) (h : FrL F xs xs') : FrC F (.own sz xs) (.own sz xs')

section
variable {Ev : Env} {P : Program} {T : Tab P} {g g' : Gh} {n : Nat} {s s' S : TS} {a a' : Act} {w w' : World} {X : Loc → Prop} {Q Q' : XT → TS → Prop} {c : Code} {F : Nat → Option (Nat × List TV)}
theorem FrL.nil : FrL F [] [] := ⟨rfl, fun k t t' h => by simp at h⟩
theorem FrL.cons {t t' : TV} {xs xs' : List TV} (h : Fr F t t') (hs : FrL F xs xs') : FrL F (t :: xs) (t' :: xs') := by
  refine ⟨by simp [hs.1], fun k a b h1 h2 => ?_⟩
  cases k with
  | zero => simp at h1 h2; subst h1; subst h2; exact h
  | succ k => exact hs.2 k a b (by simpa using h1) (by simpa using h2)
theorem FrL.map {α : Type} {f f' : α → TV} {l : List α} (h : ∀ x, x ∈ l → Fr F (f x) (f' x)) : FrL F (l.map f) (l.map f') := by
  refine ⟨by simp, fun k a b h1 h2 => ?_⟩
  rw [List.getElem?_map, Option.map_eq_some_iff] at h1 h2
  obtain ⟨x, e1, rfl⟩ := h1
  obtain ⟨y, e2, rfl⟩ := h2
  rw [e1] at e2; cases e2
  exact h x (List.mem_of_getElem? e1)
theorem FrL.append {xs xs' ys ys' : List TV} (h : FrL F xs xs') (k : FrL F ys ys') : FrL F (xs ++ ys) (xs' ++ ys') := by
  refine ⟨by simp [h.1, k.1], fun j a b h1 h2 => ?_⟩
  rcases Nat.lt_or_ge j xs.length with hj | hj
  · rw [List.getElem?_append_left hj] at h1
    rw [List.getElem?_append_left (by rw [h.1]; exact hj)] at h2
    exact h.2 j a b h1 h2
  · rw [List.getElem?_append_right hj] at h1
    rw [List.getElem?_append_right (by rw [h.1]; exact hj), h.1] at h2
    exact k.2 _ a b h1 h2
theorem Fr.cells {t t' : TV} (h : Fr F t t') : FrL F t.cells t'.cells := by
  cases h with
  | refl => exact ⟨rfl, fun k a b h1 h2 => by rw [h1] at h2; cases h2; exact .refl a⟩
  | slr0 sz r cap => exact .cons (.slr0 sz r cap) .nil
  | slr sz r cap xs h => exact .cons (.slr sz r cap xs h) .nil
  | agg cs cs' hl h => exact ⟨hl, h⟩
  | sl sz xs xs' hl h => exact .cons (.sl sz xs xs' hl h) .nil
theorem FrL.flat : ∀ {xs xs' : List TV}, FrL F xs xs' → FrL F (flat xs) (flat xs')
  | [], [], _ => .nil
  | [], _ :: _, h => by have := h.1; simp at this
  | _ :: _, [], h => by have := h.1; simp at this
  | x :: xs, x' :: xs', h => by
    rw [flat_cons, flat_cons]
    exact (h.2 0 x x' rfl rfl).cells.append (FrL.flat ⟨by have := h.1; simpa using this, fun k a b h1 h2 => h.2 (k + 1) a b (by simpa using h1) (by simpa using h2)⟩)
theorem FrL.sizes {xs xs' : List TV} {sz : Nat} (h : FrL F xs xs') (hs : ∀ x, x ∈ xs → x.cells.length = sz) : ∀ x, x ∈ xs' → x.cells.length = sz := by
  intro x hx
  obtain ⟨k, hk⟩ := List.getElem?_of_mem hx
  have hlt : k < xs.length := by
    rw [← h.1]
    rcases Nat.lt_or_ge k xs'.length with h' | h'
    · exact h'
    · simp [List.getElem?_eq_none h'] at hk
  rw [(h.2 k _ x (List.getElem?_eq_getElem hlt) hk).cells.1]
  exact hs _ (List.getElem_mem hlt)

/-- What is known when these arrays are written no more. -/
def Gh.frz (g : Gh) (F : Nat → Option (Nat × List TV)) (b : Nat) : Option (Nat × List TV) :=
  match g.O b with
  | some (.ref r) => if b = g.ρ r then F r else none
  | _ => none
def Gh.freeze (g : Gh) (F : Nat → Option (Nat × List TV)) : Gh := { g with c := fun b => match g.frz F b with
  | some (sz, xs) => xs.length * sz
  | none => g.c b }

/-- The arrays are there. -/
def FrOk (F : Nat → Option (Nat × List TV)) (H : Nat → Option RObj) : Prop := ∀ r sz xs, F r = some (sz, xs) → ∃ cap, H r = some (.arr sz cap xs)

theorem frz_some {b : Nat} {p : Nat × List TV} (h : g.frz F b = some p) : ∃ r, b = g.ρ r ∧ g.O b = some (.ref r) ∧ F r = some p := by
  unfold Gh.frz at h
  split at h
  · rename_i r hO
    split at h
    · rename_i e
      exact ⟨r, e, hO, h⟩
    · cases h
  · cases h
theorem frz_ref {r : Nat} {p : Nat × List TV} (hO : g.O (g.ρ r) = some (.ref r)) (h : F r = some p) : g.frz F (g.ρ r) = some p := by
  simp [Gh.frz, hO, h]
theorem freeze_step (hw : Wf Ev g w) {H : Nat → Option RObj} (hF : FrOk F H) (hr : ∀ i o, H i = some o → RefR g w i o) : Step (fun L => ∃ r, L = .ref r ∧ (F r).isSome = true) g w (g.freeze F) w ∧ Wf Ev (g.freeze F) w := by
  have hst : Step (fun L => ∃ r, L = .ref r ∧ (F r).isSome = true) g w (g.freeze F) w := by
    refine Step.ghost hw (fun b L hL => ?_) (fun b hb => ⟨hb, by simp [Gh.freeze, Gh.frz, hb]⟩) (fun b => ?_) (fun i hi => ⟨rfl, hi⟩)
    · cases hf : g.frz F b with
      | none => exact .inr ⟨hL, by simp [Gh.freeze, hf]⟩
      | some p =>
        obtain ⟨r, e1, e2, e3⟩ := frz_some hf
        rw [hL] at e2; cases e2
        exact .inl ⟨⟨r, rfl, by rw [e3]; rfl⟩, by simp⟩
    · simp only [Gh.freeze]
      split
      · rename_i sz xs hf
        obtain ⟨r, e1, e2, e3⟩ := frz_some hf
        obtain ⟨cap, hH⟩ := hF r sz xs e3
        obtain ⟨vals, e, cs, q1, q2, q3, _⟩ := hr r _ hH
        rw [e1, q3]; exact Nat.zero_le _
      · exact Nat.le_refl _
  exact ⟨hst, hw.kept hst.kept (fun b hb => ⟨(hw.new b hb).1, by simp [Gh.freeze, Gh.frz, (hw.new b hb).1, (hw.new b hb).2]⟩) hw.m⟩

/-- Whatever the one stands for, the other does. -/
def Tr (g g' : Gh) (w : World) (t t' : TV) : Prop := ∀ v : Value, g.VV w t v → g'.VV w t' v
def TrL (g g' : Gh) (w : World) (xs xs' : List TV) : Prop := xs'.length = xs.length ∧ ∀ (k : Nat) (t t' : TV), xs[k]? = some t → xs'[k]? = some t' → Tr g g' w t t'
theorem TrL.append {xs xs' ys ys' : List TV} (h : TrL g g' w xs xs') (k : TrL g g' w ys ys') : TrL g g' w (xs ++ ys) (xs' ++ ys') := by
  refine ⟨by simp [h.1, k.1], fun j a b h1 h2 => ?_⟩
  rcases Nat.lt_or_ge j xs.length with hj | hj
  · rw [List.getElem?_append_left hj] at h1
    rw [List.getElem?_append_left (by rw [h.1]; exact hj)] at h2
    exact h.2 j a b h1 h2
  · rw [List.getElem?_append_right hj] at h1
    rw [List.getElem?_append_right (by rw [h.1]; exact hj), h.1] at h2
    exact k.2 _ a b h1 h2
theorem TrL.one {t t' : TV} (h : Tr g g' w t t') : TrL g g' w [t] [t'] := by
  refine ⟨rfl, fun k a b h1 h2 => ?_⟩
  cases k with
  | zero => simp at h1 h2; subst h1; subst h2; exact h
  | succ k => simp at h1
theorem TrL.flat : ∀ {xs xs' : List TV}, xs'.length = xs.length → (∀ (k : Nat) (t t' : TV), xs[k]? = some t → xs'[k]? = some t' → TrL g g' w t.cells t'.cells) → TrL g g' w (flat xs) (flat xs')
  | [], [], _, _ => ⟨rfl, fun k a b h1 => by simp [Go.T.flat] at h1⟩
  | [], _ :: _, h, _ => by simp at h
  | _ :: _, [], h, _ => by simp at h
  | x :: xs, x' :: xs', h, hk => by
    rw [flat_cons, flat_cons]
    exact (hk 0 x x' rfl rfl).append (TrL.flat (by simpa using h) (fun k a b h1 h2 => hk (k + 1) a b (by simpa using h1) (by simpa using h2)))
theorem TrL.vvs {xs xs' : List TV} (h : TrL g g' w xs xs') {vs : List Value} (hv : VVs g w xs vs) : VVs g' w xs' vs := by
  refine ⟨by rw [hv.1, h.1], fun k t u h1 h2 => ?_⟩
  have hlt : k < xs.length := by
    rw [← h.1]
    rcases Nat.lt_or_ge k xs'.length with h' | h'
    · exact h'
    · simp [List.getElem?_eq_none h'] at h1
  exact h.2 k _ t (List.getElem?_eq_getElem hlt) h1 u (hv.2 k _ u (List.getElem?_eq_getElem hlt) h2)

theorem Fr.tr (hw : Wf Ev g w) {H : Nat → Option RObj} (hF : FrOk F H) (hr : ∀ i o, H i = some o → RefR g w i o) {t t' : TV} (h : Fr F t t') : Tr g (g.freeze F) w t t' ∧ TrL g (g.freeze F) w t.cells t'.cells := by
  have hx := (freeze_step hw hF hr).1.ext
  induction h with
  | refl t => exact ⟨fun v hv => VV.ext hx hv, rfl, fun k a b h1 h2 => by rw [h1] at h2; cases h2; exact fun v hv => VV.ext hx hv⟩
  | slr0 sz r cap =>
    have : Tr g (g.freeze F) w (.slr sz r 0 cap) (.sl sz []) := by
      intro v hv
      cases hv with
      | slr0 => exact .sl0 sz none 0
      | slr _ _ _ _ h0 => omega
    exact ⟨this, .one this⟩
  | slr sz r cap xs hf =>
    have : Tr g (g.freeze F) w (.slr sz r xs.length cap) (.sl sz xs) := by
      intro v hv
      generalize hn : xs.length = m at hv
      cases hv with
      | slr0 =>
        have : xs = [] := List.eq_nil_of_length_eq_zero hn
        subst this
        exact .sl0 sz none 0
      | slr _ _ _ _ h0 hcap hm hO =>
        obtain ⟨cap', hH⟩ := hF r sz xs hf
        obtain ⟨vals, e, cs, q1, q2, q3, q4, q5, q6, q7, q8, q9, q10⟩ := hr r _ hH
        subst hn
        refine .sl sz xs (g.ρ r) 0 cap cs (by intro e; rw [e] at h0; simp at h0) ?_ q9 (by omega) hcap q10 q8.1 (fun k u hu => ?_) (fun k t u h1 h2 => (q8.2 k t u h1 h2).ext hx)
        · simp only [Gh.freeze, frz_ref hO hf]
          rw [flat_length q9]; omega
        · simp only [World.cell?, q2, Nat.zero_add]
          have : vals.toList[k]? = some u := by
            rw [← q7, List.getElem?_take] at hu
            split at hu
            · exact hu
            · simp at hu
          simpa using this
    exact ⟨this, .one this⟩
  | agg cs cs' hl h ih =>
    have hc : TrL g (g.freeze F) w cs cs' := ⟨hl, fun k t t' h1 h2 => (ih k t t' h1 h2).1⟩
    refine ⟨fun v hv => ?_, hc⟩
    cases hv with
    | agg _ vs hl' h1 hv =>
      have := hc.vvs (vs := vs.toList) ⟨by simpa using hl', fun k t u k1 k2 => hv k t u k1 (by simpa using k2)⟩
      exact .agg cs' vs (by rw [hl', hl]) h1 fun k t u k1 k2 => this.2 k t u k1 (by simpa using k2)
  | sl sz xs xs' hl h ih =>
    have hL : FrL F xs xs' := ⟨hl, h⟩
    have hc : TrL g (g.freeze F) w (flat xs) (flat xs') := TrL.flat hl fun k t t' h1 h2 => (ih k t t' h1 h2).2
    have : Tr g (g.freeze F) w (.sl sz xs) (.sl sz xs') := by
      intro v hv
      cases hv with
      | sl0 sz a cap =>
        have : xs' = [] := List.eq_nil_of_length_eq_zero (by rw [hl]; rfl)
        subst this
        exact .sl0 sz a cap
      | sl _ _ b off cap cs h0 hcm hsz hm hcap h1 hlc hcc hv =>
        have hvs := hc.vvs (vs := cs) ⟨hlc, hv⟩
        rw [← hl]
        refine .sl sz xs' b off cap cs (by intro e; rw [e] at hl; exact h0 (List.eq_nil_of_length_eq_zero hl.symm)) ?_ (hL.sizes hsz) (by rw [hl]; exact hm) (by rw [hl]; exact hcap) h1 hvs.1 (fun k u hu => ?_) hvs.2
        · rw [hc.1]; exact Nat.le_trans hcm (hx.c b)
        · exact hcc k u hu
    exact ⟨this, .one this⟩

/-- The heap behind it. -/
def HFr (F : Nat → Option (Nat × List TV)) (H H' : Nat → Option RObj) : Prop := ∀ i o', H' i = some o' → F i = none ∧ (H i = some o' ∨ ∃ cs cs', H i = some (.cells cs) ∧ o' = .cells cs' ∧ cs'.length = cs.length ∧ ∀ (j : Nat) (c c' : CV), cs[j]? = some c → cs'[j]? = some c' → FrC F c c')

theorem FrC.cvr (hw : Wf Ev g w) {H : Nat → Option RObj} (hF : FrOk F H) (hr : ∀ i o, H i = some o → RefR g w i o) {L : Loc} (hL : ∀ r, L ≠ .ref r) {c c' : CV} {v : Value} (h : FrC F c c') (hv : CVR g w L c v) : CVR (g.freeze F) w L c' v := by
  obtain ⟨hst, _⟩ := freeze_step hw hF hr
  have hnX : ¬ (∃ r, L = .ref r ∧ (F r).isSome = true) := fun ⟨r, e, _⟩ => hL r e
  cases h with
  | refl => exact hv.step hst hnX
  | v t t' h => exact ⟨(h.tr hw hF hr).1 v hv.1, hv.2⟩
  | own sz xs xs' h =>
    have hv' := OwnR.step hst hnX hv
    obtain ⟨e, cells, o1, o2, o3, o4, o5⟩ := hv
    obtain ⟨_, _, _, _, _, _, p5⟩ := hv'
    refine ⟨e, cells, by rw [h.1]; exact o1, ?_, h.sizes o3, o4, fun b hb => by rw [h.1]; exact p5 b hb⟩
    exact (TrL.flat h.1 fun k t t' h1 h2 => ((h.2 k t t' h1 h2).tr hw hF hr).2).vvs o2

/-- Arrays of the heap are written no more. -/
theorem TWp.freeze {H' : Nat → Option RObj} (F : Nat → Option (Nat × List TV)) (hF : FrOk F s.H) (hH : HFr F s.H H') (hc : TWp P Ev n c { s with H := H' } Q) : TWp P Ev n c s Q := by
  intro g a w hr
  obtain ⟨hst, hwf⟩ := freeze_step hr.wf hF hr.heap
  have hrel : Rel Ev (g.freeze F) n { s with H := H' } a w := by
    refine hr.step hst hwf hr.size hr.defers (fun q => .inl ⟨rfl, rfl, fun _ _ => rfl, fun _ _ => rfl, fun j ⟨r, e, _⟩ => by cases e⟩) (fun q o ho => .inl ⟨ho, rfl, (fun ⟨r, e, _⟩ => by cases e), fun j ⟨r, e, _⟩ => by cases e⟩)
      (fun q o ho => .inl ⟨ho, rfl, fun ⟨r, e, _⟩ => by cases e⟩) (fun i o ho => ?_)
    obtain ⟨h1, h2⟩ := hH i o ho
    rcases h2 with h2 | ⟨cs, cs', e1, rfl, e3, e4⟩
    · exact .inl ⟨h2, (fun ⟨r, e, he⟩ => by cases e; rw [h1] at he; cases he), fun j ⟨r, e, _⟩ => by cases e⟩
    · right
      obtain ⟨vals, e, q1, q2, q3, q4, q5⟩ := hr.heap i _ e1
      refine ⟨vals, e, q1, q2, ?_, by rw [q4, e3], fun j x v hx hv => ?_⟩
      · have hnz : g.frz F (g.ρ i) = none := by
          cases hf : g.frz F (g.ρ i) with
          | none => rfl
          | some p =>
            obtain ⟨r, f1, f2, f3⟩ := frz_some hf
            rw [q1] at f2; cases f2
            rw [h1] at f3; cases f3
        show (g.freeze F).c (g.ρ i) = 0
        simp only [Gh.freeze, hnz, q3]
      · have hj : j < cs.length := by
          rw [← e3]
          rcases Nat.lt_or_ge j cs'.length with h' | h'
          · exact h'
          · simp [List.getElem?_eq_none h'] at hx
        exact (e4 j _ x (List.getElem?_eq_getElem hj) hx).cvr hr.wf hF hr.heap (by simp) (q5 j _ v (List.getElem?_eq_getElem hj) hv)
  refine wp_mono (hc _ a w hrel) fun e a1 w1 ⟨x, s1, g1, h1, h2, h3, h4, h5⟩ => ⟨x, s1, g1, h1, h2, h3, hst.ext.trans h4, hst.kept.trans h5⟩
end
end Go.T
