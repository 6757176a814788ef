/-
  The layer T, part 1: values as trees, what a value of the machine stands for, and what a change of the world leaves as it was.
  The layer T, part 2: the state of a call over trees, how it stands to the machine's state, and what a step of the machine leaves of that.
  The layer T, part 3: types' tables; operands; operations that yield a value and leave all else as it is.
  The layer T, part 4: operations that yield a value and leave all else as it is.
  The layer T, part 5: the operations that yield a value, one by one.
  The layer T, part 6: the operations that yield a value do so in the machine.
  The layer T, part 7: the other operations that yield a value do so in the machine.
  The layer T, part 8: cuts; min, max; all operations that yield a value.
-/
import Derived.Calls
import Derived.Below
import Derived.Maps.AppendAt
import Derived.OwnWalk
set_option linter.unusedVariables false
set_option linter.unusedSimpArgs false
set_option linter.unusedSectionVars false
set_option linter.unusedVariables false
namespace Go.T

/-- Values without memory: a slice that is only read is the list of its elements. -/
inductive TV where
  | bool (b : Bool)
  | int (k : IntKind) (n : Int)
  | str (s : List UInt8)
  | sl (sz : Nat) (xs : List TV)
  | ptr (i off : Nat)
  | nilp
  | fn (f : Fn) (first captured : List TV)
  | nilfn
  | iface (t : TypeId) (v : TV)
  | nilif
  | agg (cs : List TV)
  | map (i : Nat)
  | nilmap
  | slr (sz r n cap : Nat)
  | aptr (r sz e off : Nat)
  | eptr (cs : List TV)

instance : Inhabited TV := ⟨.bool false⟩

def TV.cells : TV → List TV
  | .agg cs => cs
  | t => [t]

/-- The cells of a list of elements. -/
def flat (xs : List TV) : List TV := xs.flatMap TV.cells

theorem flat_nil : flat [] = [] := rfl
theorem flat_cons (x : TV) (xs : List TV) : flat (x :: xs) = x.cells ++ flat xs := by simp [flat]
theorem flat_append (xs ys : List TV) : flat (xs ++ ys) = flat xs ++ flat ys := by simp [flat]
theorem flat_length {sz : Nat} : ∀ {xs : List TV}, (∀ x ∈ xs, x.cells.length = sz) → (flat xs).length = xs.length * sz
  | [], _ => by simp [flat]
  | x :: xs, h => by
    rw [flat_cons, List.length_append, flat_length (xs := xs) (fun y hy => h y (by simp [hy])), h x (by simp), List.length_cons, Nat.add_mul]
    omega
theorem flat_take {sz : Nat} : ∀ {xs : List TV} (n : Nat), (∀ x ∈ xs, x.cells.length = sz) → flat (xs.take n) = (flat xs).take (n * sz)
  | [], n, _ => by simp [flat]
  | x :: xs, 0, _ => by simp [flat]
  | x :: xs, n + 1, h => by
    have hx := h x (by simp)
    rw [List.take_succ_cons, flat_cons, flat_cons, flat_take n (fun y hy => h y (by simp [hy])), Nat.add_mul, List.take_append, hx]
    rw [List.take_of_length_le (l := x.cells) (by omega)]
    congr 2
    omega
theorem flat_drop {sz : Nat} : ∀ {xs : List TV} (n : Nat), (∀ x ∈ xs, x.cells.length = sz) → flat (xs.drop n) = (flat xs).drop (n * sz)
  | [], n, _ => by simp [flat]
  | x :: xs, 0, _ => by simp
  | x :: xs, n + 1, h => by
    have hx := h x (by simp)
    rw [List.drop_succ_cons, flat_cons, flat_drop n (fun y hy => h y (by simp [hy])), Nat.add_mul, List.drop_append, hx]
    rw [List.drop_eq_nil_of_le (as := x.cells) (by omega)]
    simp only [List.nil_append]
    congr 1
    omega
/-- Element i's cells lie behind those of the elements ahead. -/
theorem flat_at {sz : Nat} {xs : List TV} (h : ∀ x ∈ xs, x.cells.length = sz) {i : Nat} {x : TV} (hx : xs[i]? = some x) : (flat xs).drop (i * sz) = x.cells ++ flat (xs.drop (i + 1)) := by
  rw [← flat_drop i h]
  have hi : i < xs.length := by
    rcases Nat.lt_or_ge i xs.length with h | h
    · exact h
    · simp [List.getElem?_eq_none h] at hx
  have : xs.drop i = x :: xs.drop (i + 1) := by
    rw [List.drop_eq_getElem_cons hi]
    rw [List.getElem?_eq_getElem hi] at hx
    injection hx with hx
    rw [hx]
  rw [this, flat_cons]

/-- Who a block is of. -/
inductive Loc where
  | outer
  | ref (i : Nat)
  | cell (i j : Nat)
  | var (d : Nat)
  | vcell (d j : Nat)
  | arr (d : Nat)
  | slot (d j : Nat)
  | res (j : Nat)
  deriving DecidableEq

/-- What stands beside the world: how many cells of a block stay as they are; where a thing of the heap lies; who a block is of; where a variable of this call lies; the value of an array of this call. -/
structure Gh where
  c : Nat → Nat
  ρ : Nat → Nat
  O : Nat → Option Loc
  β : Nat → Nat
  hd : Nat → Value

/-- What a value stands for. -/
inductive VV (w : World) (c : Nat → Nat) (ρ : Nat → Nat) (O : Nat → Option Loc) : TV → Value → Prop where
  | bool (b : Bool) : VV w c ρ O (.bool b) (.bool b)
  | int (k : IntKind) (n : Int) : VV w c ρ O (.int k n) (.int k n)
  | str (s : ByteArray) : VV w c ρ O (.str s.data.toList) (.string s)
  | sl0 (sz : Nat) (a : Option Addr) (cap : Nat) : VV w c ρ O (.sl sz []) (.slice a 0 cap)
  | sl (sz : Nat) (xs : List TV) (b off cap : Nat) (cs : List Value) (h0 : xs ≠ []) (hcm : off + (flat xs).length ≤ c b) (hsz : ∀ x, x ∈ xs → x.cells.length = sz)
      (hm : xs.length ≤ 9223372036854775807) (hcap : xs.length ≤ cap) (h1 : ∀ u, u ∈ cs → u.oneCell' = true) (hl : cs.length = (flat xs).length) (hc : ∀ k u, cs[k]? = some u → w.cell? ⟨b, off + k, none⟩ = some u)
      (hv : ∀ (k : Nat) (t : TV) (u : Value), (flat xs)[k]? = some t → cs[k]? = some u → VV w c ρ O t u) :
      VV w c ρ O (.sl sz xs) (.slice (some ⟨b, off, none⟩) xs.length cap)
  | ptr (i off : Nat) (h : O (ρ i) = some (.ref i)) : VV w c ρ O (.ptr i off) (.pointer (some ⟨ρ i, off, none⟩))
  | nilp : VV w c ρ O .nilp (.pointer none)
  | fn (f : Fn) (fs cs : List TV) (us vs : Array Value) (h1 : us.size = fs.length) (h2 : vs.size = cs.length)
      (g1 : ∀ (k : Nat) (t : TV) (u : Value), fs[k]? = some t → us[k]? = some u → VV w c ρ O t u)
      (g2 : ∀ (k : Nat) (t : TV) (u : Value), cs[k]? = some t → vs[k]? = some u → VV w c ρ O t u) : VV w c ρ O (.fn f fs cs) (.func f us vs)
  | nilfn : VV w c ρ O .nilfn .nilFunc
  | iface (t : TypeId) (x : TV) (v : Value) (h : VV w c ρ O x v) : VV w c ρ O (.iface t x) (.iface t v)
  | nilif : VV w c ρ O .nilif .nilIface
  | agg (cs : List TV) (vs : Array Value) (hl : vs.size = cs.length) (h1 : ∀ (k : Nat) (u : Value), vs[k]? = some u → u.oneCell' = true) (hv : ∀ (k : Nat) (t : TV) (u : Value), cs[k]? = some t → vs[k]? = some u → VV w c ρ O t u) : VV w c ρ O (.agg cs) (.agg vs)
  | map (i : Nat) (h : O (ρ i) = some (.ref i)) : VV w c ρ O (.map i) (.map (some (ρ i)))
  | nilmap : VV w c ρ O .nilmap (.map none)
  | slr0 (sz r cap : Nat) : VV w c ρ O (.slr sz r 0 cap) (.slice none 0 0)
  | slr (sz r n cap : Nat) (h0 : 0 < n) (hcap : n ≤ cap) (hm : cap ≤ 9223372036854775807) (h : O (ρ r) = some (.ref r)) : VV w c ρ O (.slr sz r n cap) (.slice (some ⟨ρ r, 0, none⟩) n cap)
  | aptr (r sz e off : Nat) (h : O (ρ r) = some (.ref r)) : VV w c ρ O (.aptr r sz e off) (.pointer (some ⟨ρ r, e * sz + off, none⟩))
  | eptr (cs : List TV) (b off : Nat) (us : List Value) (hcm : off + cs.length ≤ c b) (hl : us.length = cs.length) (h1 : ∀ u, u ∈ us → u.oneCell' = true) (hc : ∀ (k : Nat) (u : Value), us[k]? = some u → w.cell? ⟨b, off + k, none⟩ = some u)
      (hv : ∀ (k : Nat) (t : TV) (u : Value), cs[k]? = some t → us[k]? = some u → VV w c ρ O t u) : VV w c ρ O (.eptr cs) (.pointer (some ⟨b, off, none⟩))

abbrev Gh.VV (g : Gh) (w : World) (t : TV) (v : Value) : Prop := Go.T.VV w g.c g.ρ g.O t v

/-- What values stand for stays: cells that stay as they are do, and things of the heap stay where they lie. -/
structure Ext (g : Gh) (w : World) (g' : Gh) (w' : World) : Prop where
  c : ∀ b, g.c b ≤ g'.c b
  cell : ∀ b j, j < g.c b → w'.cell? ⟨b, j, none⟩ = w.cell? ⟨b, j, none⟩
  ref : ∀ i, g.O (g.ρ i) = some (.ref i) → g'.ρ i = g.ρ i ∧ g'.O (g.ρ i) = some (.ref i)

theorem Ext.refl (g : Gh) (w : World) : Ext g w g w := ⟨fun _ => Nat.le_refl _, fun _ _ _ => rfl, fun _ h => ⟨rfl, h⟩⟩
theorem Ext.trans {g1 g2 g3 : Gh} {w1 w2 w3 : World} (h : Ext g1 w1 g2 w2) (k : Ext g2 w2 g3 w3) : Ext g1 w1 g3 w3 := {
  c b := Nat.le_trans (h.c b) (k.c b)
  cell b j hj := (k.cell b j (Nat.lt_of_lt_of_le hj (h.c b))).trans (h.cell b j hj)
  ref i hi := by
    obtain ⟨e1, e2⟩ := h.ref i hi
    obtain ⟨e3, e4⟩ := k.ref i (by rw [e1]; exact e2)
    exact ⟨e3.trans e1, by rw [e1] at e4; exact e4⟩ }

theorem VV.ext {g g' : Gh} {w w' : World} (h : Ext g w g' w') {t : TV} {v : Value} (hv : g.VV w t v) : g'.VV w' t v := by
  induction hv with
  | bool b => exact .bool b
  | int k n => exact .int k n
  | str s => exact .str s
  | sl0 sz a cap => exact .sl0 sz a cap
  | sl sz xs b off cap cs h0 hcm hsz hm hcap h1 hl hc hv ih =>
    refine .sl sz xs b off cap cs h0 (Nat.le_trans hcm (h.c b)) hsz hm hcap h1 hl (fun k u hu => ?_) ih
    have hk : k < cs.length := by
      rcases Nat.lt_or_ge k cs.length with h' | h'
      · exact h'
      · simp [List.getElem?_eq_none h'] at hu
    rw [h.cell b (off + k) (by omega)]
    exact hc k u hu
  | ptr i off hi =>
    obtain ⟨e1, e2⟩ := h.ref i hi
    rw [← e1]
    exact .ptr i off (by rw [e1]; exact e2)
  | nilp => exact .nilp
  | fn f fs cs us vs h1 h2 g1 g2 ih1 ih2 => exact .fn f fs cs us vs h1 h2 ih1 ih2
  | nilfn => exact .nilfn
  | iface t x v hx ih => exact .iface t x v ih
  | nilif => exact .nilif
  | agg cs vs hl h1 hv ih => exact .agg cs vs hl h1 ih
  | map i hi =>
    obtain ⟨e1, e2⟩ := h.ref i hi
    rw [← e1]
    exact .map i (by rw [e1]; exact e2)
  | nilmap => exact .nilmap
  | slr0 sz r cap => exact .slr0 sz r cap
  | slr sz r n cap h0 hcap hm hi =>
    obtain ⟨e1, e2⟩ := h.ref r hi
    rw [← e1]
    exact .slr sz r n cap h0 hcap hm (by rw [e1]; exact e2)
  | aptr r sz e off hi =>
    obtain ⟨e1, e2⟩ := h.ref r hi
    rw [← e1]
    exact .aptr r sz e off (by rw [e1]; exact e2)
  | eptr cs b off us hcm hl h1 hc hv ih =>
    refine .eptr cs b off us (Nat.le_trans hcm (h.c b)) hl h1 (fun k u hu => ?_) ih
    have hk : k < us.length := by
      rcases Nat.lt_or_ge k us.length with h' | h'
      · exact h'
      · simp [List.getElem?_eq_none h'] at hu
    rw [h.cell b (off + k) (by omega)]
    exact hc k u hu

/-- Lists of values, one by one. -/
def VVs (g : Gh) (w : World) (ts : List TV) (vs : List Value) : Prop := vs.length = ts.length ∧ ∀ (k : Nat) (t : TV) (u : Value), ts[k]? = some t → vs[k]? = some u → g.VV w t u

theorem VVs.ext {g g' : Gh} {w w' : World} (h : Ext g w g' w') {ts : List TV} {vs : List Value} (hv : VVs g w ts vs) : VVs g' w' ts vs := ⟨hv.1, fun k t u h1 h2 => (hv.2 k t u h1 h2).ext h⟩
theorem VVs.nil (g : Gh) (w : World) : VVs g w [] [] := ⟨rfl, fun k t u h => by simp at h⟩
theorem VVs.cons {g : Gh} {w : World} {t : TV} {v : Value} {ts : List TV} {vs : List Value} (h : g.VV w t v) (hs : VVs g w ts vs) : VVs g w (t :: ts) (v :: vs) := by
  refine ⟨by simp [hs.1], fun k a u h1 h2 => ?_⟩
  cases k with
  | zero => simp at h1 h2; subst h1; subst h2; exact h
  | succ k => simp at h1 h2; exact hs.2 k a u h1 h2
theorem VVs.append {g : Gh} {w : World} {ts ts' : List TV} {vs vs' : List Value} (h : VVs g w ts vs) (h' : VVs g w ts' vs') : VVs g w (ts ++ ts') (vs ++ vs') := by
  refine ⟨by simp [h.1, h'.1], fun k a u h1 h2 => ?_⟩
  rcases Nat.lt_or_ge k ts.length with hk | hk
  · rw [List.getElem?_append_left hk] at h1
    rw [List.getElem?_append_left (by rw [h.1]; exact hk)] at h2
    exact h.2 k a u h1 h2
  · rw [List.getElem?_append_right hk] at h1
    rw [List.getElem?_append_right (by rw [h.1]; exact hk), h.1] at h2
    exact h'.2 _ a u h1 h2
theorem VVs.take {g : Gh} {w : World} {ts : List TV} {vs : List Value} (h : VVs g w ts vs) (n : Nat) : VVs g w (ts.take n) (vs.take n) := by
  refine ⟨by simp [h.1], fun k a u h1 h2 => ?_⟩
  rw [List.getElem?_take] at h1 h2
  split at h1
  · rename_i hk
    rw [if_pos hk] at h2
    exact h.2 k a u h1 h2
  · simp at h1
theorem VVs.drop {g : Gh} {w : World} {ts : List TV} {vs : List Value} (h : VVs g w ts vs) (n : Nat) : VVs g w (ts.drop n) (vs.drop n) := by
  refine ⟨by simp [h.1], fun k a u h1 h2 => ?_⟩
  rw [List.getElem?_drop] at h1 h2
  exact h.2 _ a u h1 h2

/-- A value's cells stand for the tree's cells. -/
theorem VV.cells {g : Gh} {w : World} {t : TV} {v : Value} (h : g.VV w t v) : VVs g w t.cells v.cells.toList ∧ ∀ u, u ∈ v.cells.toList → u.oneCell' = true := by
  have one : ∀ {t : TV} {v : Value}, g.VV w t v → v.oneCell' = true → t.cells = [t] → VVs g w t.cells [v] ∧ ∀ u, u ∈ [v] → u.oneCell' = true := by
    intro t v h h1 h2
    rw [h2]
    exact ⟨.cons h (.nil _ _), fun u hu => by simp at hu; subst hu; exact h1⟩
  cases h with
  | agg cs vs hl h1 hv => exact ⟨⟨by simp [Value.cells, TV.cells, hl], fun k t u h1 h2 => hv k t u (by simpa [TV.cells] using h1) (by simpa [Value.cells] using h2)⟩, fun u hu => by
      simp only [Value.cells] at hu
      obtain ⟨k, hk⟩ := List.getElem?_of_mem hu
      exact h1 k u (by simpa using hk)⟩
  | bool b => exact one (.bool b) rfl rfl
  | int k n => exact one (.int k n) rfl rfl
  | str s => exact one (.str s) rfl rfl
  | sl0 sz a cap => exact one (.sl0 sz a cap) rfl rfl
  | sl sz xs b off cap cs h0 hcm hsz hm hcap h1 hl hc hv => exact one (.sl sz xs b off cap cs h0 hcm hsz hm hcap h1 hl hc hv) rfl rfl
  | ptr i off hi => exact one (.ptr i off hi) rfl rfl
  | nilp => exact one .nilp rfl rfl
  | fn f fs cs us vs h1 h2 g1 g2 => exact one (.fn f fs cs us vs h1 h2 g1 g2) rfl rfl
  | nilfn => exact one .nilfn rfl rfl
  | iface t x v hx => exact one (.iface t x v hx) rfl rfl
  | nilif => exact one .nilif rfl rfl
  | map i hi => exact one (.map i hi) rfl rfl
  | nilmap => exact one .nilmap rfl rfl
  | slr0 sz r cap => exact one (.slr0 sz r cap) rfl rfl
  | slr sz r n cap h0 hcap hm hi => exact one (.slr sz r n cap h0 hcap hm hi) rfl rfl
  | aptr r sz e off hi => exact one (.aptr r sz e off hi) rfl rfl
  | eptr cs b off us hcm hl h1 hc hv => exact one (.eptr cs b off us hcm hl h1 hc hv) rfl rfl

end Go.T
set_option linter.unusedVariables false
namespace Go.T
open Go.RowKit

/-- A condition that is computed. -/
def Chk (b : Bool) (p : Prop) : Prop :=
  match b with
  | true => p
  | false => False
theorem chkb_iff {b : Bool} {p : Prop} : Chk b p ↔ b = true ∧ p := by cases b <;> simp [Chk]
theorem chk_iff {a p : Prop} [Decidable a] : Chk (decide a) p ↔ a ∧ p := by rw [chkb_iff, decide_eq_true_iff]

/-- A cell of a variable: a value; a slice that may be appended to here; the nil slice. -/
inductive CV where
  | v (t : TV)
  | own (sz : Nat) (xs : List TV)
  | nils
  deriving Inhabited

/-- What a slot holds: nothing that is known; a value; nil as a slice; an array of this call; a place in one; a place in a variable of this call; a place in what is only read; a struct; results. -/
inductive SV where
  | und
  | t (x : TV)
  | nils
  | arr (d : Nat)
  | hp (d sz i o : Nat)
  | lp (d off : Nat)
  | ea (cs : List TV)
  | st (cs : List CV)
  | tup (cs : List CV)
  deriving Inhabited

/-- What a slot holds, looked at. -/
def SV.force (x : SV) (K : SV → Prop) : Prop :=
  match x with
  | .und => K .und
  | .t y => K (.t y)
  | .nils => K .nils
  | .arr d => K (.arr d)
  | .hp d sz i o => K (.hp d sz i o)
  | .lp d o => K (.lp d o)
  | .ea cs => K (.ea cs)
  | .st cs => K (.st cs)
  | .tup cs => K (.tup cs)
theorem force_iff {x : SV} {K : SV → Prop} : x.force K ↔ K x := by cases x <;> exact Iff.rfl

/-- An array of this call: the size of an element; is it seen from elsewhere; its elements. -/
structure AObj where
  sz : Nat
  sh : Bool
  xs : List TV

/-- A variable of this call, in memory: its cells; or which thing of the heap it has become. -/
inductive VObj where
  | cells (cs : List CV)
  | esc (i : Nat)

/-- A thing of the heap. -/
inductive RObj where
  | cells (cs : List CV)
  | map (es : List (TV × TV))
  | arr (sz cap : Nat) (xs : List TV)

structure TS where
  sl : Nat → SV
  V : Nat → Option VObj
  A : Nat → Option AObj
  H : Nat → Option RObj

def upd {α : Type} (f : Nat → α) (d : Nat) (x : α) : Nat → α := fun k => bif Nat.beq k d then x else f k
@[simp] theorem upd_same {α : Type} (f : Nat → α) (d : Nat) (x : α) : upd f d x d = x := by
  have : Nat.beq d d = true := Nat.beq_refl d
  simp [upd, this]
theorem upd_ne {α : Type} (f : Nat → α) {d k : Nat} (x : α) (h : k ≠ d) : upd f d x k = f k := by
  have : Nat.beq k d = false := by
    cases hb : Nat.beq k d with
    | false => rfl
    | true => exact absurd (Nat.eq_of_beq_eq_true hb) h
  simp [upd, this]

/-- A slice value that owns its array: only it may append to it. -/
def OwnR (g : Gh) (w : World) (L : Loc) (sh : Bool) (sz : Nat) (xs : List TV) (v : Value) : Prop :=
  ∃ e cells, w.ownsRow 0 e sz v xs.length cells ∧ VVs g w (flat xs) cells ∧ (∀ x, x ∈ xs → x.cells.length = sz) ∧ (∀ u, u ∈ cells → u.oneCell' = true) ∧
    (∀ b, v.ownBlock = some b → g.O b = some L ∧ g.c b = if sh then xs.length * sz else 0)

/-- A cell of a variable. -/
def CVR (g : Gh) (w : World) (L : Loc) : CV → Value → Prop
  | .v t, v => g.VV w t v ∧ v.oneCell' = true
  | .own sz xs, v => OwnR g w L true sz xs v
  | .nils, v => v = .slice none 0 0

def CVRs (g : Gh) (w : World) (L : Nat → Loc) (cs : List CV) (vs : Array Value) : Prop := vs.size = cs.length ∧ ∀ (j : Nat) (x : CV) (v : Value), cs[j]? = some x → vs[j]? = some v → CVR g w (L j) x v

/-- What a slot holds, and the value in it. -/
def SVR (g : Gh) (w : World) (d : Nat) : SV → Value → Prop
  | .und, _ => True
  | .t x, v => g.VV w x v
  | .nils, v => v = .slice none 0 0
  | .arr k, v => v = g.hd k
  | .hp k sz i o, v => ∃ b n cap, g.hd k = .slice (some ⟨b, 0, none⟩) n cap ∧ v = .pointer (some ⟨b, i * sz + o, none⟩)
  | .lp k off, v => v = .pointer (some ⟨g.β k, off, none⟩)
  | .ea cs, v => ∃ b off us, v = .pointer (some ⟨b, off, none⟩) ∧ off + cs.length ≤ g.c b ∧ VVs g w cs us ∧ (∀ u, u ∈ us → u.oneCell' = true) ∧ ∀ (k : Nat) (u : Value), us[k]? = some u → w.cell? ⟨b, off + k, none⟩ = some u
  | .st cs, v => ∃ vs, v = .agg vs ∧ CVRs g w (.slot d) cs vs
  | .tup cs, v => ∃ vs, v = .tuple vs ∧ vs.size = cs.length ∧ ∀ (j : Nat) (x : CV) (v : Value), cs[j]? = some x → vs[j]? = some v →
      match x with
      | .v t => g.VV w t v
      | .own sz xs => OwnR g w (.slot d j) true sz xs v
      | .nils => v = .slice none 0 0

/-- A variable's, or a thing's, cells in memory. -/
def CellsR (g : Gh) (w : World) (b : Nat) (L : Loc) (Lc : Nat → Loc) (cs : List CV) : Prop :=
  ∃ vals e, g.O b = some L ∧ w.heap[b]? = some (.cells vals e (0, 0)) ∧ g.c b = 0 ∧ CVRs g w Lc cs vals

def VarR (g : Gh) (w : World) (d : Nat) : VObj → Prop
  | .cells cs => CellsR g w (g.β d) (.var d) (.vcell d) cs
  | .esc i => g.β d = g.ρ i ∧ g.O (g.ρ i) = some (.ref i)

def RefR (g : Gh) (w : World) (i : Nat) : RObj → Prop
  | .cells cs => CellsR g w (g.ρ i) (.ref i) (.cell i) cs
  | .map es => ∃ ents clock, g.O (g.ρ i) = some (.ref i) ∧ w.heap[g.ρ i]? = some (.map ents clock) ∧ g.c (g.ρ i) = 0 ∧ ents.size = es.length ∧
      ∀ (j : Nat) (x : TV × TV) (en : MapEntry), es[j]? = some x → ents[j]? = some en → g.VV w x.1 en.key ∧ g.VV w x.2 en.val
  | .arr sz cap xs => ∃ vals e cs, g.O (g.ρ i) = some (.ref i) ∧ w.heap[g.ρ i]? = some (.cells vals e (0, 0)) ∧ g.c (g.ρ i) = 0 ∧ vals.size = cap * sz ∧ xs.length ≤ cap ∧ cap ≤ 9223372036854775807 ∧
      vals.toList.take (xs.length * sz) = cs ∧ VVs g w (flat xs) cs ∧ (∀ x, x ∈ xs → x.cells.length = sz) ∧ ∀ u, u ∈ cs → u.oneCell' = true

/-- What holds of the world and hangs on its first blocks alone. -/
structure Env where
  lo : Nat
  E : World → Prop
  st : ∀ w w' : World, w'.os = w.os → w'.tape = w.tape → w.heap.size ≤ w'.heap.size → (∀ b, b < lo → w'.heap[b]? = w.heap[b]?) → E w → E w'

/-- Nothing is known of blocks that aren't there yet; the first blocks are nobody's. -/
structure Wf (Ev : Env) (g : Gh) (w : World) : Prop where
  new : ∀ b, w.heap.size ≤ b → g.O b = none ∧ g.c b = 0
  low : ∀ b, b < Ev.lo → g.O b = none
  lo : Ev.lo ≤ w.heap.size
  env : Ev.E w
  m : ∃ m, ∀ i, m ≤ i → g.O (g.ρ i) ≠ some (.ref i)

structure Rel (Ev : Env) (g : Gh) (n : Nat) (s : TS) (a : Act) (w : World) : Prop where
  size : a.tmps.size = n
  defers : a.defers = []
  slots : ∀ d, SVR g w d (s.sl d) (a.tmps.getD d undef)
  vars : ∀ d o, s.V d = some o → VarR g w d o
  arrs : ∀ d o, s.A d = some o → OwnR g w (.arr d) o.sh o.sz o.xs (g.hd d)
  heap : ∀ i o, s.H i = some o → RefR g w i o
  wf : Wf Ev g w

/-- A call's own part of it. -/
structure RelH (Ev : Env) (g : Gh) (H : Nat → Option RObj) (w : World) : Prop where
  heap : ∀ i o, H i = some o → RefR g w i o
  wf : Wf Ev g w

/-- What is nobody's, or somebody's outside, stays as it is. -/
structure Kept (g : Gh) (w : World) (g' : Gh) (w' : World) : Prop where
  os : w'.os = w.os
  tape : w'.tape = w.tape
  output : w'.output = w.output
  size : w.heap.size ≤ w'.heap.size
  block : ∀ b, b < w.heap.size → (g.O b = none ∨ g.O b = some .outer) → w'.heap[b]? = w.heap[b]? ∧ g'.O b = g.O b ∧ g'.c b = g.c b

theorem Kept.refl (g : Gh) (w : World) : Kept g w g w := ⟨rfl, rfl, rfl, Nat.le_refl _, fun _ _ _ => ⟨rfl, rfl, rfl⟩⟩
theorem Kept.trans {g1 g2 g3 : Gh} {w1 w2 w3 : World} (h : Kept g1 w1 g2 w2) (k : Kept g2 w2 g3 w3) : Kept g1 w1 g3 w3 := {
  os := k.os.trans h.os
  tape := k.tape.trans h.tape
  output := k.output.trans h.output
  size := Nat.le_trans h.size k.size
  block b hb ho := by
    obtain ⟨e1, e2, e3⟩ := h.block b hb ho
    obtain ⟨f1, f2, f3⟩ := k.block b (Nat.lt_of_lt_of_le hb h.size) (by rw [e2]; exact ho)
    exact ⟨f1.trans e1, f2.trans e2, f3.trans e3⟩ }

theorem Wf.kept {Ev : Env} {g g' : Gh} {w w' : World} (h : Wf Ev g w) (k : Kept g w g' w') (hn : ∀ b, w'.heap.size ≤ b → g'.O b = none ∧ g'.c b = 0) (hm : ∃ m, ∀ i, m ≤ i → g'.O (g'.ρ i) ≠ some (.ref i)) : Wf Ev g' w' := {
  m := hm
  new := hn
  low b hb := by
    rw [(k.block b (Nat.lt_of_lt_of_le hb h.lo) (.inl (h.low b hb))).2.1]
    exact h.low b hb
  lo := Nat.le_trans h.lo k.size
  env := Ev.st w w' k.os k.tape k.size (fun b hb => (k.block b (Nat.lt_of_lt_of_le hb h.lo) (.inl (h.low b hb))).1) h.env }

/-- A step that leaves as it was whatever is of none of X. -/
structure Step (X : Loc → Prop) (g : Gh) (w : World) (g' : Gh) (w' : World) : Prop where
  ext : Ext g w g' w'
  kept : Kept g w g' w'
  blk : ∀ b L, g.O b = some L → ¬ X L → w'.heap[b]? = w.heap[b]? ∧ g'.O b = some L ∧ g'.c b = g.c b

theorem Step.refl (X : Loc → Prop) (g : Gh) (w : World) : Step X g w g w := ⟨.refl g w, .refl g w, fun _ _ h _ => ⟨rfl, h, rfl⟩⟩
theorem Step.trans {X : Loc → Prop} {g1 g2 g3 : Gh} {w1 w2 w3 : World} (h : Step X g1 w1 g2 w2) (k : Step X g2 w2 g3 w3) : Step X g1 w1 g3 w3 := {
  ext := h.ext.trans k.ext
  kept := h.kept.trans k.kept
  blk b L hL hX := by
    obtain ⟨e1, e2, e3⟩ := h.blk b L hL hX
    obtain ⟨f1, f2, f3⟩ := k.blk b L e2 hX
    exact ⟨f1.trans e1, f2, f3.trans e3⟩ }
theorem Step.mono {X Y : Loc → Prop} {g : Gh} {w : World} {g' : Gh} {w' : World} (h : Step X g w g' w') (hXY : ∀ L, X L → Y L) : Step Y g w g' w' :=
  ⟨h.ext, h.kept, fun b L hL hY => h.blk b L hL (fun hX => hY (hXY L hX))⟩

section
variable {X : Loc → Prop} {g g' : Gh} {w w' : World}

theorem ownsRow_same {base : Nat} {e : TypeId} {size : Nat} {v : Value} {n : Nat} {xs : List Value} (h : w.ownsRow base e size v n xs) (hb : ∀ b, v.ownBlock = some b → w'.heap[b]? = w.heap[b]?) : w'.ownsRow base e size v n xs := by
  obtain ⟨h1, h2⟩ := h
  refine ⟨h1, ?_⟩
  rcases h2 with h2 | ⟨g, cap, cur, hv, hg, hh, r⟩
  · exact .inl h2
  · exact .inr ⟨g, cap, cur, hv, hg, by rw [hb g (by rw [hv]; rfl)]; exact hh, r⟩

theorem OwnR.step (h : Step X g w g' w') {L : Loc} (hL : ¬ X L) {sh : Bool} {sz : Nat} {xs : List TV} {v : Value} (ho : OwnR g w L sh sz xs v) : OwnR g' w' L sh sz xs v := by
  obtain ⟨e, cells, h1, h2, h3, h4, h5⟩ := ho
  refine ⟨e, cells, ownsRow_same h1 fun b hb => (h.blk b L (h5 b hb).1 hL).1, h2.ext h.ext, h3, h4, fun b hb => ?_⟩
  obtain ⟨a1, a2⟩ := h5 b hb
  obtain ⟨_, b2, b3⟩ := h.blk b L a1 hL
  exact ⟨b2, b3.trans a2⟩

theorem CVR.step (h : Step X g w g' w') {L : Loc} (hL : ¬ X L) {x : CV} {v : Value} (ho : CVR g w L x v) : CVR g' w' L x v := by
  cases x with
  | v t => exact ⟨ho.1.ext h.ext, ho.2⟩
  | own sz xs => exact OwnR.step h hL ho
  | nils => exact ho

theorem CVRs.step (h : Step X g w g' w') {L : Nat → Loc} (hL : ∀ j, ¬ X (L j)) {cs : List CV} {vs : Array Value} (ho : CVRs g w L cs vs) : CVRs g' w' L cs vs :=
  ⟨ho.1, fun j x v h1 h2 => (ho.2 j x v h1 h2).step h (hL j)⟩

theorem CellsR.step (h : Step X g w g' w') {b : Nat} {L : Loc} {Lc : Nat → Loc} (hL : ¬ X L) (hLc : ∀ j, ¬ X (Lc j)) {cs : List CV} (ho : CellsR g w b L Lc cs) : CellsR g' w' b L Lc cs := by
  obtain ⟨vals, e, h1, h2, h3, h4⟩ := ho
  obtain ⟨a1, a2, a3⟩ := h.blk b L h1 hL
  exact ⟨vals, e, a2, by rw [a1]; exact h2, a3.trans h3, h4.step h hLc⟩

theorem VarR.step (h : Step X g w g' w') {d : Nat} {o : VObj} (hβ : g'.β d = g.β d) (hL : ¬ X (.var d)) (hLc : ∀ j, ¬ X (.vcell d j)) (ho : VarR g w d o) : VarR g' w' d o := by
  cases o with
  | cells cs => unfold VarR at *; rw [hβ]; exact CellsR.step h hL hLc ho
  | esc i =>
    obtain ⟨e1, e2⟩ := h.ext.ref i ho.2
    exact ⟨by rw [hβ, ho.1, e1], by rw [e1]; exact e2⟩

theorem RefR.step (h : Step X g w g' w') {i : Nat} {o : RObj} (hL : ¬ X (.ref i)) (hLc : ∀ j, ¬ X (.cell i j)) (ho : RefR g w i o) : RefR g' w' i o := by
  cases o with
  | cells cs =>
    have hr : g.O (g.ρ i) = some (.ref i) := by obtain ⟨_, _, h1, _⟩ := ho; exact h1
    unfold RefR at *; rw [(h.ext.ref i hr).1]; exact CellsR.step h hL hLc ho
  | map es =>
    obtain ⟨ents, clock, h1, h2, h3, h4, h5⟩ := ho
    obtain ⟨a1, a2, a3⟩ := h.blk _ _ h1 hL
    unfold RefR
    rw [(h.ext.ref i h1).1]
    exact ⟨ents, clock, a2, by rw [a1]; exact h2, a3.trans h3, h4, fun j x en k1 k2 => ⟨(h5 j x en k1 k2).1.ext h.ext, (h5 j x en k1 k2).2.ext h.ext⟩⟩
  | arr sz cap xs =>
    obtain ⟨vals, e, cs, h1, h2, h3, h4, h5, h6, h7, h8, h9, h10⟩ := ho
    obtain ⟨a1, a2, a3⟩ := h.blk _ _ h1 hL
    unfold RefR
    rw [(h.ext.ref i h1).1]
    exact ⟨vals, e, cs, a2, by rw [a1]; exact h2, a3.trans h3, h4, h5, h6, h7, h8.ext h.ext, h9, h10⟩

/-- Which arrays, and which variables, of this call what a slot holds speaks of. -/
def SV.ofA : SV → Nat → Prop
  | .arr k, d => k = d
  | .hp k _ _ _, d => k = d
  | _, _ => False
def SV.ofV : SV → Nat → Prop
  | .lp k _, d => k = d
  | _, _ => False

theorem SVR.step (h : Step X g w g' w') {d : Nat} {x : SV} {v : Value} (hA : ∀ k, x.ofA k → g'.hd k = g.hd k) (hV : ∀ k, x.ofV k → g'.β k = g.β k) (hL : ∀ j, ¬ X (.slot d j)) (hs : SVR g w d x v) : SVR g' w' d x v := by
  cases x with
  | und => trivial
  | t x => exact VV.ext h.ext hs
  | nils => exact hs
  | arr k => simp only [SVR] at hs ⊢; rw [hA k rfl]; exact hs
  | hp k sz i o => simp only [SVR] at hs ⊢; rw [hA k rfl]; exact hs
  | lp k off => simp only [SVR] at hs ⊢; rw [hV k rfl]; exact hs
  | ea cs =>
    obtain ⟨b, off, us, e1, e2, e3, e4, e5⟩ := hs
    refine ⟨b, off, us, e1, Nat.le_trans e2 (h.ext.c b), e3.ext h.ext, e4, fun k u hu => ?_⟩
    have hk : k < us.length := by
      rcases Nat.lt_or_ge k us.length with h' | h'
      · exact h'
      · simp [List.getElem?_eq_none h'] at hu
    rw [h.ext.cell b (off + k) (by have := e3.1; omega)]
    exact e5 k u hu
  | st cs =>
    obtain ⟨vs, e1, e2⟩ := hs
    exact ⟨vs, e1, e2.step h hL⟩
  | tup cs =>
    obtain ⟨vs, e1, e2, e3⟩ := hs
    refine ⟨vs, e1, e2, fun j x v h1 h2 => ?_⟩
    have := e3 j x v h1 h2
    cases x with
    | v t => exact VV.ext h.ext this
    | own sz xs => exact OwnR.step h (hL j) this
    | nils => exact this
end

end Go.T
set_option linter.unusedVariables false
namespace Go.T
open Go.RowKit

inductive TD where
  | int (k : IntKind) | bool | str | ptr (e : TypeId) | slice (e : TypeId) | struct (fs : List (Nat × TypeId)) | array (n : Nat) (e : TypeId) | map (k e : TypeId) | iface | func | other

structure TyI where
  sz : Nat
  bytes : Nat
  d : TD
  zero : List CV

def TD.ok (d : TypeDesc) : TD → Prop
  | .int k => d = .int k
  | .bool => d = .bool
  | .str => d = .string
  | .ptr e => d = .pointer e
  | .slice e => d = .slice e
  | .struct fs => ∃ a, d = .struct a ∧ a.toList.map (fun f => (f.offset, f.type)) = fs
  | .array n e => d = .array n e
  | .map k e => d = .map k e
  | .iface => ∃ ms, d = .interface ms
  | .func => ∃ a b c, d = .func a b c
  | .other => True

def TD.agg : TD → Bool
  | .struct _ | .array _ _ => true
  | _ => false

/-- Zero values of one cell. -/
def TV.zval : TV → Option Value
  | .bool b => some (.bool b)
  | .int k n => some (.int k n)
  | .str [] => some (.string ⟨#[]⟩)
  | .nilp => some (.pointer none)
  | .nilfn => some .nilFunc
  | .nilif => some .nilIface
  | .nilmap => some (.map none)
  | _ => none
def CV.zval : CV → Option Value
  | .v t => t.zval
  | .nils => some (.slice none 0 0)
  | .own _ _ => none

structure TyI.Ok (P : Program) (t : TypeId) (i : TyI) : Prop where
  info : ∃ f z, P.info? t = some f ∧ f.size = i.sz ∧ f.bytes = i.bytes ∧ f.zero = some z ∧ z.cells.toList.map some = i.zero.map CV.zval
  desc : ∃ d, P.underlying t = some d ∧ i.d.ok d
  agg : (∃ d, P.underlying t = some d ∧ (i.d.agg = true ↔ (∃ fs, d = .struct fs) ∨ ∃ n e, d = .array n e))
  one : i.d.agg = false → i.sz = 1
  zsz : i.zero.length = i.sz
  flds : ∀ fs, i.d = .struct fs → ∀ f, f ∈ fs → (P.info? f.2).isSome = true

structure Tab (P : Program) where
  ty : TypeId → Option TyI
  ok : ∀ t i, ty t = some i → i.Ok P t

section
variable {P : Program} (T : Tab P)

theorem run_sizeOf' {t : TypeId} {i : TyI} (h : T.ty t = some i) (w : World) : (sizeOf t).run P w = .ok i.sz w := by
  obtain ⟨f, z, h1, h2, _⟩ := (T.ok t i h).info
  simp [sizeOf, typeInfo, h1, h2]
theorem run_isAgg' {t : TypeId} {i : TyI} (h : T.ty t = some i) (w : World) : (isAgg t).run P w = .ok i.d.agg w := by
  obtain ⟨d, h1, h2⟩ := (T.ok t i h).agg
  simp only [isAgg, Sem.run_bind, run_underlying h1, Result.andThen_ok]
  cases hb : i.d.agg with
  | true =>
    rcases h2.1 hb with ⟨fs, rfl⟩ | ⟨n, e, rfl⟩ <;> rfl
  | false =>
    have hn : ¬ ((∃ fs, d = .struct fs) ∨ ∃ n e, d = .array n e) := fun hh => by have := h2.2 hh; simp [hb] at this
    cases d <;> first | rfl | exact absurd (.inl ⟨_, rfl⟩) hn | exact absurd (.inr ⟨_, _, rfl⟩) hn
theorem und_slice {t : TypeId} {i : TyI} (h : T.ty t = some i) {e : TypeId} (hd : i.d = .slice e) : P.underlying t = some (.slice e) := by
  obtain ⟨d, h1, h2⟩ := (T.ok t i h).desc
  rw [hd] at h2; simp only [TD.ok] at h2; rw [h1, h2]
theorem und_int {t : TypeId} {i : TyI} (h : T.ty t = some i) {k : IntKind} (hd : i.d = .int k) : P.underlying t = some (.int k) := by
  obtain ⟨d, h1, h2⟩ := (T.ok t i h).desc
  rw [hd] at h2; simp only [TD.ok] at h2; rw [h1, h2]
theorem und_bool {t : TypeId} {i : TyI} (h : T.ty t = some i) (hd : i.d = .bool) : P.underlying t = some .bool := by
  obtain ⟨d, h1, h2⟩ := (T.ok t i h).desc
  rw [hd] at h2; simp only [TD.ok] at h2; rw [h1, h2]
theorem und_str {t : TypeId} {i : TyI} (h : T.ty t = some i) (hd : i.d = .str) : P.underlying t = some .string := by
  obtain ⟨d, h1, h2⟩ := (T.ok t i h).desc
  rw [hd] at h2; simp only [TD.ok] at h2; rw [h1, h2]
theorem und_array {t : TypeId} {i : TyI} (h : T.ty t = some i) {n : Nat} {e : TypeId} (hd : i.d = .array n e) : P.underlying t = some (.array n e) := by
  obtain ⟨d, h1, h2⟩ := (T.ok t i h).desc
  rw [hd] at h2; simp only [TD.ok] at h2; rw [h1, h2]
theorem und_ptr {t : TypeId} {i : TyI} (h : T.ty t = some i) {e : TypeId} (hd : i.d = .ptr e) : P.underlying t = some (.pointer e) := by
  obtain ⟨d, h1, h2⟩ := (T.ok t i h).desc
  rw [hd] at h2; simp only [TD.ok] at h2; rw [h1, h2]
theorem und_iface {t : TypeId} {i : TyI} (h : T.ty t = some i) (hd : i.d = .iface) : ∃ ms, P.underlying t = some (.interface ms) := by
  obtain ⟨d, h1, h2⟩ := (T.ok t i h).desc
  rw [hd] at h2; obtain ⟨ms, h2⟩ := h2; exact ⟨ms, by rw [h1, h2]⟩
theorem und_struct {t : TypeId} {i : TyI} (h : T.ty t = some i) {fs : List (Nat × TypeId)} (hd : i.d = .struct fs) : ∃ a, P.underlying t = some (.struct a) ∧ a.toList.map (fun f => (f.offset, f.type)) = fs := by
  obtain ⟨d, h1, h2⟩ := (T.ok t i h).desc
  rw [hd] at h2; obtain ⟨a, h2, h3⟩ := h2; exact ⟨a, by rw [h1, h2], h3⟩
end

/-! ### Operands -/
def kindOf {P : Program} (T : Tab P) (t : TypeId) : Option TD := (T.ty t).map (·.d)
def kB {P : Program} (T : Tab P) (t : TypeId) : Bool := match kindOf T t with
  | some .bool => true
  | _ => false
def kSl {P : Program} (T : Tab P) (t : TypeId) : Bool := match kindOf T t with
  | some (.slice _) => true
  | _ => false
def kPtr {P : Program} (T : Tab P) (t : TypeId) : Bool := match kindOf T t with
  | some (.ptr _) => true
  | _ => false
def kIf {P : Program} (T : Tab P) (t : TypeId) : Bool := match kindOf T t with
  | some .iface => true
  | _ => false
def kFn {P : Program} (T : Tab P) (t : TypeId) : Bool := match kindOf T t with
  | some .func => true
  | _ => false
section
variable {P : Program} {T : Tab P} {t : TypeId}
theorem kB_ok (h : kB T t = true) : kindOf T t = some .bool := by unfold kB at h; split at h <;> simp_all
theorem kSl_ok (h : kSl T t = true) : ∃ e, kindOf T t = some (.slice e) := by unfold kSl at h; split at h <;> simp_all
theorem kPtr_ok (h : kPtr T t = true) : ∃ e, kindOf T t = some (.ptr e) := by unfold kPtr at h; split at h <;> simp_all
theorem kIf_ok (h : kIf T t = true) : kindOf T t = some .iface := by unfold kIf at h; split at h <;> simp_all
theorem kFn_ok (h : kFn T t = true) : kindOf T t = some .func := by unfold kFn at h; split at h <;> simp_all
end
def cst : Value → SV
  | .bool b => .t (.bool b)
  | .int k n => .t (.int k n)
  | .string s => .t (.str s.data.toList)
  | .pointer none => .t .nilp
  | .slice none 0 0 => .nils
  | .nilIface => .t .nilif
  | .nilFunc => .t .nilfn
  | .map none => .t .nilmap
  | _ => .und
def evs (s : TS) : Operand → SV
  | .tmp d => s.sl d
  | .const v => cst v
  | .func f => .t (.fn (.func f) [] [])
  | .global _ => .und
def slotOf : Operand → Nat
  | .tmp d => d
  | _ => 0

theorem cst_rel (g : Gh) (w : World) (d : Nat) (v : Value) : SVR g w d (cst v) v := by
  unfold cst
  split <;> first | trivial | rfl | exact .bool _ | exact .int _ _ | exact .str _ | exact .nilp | exact .nilif | exact .nilfn | exact .nilmap

section
variable {Ev : Env} {P : Program} {T : Tab P} {g : Gh} {n : Nat} {s : TS} {a : Act} {w : World}

theorem evs_rel (h : Rel Ev g n s a w) (x : Operand) : SVR g w (slotOf x) (evs s x) (a.eval x) := by
  cases x with
  | tmp d => exact h.slots d
  | const v => exact cst_rel g w _ v
  | func f => exact .fn (.func f) [] [] #[] #[] rfl rfl (fun k t u h => by simp at h) (fun k t u h => by simp at h)
  | global _ => trivial
theorem evs_t (h : Rel Ev g n s a w) {x : Operand} {t : TV} (e : evs s x = .t t) : g.VV w t (a.eval x) := by
  have := evs_rel h x; rw [e] at this; exact this
theorem evs_int (h : Rel Ev g n s a w) {x : Operand} {k : IntKind} {m : Int} (e : evs s x = .t (.int k m)) : a.eval x = .int k m := by
  have := evs_t h e
  generalize a.eval x = v at this ⊢
  cases this; rfl
theorem evs_bool (h : Rel Ev g n s a w) {x : Operand} {b : Bool} (e : evs s x = .t (.bool b)) : a.eval x = .bool b := by
  have := evs_t h e
  generalize a.eval x = v at this ⊢
  cases this; rfl
theorem evs_str (h : Rel Ev g n s a w) {x : Operand} {l : List UInt8} (e : evs s x = .t (.str l)) : ∃ b : ByteArray, b.data.toList = l ∧ a.eval x = .string b := by
  have := evs_t h e
  generalize a.eval x = v at this
  cases this with
  | str b => exact ⟨b, rfl, rfl⟩

/-! ### Setting a slot -/
def TS.put (s : TS) (d : Nat) (x : SV) : TS := { s with sl := upd s.sl d x }
def TS.putO (s : TS) : Option Nat → SV → TS
  | some d, x => s.put d x
  | none, _ => s

theorem getD_put (a : Act) (d k : Nat) (v : Value) : (a.put (some d) v).tmps.getD k undef = if k = d ∧ d < a.tmps.size then v else a.tmps.getD k undef := by
  simp only [Act.put]
  by_cases hk : k = d
  · subst hk
    by_cases hd : k < a.tmps.size
    · simp [hd]
    · simp [hd]
  · rw [if_neg (fun h => hk h.1)]
    simp [Ne.symm hk]

theorem Rel.put (h : Rel Ev g n s a w) {d : Nat} (hd : d < n) {x : SV} {v : Value} (hx : SVR g w d x v) : Rel Ev g n (s.put d x) (a.put (some d) v) w := {
  size := by simp [Act.put, h.size]
  defers := h.defers
  slots k := by
    rw [getD_put, h.size]
    by_cases hk : k = d
    · subst hk
      rw [if_pos ⟨rfl, hd⟩]
      simpa [TS.put] using hx
    · rw [if_neg (fun h => hk h.1)]
      simp only [TS.put, upd_ne _ _ hk]
      exact h.slots k
  vars := h.vars
  arrs := h.arrs
  heap := h.heap
  wf := h.wf }
theorem Rel.putO (h : Rel Ev g n s a w) {o : Option Nat} (ho : ∀ d, o = some d → d < n) {x : SV} {v : Value} (hx : ∀ d, SVR g w d x v) : Rel Ev g n (s.putO o x) (a.put o v) w := by
  cases o with
  | none => exact h
  | some d => exact h.put (ho d rfl) (hx d)
end

/-! ### Arithmetic -/
def cmpI : BinOp → Int → Int → Option Bool
  | .eql, a, b => some (a == b)
  | .neq, a, b => some (a != b)
  | .lss, a, b => some (decide (a < b))
  | .leq, a, b => some (decide (a ≤ b))
  | .gtr, a, b => some (decide (a > b))
  | .geq, a, b => some (decide (a ≥ b))
  | _, _, _ => none
/-- The bits of two numbers. -/
def bitsI (op : BinOp) (k : IntKind) (x y : Int) : Int :=
  let a := BitVec.ofInt k.bits x
  let b := BitVec.ofInt k.bits y
  match op with
  | .and => k.wrap (a &&& b).toNat
  | .or => k.wrap (a ||| b).toNat
  | .xor => k.wrap (a ^^^ b).toNat
  | .andNot => k.wrap (a &&& ~~~b).toNat
  | _ => 0
def binI (op : BinOp) (k : IntKind) (a : Int) (k' : IntKind) (b : Int) (K : TV → Prop) : Prop :=
  match op with
  | .add => Chk (decide (k = k')) (K (.int k (k.wrap (a + b))))
  | .sub => Chk (decide (k = k')) (K (.int k (k.wrap (a - b))))
  | .mul => Chk (decide (k = k')) (K (.int k (k.wrap (a * b))))
  | .quo => Chk (decide (k = k')) (b ≠ 0 ∧ K (.int k (k.wrap (a.tdiv b))))
  | .rem => Chk (decide (k = k')) (b ≠ 0 ∧ K (.int k (a.tmod b)))
  | .and => Chk (decide (k = k')) (K (.int k (bitsI .and k a b)))
  | .or => Chk (decide (k = k')) (K (.int k (bitsI .or k a b)))
  | .xor => Chk (decide (k = k')) (K (.int k (bitsI .xor k a b)))
  | .andNot => Chk (decide (k = k')) (K (.int k (bitsI .andNot k a b)))
  | .shl => 0 ≤ b ∧ K (.int k (k.wrap (a * 2 ^ min b.toNat k.bits)))
  | .shr => 0 ≤ b ∧ K (.int k (a.fdiv (2 ^ min b.toNat k.bits)))
  | .eql => Chk (decide (k = k')) (K (.bool (a == b)))
  | .neq => Chk (decide (k = k')) (K (.bool (a != b)))
  | .lss => Chk (decide (k = k')) (K (.bool (decide (a < b))))
  | .leq => Chk (decide (k = k')) (K (.bool (decide (a ≤ b))))
  | .gtr => Chk (decide (k = k')) (K (.bool (decide (a > b))))
  | .geq => Chk (decide (k = k')) (K (.bool (decide (a ≥ b))))
def binS (op : BinOp) (a b : List UInt8) (K : TV → Prop) : Prop :=
  match op with
  | .add => a.length + b.length ≤ 9223372036854775807 ∧ K (.str (a ++ b))
  | .eql => K (.bool (a == b))
  | .neq => K (.bool (!(a == b)))
  | .lss => K (.bool (Op.bytesLess a b))
  | .leq => K (.bool (Op.bytesLess a b || a == b))
  | .gtr => K (.bool (!(Op.bytesLess a b || a == b)))
  | .geq => K (.bool (!(Op.bytesLess a b)))
  | _ => False

theorem binI_ok {P : Program} {op : BinOp} {k k' : IntKind} {a b : Int} {K : TV → Prop} (h : binI op k a k' b K) (xt : TypeId) :
    ∃ t v, K t ∧ (∀ (g : Gh) (w : World), g.VV w t v) ∧ ∀ w, (binOp op xt (.int k a) (.int k' b)).run P w = .ok v w := by
  cases op <;> simp only [binI, chk_iff] at h
  case shl => exact ⟨_, _, h.2, fun _ _ => .int _ _, fun w => by simp [binOp, Op.shift, Int.not_lt.2 h.1]⟩
  case shr => exact ⟨_, _, h.2, fun _ _ => .int _ _, fun w => by simp [binOp, Op.shift, Int.not_lt.2 h.1]⟩
  case quo => obtain ⟨rfl, h1, h2⟩ := h; exact ⟨_, _, h2, fun _ _ => .int _ _, fun w => by simp [binOp, Op.intDiv, h1]⟩
  case rem => obtain ⟨rfl, h1, h2⟩ := h; exact ⟨_, _, h2, fun _ _ => .int _ _, fun w => by simp [binOp, Op.intDiv, h1]⟩
  all_goals
    obtain ⟨rfl, h1⟩ := h
    refine ⟨_, _, h1, fun _ _ => by first | exact .int _ _ | exact .bool _, fun w => ?_⟩
    first
    | (simp [binOp, Op.intArith]; done)
    | (simp [binOp, Op.intCmp]; done)
    | (simp [binOp, Op.intBits, bitsI]; done)

theorem toList_data (b : ByteArray) : b.toList = b.data.toList := by
  have key : ∀ (n i : Nat) (r : List UInt8), n = b.size - i → ByteArray.toList.loop b i r = r.reverse ++ b.data.toList.drop i := by
    intro n
    induction n with
    | zero =>
      intro i r h
      unfold ByteArray.toList.loop
      have hi : ¬ i < b.size := by omega
      rw [if_neg hi, List.drop_eq_nil_of_le (by simp; exact Nat.le_of_not_lt hi)]
      simp
    | succ n ih =>
      intro i r h
      unfold ByteArray.toList.loop
      have hi : i < b.size := by omega
      rw [if_pos hi, ih (i + 1) _ (by omega)]
      have hd : b.data.toList.drop i = b.data.toList[i]'(by simpa using hi) :: b.data.toList.drop (i + 1) := List.drop_eq_getElem_cons (by simpa using hi)
      rw [hd]
      have : b.get! i = b.data.toList[i]'(by simpa using hi) := by
        have hb : i < b.data.size := hi
        simp only [ByteArray.get!, Array.getElem_toList]
        exact getElem!_pos b.data i hb
      simp [this]
  have := key b.size 0 [] (by simp)
  simpa [ByteArray.toList] using this

theorem binS_ok {P : Program} {op : BinOp} {x y : ByteArray} {K : TV → Prop} (h : binS op x.data.toList y.data.toList K) (xt : TypeId) :
    ∃ t v, K t ∧ (∀ (g : Gh) (w : World), g.VV w t v) ∧ ∀ w, (binOp op xt (.string x) (.string y)).run P w = .ok v w := by
  cases op <;> simp only [binS] at h
  case add =>
    refine ⟨_, .string (x ++ y), h.2, fun g w => ?_, fun w => ?_⟩
    · have := VV.str (w := w) (c := g.c) (ρ := g.ρ) (O := g.O) (x ++ y)
      simpa using this
    · have h1 := h.1
      have hm : IntKind.i64.max = 9223372036854775807 := by decide
      have hx : x.data.toList.length = x.size := by simp
      have hy : y.data.toList.length = y.size := by simp
      simp only [binOp, Op.stringOp]
      rw [if_neg (by rw [hm]; omega)]
      rfl
  all_goals first
    | exact h.elim
    | exact ⟨_, _, h, fun _ _ => .bool _, fun w => by simp [binOp, Op.stringOp, toList_data]⟩

end Go.T
set_option linter.unusedVariables false
namespace Go.T
open Go.RowKit

/-- A cell as it is seen by whoever copies it. -/
def CV.view : CV → CV
  | .own sz xs => .v (.sl sz xs)
  | c => c
def CV.sv : CV → SV
  | .v t => .t t
  | .own sz xs => .t (.sl sz xs)
  | .nils => .nils

theorem sizes_flat {xs : List TV} {sz : Nat} (h : ∀ x, x ∈ xs → x.cells.length = sz) : (flat xs).length = xs.length * sz := flat_length h

theorem OwnR.view {g : Gh} {w : World} {L : Loc} {sz : Nat} {xs : List TV} {v : Value} (h : OwnR g w L true sz xs v) : g.VV w (.sl sz xs) v := by
  obtain ⟨e, cells, ⟨h1, h1'⟩, h2, h3, h4, h5⟩ := h
  rcases h1' with ⟨rfl, h0⟩ | ⟨b, cap, cur, rfl, _, hh, hn, hm, hs, ht⟩
  · have : xs = [] := List.eq_nil_of_length_eq_zero h0
    subst this
    exact .sl0 sz none 0
  · by_cases hx : xs = []
    · subst hx
      exact .sl0 sz _ cap
    · refine .sl sz xs b 0 cap cells hx ?_ h3 ?_ hn h4 h2.1 (fun k u hu => ?_) h2.2
      · rw [(h5 b rfl).2, if_pos rfl, flat_length h3]; omega
      · have : maxLen = 9223372036854775807 := rfl
        omega
      · have hk : k < cells.length := by
          rcases Nat.lt_or_ge k cells.length with h' | h'
          · exact h'
          · simp [List.getElem?_eq_none h'] at hu
        simp only [World.cell?, hh, Nat.zero_add]
        have : cur.toList[k]? = some u := by
          rw [← ht, List.getElem?_take] at hu
          split at hu
          · exact hu
          · simp at hu
        simpa using this

theorem CVR.view {g : Gh} {w : World} {L L' : Loc} {c : CV} {v : Value} (h : CVR g w L c v) : CVR g w L' c.view v := by
  cases c with
  | v t => exact h
  | own sz xs =>
    refine ⟨OwnR.view h, ?_⟩
    obtain ⟨_, _, ⟨_, h1'⟩, _⟩ := h
    rcases h1' with ⟨rfl, _⟩ | ⟨_, _, _, rfl, _⟩ <;> rfl
  | nils => exact h
theorem CVR.sv {g : Gh} {w : World} {L : Loc} {d : Nat} {c : CV} {v : Value} (h : CVR g w L c v) : SVR g w d c.sv v := by
  cases c with
  | v t => exact h.1
  | own sz xs => exact OwnR.view h
  | nils => exact h

/-- The variable's cells that a place of this call's speaks of. -/
def varCells (s : TS) (d : Nat) : Option (List CV) :=
  match s.V d with
  | some (.cells cs) => some cs
  | some (.esc i) => match s.H i with
    | some (.cells cs) => some cs
    | _ => none
  | none => none
def refCells (s : TS) (i : Nat) : Option (List CV) :=
  match s.H i with
  | some (.cells cs) => some cs
  | _ => none

section
variable {Ev : Env} {P : Program} {T : Tab P} {g : Gh} {n : Nat} {s : TS} {a : Act} {w : World}

theorem CellsR.at_ {b : Nat} {L : Loc} {Lc : Nat → Loc} {cs : List CV} (h : CellsR g w b L Lc cs) {j : Nat} {x : CV} (hx : cs[j]? = some x) : ∃ v, w.cell? ⟨b, j, none⟩ = some v ∧ CVR g w (Lc j) x v := by
  obtain ⟨vals, e, _, h2, _, h4, h5⟩ := h
  have hj : j < cs.length := by
    rcases Nat.lt_or_ge j cs.length with h' | h'
    · exact h'
    · simp [List.getElem?_eq_none h'] at hx
  have hv : vals[j]? = some vals[j] := Array.getElem?_eq_getElem (by omega)
  exact ⟨vals[j], by simp [World.cell?, h2], h5 j x _ hx hv⟩

theorem varCells_at (h : Rel Ev g n s a w) {d : Nat} {cs : List CV} (hc : varCells s d = some cs) {j : Nat} {x : CV} (hx : cs[j]? = some x) : ∃ L v, w.cell? ⟨g.β d, j, none⟩ = some v ∧ CVR g w L x v := by
  unfold varCells at hc
  split at hc
  · rename_i cs' hV
    cases hc
    obtain ⟨v, h1, h2⟩ := CellsR.at_ (h.vars d _ hV) hx
    exact ⟨_, v, h1, h2⟩
  · rename_i i hV
    split at hc
    · rename_i cs' hH
      cases hc
      obtain ⟨v, h1, h2⟩ := CellsR.at_ (h.heap i _ hH) hx
      have := (h.vars d _ hV).1
      exact ⟨_, v, by rw [this]; exact h1, h2⟩
    · simp at hc
  · simp at hc
theorem refCells_at (h : Rel Ev g n s a w) {i : Nat} {cs : List CV} (hc : refCells s i = some cs) {j : Nat} {x : CV} (hx : cs[j]? = some x) : ∃ L v, w.cell? ⟨g.ρ i, j, none⟩ = some v ∧ CVR g w L x v := by
  unfold refCells at hc
  split at hc
  · rename_i cs' hH
    cases hc
    obtain ⟨v, h1, h2⟩ := CellsR.at_ (h.heap i _ hH) hx
    exact ⟨_, v, h1, h2⟩
  · simp at hc
end

/-! ### Reading a variable -/
theorem World.cell?_heap {w w1 : World} (h : w1.heap = w.heap) {a : Addr} : w1.cell? a = w.cell? a := by
  simp only [World.cell?, h]

/-- What is read at cells from 'off' on: of a struct or array all its cells, of another type one. -/
def readCells (i : TyI) (cs : List CV) (off : Nat) (K : SV → Prop) : Prop :=
  if i.d.agg = true then Chk (decide (off + i.sz ≤ cs.length)) (K (.st (((cs.drop off).take i.sz).map CV.view)))
  else Chk (decide (off < cs.length)) ((cs.getD off .nils).sv.force K)

theorem run_load_cells {P : Program} {w : World} {b off : Nat} {cs : List Value} (h : ∀ (k : Nat) (u : Value), cs[k]? = some u → w.cell? ⟨b, off + k, none⟩ = some u) :
    (loadCells ⟨b, off, none⟩ cs.length).run P w = .ok cs.toArray w :=
  run_loadCells_list w _ cs fun j v hj => by
    have : (⟨b, off, none⟩ : Addr).add j = ⟨b, off + j, none⟩ := by unfold Addr.add; split <;> simp_all
    rw [this]; exact h j v hj

theorem run_loadAt_agg {P : Program} {T : Tab P} {t : TypeId} {i : TyI} (ht : T.ty t = some i) (ha : i.d.agg = true) {w : World} {b off : Nat} {cs : List Value} (hl : cs.length = i.sz)
    (h : ∀ (k : Nat) (u : Value), cs[k]? = some u → w.cell? ⟨b, off + k, none⟩ = some u) : (Instr.loadAt t (.pointer (some ⟨b, off, none⟩))).run P w = .ok (.agg cs.toArray) w := by
  simp only [Instr.loadAt, Instr.sureAddr, loadVar, Sem.run_bind, Sem.run_pure, Result.andThen_ok, run_isAgg' T ht, ha, if_true, run_sizeOf' T ht, ← hl, run_load_cells h]
theorem run_loadAt_one {P : Program} {T : Tab P} {t : TypeId} {i : TyI} (ht : T.ty t = some i) (ha : i.d.agg = false) {w : World} {ad : Addr} {u : Value}
    (h : w.cell? ad = some u) : (Instr.loadAt t (.pointer (some ad))).run P w = .ok u w := by
  simp [Instr.loadAt, Instr.sureAddr, loadVar, run_isAgg' T ht, ha, h]

theorem readCells_ok {P : Program} {T : Tab P} {t : TypeId} {i : TyI} (ht : T.ty t = some i) {g : Gh} {w : World} {b : Nat} {cs : List CV} {off : Nat} {K : SV → Prop}
    (hc : ∀ (j : Nat) (x : CV), cs[j]? = some x → ∃ L v, w.cell? ⟨b, j, none⟩ = some v ∧ CVR g w L x v) (h : readCells i cs off K) :
    ∃ x v, K x ∧ (∀ d, SVR g w d x v) ∧ ∀ w1 : World, w1.heap = w.heap → (Instr.loadAt t (.pointer (some ⟨b, off, none⟩))).run P w1 = .ok v w1 := by
  unfold readCells at h
  simp only [chk_iff, force_iff] at h
  split at h
  · rename_i ha
    obtain ⟨hle, hK⟩ := h
    -- the values, one by one
    have hex : ∀ m, m ≤ i.sz → ∃ vs : List Value, vs.length = m ∧ (∀ (k : Nat) (u : Value), vs[k]? = some u → w.cell? ⟨b, off + k, none⟩ = some u) ∧
        ∀ (k : Nat) (x : CV) (u : Value), cs[off + k]? = some x → vs[k]? = some u → ∃ L, CVR g w L x u := by
      intro m
      induction m with
      | zero => exact fun _ => ⟨[], rfl, by simp, by simp⟩
      | succ m ih =>
        intro hm
        obtain ⟨vs, h1, h2, h3⟩ := ih (by omega)
        have hj : off + m < cs.length := by omega
        obtain ⟨L, v, h4, h5⟩ := hc (off + m) _ (List.getElem?_eq_getElem hj)
        refine ⟨vs ++ [v], by simp [h1], fun k u hu => ?_, fun k x u hx hu => ?_⟩
        · rcases Nat.lt_or_ge k m with hk | hk
          · rw [List.getElem?_append_left (by omega)] at hu; exact h2 k u hu
          · rw [List.getElem?_append_right (by omega)] at hu
            obtain rfl : k = m := by
              rcases Nat.eq_or_lt_of_le hk with h | h
              · exact h.symm
              · rw [List.getElem?_eq_none (by simp; omega)] at hu; simp at hu
            simp [h1] at hu; subst hu; exact h4
        · rcases Nat.lt_or_ge k m with hk | hk
          · rw [List.getElem?_append_left (by omega)] at hu; exact h3 k x u hx hu
          · rw [List.getElem?_append_right (by omega)] at hu
            obtain rfl : k = m := by
              rcases Nat.eq_or_lt_of_le hk with h | h
              · exact h.symm
              · rw [List.getElem?_eq_none (by simp; omega)] at hu; simp at hu
            simp [h1] at hu; subst hu
            rw [List.getElem?_eq_getElem hj] at hx
            cases hx
            exact ⟨L, h5⟩
    obtain ⟨vs, h1, h2, h3⟩ := hex i.sz (Nat.le_refl _)
    refine ⟨_, .agg vs.toArray, hK, fun d => ⟨vs.toArray, rfl, ?_, fun j x v hx hv => ?_⟩, fun w1 he => run_loadAt_agg ht ha h1 (fun k u hu => by rw [World.cell?_heap he]; exact h2 k u hu)⟩
    · simp [h1]; omega
    · simp only [List.getElem?_map, Option.map_eq_some_iff] at hx
      obtain ⟨y, hy, rfl⟩ := hx
      rw [List.getElem?_take] at hy
      split at hy
      · rw [List.getElem?_drop] at hy
        obtain ⟨L, h6⟩ := h3 j y v hy (by simpa using hv)
        exact h6.view
      · simp at hy
  · rename_i ha
    obtain ⟨hlt, hK⟩ := h
    obtain ⟨L, v, h1, h2⟩ := hc off _ (List.getElem?_eq_getElem hlt)
    have : cs.getD off .nils = cs[off] := by simp [List.getD, List.getElem?_eq_getElem hlt]
    rw [this] at hK
    exact ⟨_, v, hK, fun d => h2.sv, fun w1 he => run_loadAt_one ht (by simpa using ha) (by rw [World.cell?_heap he]; exact h1)⟩

/-! ### Operations that yield a value -/
def asI : SV → Option Int
  | .t (.int _ i) => some i
  | _ => none

def eqNil (b : Bool) (op : BinOp) (K : SV → Prop) : Prop :=
  match op with
  | .eql => K (.t (.bool b))
  | .neq => K (.t (.bool (!b)))
  | _ => False

/-- Is it nil? Of an empty slice that isn't told. -/
def nilSl (s : TS) (x : SV) (K : Bool → Prop) : Prop :=
  match x with
  | .nils => K true
  | .t (.sl _ xs) => ∀ b : Bool, (xs ≠ [] → b = false) → K b
  | .arr k => match s.A k with
    | some o => ∀ b : Bool, (o.xs ≠ [] → b = false) → K b
    | none => False
  | _ => False
def nilPtr (x : SV) (K : Bool → Prop) : Prop :=
  match x with
  | .t .nilp => K true
  | .t (.ptr _ _) => K false
  | .lp _ _ => K false
  | _ => False
def nilIf (x : SV) (K : Bool → Prop) : Prop :=
  match x with
  | .t .nilif => K true
  | .t (.iface _ _) => K false
  | _ => False
def nilFn (x : SV) (K : Bool → Prop) : Prop :=
  match x with
  | .t .nilfn => K true
  | .t (.fn _ _ _) => K false
  | _ => False

end Go.T
set_option linter.unusedVariables false
set_option linter.unusedSimpArgs false
namespace Go.T
open Go.RowKit

def SV.copy : SV → SV
  | .st cs => .st (cs.map CV.view)
  | .tup cs => .tup (cs.map CV.view)
  | x => x

theorem SVR.copy {g : Gh} {w : World} {d d' : Nat} {x : SV} {v : Value} (h : SVR g w d x v) : SVR g w d' x.copy v := by
  cases x with
  | st cs =>
    obtain ⟨vs, e1, e2, e3⟩ := h
    refine ⟨vs, e1, by simp [e2], fun j x v hx hv => ?_⟩
    simp only [List.getElem?_map, Option.map_eq_some_iff] at hx
    obtain ⟨y, hy, rfl⟩ := hx
    exact (e3 j y v hy hv).view
  | tup cs =>
    obtain ⟨vs, e1, e2, e3⟩ := h
    refine ⟨vs, e1, by simp [e2], fun j x v hx hv => ?_⟩
    simp only [List.getElem?_map, Option.map_eq_some_iff] at hx
    obtain ⟨y, hy, rfl⟩ := hx
    have := e3 j y v hy hv
    cases y with
    | v t => exact this
    | own sz xs => exact OwnR.view this
    | nils => exact this
  | _ => exact h

def isConst : Operand → Bool
  | .const _ => true
  | _ => false


/-- A place: what its cells hold is read. -/
def loadV (s : TS) (i : TyI) (x : SV) (K : SV → Prop) : Prop :=
  match x with
  | .lp d off => match s.V d with
    | some (.cells cs) => readCells i cs off K
    | some (.esc r) => ∃ cs, s.H r = some (.cells cs) ∧ readCells i cs off K
    | none => False
  | .t (.ptr r off) => ∃ cs, s.H r = some (.cells cs) ∧ readCells i cs off K
  | .t (.aptr r sz e off) => ∃ cap xs, s.H r = some (.arr sz cap xs) ∧ e < xs.length ∧ ∀ x, xs[e]? = some x →
        if i.d.agg = true then Chk (decide (off + i.sz ≤ sz)) (K (.t (.agg ((x.cells.drop off).take i.sz))))
        else Chk (decide (off < sz)) (K (.t (x.cells.getD off default)))
  | .ea cs => if i.d.agg = true then Chk (decide (i.sz ≤ cs.length)) (K (.t (.agg (cs.take i.sz)))) else Chk (decide (0 < cs.length)) (K (.t (cs.getD 0 default)))
  | .t (.eptr cs) => if i.d.agg = true then Chk (decide (i.sz ≤ cs.length)) (K (.t (.agg (cs.take i.sz)))) else Chk (decide (0 < cs.length)) (K (.t (cs.getD 0 default)))
  | .hp k sz e off => match s.A k with
    | some o => Chk (decide (sz = o.sz)) (e < o.xs.length ∧ ∀ x, o.xs[e]? = some x →
        if i.d.agg = true then Chk (decide (off + i.sz ≤ sz)) (K (.t (.agg ((x.cells.drop off).take i.sz))))
        else Chk (decide (off < sz)) (K (.t (x.cells.getD off default))))
    | none => False
  | _ => False

/-- A field's place. -/
def fieldV (x : SV) (off : Nat) (K : SV → Prop) : Prop :=
  match x with
  | .lp d o => K (.lp d (o + off))
  | .t (.ptr r o) => K (.t (.ptr r (o + off)))
  | .t (.aptr r sz e o) => K (.t (.aptr r sz e (o + off)))
  | .t (.eptr cs) => Chk (decide (off ≤ cs.length)) (K (.ea (cs.drop off)))
  | .ea cs => Chk (decide (off ≤ cs.length)) (K (.ea (cs.drop off)))
  | .hp k sz e o => K (.hp k sz e (o + off))
  | _ => False

/-- An element's place. -/
def indexV (s : TS) (d : TD) (esz : Nat) (x : SV) (i : Int) (K : SV → Prop) : Prop :=
  match d, x with
  | .slice _, .t (.sl sz xs) => Chk (decide (sz = esz)) (0 ≤ i ∧ i < xs.length ∧ ∀ x, xs[i.toNat]? = some x → K (.ea x.cells))
  | .slice _, .arr k => match s.A k with
    | some o => Chk (decide (o.sz = esz)) (0 ≤ i ∧ i < o.xs.length ∧ K (.hp k esz i.toNat 0))
    | none => False
  | .slice _, .t (.slr sz r n _) => Chk (decide (sz = esz)) (0 ≤ i ∧ i < n ∧ K (.t (.aptr r esz i.toNat 0)))
  | .array n _, .lp d o => 0 ≤ i ∧ i < n ∧ K (.lp d (o + i.toNat * esz))
  | .array n _, .t (.ptr r o) => 0 ≤ i ∧ i < n ∧ K (.t (.ptr r (o + i.toNat * esz)))
  | _, _ => False

/-- A slice's, or a string's length. -/
def lenV (s : TS) (d : TD) (x : SV) (K : Nat → Prop) : Prop :=
  match d, x with
  | .slice _, .t (.sl _ xs) => xs.length ≤ 9223372036854775807 → K xs.length
  | .slice _, .nils => K 0
  | .slice _, .arr k => match s.A k with
    | some o => o.xs.length ≤ 9223372036854775807 → K o.xs.length
    | none => False
  | .slice _, .t (.slr _ _ n _) => n ≤ 9223372036854775807 → K n
  | .str, .t (.str l) => K l.length
  | _, _ => False

/-- A cut's bound. -/
def cutB (s : TS) (x : Option Operand) (dflt : Int) (K : Int → Prop) : Prop :=
  match x with
  | none => K dflt
  | some y => match evs s y with
    | .t (.int _ i) => K i
    | _ => False

def TD.plain : TD → Bool
  | .iface | .other => false
  | _ => true
def byteTV (b : UInt8) : TV := .int .u8 (b.toNat : Int)

/-- Whether two structs are the same. -/
def EqAgg (P : Program) (xt : TypeId) (xs ys : List TV) (b : Bool) : Prop :=
  P.eqGuardType P.depth xt = false ∧ ∀ (g : Gh) (w : World) (vx vy : Value), g.VV w (.agg xs) vx → g.VV w (.agg ys) vy → ∀ w1, (Op.equal xt vx vy).run P w1 = .ok b w1
def tval {P : Program} (T : Tab P) (s : TS) (op : Op) (K : SV → Prop) : Prop :=
  match op with
  | .binOp op xt x y _ =>
    match evs s x, evs s y with
    | .t (.int k a), .t (.int k' b) => binI op k a k' b (fun t => K (.t t))
    | .t (.str a), .t (.str b) => binS op a b (fun t => K (.t t))
    | .t (.bool a), .t (.bool b) => Chk (kB T xt) (eqNil (a == b) op K)
    | .t (.agg xs), .t (.agg ys) => ∃ b, EqAgg P xt xs ys b ∧ eqNil b op K
    | x', .nils => Chk (kSl T xt) (nilSl s x' fun b => eqNil b op K)
    | x', .t .nilp => Chk (kPtr T xt) (nilPtr x' fun b => eqNil b op K)
    | x', .t .nilif => Chk (isConst y && kIf T xt) (nilIf x' fun b => eqNil b op K)
    | x', .t .nilfn => Chk (kFn T xt) (nilFn x' fun b => eqNil b op K)
    | _, _ => False
  | .unOp op _ x =>
    match op, evs s x with
    | .not, .t (.bool b) => K (.t (.bool (!b)))
    | .neg, .t (.int k i) => K (.t (.int k (k.wrap (0 - i))))
    | .xor, .t (.int k i) => K (.t (.int k (bitsI .xor k (if k.signed then -1 else k.max) i)))
    | _, _ => False
  | .pick c x y =>
    match evs s c with
    | .t (.bool c) =>
      match evs s x, evs s y with
      | .t (.bool p), .t (.bool q) => K (.t (.bool (bif c then p else q)))
      | x', y' => match c with
        | true => x'.copy.force K
        | false => y'.copy.force K
    | _ => False
  | .convert src dst x =>
    match evs s x with
    | .t (.int _ i) => match kindOf T src, kindOf T dst with
      | some _, some (.int k) => K (.t (.int k (k.wrap i)))
      | _, _ => False
    | .t (.str l) => match kindOf T src, kindOf T dst with
      | some _, some .str => K (.t (.str l))
      | _, _ => False
    | _ => False
  | .fieldAddr t x f =>
    match T.ty t with
    | some i => match i.d with
      | .struct fs => match fs[f]? with
        | some (off, ft) => match T.ty ft with
          | some fi => Chk (decide (fi.sz ≠ 0)) (fieldV (evs s x) off K)
          | none => False
        | none => False
      | _ => False
    | none => False
  | .field t x f =>
    match T.ty t with
    | some i => match i.d with
      | .struct fs => match fs[f]? with
        | some (off, ft) => match T.ty ft with
          | some fi => match evs s x with
            | .t (.agg cs) => if fi.d.agg = true then Chk (decide (off + fi.sz ≤ cs.length)) (K (.t (.agg ((cs.drop off).take fi.sz)))) else Chk (decide (off < cs.length)) (K (.t (cs.getD off default)))
            | .st cs => if fi.d.agg = true then Chk (decide (off + fi.sz ≤ cs.length)) (K (.st (((cs.drop off).take fi.sz).map CV.view))) else Chk (decide (off < cs.length)) ((cs.getD off .nils).sv.force K)
            | _ => False
          | none => False
        | none => False
      | _ => False
    | none => False
  | .indexAddr t x ix =>
    match T.ty t, evs s ix with
    | some i, .t (.int _ j) => match i.d with
      | .slice e => match T.ty e with
        | some ei => indexV s i.d ei.sz (evs s x) j K
        | none => False
      | .array n e => match T.ty e with
        | some ei => indexV s i.d ei.sz (evs s x) j K
        | none => False
      | _ => False
    | _, _ => False
  | .load t x =>
    match T.ty t with
    | some i => loadV s i (evs s x) K
    | none => False
  | .nilCheck x =>
    match evs s x with
    | .lp d o => K (.lp d o)
    | .t (.ptr r o) => K (.t (.ptr r o))
    | .t (.aptr r sz e o) => K (.t (.aptr r sz e o))
    | .t (.eptr cs) => K (.ea cs)
    | .ea cs => K (.ea cs)
    | .hp k sz e o => K (.hp k sz e o)
    | .t (.fn (.func f) fs cs) => K (.t (.fn (.func f) fs cs))
    | _ => False
  | .index t x ix =>
    match kindOf T t, evs s x, evs s ix with
    | some .str, .t (.str l), .t (.int _ j) => 0 ≤ j ∧ j < l.length ∧ K (.t (byteTV (l.getD j.toNat 0)))
    | _, _, _ => False
  | .slice t x lo hi mx =>
    match kindOf T t, evs s x with
    | some .str, .t (.str l) => Chk mx.isNone (cutB s lo 0 fun p => cutB s hi l.length fun q => 0 ≤ p ∧ p ≤ q ∧ q ≤ l.length ∧ K (.t (.str ((l.take q.toNat).drop p.toNat))))
    | some (.slice e), .t (.sl sz xs) => match T.ty e with
      | some ei => cutB s lo 0 fun p => cutB s hi xs.length fun q => cutB s mx xs.length fun m => Chk (mx.isNone || hi.isSome) (Chk (decide (sz = ei.sz)) (0 ≤ p ∧ p ≤ q ∧ q ≤ m ∧ m ≤ xs.length ∧ K (.t (.sl sz ((xs.take q.toNat).drop p.toNat)))))
      | none => False
    | _, _ => False
  | .makeInterface t x =>
    match T.ty t, evs s x with
    | some i, .t v => Chk i.d.plain (K (.t (.iface t v)))
    | _, _ => False
  | .call { callee := .builtin .len, args := ⟨[x]⟩, argTypes := ⟨[t]⟩ } =>
    match kindOf T t with
    | some d => lenV s d (evs s x) fun m => K (.t (.int .i64 m))
    | none => False
  | .call { callee := .builtin .min, args := ⟨[x, y]⟩, .. } =>
    match evs s x, evs s y with
    | .t (.int k a), .t (.int k' b) => Chk (decide (k = k')) (K (.t (.int k (if b < a then b else a))))
    | _, _ => False
  | .call { callee := .builtin .max, args := ⟨[x, y]⟩, .. } =>
    match evs s x, evs s y with
    | .t (.int k a), .t (.int k' b) => Chk (decide (k = k')) (K (.t (.int k (if a < b then b else a))))
    | _, _ => False
  | _ => False

end Go.T
set_option linter.unusedVariables false
set_option linter.unusedSimpArgs false
namespace Go.T
open Go.RowKit

section
variable {Ev : Env} {P : Program} {T : Tab P} {g : Gh} {n : Nat} {s : TS} {a : Act} {w : World}

/-- What is shown of each: a value that fits, in each world of C. -/
def VOkC (P : Program) (g : Gh) (w : World) (a : Act) (o : Oper) (C : World → Prop) (K : SV → Prop) : Prop :=
  ∃ x v, K x ∧ (∀ d, SVR g w d x v) ∧ ∀ w1, C w1 → (execOp a.eval o).run P w1 = .ok (.value v) w1
def VOk (P : Program) (g : Gh) (w : World) (a : Act) (o : Oper) (K : SV → Prop) : Prop :=
  ∃ x v, K x ∧ (∀ d, SVR g w d x v) ∧ ∀ w1, (execOp a.eval o).run P w1 = .ok (.value v) w1

theorem kindOf_some {t : TypeId} {d : TD} (h : kindOf T t = some d) : ∃ i, T.ty t = some i ∧ i.d = d := by
  unfold kindOf at h
  cases hi : T.ty t with
  | none => simp [hi] at h
  | some i => simp [hi] at h; exact ⟨i, rfl, h⟩

theorem add_at (b o k : Nat) : (⟨b, o, none⟩ : Addr).add k = ⟨b, o + k, none⟩ := by unfold Addr.add; split <;> simp_all

theorem eqNil_ok {b : Bool} {op : BinOp} {K : SV → Prop} (h : eqNil b op K) : (op = .eql ∧ K (.t (.bool b))) ∨ (op = .neq ∧ K (.t (.bool (!b)))) := by
  cases op <;> simp only [eqNil] at h <;> first | exact h.elim | exact .inl ⟨rfl, h⟩ | exact .inr ⟨rfl, h⟩

/-- A comparison that is one of Op.equal's. -/
theorem eq_ok {op : BinOp} {xt yt : TypeId} {x y : Operand} {vx vy : Value} {b : Bool} {K : SV → Prop} {ty : TypeId} {dst : Option Tmp} {pos : String} {after : Array Edge} {gd : Option (Nat × Bool)}
    (h : eqNil b op K) (hx : a.eval x = vx) (hy : a.eval y = vy) (hg : ∀ w, (eqGuard op xt x y vx vy).run P w = .ok () w)
    (hb : ∀ op, op = .eql ∨ op = .neq → binOp op xt vx vy = (if op = .eql then (do pure (.bool (← Op.equal xt vx vy))) else (do pure (.bool (!(← Op.equal xt vx vy))))))
    (he : ∀ w, (Op.equal xt vx vy).run P w = .ok b w) :
    VOk P g w a { dst, op := .binOp op xt x y yt, type := ty, pos, after, guard := gd } K := by
  rcases eqNil_ok h with ⟨rfl, hk⟩ | ⟨rfl, hk⟩
  · refine ⟨_, .bool b, hk, fun _ => .bool _, fun w => ?_⟩
    simp only [execOp, Sem.run_bind, hx, hy, hg, Result.andThen_ok, hb _ (.inl rfl), if_true, he, Sem.run_pure]
  · refine ⟨_, .bool (!b), hk, fun _ => .bool _, fun w => ?_⟩
    simp only [execOp, Sem.run_bind, hx, hy, hg, Result.andThen_ok, hb _ (.inr rfl), he, Sem.run_pure]
    simp [he]

theorem eqGuard_slice {op : BinOp} {xt : TypeId} {x y : Operand} {A B : Option Addr} {m c m' c' : Nat} : (eqGuard op xt x y (.slice A m c) (.slice B m' c')).run P w = .ok () w := by
  unfold eqGuard; split <;> rfl
theorem eqGuard_ptr {op : BinOp} {xt : TypeId} {x y : Operand} {A B : Option Addr} : (eqGuard op xt x y (.pointer A) (.pointer B)).run P w = .ok () w := by
  unfold eqGuard; split <;> rfl
theorem eqGuard_fn {op : BinOp} {xt : TypeId} {x y : Operand} {f : Fn} {us vs : Array Value} : (eqGuard op xt x y (.func f us vs) .nilFunc).run P w = .ok () w := by
  unfold eqGuard; split <;> rfl
theorem eqGuard_fn0 {op : BinOp} {xt : TypeId} {x y : Operand} : (eqGuard op xt x y .nilFunc .nilFunc).run P w = .ok () w := by
  unfold eqGuard; split <;> rfl
theorem eqGuard_if {op : BinOp} {xt : TypeId} {x y : Operand} {t : TypeId} {v : Value} : (eqGuard op xt x y (.iface t v) .nilIface).run P w = .ok () w := by
  unfold eqGuard; split <;> rfl
theorem eqGuard_if0 {op : BinOp} {xt : TypeId} {x y : Operand} (hy : isConst y = true) : (eqGuard op xt x y .nilIface .nilIface).run P w = .ok () w := by
  cases y <;> simp [isConst] at hy
  cases op <;> simp [eqGuard]
theorem eqGuard_bool {op : BinOp} {xt : TypeId} {x y : Operand} {b c : Bool} : (eqGuard op xt x y (.bool b) (.bool c)).run P w = .ok () w := by
  unfold eqGuard; split <;> rfl
theorem eqGuard_int {op : BinOp} {xt : TypeId} {x y : Operand} {k k' : IntKind} {b c : Int} : (eqGuard op xt x y (.int k b) (.int k' c)).run P w = .ok () w := by
  unfold eqGuard; split <;> rfl
theorem eqGuard_str {op : BinOp} {xt : TypeId} {x y : Operand} {b c : ByteArray} : (eqGuard op xt x y (.string b) (.string c)).run P w = .ok () w := by
  unfold eqGuard; split <;> rfl

theorem eqGuard_agg {op : BinOp} {xt : TypeId} {x y : Operand} {b c : Array Value} (h : P.eqGuardType P.depth xt = false) : (eqGuard op xt x y (.agg b) (.agg c)).run P w = .ok () w := by
  unfold eqGuard; split <;> simp [go_sem, h]
theorem run_eqIn_bool (d : Nat) {t : TypeId} {b c : Bool} (h : P.underlying t = some .bool) : (Op.equalIn (d + 1) t (.bool b) (.bool c)).run P w = .ok (b == c) w := by
  simp only [Op.equalIn, Sem.run_bind, run_underlying h, Result.andThen_ok, Sem.run_pure]
theorem run_eqIn_slice (d : Nat) {t e : TypeId} {A : Option Addr} {m c : Nat} (h : P.underlying t = some (.slice e)) : (Op.equalIn (d + 1) t (.slice A m c) (.slice none 0 0)).run P w = .ok A.isNone w := by
  cases A <;> simp only [Op.equalIn, Sem.run_bind, run_underlying h, Result.andThen_ok, Sem.run_pure, Option.isNone]
theorem run_eqIn_ptr (d : Nat) {t e : TypeId} {A : Option Addr} (h : P.underlying t = some (.pointer e)) : (Op.equalIn (d + 1) t (.pointer A) (.pointer none)).run P w = .ok A.isNone w := by
  cases A <;> simp only [Op.equalIn, Sem.run_bind, run_underlying h, Result.andThen_ok, Sem.run_pure, Option.isNone]
theorem run_eqIn_if (d : Nat) {t : TypeId} {ms : Array (String × TypeId)} {v : Value} {b : Bool} (h : P.underlying t = some (.interface ms)) (hv : v = .nilIface ∧ b = true ∨ ∃ u x, v = .iface u x ∧ b = false) : (Op.equalIn (d + 1) t v .nilIface).run P w = .ok b w := by
  rcases hv with ⟨rfl, rfl⟩ | ⟨u, x, rfl, rfl⟩ <;> simp only [Op.equalIn, Sem.run_bind, run_underlying h, Result.andThen_ok, Sem.run_pure]
theorem run_eqIn_fn (d : Nat) {t : TypeId} {ps rs : Array TypeId} {vr : Bool} {v : Value} {b : Bool} (h : P.underlying t = some (.func ps rs vr)) (hv : v = .nilFunc ∧ b = true ∨ ∃ u x y, v = .func u x y ∧ b = false) : (Op.equalIn (d + 1) t v .nilFunc).run P w = .ok b w := by
  rcases hv with ⟨rfl, rfl⟩ | ⟨u, x, y, rfl, rfl⟩ <;> simp only [Op.equalIn, Sem.run_bind, run_underlying h, Result.andThen_ok, Sem.run_pure]
theorem run_eq_bool {t : TypeId} {b c : Bool} (h : P.underlying t = some .bool) : (Op.equal t (.bool b) (.bool c)).run P w = .ok (b == c) w := run_eqIn_bool 9999 h
theorem run_eq_slice {t e : TypeId} {A : Option Addr} {m c : Nat} (h : P.underlying t = some (.slice e)) : (Op.equal t (.slice A m c) (.slice none 0 0)).run P w = .ok A.isNone w := run_eqIn_slice 9999 h
theorem run_eq_ptr {t e : TypeId} {A : Option Addr} (h : P.underlying t = some (.pointer e)) : (Op.equal t (.pointer A) (.pointer none)).run P w = .ok A.isNone w := run_eqIn_ptr 9999 h
theorem run_eq_if {t : TypeId} {ms : Array (String × TypeId)} {v : Value} {b : Bool} (h : P.underlying t = some (.interface ms)) (hv : v = .nilIface ∧ b = true ∨ ∃ u x, v = .iface u x ∧ b = false) : (Op.equal t v .nilIface).run P w = .ok b w := run_eqIn_if 9999 h hv
theorem run_eq_fn {t : TypeId} {ps rs : Array TypeId} {vr : Bool} {v : Value} {b : Bool} (h : P.underlying t = some (.func ps rs vr)) (hv : v = .nilFunc ∧ b = true ∨ ∃ u x y, v = .func u x y ∧ b = false) : (Op.equal t v .nilFunc).run P w = .ok b w := run_eqIn_fn 9999 h hv

theorem v_binOp (hr : Rel Ev g n s a w) {op : BinOp} {xt yt : TypeId} {x y : Operand} {K : SV → Prop} {ty : TypeId} {dst : Option Tmp} {pos : String} {after : Array Edge} {gd : Option (Nat × Bool)}
    (h : tval T s (.binOp op xt x y yt) K) : VOk P g w a { dst, op := .binOp op xt x y yt, type := ty, pos, after, guard := gd } K := by
  have hX := evs_rel hr x
  have hY := evs_rel hr y
  simp only [tval] at h
  split at h
  · rename_i k i k' j e1 e2
    obtain ⟨t, v, h1, h2, h3⟩ := binI_ok (P := P) h xt
    refine ⟨.t t, v, h1, fun _ => h2 g w, fun w => ?_⟩
    simp only [execOp, Sem.run_bind, evs_int hr e1, evs_int hr e2, eqGuard_int, Result.andThen_ok, h3, Sem.run_pure]
  · rename_i l m e1 e2
    obtain ⟨b1, rfl, f1⟩ := evs_str hr e1
    obtain ⟨b2, rfl, f2⟩ := evs_str hr e2
    obtain ⟨t, v, h1, h2, h3⟩ := binS_ok (P := P) h xt
    refine ⟨.t t, v, h1, fun _ => h2 g w, fun w => ?_⟩
    simp only [execOp, Sem.run_bind, f1, f2, eqGuard_str, Result.andThen_ok, h3, Sem.run_pure]
  · rename_i p q e1 e2
    replace h := chkb_iff.1 h
    obtain ⟨i, hi, hd⟩ := kindOf_some (kB_ok h.1)
    refine eq_ok h.2 (evs_bool hr e1) (evs_bool hr e2) (fun _ => eqGuard_bool) (fun op ho => by rcases ho with rfl | rfl <;> rfl) ?_
    exact fun _ => run_eq_bool (und_bool T hi hd)
  · rename_i xs ys e1 e2
    obtain ⟨b, h1, h2⟩ := h
    rw [e1] at hX
    rw [e2] at hY
    simp only [SVR] at hX hY
    have hq := h1.2 g w _ _ hX hY
    generalize hx : a.eval x = vx at hX hq
    generalize hy : a.eval y = vy at hY hq
    cases hX
    cases hY
    exact eq_ok h2 hx hy (fun _ => eqGuard_agg h1.1) (fun op ho => by rcases ho with rfl | rfl <;> rfl) hq
  · have e2 : evs s y = .nils := by assumption
    obtain ⟨⟨e, hk⟩, h⟩ := (chkb_iff.1 h).imp kSl_ok id
    obtain ⟨i, hi, hd⟩ := kindOf_some hk
    rw [e2] at hY
    simp only [SVR] at hY
    have key : ∃ A m c, a.eval x = .slice A m c ∧ eqNil A.isNone op K := by
      revert h hX
      cases hev : evs s x with
      | nils => intro hX h; simp only [SVR] at hX; exact ⟨_, _, _, hX, h⟩
      | arr k =>
        intro hX h
        simp only [SVR] at hX
        simp only [nilSl] at h
        cases hA : s.A k with
        | none => simp only [hA] at h
        | some o =>
          simp only [hA] at h
          obtain ⟨_, _, ⟨h1, h2⟩, _⟩ := hr.arrs k o hA
          rw [← hX] at h2
          rcases h2 with ⟨e, h0⟩ | ⟨_, _, _, hv, _⟩
          · exact ⟨_, _, _, e, h true fun hne => absurd (List.eq_nil_of_length_eq_zero h0) hne⟩
          · exact ⟨_, _, _, hv, h false fun _ => rfl⟩
      | t x =>
        cases x with
        | sl sz xs =>
          intro hX h
          simp only [nilSl] at h
          simp only [SVR] at hX
          generalize a.eval _ = v at hX
          cases hX with
          | sl0 sz a cap => exact ⟨_, _, _, rfl, h _ fun hne => absurd rfl hne⟩
          | sl => exact ⟨_, _, _, rfl, h _ fun _ => rfl⟩
        | _ => intro hX h; simp only [nilSl] at h
      | _ => intro hX h; simp only [nilSl] at h
    obtain ⟨A, m, c, e3, hn⟩ := key
    refine eq_ok hn e3 hY (fun _ => eqGuard_slice) (fun op ho => by rcases ho with rfl | rfl <;> rfl) ?_
    exact fun _ => run_eq_slice (und_slice T hi hd)
  · have e2 : evs s y = .t .nilp := by assumption
    obtain ⟨⟨e, hk⟩, h⟩ := (chkb_iff.1 h).imp kPtr_ok id
    obtain ⟨i, hi, hd⟩ := kindOf_some hk
    rw [e2] at hY
    simp only [SVR] at hY
    have hy : a.eval y = .pointer none := by generalize a.eval y = vy at hY; cases hY; rfl
    have key : ∃ A, a.eval x = .pointer A ∧ eqNil A.isNone op K := by
      revert h hX
      cases hev : evs s x with
      | lp d o => intro hX h; simp only [SVR] at hX; exact ⟨_, hX, h⟩
      | t x =>
        cases x with
        | nilp => intro hX h; simp only [SVR] at hX; generalize a.eval _ = v at hX; cases hX; exact ⟨_, rfl, h⟩
        | ptr r o => intro hX h; simp only [SVR] at hX; generalize a.eval _ = v at hX; cases hX; exact ⟨_, rfl, h⟩
        | _ => intro hX h; simp only [nilPtr] at h
      | _ => intro hX h; simp only [nilPtr] at h
    obtain ⟨A, e3, hn⟩ := key
    exact eq_ok hn e3 hy (fun _ => eqGuard_ptr) (fun op ho => by rcases ho with rfl | rfl <;> cases A <;> rfl) (fun _ => run_eq_ptr (und_ptr T hi hd))
  · have e2 : evs s y = .t .nilif := by assumption
    obtain ⟨hc0, h⟩ := chkb_iff.1 h
    simp only [Bool.and_eq_true] at hc0
    have hc := hc0.1
    have hk := kIf_ok hc0.2
    obtain ⟨i, hi, hd⟩ := kindOf_some hk
    obtain ⟨ms, hu⟩ := und_iface T hi hd
    rw [e2] at hY
    simp only [SVR] at hY
    have hy : a.eval y = .nilIface := by generalize a.eval y = vy at hY; cases hY; rfl
    cases hev : evs s x with
    | t x' =>
      rw [hev] at h hX
      cases x' with
      | nilif =>
        have hx : a.eval x = .nilIface := by simp only [SVR] at hX; generalize a.eval x = v at hX; cases hX; rfl
        exact eq_ok h hx hy (fun _ => eqGuard_if0 hc) (fun op ho => by rcases ho with rfl | rfl <;> rfl) (fun _ => run_eq_if hu (.inl ⟨rfl, rfl⟩))
      | iface t u =>
        have hx : ∃ v, a.eval x = .iface t v := by simp only [SVR] at hX; generalize a.eval x = v at hX; cases hX; exact ⟨_, rfl⟩
        obtain ⟨v, hx⟩ := hx
        exact eq_ok h hx hy (fun _ => eqGuard_if) (fun op ho => by rcases ho with rfl | rfl <;> rfl) (fun _ => run_eq_if hu (.inr ⟨t, v, rfl, rfl⟩))
      | _ => simp only [nilIf] at h
    | _ => rw [hev] at h; simp only [nilIf] at h
  · have e2 : evs s y = .t .nilfn := by assumption
    obtain ⟨hk, h⟩ := (chkb_iff.1 h).imp kFn_ok id
    obtain ⟨i, hi, hd⟩ := kindOf_some hk
    obtain ⟨d, hu, hd'⟩ := (T.ok _ i hi).desc
    rw [hd] at hd'
    obtain ⟨ps, rs, vr, rfl⟩ := hd'
    rw [e2] at hY
    simp only [SVR] at hY
    have hy : a.eval y = .nilFunc := by generalize a.eval y = vy at hY; cases hY; rfl
    cases hev : evs s x with
    | t x' =>
      rw [hev] at h hX
      cases x' with
      | nilfn =>
        have hx : a.eval x = .nilFunc := by simp only [SVR] at hX; generalize a.eval x = v at hX; cases hX; rfl
        exact eq_ok h hx hy (fun _ => eqGuard_fn0) (fun op ho => by rcases ho with rfl | rfl <;> rfl) (fun _ => run_eq_fn hu (.inl ⟨rfl, rfl⟩))
      | fn f us vs =>
        have hx : ∃ p q, a.eval x = .func f p q := by simp only [SVR] at hX; generalize a.eval x = v at hX; cases hX; exact ⟨_, _, rfl⟩
        obtain ⟨p, q, hx⟩ := hx
        exact eq_ok h hx hy (fun _ => eqGuard_fn) (fun op ho => by rcases ho with rfl | rfl <;> rfl) (fun _ => run_eq_fn hu (.inr ⟨f, p, q, rfl, rfl⟩))
      | _ => simp only [nilFn] at h
    | _ => rw [hev] at h; simp only [nilFn] at h
  · exact h.elim

end
end Go.T
set_option linter.unusedVariables false
set_option linter.unusedSimpArgs false
namespace Go.T
open Go.RowKit

section
variable {Ev : Env} {P : Program} {T : Tab P} {g : Gh} {n : Nat} {s : TS} {a : Act} {w : World} {K : SV → Prop} {ty : TypeId} {dst : Option Tmp} {pos : String} {after : Array Edge} {gd : Option (Nat × Bool)} {t : TypeId}

theorem getD_some {α : Type} {l : List α} {i : Nat} (h : i < l.length) (d : α) : l[i]? = some (l.getD i d) := by
  rw [List.getD_eq_getElem?_getD, List.getElem?_eq_getElem h]; rfl

theorem v_unOp (hr : Rel Ev g n s a w) {op : UnOp} {t : TypeId} {x : Operand} (h : tval T s (.unOp op t x) K) : VOk P g w a { dst, op := .unOp op t x, type := ty, pos, after, guard := gd } K := by
  simp only [tval] at h
  split at h
  · rename_i b e
    exact ⟨_, _, h, fun _ => .bool _, fun w => by simp [execOp, evs_bool hr e, Op.unary]⟩
  · rename_i k i e
    exact ⟨_, _, h, fun _ => .int _ _, fun w => by simp [execOp, evs_int hr e, Op.unary, Op.intArith]⟩
  · rename_i k i e
    exact ⟨_, _, h, fun _ => .int _ _, fun w => by simp [execOp, evs_int hr e, Op.unary, Op.intBits, bitsI]⟩
  · exact h.elim

theorem v_pick (hr : Rel Ev g n s a w) {c x y : Operand} (h : tval T s (.pick c x y) K) : VOk P g w a { dst, op := .pick c x y, type := ty, pos, after, guard := gd } K := by
  simp only [tval, force_iff] at h
  split at h
  · rename_i b e
    split at h
    · rename_i p q e1 e2
      refine ⟨_, .bool (bif b then p else q), h, fun _ => .bool _, fun w => ?_⟩
      simp only [execOp, evs_bool hr e, evs_bool hr e1, evs_bool hr e2, asBool, Sem.run_bind, Sem.run_pure, Result.andThen_ok]
      cases b <;> rfl
    · split at h
      · refine ⟨_, _, h, fun d => (evs_rel hr x).copy, fun w => ?_⟩
        simp only [execOp, evs_bool hr e, asBool, Sem.run_bind, Sem.run_pure, Result.andThen_ok, if_true]
      · refine ⟨_, _, h, fun d => (evs_rel hr y).copy, fun w => ?_⟩
        simp [execOp, evs_bool hr e, asBool]
  · exact h.elim

theorem und_any {t : TypeId} {d : TD} (h : kindOf T t = some d) : ∃ u, P.underlying t = some u := by
  obtain ⟨i, hi, _⟩ := kindOf_some h
  obtain ⟨u, hu, _⟩ := (T.ok t i hi).desc
  exact ⟨u, hu⟩

theorem v_convert (hr : Rel Ev g n s a w) {src dt : TypeId} {x : Operand} (h : tval T s (.convert src dt x) K) : VOk P g w a { dst, op := .convert src dt x, type := ty, pos, after, guard := gd } K := by
  simp only [tval] at h
  split at h
  · rename_i k i e
    split at h
    · rename_i d k' e1 e2
      obtain ⟨u, hu⟩ := und_any e1
      obtain ⟨i2, hi2, hd2⟩ := kindOf_some e2
      refine ⟨_, _, h, fun _ => .int _ _, fun w => ?_⟩
      simp [execOp, evs_int hr e, convert, run_underlying hu, run_underlying (und_int T hi2 hd2), Conv.intToInt]
    · exact h.elim
  · rename_i l e
    split at h
    · rename_i d e1 e2
      obtain ⟨u, hu⟩ := und_any e1
      obtain ⟨i2, hi2, hd2⟩ := kindOf_some e2
      obtain ⟨b, rfl, f⟩ := evs_str hr e
      refine ⟨_, .string b, h, fun _ => .str b, fun w => ?_⟩
      simp [execOp, f, convert, run_underlying hu, run_underlying (und_str T hi2 hd2)]
    · exact h.elim
  · exact h.elim

theorem eptr_ea {cs : List TV} {v : Value} (h : g.VV w (.eptr cs) v) (d : Nat) : SVR g w d (.ea cs) v := by
  cases h with
  | eptr _ b o us hcm hl h1 hc hv => exact ⟨b, o, us, rfl, hcm, ⟨hl, hv⟩, h1, hc⟩
theorem fieldEa_ok {d : Nat} {cs : List TV} {v : Value} (hx : SVR g w d (.ea cs) v) {off : Nat} (h : Chk (decide (off ≤ cs.length)) (K (.ea (cs.drop off)))) : ∃ x' b o, K x' ∧ v = .pointer (some ⟨b, o, none⟩) ∧ ∀ d, SVR g w d x' (.pointer (some ⟨b, o + off, none⟩)) := by
  obtain ⟨hle, h⟩ := chk_iff.1 h
  obtain ⟨b, o, us, e1, e2, e3, e4, e5⟩ := hx
  refine ⟨_, b, o, h, e1, fun d => ⟨b, o + off, us.drop off, rfl, ?_, e3.drop off, fun u hu => e4 u (List.mem_of_mem_drop hu), fun k u hu => ?_⟩⟩
  · simp only [List.length_drop]; omega
  · rw [List.getElem?_drop] at hu
    rw [Nat.add_assoc]
    exact e5 _ u hu
theorem fieldV_ok {d : Nat} {x : SV} {v : Value} (hx : SVR g w d x v) {off : Nat} (h : fieldV x off K) : ∃ x' b o, K x' ∧ v = .pointer (some ⟨b, o, none⟩) ∧ ∀ d, SVR g w d x' (.pointer (some ⟨b, o + off, none⟩)) := by
  cases x with
  | lp k o => exact ⟨_, _, _, h, hx, fun d => rfl⟩
  | t x =>
    cases x with
    | ptr r o =>
      simp only [SVR] at hx
      cases hx with
      | ptr i o hi => exact ⟨_, _, _, h, rfl, fun d => .ptr r _ hi⟩
    | aptr r sz e o =>
      simp only [SVR] at hx
      cases hx with
      | aptr r sz e o hi => exact ⟨_, _, _, h, rfl, fun d => by rw [Nat.add_assoc]; exact .aptr r sz e _ hi⟩
    | eptr cs => exact fieldEa_ok (eptr_ea hx d) h
    | _ => exact h.elim
  | ea cs =>
    obtain ⟨hle, h⟩ := chk_iff.1 h
    obtain ⟨b, o, us, e1, e2, e3, e4, e5⟩ := hx
    refine ⟨_, b, o, h, e1, fun d => ⟨b, o + off, us.drop off, rfl, ?_, e3.drop off, fun u hu => e4 u (List.mem_of_mem_drop hu), fun k u hu => ?_⟩⟩
    · simp only [List.length_drop]; omega
    · rw [List.getElem?_drop] at hu
      rw [Nat.add_assoc]
      exact e5 _ u hu
  | hp k sz i o =>
    obtain ⟨b, m, cap, e1, e2⟩ := hx
    exact ⟨_, b, i * sz + o, h, e2, fun d => ⟨b, m, cap, e1, by rw [Nat.add_assoc]⟩⟩
  | _ => exact h.elim

theorem v_fieldAddr (hr : Rel Ev g n s a w) {t : TypeId} {x : Operand} {f : Nat} (h : tval T s (.fieldAddr t x f) K) : VOk P g w a { dst, op := .fieldAddr t x f, type := ty, pos, after, guard := gd } K := by
  simp only [tval] at h
  split at h
  · rename_i i hi
    split at h
    · rename_i fs hd
      split at h
      · rename_i off ft hf
        split at h
        · rename_i fi hfi
          obtain ⟨hz, h⟩ := chk_iff.1 h
          obtain ⟨x', b, o, h1, h2, h3⟩ := fieldV_ok (evs_rel hr x) h
          obtain ⟨ar, hu, hm⟩ := und_struct T hi hd
          have hfe : ∃ fld, ar[f]? = some fld ∧ fld.offset = off ∧ fld.type = ft := by
            rw [← hm, List.getElem?_map, Option.map_eq_some_iff] at hf
            obtain ⟨fld, hf1, hf2⟩ := hf
            simp only [Prod.mk.injEq] at hf2
            exact ⟨fld, by simpa using hf1, hf2.1, hf2.2⟩
          obtain ⟨fld, hf1, hf2, hf3⟩ := hfe
          refine ⟨x', _, h1, h3, fun w => ?_⟩
          simp only [execOp, h2, Instr.fieldAt, Instr.sureAddr, fieldPlace, Sem.run_bind, run_underlying hu, Result.andThen_ok, hf1, Sem.run_pure, hf3, run_sizeOf' T hfi, if_neg hz, hf2, add_at]
        · exact h.elim
      · exact h.elim
    · exact h.elim
  · exact h.elim

theorem mem_of_getElem? {α : Type} {l : List α} {i : Nat} {x : α} (h : l[i]? = some x) : x ∈ l := List.mem_of_getElem? h

/-- The cells of an element of what is only read. -/
theorem sl_elem {sz : Nat} {xs : List TV} {v : Value} (h : g.VV w (.sl sz xs) v) {i : Nat} (hi : i < xs.length) :
    ∃ b off cap, v = .slice (some ⟨b, off, none⟩) xs.length cap ∧ ∀ d, SVR g w d (.ea (xs.getD i default).cells) (.pointer (some ⟨b, off + i * sz, none⟩)) := by
  cases h with
  | sl0 => simp at hi
  | sl sz xs b off cap cs h0 hcm hsz hm hcap h1 hl hc hv =>
    refine ⟨b, off, cap, rfl, fun d => ?_⟩
    have hx : xs[i]? = some (xs.getD i default) := by simp [List.getD, List.getElem?_eq_getElem hi]
    have hf := flat_at hsz hx
    have hlen := hsz _ (List.mem_of_getElem? hx)
    have hfl := flat_length hsz
    have hmul : i * sz + sz ≤ xs.length * sz := by rw [← Nat.succ_mul]; exact Nat.mul_le_mul_right _ hi
    refine ⟨b, off + i * sz, (cs.drop (i * sz)).take sz, rfl, by rw [hlen]; omega, ⟨by rw [List.length_take, List.length_drop, hlen]; omega, fun k t u h2 h3 => ?_⟩, fun u hu => h1 u (List.mem_of_mem_drop (List.mem_of_mem_take hu)), fun k u hu => ?_⟩
    · have hk : k < sz := by
        rcases Nat.lt_or_ge k sz with h' | h'
        · exact h'
        · rw [List.getElem?_eq_none (by omega)] at h2; simp at h2
      rw [List.getElem?_take, if_pos hk, List.getElem?_drop] at h3
      refine hv (i * sz + k) t u ?_ h3
      rw [← List.getElem?_drop, hf, List.getElem?_append_left (by omega)]
      exact h2
    · rw [List.getElem?_take] at hu
      split at hu
      · rw [List.getElem?_drop] at hu
        rw [Nat.add_assoc]
        exact hc _ u hu
      · simp at hu

theorem v_indexAddr (hr : Rel Ev g n s a w) {t : TypeId} {x ix : Operand} (h : tval T s (.indexAddr t x ix) K) : VOk P g w a { dst, op := .indexAddr t x ix, type := ty, pos, after, guard := gd } K := by
  simp only [tval] at h
  split at h
  · rename_i i j k hi e
    have hj := evs_int hr e
    split at h
    · rename_i el hd
      split at h
      · rename_i ei hei
        have hX := evs_rel hr x
        rw [hd] at h
        unfold indexV at h
        simp only [chk_iff] at h
        split at h
        · rename_i e0 sz xs hd0 hx
          obtain ⟨rfl, h1, h2, h3⟩ := h
          cases hd0
          rw [hx] at hX
          replace h3 := h3 _ (getD_some (by omega) default)
          obtain ⟨b, off, cap, f1, f2⟩ := sl_elem (i := k.toNat) hX (by omega)
          refine ⟨_, _, h3, f2, fun w => ?_⟩
          simp only [execOp, hj, f1, Instr.indexAt, asIntOf, Sem.run_bind, Sem.run_pure, Result.andThen_ok, run_underlying (und_slice T hi hd), run_sizeOf' T hei]
          rw [if_pos ⟨h1, h2⟩]
          simp [run_sizeOf' T hei, add_at]
        · rename_i e0 q hd0 hx
          cases hd0
          rw [hx] at hX
          split at h
          · rename_i o hA
            obtain ⟨h0, h1, h2, h3⟩ := h
            simp only [SVR] at hX
            obtain ⟨et, cells, ⟨o1, o2⟩, o3, o4, o5, o6⟩ := hr.arrs q o hA
            rw [← hX] at o2 o6
            rcases o2 with ⟨f1, f2⟩ | ⟨b, cap, cur, f1, f2⟩
            · omega
            · refine ⟨_, .pointer (some ⟨b, k.toNat * ei.sz, none⟩), h3, fun d => ⟨b, _, cap, by rw [← hX, f1], by simp⟩, fun w => ?_⟩
              simp only [execOp, hj, f1, Instr.indexAt, asIntOf, Sem.run_bind, Sem.run_pure, Result.andThen_ok, run_underlying (und_slice T hi hd), run_sizeOf' T hei]
              rw [if_pos ⟨h1, h2⟩]
              simp [run_sizeOf' T hei, add_at]
          · exact h.elim
        · rename_i e0 sz r m cap hd0 hx
          obtain ⟨rfl, h1, h2, h3⟩ := h
          cases hd0
          rw [hx] at hX
          simp only [SVR] at hX
          generalize hv : a.eval x = v at hX
          cases hX with
          | slr0 => omega
          | slr _ _ _ _ h0 hcap hm hi0 =>
          refine ⟨_, _, h3, fun d => .aptr r ei.sz k.toNat 0 hi0, fun w => ?_⟩
          simp only [execOp, hj, hv, Instr.indexAt, asIntOf, Sem.run_bind, Sem.run_pure, Result.andThen_ok, run_underlying (und_slice T hi hd), run_sizeOf' T hei]
          rw [if_pos ⟨h1, h2⟩]
          simp [run_sizeOf' T hei, add_at]
        · rename_i hd0 _; cases hd0
        · rename_i hd0 _; cases hd0
        · exact h.elim
      · exact h.elim
    · rename_i m el hd
      split at h
      · rename_i ei hei
        have hX := evs_rel hr x
        rw [hd] at h
        unfold indexV at h
        simp only [chk_iff] at h
        split at h
        · rename_i hd0 _; cases hd0
        · rename_i hd0 _; cases hd0
        · rename_i hd0 _; cases hd0
        · rename_i m0 e0 q o hd0 hx
          cases hd0
          rw [hx] at hX
          simp only [SVR] at hX
          obtain ⟨h1, h2, h3⟩ := h
          refine ⟨_, .pointer (some ⟨g.β q, o + k.toNat * ei.sz, none⟩), h3, fun d => rfl, fun w => ?_⟩
          simp only [execOp, hj, hX, Instr.indexAt, asIntOf, Sem.run_bind, Sem.run_pure, Result.andThen_ok, run_underlying (und_array T hi hd), Instr.sureAddr]
          rw [if_pos ⟨h1, h2⟩]
          simp [run_sizeOf' T hei, add_at]
        · rename_i m0 e0 q o hd0 hx
          cases hd0
          rw [hx] at hX
          simp only [SVR] at hX
          obtain ⟨h1, h2, h3⟩ := h
          generalize hv : a.eval x = v at hX
          cases hX with
          | ptr i o hi0 =>
          refine ⟨_, _, h3, fun d => .ptr q _ hi0, fun w => ?_⟩
          simp only [execOp, hj, hv, Instr.indexAt, asIntOf, Sem.run_bind, Sem.run_pure, Result.andThen_ok, run_underlying (und_array T hi hd), Instr.sureAddr]
          rw [if_pos ⟨h1, h2⟩]
          simp [run_sizeOf' T hei, add_at]
        · exact h.elim
      · exact h.elim
    · exact h.elim
  · exact h.elim

/-- What a load reads is as it was. -/
def Seen (g : Gh) (w w1 : World) : Prop := ∀ b j, j < g.c b → w1.cell? ⟨b, j, none⟩ = w.cell? ⟨b, j, none⟩
def loadC (s : TS) (g : Gh) (w : World) (x : Operand) (w1 : World) : Prop :=
  match evs s x with
  | .ea _ => Seen g w w1
  | .t (.eptr _) => Seen g w w1
  | _ => w1.heap = w.heap

theorem run_load_ea {i : TyI} (ht : T.ty t = some i) {cs : List TV} {d : Nat} {v : Value} (hx : SVR g w d (.ea cs) v) (h : loadV s i (.ea cs) K) : ∃ x u, K x ∧ (∀ d, SVR g w d x u) ∧ ∀ w1, Seen g w w1 → (Instr.loadAt t v).run P w1 = .ok u w1 := by
  obtain ⟨b, off, us, rfl, e2, e3, e4, e5⟩ := hx
  simp only [loadV, chk_iff] at h
  split at h
  · rename_i ha
    obtain ⟨h1, h2⟩ := h
    have hl := e3.1
    refine ⟨_, _, h2, fun d => ?_, fun w1 hs => run_loadAt_agg ht ha (cs := us.take i.sz) (by rw [List.length_take]; omega) fun k u hu => ?_⟩
    · exact .agg _ _ (by simp [hl]) (fun k u k2 => e4 u (List.mem_of_mem_take (List.mem_of_getElem? (by simpa using k2)))) fun k t u k1 k2 => (e3.take i.sz).2 k t u k1 (by simpa using k2)
    · rw [List.getElem?_take] at hu
      split at hu
      · have hk : k < us.length := by
          rcases Nat.lt_or_ge k us.length with h' | h'
          · exact h'
          · simp [List.getElem?_eq_none h'] at hu
        rw [hs b (off + k) (by omega)]
        exact e5 k u hu
      · simp at hu
  · rename_i ha
    obtain ⟨h1, h2⟩ := h
    have hl := e3.1
    have h0 : us[0]? = some (us[0]'(by omega)) := List.getElem?_eq_getElem _
    have hc0 : cs[0]? = some (cs.getD 0 default) := by simp [List.getD, List.getElem?_eq_getElem h1]
    exact ⟨_, _, h2, fun d => e3.2 0 _ _ hc0 h0, fun w1 hs => run_loadAt_one ht (by simpa using ha) (by rw [hs b off (by omega)]; have := e5 0 _ h0; rwa [Nat.add_zero] at this)⟩

/-- The cells of an element of an array of this call. -/
theorem arr_elem (hr : Rel Ev g n s a w) {k : Nat} {o : AObj} (hA : s.A k = some o) {e : Nat} (he : e < o.xs.length) :
    ∃ b cap us, g.hd k = .slice (some ⟨b, 0, none⟩) o.xs.length cap ∧ (o.xs.getD e default).cells.length = o.sz ∧ VVs g w (o.xs.getD e default).cells us ∧ (∀ u, u ∈ us → u.oneCell' = true) ∧ ∀ (j : Nat) (u : Value), us[j]? = some u → w.cell? ⟨b, e * o.sz + j, none⟩ = some u := by
  obtain ⟨et, cells, ⟨o1, o2⟩, o3, o4, o5, o6⟩ := hr.arrs k o hA
  rcases o2 with ⟨f1, f2⟩ | ⟨b, cap, cur, f1, _, f2, f3, f4, f5, f6⟩
  · omega
  · have hx : o.xs[e]? = some (o.xs.getD e default) := by simp [List.getD, List.getElem?_eq_getElem he]
    have hf := flat_at o4 hx
    have hlen := o4 _ (List.mem_of_getElem? hx)
    have hfl := flat_length o4
    have hmul : e * o.sz + o.sz ≤ o.xs.length * o.sz := by rw [← Nat.succ_mul]; exact Nat.mul_le_mul_right _ he
    refine ⟨b, cap, (cells.drop (e * o.sz)).take o.sz, f1, hlen, ⟨by rw [List.length_take, List.length_drop, hlen]; omega, fun k t u h2 h3 => ?_⟩, fun u hu => ?_, fun k u hu => ?_⟩
    · have hk : k < o.sz := by
        rcases Nat.lt_or_ge k o.sz with h' | h'
        · exact h'
        · rw [List.getElem?_eq_none (by omega)] at h2; simp at h2
      rw [List.getElem?_take, if_pos hk, List.getElem?_drop] at h3
      refine o3.2 (e * o.sz + k) t u ?_ h3
      rw [← List.getElem?_drop, hf, List.getElem?_append_left (by omega)]
      exact h2
    · exact o5 u (List.mem_of_mem_drop (List.mem_of_mem_take hu))
    · rw [List.getElem?_take] at hu
      split at hu
      · rw [List.getElem?_drop] at hu
        simp only [World.cell?, f2]
        have : cur.toList[e * o.sz + k]? = some u := by
          rw [← f6, List.getElem?_take] at hu
          split at hu
          · exact hu
          · simp at hu
        simpa using this
      · simp at hu

theorem ref_elem (hr : Rel Ev g n s a w) {r sz cap : Nat} {xs : List TV} (hH : s.H r = some (.arr sz cap xs)) {e : Nat} (he : e < xs.length) :
    ∃ us, (xs.getD e default).cells.length = sz ∧ VVs g w (xs.getD e default).cells us ∧ (∀ u, u ∈ us → u.oneCell' = true) ∧ ∀ (j : Nat) (u : Value), us[j]? = some u → w.cell? ⟨g.ρ r, e * sz + j, none⟩ = some u := by
  obtain ⟨cur, et, cells, f1, f2, f3, f4, f5, f55, f6, o3, o4, o5⟩ := hr.heap r _ hH
  have hx : xs[e]? = some (xs.getD e default) := by simp [List.getD, List.getElem?_eq_getElem he]
  have hf := flat_at o4 hx
  have hlen := o4 _ (List.mem_of_getElem? hx)
  have hfl := flat_length o4
  have o1 := o3.1
  have hmul : e * sz + sz ≤ xs.length * sz := by rw [← Nat.succ_mul]; exact Nat.mul_le_mul_right _ he
  refine ⟨(cells.drop (e * sz)).take sz, hlen, ⟨by rw [List.length_take, List.length_drop, hlen]; omega, fun k t u h2 h3 => ?_⟩, fun u hu => ?_, fun k u hu => ?_⟩
  · have hk : k < sz := by
      rcases Nat.lt_or_ge k sz with h' | h'
      · exact h'
      · rw [List.getElem?_eq_none (by omega)] at h2; simp at h2
    rw [List.getElem?_take, if_pos hk, List.getElem?_drop] at h3
    refine o3.2 (e * sz + k) t u ?_ h3
    rw [← List.getElem?_drop, hf, List.getElem?_append_left (by omega)]
    exact h2
  · exact o5 u (List.mem_of_mem_drop (List.mem_of_mem_take hu))
  · rw [List.getElem?_take] at hu
    split at hu
    · rw [List.getElem?_drop] at hu
      simp only [World.cell?, f2]
      have : cur.toList[e * sz + k]? = some u := by
        rw [← f6, List.getElem?_take] at hu
        split at hu
        · exact hu
        · simp at hu
      simpa using this
    · simp at hu

theorem v_load (hr : Rel Ev g n s a w) {t : TypeId} {x : Operand} (h : tval T s (.load t x) K) : VOkC P g w a { dst, op := .load t x, type := ty, pos, after, guard := gd } (loadC s g w x) K := by
  simp only [tval] at h
  split at h
  · rename_i i hi
    have hX := evs_rel hr x
    have key : ∃ x' u, K x' ∧ (∀ d, SVR g w d x' u) ∧ ∀ w1, loadC s g w x w1 → (Instr.loadAt t (a.eval x)).run P w1 = .ok u w1 := by
      unfold loadC
      revert h hX
      cases hev : evs s x with
      | lp d off =>
        intro h hX
        simp only [SVR] at hX
        simp only [loadV] at h
        have key : ∃ cs, varCells s d = some cs ∧ readCells i cs off K := by
          split at h
          · rename_i cs hV
            exact ⟨cs, by simp only [varCells, hV], h⟩
          · rename_i r hV
            obtain ⟨cs, hH, h⟩ := h
            exact ⟨cs, by simp only [varCells, hV, hH], h⟩
          · exact h.elim
        obtain ⟨cs, hc, h⟩ := key
        rw [hX]
        obtain ⟨x', u, r1, r2, r3⟩ := readCells_ok (P := P) hi (fun j x hx => varCells_at hr hc hx) h
        exact ⟨x', u, r1, r2, fun w1 he => r3 w1 he⟩
      | t x =>
        cases x with
        | ptr r off =>
          intro h hX
          simp only [SVR] at hX
          simp only [loadV] at h
          obtain ⟨cs, hH, h⟩ := h
          have hc : refCells s r = some cs := by simp only [refCells, hH]
          generalize a.eval _ = v at hX
          cases hX
          obtain ⟨x', u, r1, r2, r3⟩ := readCells_ok (P := P) hi (fun j x hx => refCells_at hr hc hx) h
          exact ⟨x', u, r1, r2, fun w1 he => r3 w1 he⟩
        | aptr r sz e off =>
          intro h hX
          simp only [loadV, chk_iff] at h
          obtain ⟨cap, xs, hH, he, h⟩ := h
          replace h := h _ (getD_some he default)
          obtain ⟨us, g2, g3, g5, g4⟩ := ref_elem hr hH he
          simp only [SVR] at hX
          generalize a.eval _ = v at hX
          cases hX
          split at h
          · rename_i ha
            obtain ⟨h1, h2⟩ := h
            have hl := g3.1
            refine ⟨_, _, h2, fun d => ?_, fun w1 he => run_loadAt_agg hi ha (cs := (us.drop off).take i.sz) (by rw [List.length_take, List.length_drop]; omega) fun k u hu => ?_⟩
            · exact .agg _ _ (by simp only [List.size_toArray, List.length_take, List.length_drop]; omega) (fun k u k2 => g5 u (List.mem_of_mem_drop (List.mem_of_mem_take (List.mem_of_getElem? (by simpa using k2))))) fun k t u k1 k2 => ((g3.drop off).take i.sz).2 k t u k1 (by simpa using k2)
            · rw [List.getElem?_take] at hu
              split at hu
              · rw [List.getElem?_drop] at hu
                rw [Nat.add_assoc]
                rw [World.cell?_heap he]
                exact g4 _ u hu
              · simp at hu
          · rename_i ha
            obtain ⟨h1, h2⟩ := h
            have hl := g3.1
            have h0 : us[off]? = some (us[off]'(by omega)) := List.getElem?_eq_getElem _
            have hc0 : (xs.getD e default).cells[off]? = some ((xs.getD e default).cells.getD off default) := getD_some (by omega) _
            exact ⟨_, _, h2, fun d => g3.2 off _ _ hc0 h0, fun w1 he => run_loadAt_one hi (by simpa using ha) (by rw [World.cell?_heap he]; exact g4 off _ h0)⟩
        | eptr cs => intro h hX; exact run_load_ea (s := s) hi (eptr_ea hX 0) h
        | _ => intro h hX; simp only [loadV, chk_iff] at h
      | ea cs => intro h hX; exact run_load_ea hi hX h
      | hp k sz e off =>
        intro h hX
        simp only [loadV, chk_iff] at h
        split at h
        · rename_i o hA
          obtain ⟨rfl, he, h⟩ := h
          replace h := h _ (getD_some he default)
          obtain ⟨b0, m, cap0, f1, f2⟩ := hX
          obtain ⟨b, cap, us, g1, g2, g3, g5, g4⟩ := arr_elem hr hA he
          rw [g1] at f1; cases f1
          rw [f2]
          split at h
          · rename_i ha
            obtain ⟨h1, h2⟩ := h
            have hl := g3.1
            refine ⟨_, _, h2, fun d => ?_, fun w1 he => run_loadAt_agg hi ha (cs := (us.drop off).take i.sz) (by rw [List.length_take, List.length_drop]; omega) fun k u hu => ?_⟩
            · exact .agg _ _ (by simp only [List.size_toArray, List.length_take, List.length_drop]; omega) (fun k u k2 => g5 u (List.mem_of_mem_drop (List.mem_of_mem_take (List.mem_of_getElem? (by simpa using k2))))) fun k t u k1 k2 => ((g3.drop off).take i.sz).2 k t u k1 (by simpa using k2)
            · rw [List.getElem?_take] at hu
              split at hu
              · rw [List.getElem?_drop] at hu
                rw [Nat.add_assoc]
                rw [World.cell?_heap he]
                exact g4 _ u hu
              · simp at hu
          · rename_i ha
            obtain ⟨h1, h2⟩ := h
            have hl := g3.1
            have h0 : us[off]? = some (us[off]'(by omega)) := List.getElem?_eq_getElem _
            have hc0 : (o.xs.getD e default).cells[off]? = some ((o.xs.getD e default).cells.getD off default) := getD_some (by omega) _
            exact ⟨_, _, h2, fun d => g3.2 off _ _ hc0 h0, fun w1 he => run_loadAt_one hi (by simpa using ha) (by rw [World.cell?_heap he]; exact g4 off _ h0)⟩
        · exact h.elim
      | _ => intro h hX; simp only [loadV, chk_iff] at h
    obtain ⟨x', u, h1, h2, h3⟩ := key
    exact ⟨x', u, h1, h2, fun w1 hw => by simp only [execOp, Sem.run_bind, h3 w1 hw, Result.andThen_ok, Sem.run_pure]⟩
  · exact h.elim

theorem v_nilCheck (hr : Rel Ev g n s a w) {x : Operand} (h : tval T s (.nilCheck x) K) : VOk P g w a { dst, op := .nilCheck x, type := ty, pos, after, guard := gd } K := by
  have hX := evs_rel hr x
  simp only [tval] at h
  split at h
  · rename_i d o e
    rw [e] at hX
    have hX0 := hX
    simp only [SVR] at hX0
    exact ⟨_, _, h, fun _ => hX, fun w => by simp [execOp, hX0]⟩
  · rename_i r o e
    rw [e] at hX
    simp only [SVR] at hX
    generalize hv : a.eval x = v at hX
    cases hX with
    | ptr i o hi => exact ⟨_, _, h, fun _ => .ptr r o hi, fun w => by simp [execOp, hv]⟩
  · rename_i r sz el o e
    rw [e] at hX
    simp only [SVR] at hX
    generalize hv : a.eval x = v at hX
    cases hX with
    | aptr _ _ _ _ hi => exact ⟨_, _, h, fun _ => .aptr r sz el o hi, fun w => by simp [execOp, hv]⟩
  · rename_i cs e
    rw [e] at hX
    simp only [SVR] at hX
    generalize hv : a.eval x = v at hX
    cases hX with
    | eptr _ b o us hcm hl h1 hc hv' => exact ⟨_, .pointer (some ⟨b, o, none⟩), h, fun _ => ⟨b, o, us, rfl, hcm, ⟨hl, hv'⟩, h1, hc⟩, fun w => by simp [execOp, hv]⟩
  · rename_i cs e
    rw [e] at hX
    have hX0 := hX
    obtain ⟨b, o, us, e1, _⟩ := hX0
    exact ⟨_, _, h, fun _ => hX, fun w => by simp [execOp, e1]⟩
  · rename_i k sz el o e
    rw [e] at hX
    have hX0 := hX
    obtain ⟨b, m, cap, _, e1⟩ := hX0
    exact ⟨_, _, h, fun _ => hX, fun w => by simp [execOp, e1]⟩
  · rename_i f fs cs e
    rw [e] at hX
    simp only [SVR] at hX
    generalize hv : a.eval x = v at hX
    have hX0 := hX
    cases hX0 with
    | fn => exact ⟨_, _, h, fun _ => hX, fun w => by simp [execOp, hv]⟩
  · exact h.elim

theorem v_index (hr : Rel Ev g n s a w) {t : TypeId} {x ix : Operand} (h : tval T s (.index t x ix) K) : VOk P g w a { dst, op := .index t x ix, type := ty, pos, after, guard := gd } K := by
  simp only [tval] at h
  split at h
  · rename_i l k j hk e1 e2
    obtain ⟨i, hi, hd⟩ := kindOf_some hk
    obtain ⟨b, rfl, f⟩ := evs_str hr e1
    obtain ⟨h1, h2, h3⟩ := h
    have hb : j.toNat < b.size := by simp at h2; omega
    have hg : b[j.toNat]? = some b[j.toNat] := getElem?_pos b j.toNat hb
    refine ⟨_, .int .u8 (b[j.toNat].toNat : Int), h3, fun _ => ?_, fun w => ?_⟩
    · have : b.data.toList.getD j.toNat 0 = b[j.toNat] := by
        have hb' : j.toNat < b.data.toList.length := by simpa using hb
        rw [List.getD_eq_getElem?_getD, List.getElem?_eq_getElem hb']
        rfl
      rw [this]
      exact .int _ _
    · simp only [execOp, f, evs_int hr e2, Instr.index, asIntOf, Sem.run_bind, Sem.run_pure, Result.andThen_ok, run_underlying (und_str T hi hd), if_pos h1, hg]
  · exact h.elim

theorem v_makeInterface (hr : Rel Ev g n s a w) {t : TypeId} {x : Operand} (h : tval T s (.makeInterface t x) K) : VOk P g w a { dst, op := .makeInterface t x, type := ty, pos, after, guard := gd } K := by
  simp only [tval] at h
  split at h
  · rename_i i v hi e
    obtain ⟨hpl, h⟩ := chkb_iff.1 h
    have hn : i.d ≠ .iface := fun e => by rw [e] at hpl; cases hpl
    have hn2 : i.d ≠ .other := fun e => by rw [e] at hpl; cases hpl
    obtain ⟨d, hu, hd⟩ := (T.ok t i hi).desc
    refine ⟨_, _, h, fun _ => .iface t v _ (evs_t hr e), fun w => ?_⟩
    have hm : ∀ x, (Instr.makeInterface t x).run P w = .ok (.iface t x) w := by
      intro x
      simp only [Instr.makeInterface, Sem.run_bind, run_underlying hu, Result.andThen_ok]
      cases d with
      | interface ms => exfalso; cases hdd : i.d <;> rw [hdd] at hd hn hn2 <;> simp_all [TD.ok]
      | _ => rfl
    simp only [execOp, Sem.run_bind, hm, Result.andThen_ok, Sem.run_pure]
  · exact h.elim

theorem v_len (hr : Rel Ev g n s a w) {x : Operand} {t : TypeId} (h : tval T s (.call { callee := .builtin .len, args := #[x], argTypes := #[t] }) K) :
    VOk P g w a { dst, op := .call { callee := .builtin .len, args := #[x], argTypes := #[t] }, type := ty, pos, after, guard := gd } K := by
  simp only [tval] at h
  split at h
  · rename_i d hk
    obtain ⟨i, hi, hd⟩ := kindOf_some hk
    have hX := evs_rel hr x
    have fin : ∀ m : Nat, K (.t (.int .i64 m)) → (∀ w, (Builtin.len_ #[t] ty #[a.eval x]).run P w = .ok (.int .i64 m) w) →
        VOk P g w a { dst, op := .call { callee := .builtin .len, args := #[x], argTypes := #[t] }, type := ty, pos, after, guard := gd } K := by
      intro m hK hrun
      refine ⟨_, _, hK, fun _ => .int _ _, fun w => ?_⟩
      simp [execOp, resolve, invoke, builtin, hrun]
    unfold lenV at h
    split at h
    · rename_i e sz xs hev
      rw [hev] at hX
      simp only [SVR] at hX
      have key : ∃ A c, a.eval x = .slice A xs.length c ∧ xs.length ≤ 9223372036854775807 := by
        generalize a.eval x = v at hX
        cases hX with
        | sl0 sz A c => exact ⟨A, c, rfl, by simp⟩
        | sl sz xs b off cap cs h0 hcm hsz hm => exact ⟨_, _, rfl, hm⟩
      obtain ⟨A, c, e1, e2⟩ := key
      exact fin _ (h e2) (fun w => by simp [Builtin.len_, e1, run_underlying (und_slice T hi hd), goInt])
    · rename_i e hev
      rw [hev] at hX
      simp only [SVR] at hX
      exact fin 0 h (fun w => by simp [Builtin.len_, hX, run_underlying (und_slice T hi hd), goInt])
    · rename_i e k hev
      rw [hev] at hX
      simp only [SVR] at hX
      split at h
      · rename_i o hA
        obtain ⟨et, cells, ⟨o1, o2⟩, o3, o4, o5, o6⟩ := hr.arrs k o hA
        rw [← hX] at o2
        rcases o2 with ⟨f1, f2⟩ | ⟨b, cap, cur, f1, _, f2, f3, f4, _⟩
        · exact fin _ (h (by omega)) (fun w => by simp [Builtin.len_, f1, f2, run_underlying (und_slice T hi hd), goInt])
        · have : maxLen = 9223372036854775807 := rfl
          exact fin _ (h (by omega)) (fun w => by simp [Builtin.len_, f1, run_underlying (und_slice T hi hd), goInt])
      · exact h.elim
    · rename_i e sz r m cap hev
      rw [hev] at hX
      simp only [SVR] at hX
      generalize hv : a.eval x = v at hX
      cases hX with
      | slr0 => exact fin 0 (h (by omega)) (fun w => by simp [Builtin.len_, hv, run_underlying (und_slice T hi hd), goInt])
      | slr _ _ _ _ h0 hcap hm hi0 => exact fin _ (h (by omega)) (fun w => by simp [Builtin.len_, hv, run_underlying (und_slice T hi hd), goInt])
    · rename_i l hev
      obtain ⟨b, rfl, f⟩ := evs_str hr hev
      have hsz : b.data.toList.length = b.size := by simp
      exact fin _ h (fun w => by simp [Builtin.len_, f, run_underlying (und_str T hi hd), goInt])
    · exact h.elim
  · exact h.elim

end
end Go.T
set_option linter.unusedVariables false
set_option linter.unusedSimpArgs false
namespace Go.T
open Go.RowKit

section
variable {Ev : Env} {P : Program} {T : Tab P} {g : Gh} {n : Nat} {s : TS} {a : Act} {w : World} {K : SV → Prop} {ty : TypeId} {dst : Option Tmp} {pos : String} {after : Array Edge} {gd : Option (Nat × Bool)}

theorem cutB_ok (hr : Rel Ev g n s a w) {x : Option Operand} {d : Int} {K : Int → Prop} (h : cutB s x d K) : ∃ i, K i ∧ (x = none ∧ i = d ∨ ∃ y k, x = some y ∧ a.eval y = .int k i) := by
  unfold cutB at h
  split at h
  · exact ⟨d, h, .inl ⟨rfl, rfl⟩⟩
  · rename_i y
    split at h
    · rename_i k i e
      exact ⟨i, h, .inr ⟨y, k, rfl, evs_int hr e⟩⟩
    · exact h.elim

theorem run_sliceBound {w : World} {k : IntKind} {i : Int} {y : Nat} {code : BoundsCode} (h0 : 0 ≤ i) (h1 : i ≤ y) : (Instr.sliceBound (.int k i) y code).run P w = .ok i.toNat w := by
  simp only [Instr.sliceBound, asIntOf, Sem.run_bind, Sem.run_pure, Result.andThen_ok]
  rw [if_pos ⟨h0, h1⟩]; rfl

theorem take_drop_ba (b : ByteArray) (p q : Nat) : (b.extract p q).data.toList = (b.data.toList.take q).drop p := by
  simp [ByteArray.data_extract, List.drop_take]

/-- A cut of what is only read. -/
theorem sl_cut {sz : Nat} {xs : List TV} {v : Value} (h : g.VV w (.sl sz xs) v) : ∃ A cap, v = .slice A xs.length cap ∧ xs.length ≤ cap ∧
    ∀ p q m : Nat, p ≤ q → q ≤ m → q ≤ xs.length → m ≤ cap → g.VV w (.sl sz ((xs.take q).drop p)) (.slice (if m = p then A else A.map (·.add (p * sz))) (q - p) (m - p)) := by
  cases h with
  | sl0 _ A cap =>
    refine ⟨A, cap, rfl, by simp, fun p q m hp hq hl hm => ?_⟩
    have : q - p = 0 := by simp at hl; omega
    simp only [List.take_nil, List.drop_nil, this]
    exact .sl0 sz _ _
  | sl _ _ b off cap cs h0 hcm hsz hm' hcap h1 hl hc hv =>
    refine ⟨_, cap, rfl, hcap, fun p q m hp hq hlq hm => ?_⟩
    rcases Nat.eq_or_lt_of_le hp with rfl | hlt
    · have : (xs.take p).drop p = [] := List.drop_eq_nil_of_le (by simp; omega)
      rw [this, Nat.sub_self]
      exact .sl0 sz _ _
    · rw [if_neg (by omega)]
      have hfl := flat_length hsz
      have hlen : ((xs.take q).drop p).length = q - p := by simp; omega
      have hsz' : ∀ x, x ∈ (xs.take q).drop p → x.cells.length = sz := fun x hx => hsz x (List.mem_of_mem_take (List.mem_of_mem_drop hx))
      have hfl' := flat_length hsz'
      rw [hlen] at hfl'
      have e1 : flat ((xs.take q).drop p) = ((flat xs).take (q * sz)).drop (p * sz) := by
        rw [flat_drop p (fun x hx => hsz x (List.mem_of_mem_take hx)), flat_take q hsz]
      have m1 : p * sz + (q - p) * sz = q * sz := by rw [← Nat.add_mul]; congr 1; omega
      have m2 : q * sz ≤ xs.length * sz := Nat.mul_le_mul_right _ hlq
      have := VV.sl (w := w) (c := g.c) (ρ := g.ρ) (O := g.O) sz ((xs.take q).drop p) b (off + p * sz) (m - p) ((cs.take (q * sz)).drop (p * sz)) (by intro hh; rw [hh] at hlen; simp at hlen; omega)
        (by rw [hfl']; omega) hsz' (by rw [hlen]; omega) (by rw [hlen]; omega) (fun u hu => h1 u (List.mem_of_mem_take (List.mem_of_mem_drop hu)))
        (by rw [hfl', List.length_drop, List.length_take]; omega)
        (fun k u hu => by
          rw [List.getElem?_drop, List.getElem?_take] at hu
          split at hu
          · rw [Nat.add_assoc]; exact hc _ u hu
          · simp at hu)
        (fun k t u k1 k2 => by
          rw [e1, List.getElem?_drop, List.getElem?_take] at k1
          rw [List.getElem?_drop, List.getElem?_take] at k2
          split at k1
          · rename_i hk
            rw [if_pos hk] at k2
            exact hv _ t u k1 k2
          · simp at k1)
      rw [hlen] at this
      simp only [Option.map_some, add_at]
      exact this

theorem v_slice (hr : Rel Ev g n s a w) {t : TypeId} {x : Operand} {lo hi mx : Option Operand} (h : tval T s (.slice t x lo hi mx) K) : VOk P g w a { dst, op := .slice t x lo hi mx, type := ty, pos, after, guard := gd } K := by
  simp only [tval] at h
  split at h
  · rename_i l hk e
    obtain ⟨i, hi0, hd⟩ := kindOf_some hk
    obtain ⟨b, rfl, f⟩ := evs_str hr e
    replace h := chkb_iff.1 h
    obtain ⟨hmx, h⟩ := h
    obtain rfl : mx = none := by simpa using hmx
    obtain ⟨p, h, hp⟩ := cutB_ok hr h
    obtain ⟨q, h, hq⟩ := cutB_ok hr h
    obtain ⟨h1, h2, h3, h4⟩ := h
    have hsz : b.data.toList.length = b.size := by simp
    rw [hsz] at h3
    refine ⟨_, .string (b.extract p.toNat q.toNat), h4, fun _ => ?_, fun w => ?_⟩
    · have := VV.str (w := w) (c := g.c) (ρ := g.ρ) (O := g.O) (b.extract p.toNat q.toNat)
      rw [take_drop_ba] at this
      exact this
    · have hbb : ∀ w, (Instr.sliceBounds false b.size b.size (lo.map a.eval) (hi.map a.eval) none).run P w = .ok (p.toNat, q.toNat, b.size) w := by
        intro w
        rcases hq with ⟨rfl, rfl⟩ | ⟨y, k, rfl, hy⟩ <;> rcases hp with ⟨rfl, rfl⟩ | ⟨z, k', rfl, hz⟩
        · simp [Instr.sliceBounds, hsz]
        · have r1 : ∀ code, (Instr.sliceBound (.int k' p) b.size code).run P w = .ok p.toNat w := fun code => run_sliceBound h1 (by omega)
          simp [Instr.sliceBounds, hz, r1, hsz]
        · have r2 : ∀ code, (Instr.sliceBound (.int k q) b.size code).run P w = .ok q.toNat w := fun code => run_sliceBound (by omega) (by omega)
          simp [Instr.sliceBounds, hy, r2]
        · have r1 : ∀ code, (Instr.sliceBound (.int k' p) q.toNat code).run P w = .ok p.toNat w := fun code => run_sliceBound h1 (by omega)
          have r2 : ∀ code, (Instr.sliceBound (.int k q) b.size code).run P w = .ok q.toNat w := fun code => run_sliceBound (by omega) (by omega)
          simp [Instr.sliceBounds, hy, hz, r1, r2]
      have hu := run_underlying (und_str T hi0 hd)
      simp only [execOp, Instr.sliceAt, Sem.run_bind, hu, Result.andThen_ok, Instr.slice, f, Option.map_none, Option.isSome_none, Bool.false_eq_true, if_false, hbb, Sem.run_pure]
  · rename_i e' sz xs hk e
    split at h
    · rename_i ei hei
      obtain ⟨i, hi0, hd⟩ := kindOf_some hk
      obtain ⟨p, h, hp⟩ := cutB_ok hr h
      obtain ⟨q, h, hq⟩ := cutB_ok hr h
      obtain ⟨m, h, hm⟩ := cutB_ok hr h
      replace h := chkb_iff.1 h
      obtain ⟨hmx0, h⟩ := h
      replace h := chk_iff.1 h
      obtain ⟨hsz0, h1, h2, h3, h4, h5⟩ := h
      have hsz : xs ≠ [] → sz = ei.sz := fun _ => hsz0
      have hmx : mx ≠ none → hi ≠ none := by
        intro hm e
        subst e
        cases mx <;> simp_all
      obtain ⟨A, cap, e1, e2, e3⟩ := sl_cut (evs_t hr e)
      have hu := run_underlying (und_slice T hi0 hd)
      -- which bound stands behind
      obtain ⟨M, hM1, hM2, hM3⟩ : ∃ M : Nat, q.toNat ≤ M ∧ M ≤ cap ∧ ∀ w, (Instr.sliceBounds true xs.length cap (lo.map a.eval) (hi.map a.eval) (mx.map a.eval)).run P w = .ok (p.toNat, q.toNat, M) w := by
        rcases hm with ⟨rfl, rfl⟩ | ⟨y, k, rfl, hy⟩
        · refine ⟨cap, by omega, Nat.le_refl _, fun w => ?_⟩
          rcases hq with ⟨rfl, rfl⟩ | ⟨z, k', rfl, hz⟩ <;> rcases hp with ⟨rfl, rfl⟩ | ⟨z2, k2, rfl, hz2⟩
          · simp [Instr.sliceBounds]
          · have r1 : ∀ code, (Instr.sliceBound (.int k2 p) xs.length code).run P w = .ok p.toNat w := fun code => run_sliceBound h1 (by omega)
            simp [Instr.sliceBounds, hz2, r1]
          · have r2 : ∀ code, (Instr.sliceBound (.int k' q) cap code).run P w = .ok q.toNat w := fun code => run_sliceBound (by omega) (by omega)
            simp [Instr.sliceBounds, hz, r2]
          · have r1 : ∀ code, (Instr.sliceBound (.int k2 p) q.toNat code).run P w = .ok p.toNat w := fun code => run_sliceBound h1 (by omega)
            have r2 : ∀ code, (Instr.sliceBound (.int k' q) cap code).run P w = .ok q.toNat w := fun code => run_sliceBound (by omega) (by omega)
            simp [Instr.sliceBounds, hz, hz2, r1, r2]
        · have hhi := hmx (by simp)
          refine ⟨m.toNat, by omega, by omega, fun w => ?_⟩
          have r3 : ∀ code, (Instr.sliceBound (.int k m) cap code).run P w = .ok m.toNat w := fun code => run_sliceBound (by omega) (by omega)
          rcases hq with ⟨rfl, _⟩ | ⟨z, k', rfl, hz⟩
          · exact absurd rfl hhi
          · have r2 : ∀ code, (Instr.sliceBound (.int k' q) m.toNat code).run P w = .ok q.toNat w := fun code => run_sliceBound (by omega) (by omega)
            rcases hp with ⟨rfl, rfl⟩ | ⟨z2, k2, rfl, hz2⟩
            · simp [Instr.sliceBounds, hy, hz, r2, r3]
            · have r1 : ∀ code, (Instr.sliceBound (.int k2 p) q.toNat code).run P w = .ok p.toNat w := fun code => run_sliceBound h1 (by omega)
              simp [Instr.sliceBounds, hy, hz, hz2, r1, r2, r3]
      have hres := e3 p.toNat q.toNat M (by omega) hM1 (by omega) hM2
      -- the size of an element is told by the type: of an empty slice no cell is told
      have hres' : g.VV w (.sl sz ((xs.take q.toNat).drop p.toNat)) (.slice (if M = p.toNat then A else A.map (·.add (p.toNat * ei.sz))) (q.toNat - p.toNat) (M - p.toNat)) := by
        by_cases hx : xs = []
        · subst hx
          have : q.toNat - p.toNat = 0 := by simp at h4; omega
          rw [this]
          simp only [List.take_nil, List.drop_nil]
          exact .sl0 sz _ _
        · rw [← hsz hx]; exact hres
      refine ⟨_, _, h5, fun _ => hres', fun w => ?_⟩
      simp only [execOp, Instr.sliceAt, Sem.run_bind, hu, Result.andThen_ok, Instr.slice, e1, hM3, run_sizeOf' T hei, Sem.run_pure]
    · exact h.elim
  · exact h.elim

theorem v_field (hr : Rel Ev g n s a w) {t : TypeId} {x : Operand} {f : Nat} (h : tval T s (.field t x f) K) : VOk P g w a { dst, op := .field t x f, type := ty, pos, after, guard := gd } K := by
  simp only [tval] at h
  split at h
  · rename_i i hi
    split at h
    · rename_i fs hd
      split at h
      · rename_i off ft hf
        split at h
        · rename_i fi hfi
          obtain ⟨ar, hu, hm⟩ := und_struct T hi hd
          have hfe : ∃ fld, ar[f]? = some fld ∧ fld.offset = off ∧ fld.type = ft := by
            rw [← hm, List.getElem?_map, Option.map_eq_some_iff] at hf
            obtain ⟨fld, hf1, hf2⟩ := hf
            simp only [Prod.mk.injEq] at hf2
            exact ⟨fld, by simpa using hf1, hf2.1, hf2.2⟩
          obtain ⟨fld, hf1, hf2, hf3⟩ := hfe
          have hX := evs_rel hr x
          have run : ∀ {vs : Array Value} {v : Value}, a.eval x = .agg vs → (∀ w, (part ft vs off).run P w = .ok v w) → ∀ w, (execOp a.eval { dst, op := .field t x f, type := ty, pos, after, guard := gd }).run P w = .ok (.value v) w := by
            intro vs v hx hp w
            simp only [execOp, hx, Instr.field, Sem.run_bind, run_underlying hu, Result.andThen_ok, hf1, asAgg, Sem.run_pure, hf3, hf2, hp]
          split at h
          · rename_i cs e
            rw [e] at hX
            simp only [SVR] at hX
            generalize hv : a.eval x = v at hX
            cases hX with
            | agg _ vs hl h1 hvv =>
            split at h
            · rename_i ha
              obtain ⟨h2, h3⟩ := chk_iff.1 h
              refine ⟨_, .agg (vs.extract off (off + fi.sz)), h3, fun d => .agg _ _ (by simp; omega) (fun k u hu => ?_) (fun k t u ht hu => ?_), run hv fun w => by simp only [part, Sem.run_bind, run_isAgg' T hfi, ha, Result.andThen_ok, if_true, run_sizeOf' T hfi, Sem.run_pure]⟩
              · rw [Array.getElem?_extract] at hu
                split at hu
                · exact h1 _ u hu
                · cases hu
              · rw [Array.getElem?_extract] at hu
                rw [List.getElem?_take, List.getElem?_drop] at ht
                split at hu
                · split at ht
                  · exact hvv _ t u ht hu
                  · cases ht
                · cases hu
            · rename_i ha
              obtain ⟨h2, h3⟩ := chk_iff.1 h
              have hu0 : vs[off]? = some (vs[off]'(by omega)) := Array.getElem?_eq_getElem (by omega)
              refine ⟨_, vs[off]'(by omega), h3, fun d => hvv off _ _ (getD_some h2 default) hu0, run hv fun w => ?_⟩
              simp only [part, Sem.run_bind, run_isAgg' T hfi, ha, Result.andThen_ok, Bool.false_eq_true, if_false, hu0, Sem.run_pure]
          · rename_i cs e
            rw [e] at hX
            obtain ⟨vs, hv, hl, hvv⟩ := hX
            split at h
            · rename_i ha
              obtain ⟨h2, h3⟩ := chk_iff.1 h
              refine ⟨_, .agg (vs.extract off (off + fi.sz)), h3, fun d => ⟨_, rfl, by simp; omega, fun k t u ht hu => ?_⟩, run hv fun w => by simp only [part, Sem.run_bind, run_isAgg' T hfi, ha, Result.andThen_ok, if_true, run_sizeOf' T hfi, Sem.run_pure]⟩
              rw [Array.getElem?_extract] at hu
              rw [List.getElem?_map, Option.map_eq_some_iff] at ht
              obtain ⟨c, ht, rfl⟩ := ht
              rw [List.getElem?_take, List.getElem?_drop] at ht
              split at hu
              · split at ht
                · exact (hvv _ c u ht hu).view
                · cases ht
              · cases hu
            · rename_i ha
              obtain ⟨h2, h3⟩ := chk_iff.1 h
              simp only [force_iff] at h3
              have hu0 : vs[off]? = some (vs[off]'(by omega)) := Array.getElem?_eq_getElem (by omega)
              refine ⟨_, vs[off]'(by omega), h3, fun d => (hvv off _ _ (getD_some h2 .nils) hu0).sv, run hv fun w => ?_⟩
              simp only [part, Sem.run_bind, run_isAgg' T hfi, ha, Result.andThen_ok, Bool.false_eq_true, if_false, hu0, Sem.run_pure]
          · exact h.elim
        · exact h.elim
      · exact h.elim
    · exact h.elim
  · exact h.elim

theorem v_min (hr : Rel Ev g n s a w) {x y : Operand} {ts : Array TypeId} (h : tval T s (.call { callee := .builtin .min, args := #[x, y], argTypes := ts }) K) :
    VOk P g w a { dst, op := .call { callee := .builtin .min, args := #[x, y], argTypes := ts }, type := ty, pos, after, guard := gd } K := by
  simp only [tval] at h
  split at h
  · rename_i k i k' j e1 e2
    replace h := chk_iff.1 h
    obtain ⟨rfl, h⟩ := h
    exact ⟨_, _, h, fun _ => .int _ _, fun w => by simp [execOp, resolve, invoke, builtin, evs_int hr e1, evs_int hr e2, Builtin.min_, Builtin.min2]⟩
  · exact h.elim
theorem v_max (hr : Rel Ev g n s a w) {x y : Operand} {ts : Array TypeId} (h : tval T s (.call { callee := .builtin .max, args := #[x, y], argTypes := ts }) K) :
    VOk P g w a { dst, op := .call { callee := .builtin .max, args := #[x, y], argTypes := ts }, type := ty, pos, after, guard := gd } K := by
  simp only [tval] at h
  split at h
  · rename_i k i k' j e1 e2
    replace h := chk_iff.1 h
    obtain ⟨rfl, h⟩ := h
    exact ⟨_, _, h, fun _ => .int _ _, fun w => by simp [execOp, resolve, invoke, builtin, evs_int hr e1, evs_int hr e2, Builtin.max_, Builtin.max2]⟩
  · exact h.elim

end
end Go.T
