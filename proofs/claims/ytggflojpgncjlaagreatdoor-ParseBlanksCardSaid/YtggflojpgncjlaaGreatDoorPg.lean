/-
  The law of ParseBlanks: tokens that are parted by blanks are read back.
  ParseBlanks.
-/
import Derived.Test.YtggflojpgncjlaaGreatDoorPf
set_option linter.unusedVariables false
set_option linter.unusedSimpArgs false
set_option linter.unusedSectionVars false
set_option linter.unusedVariables false
set_option linter.unusedSimpArgs false
namespace Go.T
open Go.Proofs Go.RowKit
/-- What follows a token: nothing, or a line end. -/
def Ends (r : List UInt8) : Prop := r = [] ∨ ∃ s, r = 10 :: s
theorem tw_ends {p : UInt8 → Bool} (h : p 10 = false) {r : List UInt8} (hr : Ends r) : r.takeWhile p = [] := by
  rcases hr with rfl | ⟨s, rfl⟩
  · rfl
  · rw [List.takeWhile_cons, h]; rfl
theorem tw_again (p : UInt8 → Bool) (h : p 10 = false) (d : List UInt8) {r : List UInt8} (hr : Ends r) : (d.takeWhile p ++ r).takeWhile p = d.takeWhile p := by
  rw [List.takeWhile_append_of_pos (fun a ha => List.all_eq_true.1 List.all_takeWhile a ha), tw_ends h hr, List.append_nil]
theorem part10 : isPart 10 = false := by decide
theorem digit10 : isDigit 10 = false := by decide
theorem pair10 (n : Int) : pairB n ((10 : UInt8).toNat : Int) = false := by
  have e1 : (((10 : UInt8).toNat : Int) == 46) = false := by decide
  have e2 : (((10 : UInt8).toNat : Int) == 61) = false := by decide
  simp only [pairB, e1, e2, Bool.and_false, Bool.or_false]
theorem first_again {d r : List UInt8} (h0 : 0 < d.length) (hk : ¬ ((first d).1 == 0) = true) (hr : Ends r) : first ((first d).2.1 ++ r) = first d := by
  have hl := first_len h0 hk
  have hhead : ∀ x : List UInt8, 0 < x.length → x <+: d → (x ++ r).getD 0 0 = d.getD 0 0 := by
    intro x hx ⟨t, ht⟩
    subst ht
    cases x with
    | nil => simp at hx
    | cons b x => rfl
  unfold first at hk hl ⊢
  by_cases h1 : isLetter (d.getD 0 0) = true
  · rw [if_pos h1] at hl
    rw [if_pos h1]
    dsimp only at hl ⊢
    rw [hhead _ hl.1 (List.takeWhile_prefix _), if_pos h1, tw_again _ part10 d hr]
  rw [if_neg h1] at hk hl
  rw [if_neg h1]
  by_cases h2 : isDigit (d.getD 0 0) = true
  · rw [if_pos h2] at hl
    rw [if_pos h2]
    dsimp only at hl ⊢
    rw [hhead _ hl.1 (List.takeWhile_prefix _), if_neg h1, if_pos h2, tw_again _ digit10 d hr]
  rw [if_neg h2] at hk hl
  rw [if_neg h2]
  by_cases h3 : (decide (d.length > 1) && Lib.contains twoText (32 :: (d.take 2 ++ [32]))) = true
  · rw [if_pos h3] at hl
    rw [if_pos h3]
    dsimp only at hl ⊢
    have hd : d.length > 1 := by
      simp only [Bool.and_eq_true, decide_eq_true_eq] at h3
      exact h3.1
    have h2' : (d.take 2).length = 2 := by rw [List.length_take]; omega
    have e : (d.take 2 ++ r).take 2 = d.take 2 := by rw [List.take_append_of_le_length (by omega), List.take_of_length_le (by omega)]
    rw [hhead _ hl.1 (List.take_prefix _ _), if_neg h1, if_neg h2, e, if_pos]
    simp only [Bool.and_eq_true, decide_eq_true_eq] at h3 ⊢
    exact ⟨by rw [List.length_append]; omega, h3.2⟩
  rw [if_neg h3] at hk hl
  rw [if_neg h3]
  by_cases h4 : Lib.indexByte oneText (d.getD 0 0) ≥ 0
  · rw [if_pos h4] at hl
    rw [if_pos h4]
    dsimp only at hl ⊢
    have h1' : (d.take 1).length = 1 := by rw [List.length_take]; omega
    have e : (d.take 1 ++ r).take 1 = d.take 1 := by rw [List.take_append_of_le_length (by omega), List.take_of_length_le (by omega)]
    have h3' : ¬ (decide ((d.take 1 ++ r).length > 1) && Lib.contains twoText (32 :: ((d.take 1 ++ r).take 2 ++ [32]))) = true := by
      intro h
      simp only [Bool.and_eq_true, decide_eq_true_eq] at h
      rcases hr with rfl | ⟨s, rfl⟩
      · rw [List.append_nil] at h; omega
      · obtain ⟨c, d', rfl⟩ : ∃ c d', d = c :: d' := by
          cases d with
          | nil => simp at h0
          | cons c d' => exact ⟨c, d', rfl⟩
        have e2 : ((c :: d').take 1 ++ 10 :: s).take 2 = [c, 10] := rfl
        rw [e2, pair_eq, pair10] at h
        cases h.2
    rw [hhead _ hl.1 (List.take_prefix _ _), if_neg h1, if_neg h2, if_neg h3', if_pos h4, e]
  · rw [if_neg h4] at hk
    exact absurd rfl hk
theorem getD_drop0' {l : List UInt8} {k : Nat} : (l.drop k).getD 0 0 = l.getD k 0 := by simp [List.getD_eq_getElem?_getD]
theorem first_blank {d : List UInt8} (h : blank (d.getD 0 0) = true) : (first d).1 = 0 := by
  have hb : d.getD 0 0 = 32 ∨ d.getD 0 0 = 10 := by
    unfold blank at h
    rcases Bool.or_eq_true_iff.1 h with h | h
    · left; apply UInt8.toNat_inj.1; have := eq_of_beq h; simpa using Int.ofNat_inj.1 this
    · right; apply UInt8.toNat_inj.1; have := eq_of_beq h; simpa using Int.ofNat_inj.1 this
  have hp : ∀ b : UInt8, (b = 32 ∨ b = 10) → ∀ n, pairB (b.toNat : Int) n = false := by
    rintro b (rfl | rfl) n
    · have e1 : (((32 : UInt8).toNat : Int) == 46) = false := by decide
      have e2 : (((32 : UInt8).toNat : Int) == 33) = false := by decide
      have e3 : (((32 : UInt8).toNat : Int) == 60) = false := by decide
      have e4 : (((32 : UInt8).toNat : Int) == 62) = false := by decide
      simp only [pairB, e1, e2, e3, e4, Bool.false_and, Bool.or_false, Bool.false_or]
    · have e1 : (((10 : UInt8).toNat : Int) == 46) = false := by decide
      have e2 : (((10 : UInt8).toNat : Int) == 33) = false := by decide
      have e3 : (((10 : UInt8).toNat : Int) == 60) = false := by decide
      have e4 : (((10 : UInt8).toNat : Int) == 62) = false := by decide
      simp only [pairB, e1, e2, e3, e4, Bool.false_and, Bool.or_false, Bool.false_or]
  have h3 : ¬ (decide (d.length > 1) && Lib.contains twoText (32 :: (d.take 2 ++ [32]))) = true := by
    intro h
    simp only [Bool.and_eq_true, decide_eq_true_eq] at h
    match d, hb, h with
    | [], _, h => exact absurd h.1 (by simp)
    | [_], _, h => exact absurd h.1 (by simp)
    | a :: b :: d, hb, h =>
      have e : (a :: b :: d).take 2 = [a, b] := rfl
      rw [e, pair_eq, hp a hb] at h
      cases h.2
  unfold first
  rw [if_neg (by rcases hb with e | e <;> rw [e] <;> decide), if_neg (by rcases hb with e | e <;> rw [e] <;> decide), if_neg h3, if_neg (by rcases hb with e | e <;> rw [e] <;> decide)]
/-! ### Glued tokens -/
def glue (ts : List Tk) : List UInt8 := ts.flatMap fun t => 10 :: 32 :: t.text
theorem glue_ends (ts : List Tk) : Ends (glue ts) := by
  cases ts with
  | nil => exact .inl rfl
  | cons t ts => exact .inr ⟨_, rfl⟩
theorem glue_append (a b : List Tk) : glue (a ++ b) = glue a ++ glue b := by simp [glue]
/-- A token that is some text's first. -/
def Good (t : Tk) : Prop := ∃ d, 0 < d.length ∧ ¬ ((first d).1 == 0) = true ∧ ¬ (first d).2.2 > 1099511627776 ∧ t.kind = (first d).1 ∧ t.text = (first d).2.1 ∧ t.value = (first d).2.2
theorem scanG_good (l : List UInt8) : ∀ (f i : Nat) (acc : List Tk), i ≤ l.length → (∀ t, t ∈ acc → Good t) → (glue acc).length ≤ 3 * i → (scanG l f i acc).2.2 = 0 → (∀ t, t ∈ (scanG l f i acc).1 → Good t) ∧ (glue (scanG l f i acc).1).length ≤ 3 * l.length
  | 0, i, acc, hi, ha, hg, h => by unfold scanG; exact ⟨ha, by dsimp only; omega⟩
  | f + 1, i, acc, hi, ha, hg, h => by
    unfold scanG at h ⊢
    by_cases h1 : l.length ≤ i
    · rw [if_pos h1]; exact ⟨ha, by dsimp only; omega⟩
    rw [if_neg h1] at h ⊢
    by_cases h2 : blank (l.getD i 0) = true
    · rw [if_pos h2] at h ⊢
      exact scanG_good l f (i + 1) acc (by omega) ha (by omega) h
    rw [if_neg h2] at h ⊢
    by_cases h3 : ((first (l.drop i)).1 == 0) = true
    · rw [if_pos h3] at h; cases h
    rw [if_neg h3] at h ⊢
    by_cases h4 : (first (l.drop i)).2.2 > 1099511627776
    · rw [if_pos h4] at h; cases h
    rw [if_neg h4] at h ⊢
    have hdl : (l.drop i).length = l.length - i := List.length_drop
    have hl := first_len (l := l.drop i) (by omega) h3
    refine scanG_good l f _ _ (by omega) (fun t ht => ?_) ?_ h
    · rcases List.mem_append.1 ht with h5 | h5
      · exact ha t h5
      · rw [List.mem_singleton.1 h5]
        exact ⟨l.drop i, by omega, h3, h4, rfl, rfl, rfl⟩
    · rw [glue_append, List.length_append]
      have : (glue [(⟨(first (l.drop i)).1, (first (l.drop i)).2.1, (first (l.drop i)).2.2, i⟩ : Tk)]).length = 2 + (first (l.drop i)).2.1.length := by simp [glue]; omega
      omega
theorem scan_good {l : List UInt8} (h : (scan l).2.2 = 0) : (∀ t, t ∈ (scan l).1 → Good t) ∧ (glue (scan l).1).length ≤ 3 * l.length := by
  obtain ⟨hsc, hl⟩ := scan_toks h
  have e : scan l = scanG l (l.length + 1) 0 [] := by unfold scan; rw [if_neg (by omega)]
  rw [e] at h ⊢
  exact scanG_good l _ 0 [] (by omega) (fun t ht => by cases ht) (by simp [glue]) h
theorem scanG_glue : ∀ (ts : List Tk) (pre : List UInt8) (f : Nat) (acc : List Tk), (∀ t, t ∈ ts → Good t) → (glue ts).length < f →
    ∃ r, scanG (pre ++ glue ts) f pre.length acc = (acc ++ r, 0, 0) ∧ toks r = toks ts
  | [], pre, 0, acc, hg, hf => by simp [glue] at hf
  | [], pre, f + 1, acc, hg, hf => by
    refine ⟨[], ?_, rfl⟩
    unfold scanG
    rw [if_pos (by simp [glue])]
    simp
  | t :: ts, pre, f, acc, hg, hf => by
    obtain ⟨d, d0, d1, d2, e1, e2, e3⟩ := hg t (by simp)
    have hl := first_len d0 d1
    have hglue : glue (t :: ts) = 10 :: 32 :: (t.text ++ glue ts) := by simp [glue]
    rw [hglue] at hf
    simp only [List.length_cons, List.length_append] at hf
    obtain ⟨f, rfl⟩ : ∃ k, f = k + 3 := ⟨f - 3, by omega⟩
    have hL : pre ++ glue (t :: ts) = (pre ++ [10, 32]) ++ (t.text ++ glue ts) := by rw [hglue]; simp
    have hlen : (pre ++ glue (t :: ts)).length = pre.length + 2 + (t.text.length + (glue ts).length) := by rw [hL]; simp; omega
    have ht0 : 0 < t.text.length := by rw [e2]; exact hl.1
    have g0 : (pre ++ glue (t :: ts)).getD pre.length 0 = 10 := by rw [hglue]; simp [List.getD_eq_getElem?_getD]
    have g1 : (pre ++ glue (t :: ts)).getD (pre.length + 1) 0 = 32 := by rw [hglue]; simp [List.getD_eq_getElem?_getD, List.getElem?_append_right]
    have hdrop : (pre ++ glue (t :: ts)).drop (pre.length + 1 + 1) = t.text ++ glue ts := by
      rw [hL, List.drop_append_of_le_length (by simp), List.drop_of_length_le (by simp)]; rfl
    have hfirst : first (t.text ++ glue ts) = first d := by rw [e2]; exact first_again d0 d1 (glue_ends ts)
    have hb : ¬ blank ((pre ++ glue (t :: ts)).getD (pre.length + 1 + 1) 0) = true := fun h => by
      rw [← getD_drop0', hdrop] at h
      have := first_blank h
      rw [hfirst] at this
      exact d1 (by rw [this]; rfl)
    obtain ⟨r, r1, r2⟩ := scanG_glue ts (pre ++ [10, 32] ++ t.text) f (acc ++ [⟨(first d).1, (first d).2.1, (first d).2.2, (pre.length + 1 + 1 : Nat)⟩]) (fun x hx => hg x (by simp [hx])) (by omega)
    refine ⟨⟨(first d).1, (first d).2.1, (first d).2.2, (pre.length + 1 + 1 : Nat)⟩ :: r, ?_, ?_⟩
    · unfold scanG
      rw [if_neg (by omega), g0, if_pos (by decide)]
      unfold scanG
      rw [if_neg (by omega), g1, if_pos (by decide)]
      unfold scanG
      rw [if_neg (by omega), if_neg hb, hdrop, hfirst, if_neg d1, if_neg d2]
      have e4 : pre.length + 1 + 1 + (first d).2.1.length = (pre ++ [10, 32] ++ t.text).length := by rw [← e2]; simp; omega
      have e5 : pre ++ glue (t :: ts) = pre ++ [10, 32] ++ t.text ++ glue ts := by rw [hL]; simp
      rw [e4, e5, r1]
      simp
    · have r2 : r.map _ = ts.map _ := r2
      show List.map _ (_ :: r) = List.map _ (t :: ts)
      rw [List.map_cons, List.map_cons, r2, ← e1, ← e2, ← e3]
      rfl
theorem scan_glue {l : List UInt8} (h : (scan l).2.2 = 0) (hl : l.length ≤ 1000) : (scan (glue (scan l).1)).2.2 = 0 ∧ toks (scan (glue (scan l).1)).1 = toks (scan l).1 := by
  obtain ⟨hg, hlen⟩ := scan_good h
  obtain ⟨r, r1, r2⟩ := scanG_glue (scan l).1 [] ((glue (scan l).1).length + 1) [] hg (by omega)
  have e : scan (glue (scan l).1) = (r, 0, 0) := by
    have key : ∀ G : List UInt8, G.length ≤ 4000 → scan G = scanG G (G.length + 1) 0 [] := fun G h => by unfold scan; rw [if_neg (by omega)]
    rw [key _ (by omega)]
    exact r1
  rw [e]
  exact ⟨rfl, r2⟩
/-- The law. -/
theorem parse_glue {l : List UInt8} (h : (scan l).2.2 = 0) (hl : l.length ≤ 1000) : (parseM (glue (scan l).1)).1 = (parseM l).1 ∧ (parseM (glue (scan l).1)).2.2 = (parseM l).2.2 := by
  obtain ⟨g1, g2⟩ := scan_glue h hl
  cases h2 : allP (toks (scan l).1) 0 with
  | error k =>
    rw [parse_form h h2, parse_form g1 (by rw [g2]; exact h2)]
    exact ⟨rfl, rfl⟩
  | ok x =>
    have h3 : allP (toks (scan (glue (scan l).1)).1) 0 = .ok x := by rw [g2]; exact h2
    cases h4 : resolveM x.1 with
    | some n => rw [parse_name h h2 h4, parse_name g1 h3 h4]; exact ⟨rfl, rfl⟩
    | none =>
      by_cases h5 : checkM (modelD x.1) = 0
      · rw [parse_ok h h2 h4 h5, parse_ok g1 h3 h4 h5]; exact ⟨rfl, rfl⟩
      · rw [parse_bad h h2 h4 h5, parse_bad g1 h3 h4 h5]; exact ⟨rfl, rfl⟩
end Go.T
set_option linter.unusedVariables false
set_option linter.unusedSimpArgs false
namespace Go.T
open Go.Proofs Go.RowKit
variable {Ev : Env} {H : Nat → Option RObj}
set_option maxHeartbeats 4000000 in
theorem c_parseBlanks (hE : ∀ w, Ev.E w → HasMax w) (hn : ∀ i, H i = none) (l : List UInt8) : Ret Tryz.prog Ev 5 [.str l] H (.t (.bool true)) := by
  refine go noStop noStop Tryz.func5 rfl (by kernel_rfl) rfl ?_
  conv => whnf
  refine (c_awake hE hn).use ?_
  conv => whnf
  refine ⟨fun h => absurd h (by decide), fun _ => ?_⟩
  conv => whnf
  constructor <;> intro h1
  · conv => whnf
    exact ⟨rfl, rfl⟩
  · have h1' : l.length ≤ 1000 := by have := of_decide_eq_false h1; omega
    conv => whnf
    refine (c_scan7 l (by omega)).use ?_
    conv => whnf
    constructor <;> intro he
    · conv => whnf
      exact ⟨rfl, rfl⟩
    · have he' : (scan l).2.2 = 0 := by simpa using he
      have hlm : ((scan l).1.map Tk.tv).length = (scan l).1.length := List.length_map ..
      have hsl := (scan_toks he').1.len
      obtain ⟨hgood, hgl⟩ := scan_good he'
      conv => whnf
      intro hm
      conv => whnf
      refine goLoop noStop noStop (fun k : Nat => .of [(0, .t (.str l)), (6, .t (.str (glue ((scan l).1.take k)))), (28, .t (.sl 4 ((scan l).1.map Tk.tv))), (29, .t (.int .i64 ((scan l).1.map Tk.tv).length)), (30, .t (.int .i64 (k : Nat)))] [] [] H)
        (fun k => k ≤ (scan l).1.length) (fun k => (scan l).1.length - k) 0 (Nat.zero_le _) (.of ⟨rfl, rfl, rfl, rfl, rfl, trivial⟩ trivial trivial (fun _ => .inr rfl)) ?_
      rintro k hk
      conv => whnf
      constructor <;> intro h2
      · have hlt : k < (scan l).1.length := by have h2 : decide ((k : Int) < (((scan l).1.map Tk.tv).length : Int)) = true := h2; have := of_decide_eq_true h2; omega
        obtain ⟨t, ht⟩ : ∃ t, (scan l).1[k]? = some t := ⟨_, List.getElem?_eq_getElem hlt⟩
        conv => whnf
        refine ⟨Int.natCast_nonneg _, by rw [hlm]; exact Int.ofNat_lt.2 hlt, fun y hy => ?_⟩
        obtain rfl := get_map2 hy ht
        have hsplit : glue (scan l).1 = glue ((scan l).1.take k) ++ glue ((scan l).1.drop k) := by rw [← glue_append, List.take_append_drop]
        have hgk : (glue ((scan l).1.take k)).length ≤ 3000 := by
          have := congrArg List.length hsplit
          rw [List.length_append] at this
          omega
        have htx := (scan_toks he').1.text t (List.mem_of_getElem? ht)
        conv => whnf
        refine ⟨by show 2 + t.text.length ≤ _; omega, ?_⟩
        conv => whnf
        refine ⟨by show (glue ((scan l).1.take k)).length + (([10, 32] : List UInt8) ++ t.text).length ≤ 9223372036854775807; rw [List.length_append]; show _ + (2 + _) ≤ _; omega, ?_⟩
        conv => whnf
        refine ⟨k + 1, hlt, by omega, .of ⟨rfl, ?_, rfl, rfl, ?_, trivial⟩ trivial trivial (fun _ => .inr rfl)⟩
        · have e1 : glue [t] = ([10, 32] : List UInt8) ++ t.text := by simp [glue]
          rw [take_succ_get ht, glue_append, e1]; rfl
        · show SV.t (.int .i64 (IntKind.i64.wrap ((k : Int) + 1))) = _
          rw [wrap_i64 (by omega) (by omega)]; rfl
      · have hge : (scan l).1.length ≤ k := by have h2 : decide ((k : Int) < (((scan l).1.map Tk.tv).length : Int)) = false := h2; have := of_decide_eq_false h2; omega
        rw [List.take_of_length_le hge]
        obtain ⟨g1, g2⟩ := parse_glue he' h1'
        conv => whnf
        refine (c_parse hE hn l (by omega)).use ?_
        conv => whnf
        have e : parseM (glue (scan l).1) = ((parseM l).1, (parseM (glue (scan l).1)).2.1, (parseM l).2.2) := by rw [← g1, ← g2]
        have p2 : ∀ H : Nat → Option RObj, (∀ i, H i = none) → Ret Tryz.prog Ev 7 [.str (glue (scan l).1)] H (parseTV ((parseM l).1, (parseM (glue (scan l).1)).2.1, (parseM l).2.2)) := fun H hn => by
          have := c_parse hE hn (glue (scan l).1) (by omega)
          rwa [e] at this
        refine (p2 _ hn).use ?_
        conv => whnf
        have ps : ∀ H : Nat → Option RObj, Ret Tryz.prog Ev 10 [(parseM l).1.tv, (parseM l).1.tv] H (.t (.bool true)) := fun H => by have := c_same (Ev := Ev) (H := H) (parseM l).1 (parseM l).1; rwa [decide_eq_true rfl] at this
        refine ⟨fun _ => ?_, fun h => absurd ((beq_self_eq_true _).symm.trans h) (by decide)⟩
        conv => whnf
        refine (ps _).use ?_
        conv => whnf
        exact ⟨rfl, rfl⟩
theorem x_parseBlanks (s : ByteArray) (w : World) (hs : s.size ≤ maxLen) (hm : HasMax w) : Calls Tryz.prog 5 #[.string s] w fun e w' => e = .returned (.bool true) ∧ Below w.heap.size w w' :=
  Ret.run maxEnv (c_parseBlanks (fun _ h => h) (fun _ => rfl) _) hm.pos hm (fun g => vvs_str s g w)
end Go.T
