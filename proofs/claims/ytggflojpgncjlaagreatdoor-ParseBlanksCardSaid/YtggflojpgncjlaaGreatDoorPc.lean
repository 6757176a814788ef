/-
  The parser runs: whoever gives up is caught.
  All constraints, in the order of the text.
  Names are resolved: what is said of the constraints, and the loops.
  Names are resolved.
  Models as data, and whether one may be.
  Searches by a test, library's functions.
  Names, numbers within bounds.
  May a constraint be?
-/
import Derived.Test.YtggflojpgncjlaaGreatDoorPb
import Derived.Tactics
import Derived.Tactics2
import Derived.Defers
import Derived.Recover
import Derived.Laws.Pointers
import Derived.Shelf.Strings.SlTrimAscii
set_option linter.unusedVariables false
set_option linter.unusedSimpArgs false
set_option linter.unusedSectionVars false
set_option linter.unusedVariables false
set_option linter.unusedSimpArgs false
namespace Go.T
open Go.Proofs Go.RowKit
theorem as_nil (w : World) : (Instr.typeAssert .nilIface 20 73 true).run Tryz.prog w = .ok (.tuple #[.int .i64 0, .bool false]) w := by kernel_rfl
theorem as_yes (v : Value) (w : World) : (Instr.typeAssert (.iface 73 v) 20 73 true).run Tryz.prog w = .ok (.tuple #[v, .bool true]) w := by kernel_rfl
set_option maxRecDepth 4000 in
theorem catch_idle (p : Addr) (w : World) :
    CallsD Tryz.prog 32 #[.pointer (some p)] .returning w fun e u' w' => e = .returned (.tuple #[]) ∧ u' = .returning ∧ w' = w := by
  refine callsD_of_wpS Tryz.func32 rfl fun c₀ cs hu => ?_
  apply wpS_seq
  apply wpS_region
  simp [wpOpsS, go_sem, recoverD, hu, Tryz.f32, Exit.thenS, as_nil, Instr.extract]
  apply wpS_seq
  apply wpS_region
  simp [wpOpsS, go_sem, Exit.thenS]
  refine wpS_cond (t := false) (by simp [Act.eval, Array.replicate]) ?_
  simp only [Bool.false_eq_true, if_false]
  refine wpS_of_wp (wp_skip ?_)
  cases c₀
  simp_all [bodyPostS, results]
set_option maxRecDepth 4000 in
theorem catch_panicking (p : Addr) (x n : Int) (older : List PanicEntry) (w : World) (hc : w.cell? p = some (.int .i64 x)) (hz : w.frozen? p = false) :
    CallsD Tryz.prog 32 #[.pointer (some p)] (.panicking ({ v := .iface 73 (.int .i64 n), recovered := false } :: older)) w fun e u' w' =>
      e = .returned (.tuple #[]) ∧ u' = .panicking ({ v := .iface 73 (.int .i64 n), recovered := true } :: older) ∧ w' = w.setCell p (.int .i64 n) := by
  refine callsD_of_wpS Tryz.func32 rfl fun c₀ cs hu => ?_
  apply wpS_seq
  apply wpS_region
  simp [wpOpsS, go_sem, recoverD, hu, Tryz.f32, Exit.thenS, as_yes, Instr.extract]
  apply wpS_seq
  apply wpS_region
  simp [wpOpsS, go_sem, Exit.thenS]
  refine wpS_cond (t := true) (by simp [Act.eval, Array.replicate]) ?_
  simp only [if_true]
  apply wpS_region
  simp [wpOpsS, go_sem, hc, hz, bodyPostS, results]
variable {Ev : Env} {H : Nat → Option RObj}
/-- A cell of a block that is nobody's is set. -/
theorem RelH.setCell {g : Gh} {w : World} (hr : RelH Ev g H w) {b : Nat} (hO : g.O b = some .outer) (hc : g.c b = 0) (v : Value) :
    RelH Ev { g with O := upd g.O b (some (.var 0)) } H (w.setCell ⟨b, 0, none⟩ v) ∧ Ext g w { g with O := upd g.O b (some (.var 0)) } (w.setCell ⟨b, 0, none⟩ v) := by
  have hlt : b < w.heap.size := by
    rcases Nat.lt_or_ge b w.heap.size with h' | h'
    · exact h'
    · rw [(hr.wf.new b h').1] at hO; cases hO
  have hsz : (w.setCell ⟨b, 0, none⟩ v).heap.size = w.heap.size := by simp [World.setCell]
  have hheap : ∀ k, k ≠ b → (w.setCell ⟨b, 0, none⟩ v).heap[k]? = w.heap[k]? := fun k hk => Below.heap_setCell w ⟨b, 0, none⟩ v k hk
  let gB : Gh := { g with O := upd g.O b (some (.var 0)) }
  have hlow : ∀ k, k < Ev.lo → k ≠ b := fun k hk e => by rw [← e, hr.wf.low k hk] at hO; cases hO
  have hx0 : Ext g w gB w := ⟨fun _ => Nat.le_refl _, fun _ _ _ => rfl, fun i hi => ⟨rfl, by
    have : g.ρ i ≠ b := fun e => by rw [e, hO] at hi; cases hi
    show upd g.O b _ (g.ρ i) = _
    rw [upd_ne _ _ this]; exact hi⟩⟩
  have hwf : Wf Ev gB w := ⟨fun k hk => ⟨by show upd g.O b _ k = none; rw [upd_ne _ _ (by omega)]; exact (hr.wf.new k hk).1, (hr.wf.new k hk).2⟩, fun k hk => by show upd g.O b _ k = none; rw [upd_ne _ _ (hlow k hk)]; exact hr.wf.low k hk, hr.wf.lo, hr.wf.env, by
    obtain ⟨m, hm⟩ := hr.wf.m
    refine ⟨m, fun i hi => ?_⟩
    show upd g.O b _ (g.ρ i) ≠ _
    by_cases e : g.ρ i = b
    · rw [e, upd_same]; simp
    · rw [upd_ne _ _ e]; exact hm i hi⟩
  have hst : Step (· = .var 0) gB w gB (w.setCell ⟨b, 0, none⟩ v) := by
    refine Step.of rfl rfl rfl (by rw [hsz]; exact Nat.le_refl _) hwf.new (fun k hk => ?_) (fun k _ => Nat.le_refl _) (fun k j hk hj => ?_) (fun i hi => ⟨rfl, hi⟩)
    · by_cases e : k = b
      · subst e; exact .inl ⟨_, upd_same _ _ _, rfl, by simp⟩
      · exact .inr ⟨hheap k e, rfl, rfl⟩
    · have e : k ≠ b := fun e => by subst e; have hj : j < g.c k := hj; omega
      exact World.cell?_of_block (hheap k e)
  refine ⟨⟨fun i o ho => ?_, hwf.kept hst.kept (fun k hk => hwf.new k (by rw [hsz] at hk; exact hk)) hwf.m⟩, hx0.trans hst.ext⟩
  have h1 : RefR gB w i o := (hr.heap i o ho).relab hx0 fun k L hL hk => by
    refine ⟨?_, rfl⟩
    have : k ≠ b := fun e => by rw [e, hO] at hk; cases hk; rcases hL with ⟨_, h⟩ | ⟨_, _, h⟩ <;> cases h
    show upd g.O b _ k = _
    rw [upd_ne _ _ this]; exact hk
  exact h1.step hst (by simp) (by simp)
theorem c_prun (hE : ∀ w, Ev.E w → HasMax w) {i : Nat} {l : List Tk} (hl : Toks l) {e : Int} (hH : H i = some (pcell l 0 e (.own 3 []) (.own 6 []) [] [])) :
    TCalls Tryz.prog Ev 12 [.ptr i 0] H fun o H' => match allP (toks l) 0 with
      | .ok x => o = .ret (.t (.int .i64 (-1))) ∧ ∃ bs g, MD H i l e x.1 bs g H'
      | .error k => o = .ret (.t (.int .i64 (failAt l k e))) := by
  refine ⟨⟨_, Tryz.func12, by kernel_rfl, rfl⟩, fun g w vs hr hv => ?_⟩
  obtain ⟨v1, vs1, e1, h1, hv⟩ := hv.cons_inv
  obtain rfl := hv.nil_inv
  have e1 : vs = #[v1] := Array.ext' e1
  subst e1
  have hmf : ∀ (fn : Fn) (first cap : Array Value) (w : World), (Instr.makeFunc fn first cap).run Tryz.prog w = .ok (.func fn first cap) w := fun _ _ _ _ => rfl
  refine calls_of_wp_defers Tryz.func12 rfl ?_
  refine wp_seq (wp_region ?_)
  simp [wpOps_cons, wpOp, Region.wanted, Oper.wp, execOp, Tryz.f12, go_sem, Exit.then]
  refine .inl ?_
  generalize hQ : bodyPostD Tryz.prog _ _ = Q
  refine wp_seq (wp_region ?_)
  simp [wpOps_cons, wpOp, Region.wanted, Oper.wp, execOp, go_sem, Exit.then, hmf]
  refine .inl (.inl ?_)
  simp only [wpOps, Exit.then]
  refine wp_seq (wp_region ?_)
  have hcf : ∀ (args : Array Value) (w : World), (callFunc 33 args).run Tryz.prog w = .ok (.enter 33 args) w := fun args w => run_callFunc ⟨_, Tryz.func33, by kernel_rfl, rfl⟩ w
  simp [wpOps_cons, wpOp, Region.wanted, Oper.wp, execOp, go_sem, Exit.then, resolve, Deferred.ofValue, invoke, hcf]
  refine .inl (.inl ?_)
  have hc32 : ∀ (args : Array Value) (w : World), (callFunc 32 args).run Tryz.prog w = .ok (.enter 32 args) w := fun args w => run_callFunc ⟨_, Tryz.func32, by kernel_rfl, rfl⟩ w
  obtain ⟨st1, wf1⟩ := Step.alloc hr.wf (.cells #[.int .i64 0] 3) .outer (by simp) g.β g.hd
  have rel1 : RelH Ev { g with O := upd g.O w.heap.size (some .outer), β := g.β, hd := g.hd } H (w.alloc (.cells #[.int .i64 0] 3)) := ⟨fun i o ho => (hr.heap i o ho).step st1 (fun h => h) (fun _ h => h), wf1⟩
  refine ((c_all hl hE hH).2 _ _ #[v1] rel1 (hv.ext st1.ext)).mono ?_
  rintro e1 w' ⟨o, H', g', hk, hr', hx', hkp, ho⟩
  obtain ⟨k1, k2, k3⟩ := hkp.block w.heap.size (by simp) (.inr (upd_same _ _ _))
  rw [heap_alloc_new] at k1
  have k2 : g'.O w.heap.size = some .outer := k2.trans (upd_same _ _ _)
  have k3 : g'.c w.heap.size = 0 := k3.trans (hr.wf.new _ (Nat.le_refl _)).2
  have hcell : w'.cell? ⟨w.heap.size, 0, none⟩ = some (.int .i64 0) := by simp [World.cell?, k1]
  have hfrz : w'.frozen? ⟨w.heap.size, 0, none⟩ = false := by simp [World.frozen?, k1]
  have fin : ∀ v, RelH Ev { g' with O := upd g'.O w.heap.size (some (.var 0)) } H' (w'.setCell ⟨w.heap.size, 0, none⟩ v) ∧ Ext g w { g' with O := upd g'.O w.heap.size (some (.var 0)) } (w'.setCell ⟨w.heap.size, 0, none⟩ v) ∧ Kept g w { g' with O := upd g'.O w.heap.size (some (.var 0)) } (w'.setCell ⟨w.heap.size, 0, none⟩ v) := by
    intro v
    obtain ⟨q1, q2⟩ := hr'.setCell k2 k3 v
    have hsz : (w'.setCell ⟨w.heap.size, 0, none⟩ v).heap.size = w'.heap.size := by simp [World.setCell]
    refine ⟨q1, (st1.ext.trans hx').trans q2, hkp.os, hkp.tape, hkp.output, ?_, fun k hk hO => ?_⟩
    · rw [hsz]; have := hkp.size; simp at this; omega
    · have hne : k ≠ w.heap.size := by omega
      obtain ⟨a1, a2, a3⟩ := st1.kept.block k hk hO
      obtain ⟨b1, b2, b3⟩ := hkp.block k (by simp; omega) (by rw [a2]; exact hO)
      refine ⟨(Below.heap_setCell w' ⟨w.heap.size, 0, none⟩ v k hne).trans (b1.trans a1), ?_, b3.trans a3⟩
      show upd g'.O _ _ k = _
      rw [upd_ne _ _ hne]; exact b2.trans a2
  cases hq : allP (toks l) 0 with
  | ok x =>
    rw [hq] at hk
    obtain ⟨rfl, hmd⟩ := hk
    cases e1 with
    | returned v =>
      simp only [wpOps, Exit.then]
      refine wp_seq (wp_region ?_)
      simp [wpOps_cons, wpOp, Region.wanted, Oper.wp, execOp, go_sem, Exit.then, hcell, hfrz]
      refine .inl ?_
      simp only [wpOps, Exit.then]
      refine wp_ret ?_
      subst hQ
      simp only [bodyPostD]
      refine leaves_cons (f := 32) (args := #[.pointer (some ⟨w.heap.size, 0, none⟩)]) (by simp) (by simp [go_sem, invoke, hc32]) ?_
      refine (catch_idle ⟨w.heap.size, 0, none⟩ _).mono ?_
      rintro _ _ _ ⟨rfl, rfl, rfl⟩
      have hc2 : (w'.setCell ⟨w.heap.size, 0, none⟩ (.int .i64 (-1))).cell? ⟨w.heap.size, 0, none⟩ = some (.int .i64 (-1)) := World.cell?_setCell_same' _ _ _ (by rw [hcell]; rfl)
      obtain ⟨f1, f2, f3⟩ := fin (.int .i64 (-1))
      refine ⟨.int .i64 (-1), by simp [results, go_sem, asAddr, loadVar, hc2], .ret (.t (.int .i64 (-1))), H', ?_, { g' with O := upd g'.O w.heap.size (some (.var 0)) }, f1, f2, f3, .int _ _⟩
      rw [hq]
      exact ⟨rfl, hmd⟩
    | panicked ch => exact ho.elim
    | outgrown => exact ho.elim
  | error k =>
    rw [hq] at hk
    have hk : o = _ := hk
    subst hk
    cases e1 with
    | panicked ch =>
      obtain ⟨v, rfl, hv⟩ := ho
      have hv : v = .iface 73 (.int .i64 (failAt l k e)) := by
        cases hv with
        | iface _ _ u hu => rw [hu.int_inv]
      subst hv
      subst hQ
      simp only [bodyPostD]
      refine leaves_cons (f := 32) (args := #[.pointer (some ⟨w.heap.size, 0, none⟩)]) (by simp) (by simp [go_sem, invoke, hc32]) ?_
      refine (catch_panicking ⟨w.heap.size, 0, none⟩ 0 (failAt l k e) [] _ hcell hfrz).mono ?_
      rintro _ _ _ ⟨rfl, rfl, rfl⟩
      have hc2 : (w'.setCell ⟨w.heap.size, 0, none⟩ (.int .i64 (failAt l k e))).cell? ⟨w.heap.size, 0, none⟩ = some (.int .i64 (failAt l k e)) := World.cell?_setCell_same' _ _ _ (by rw [hcell]; rfl)
      obtain ⟨f1, f2, f3⟩ := fin (.int .i64 (failAt l k e))
      refine ⟨.int .i64 (failAt l k e), by simp [results, go_sem, asAddr, loadVar, hc2], .ret (.t (.int .i64 (failAt l k e))), H', ?_, { g' with O := upd g'.O w.heap.size (some (.var 0)) }, f1, f2, f3, .int _ _⟩
      rw [hq]
    | returned v => exact ho.elim
    | outgrown => exact ho.elim
end Go.T
set_option linter.unusedVariables false
set_option linter.unusedSimpArgs false
namespace Go.T
open Go.Proofs Go.RowKit
variable {Ev : Env} {H : Nat → Option RObj}
/-- A pointer to a constraint. -/
def Cr.pt (x : Cr) : TV := .eptr x.tv.cells
theorem take_succ_get {α : Type} {l : List α} {k : Nat} {x : α} (h : l[k]? = some x) : l.take (k + 1) = l.take k ++ [x] := by
  rw [List.take_add_one, h]; rfl
theorem c_cons (i : Nat) (l : List Tk) (p : Nat) (e : Int) (bs : List BkX) (g : List Cr) (V : List (List UInt8)) (us : List TV) (hH : H i = some (pcell l p e (.own 3 (bs.map BkX.tv)) (.own 6 (g.map Cr.tv)) V us))
    (hb : (bs.flatMap BkX.xs ++ g).length ≤ 4000) :
    Ret Tryz.prog Ev 34 [.ptr i 0] H (.own 1 ((bs.flatMap BkX.xs ++ g).map Cr.pt)) := by
  rw [List.length_append] at hb
  refine go noStop noStop Tryz.func34 rfl (by kernel_rfl) rfl ?_
  conv => whnf
  refine ⟨_, hH, ?_⟩
  conv => whnf
  intro hm
  have hm' : bs.length ≤ 9223372036854775807 := by rw [← List.length_map (f := BkX.tv)]; exact hm
  conv => whnf
  refine goLoop noStop noStop (fun k : Nat => .of [(0, .t (.ptr i 0)), (3, .arr 3), (12, .t (.int .i64 (bs.map BkX.tv).length)), (13, .t (.int .i64 (k : Nat)))] [] [(3, some ⟨1, false, ((bs.take k).flatMap BkX.xs).map Cr.pt⟩)] H)
    (fun k => k ≤ bs.length) (fun k => bs.length - k) 0 (by simp) (.of ⟨rfl, rfl, rfl, rfl, trivial⟩ trivial ⟨rfl, trivial⟩ (fun _ => .inr rfl)) ?_
  intro k hk
  conv => whnf
  constructor <;> intro h1
  · have hlt : k < bs.length := by have h1 : decide ((k : Int) < ((bs.map BkX.tv).length : Int)) = true := h1; have := of_decide_eq_true h1; rw [List.length_map] at this; omega
    obtain ⟨y, hy⟩ : ∃ y, bs[k]? = some y := ⟨_, List.getElem?_eq_getElem hlt⟩
    conv => whnf
    refine ⟨_, hH, ?_⟩
    conv => whnf
    refine ⟨by omega, by rw [List.length_map]; omega, ?_⟩
    intro x hx
    obtain rfl := get_same hx hy
    conv => whnf
    intro hm2
    conv => whnf
    have hpre : ((bs.take k).flatMap BkX.xs).length + y.xs.length ≤ (bs.flatMap BkX.xs).length := by
      have e : bs.flatMap BkX.xs = (bs.take (k + 1)).flatMap BkX.xs ++ (bs.drop (k + 1)).flatMap BkX.xs := by rw [← List.flatMap_append, List.take_append_drop]
      rw [e, take_succ_get hy, List.flatMap_append]
      simp
    refine goLoop noStop noStop (fun m : Nat => .of [(0, .t (.ptr i 0)), (3, .arr 3), (4, .t (.int .i64 (k : Nat))), (12, .t (.int .i64 (bs.map BkX.tv).length)), (13, .t (.int .i64 (k : Nat))), (25, .t (.int .i64 (y.xs.map Cr.tv).length)), (26, .t (.int .i64 (m : Nat)))] [] [(3, some ⟨1, false, ((bs.take k).flatMap BkX.xs ++ y.xs.take m).map Cr.pt⟩)] H)
      (fun m => m ≤ y.xs.length) (fun m => y.xs.length - m) 0 (by simp) (.of ⟨rfl, rfl, rfl, rfl, rfl, rfl, rfl, trivial⟩ trivial ⟨by simp; rfl, trivial⟩ (fun _ => .inr rfl)) ?_
    intro m hm3
    conv => whnf
    constructor <;> intro h2
    · have hlt2 : m < y.xs.length := by have h2 : decide ((m : Int) < ((y.xs.map Cr.tv).length : Int)) = true := h2; have := of_decide_eq_true h2; rw [List.length_map] at this; omega
      obtain ⟨z, hz⟩ : ∃ z, y.xs[m]? = some z := ⟨_, List.getElem?_eq_getElem hlt2⟩
      conv => whnf
      refine ⟨_, hH, ?_⟩
      conv => whnf
      refine ⟨by omega, by rw [List.length_map]; omega, ?_⟩
      intro x hx
      obtain rfl := get_same hx hy
      conv => whnf
      refine ⟨by omega, by rw [List.length_map]; omega, ?_⟩
      intro x hx2
      obtain rfl := get_same hx2 hz
      conv => whnf
      have hle : ((bs.take k).flatMap BkX.xs ++ y.xs.take m).length + 1 ≤ 4000 := by rw [List.length_append, List.length_take]; omega
      have hap : ((bs.take k).flatMap BkX.xs ++ y.xs.take m).map Cr.pt ++ [z.pt] = ((bs.take k).flatMap BkX.xs ++ y.xs.take (m + 1)).map Cr.pt := by rw [take_succ_get hz]; simp
      refine ⟨by show ((((bs.take k).flatMap BkX.xs ++ y.xs.take m).map Cr.pt).length + 1) * 8 ≤ _; rw [List.length_map]; omega, by show (((bs.take k).flatMap BkX.xs ++ y.xs.take m).map Cr.pt).length + 1 ≤ _; rw [List.length_map]; omega, ?_⟩
      conv => whnf
      refine ⟨m + 1, by omega, by omega, .of ⟨rfl, rfl, rfl, rfl, rfl, rfl, ?_, trivial⟩ trivial ⟨?_, trivial⟩ (fun _ => .inr rfl)⟩
      · show SV.t (.int .i64 (IntKind.i64.wrap ((m : Int) + 1))) = _
        rw [wrap_i64 (by omega) (by omega)]; rfl
      · rw [← hap]; rfl
    · have hge2 : y.xs.length ≤ m := by have h2 : decide ((m : Int) < ((y.xs.map Cr.tv).length : Int)) = false := h2; have := of_decide_eq_false h2; rw [List.length_map] at this; omega
      conv => whnf
      have hap : (bs.take k).flatMap BkX.xs ++ y.xs.take m = (bs.take (k + 1)).flatMap BkX.xs := by rw [take_succ_get hy, List.take_of_length_le hge2]; simp
      refine ⟨k + 1, by omega, by omega, .of ⟨rfl, rfl, rfl, ?_, trivial⟩ trivial ⟨?_, trivial⟩ (fun _ => .inr rfl)⟩
      · show SV.t (.int .i64 (IntKind.i64.wrap ((k : Int) + 1))) = _
        rw [wrap_i64 (by omega) (by omega)]; rfl
      · rw [← hap]; rfl
  · have hge : bs.length ≤ k := by have h1 : decide ((k : Int) < ((bs.map BkX.tv).length : Int)) = false := h1; have := of_decide_eq_false h1; rw [List.length_map] at this; omega
    rw [List.take_of_length_le hge]
    conv => whnf
    refine ⟨_, hH, ?_⟩
    conv => whnf
    intro hm2
    conv => whnf
    refine goLoop noStop noStop (fun m : Nat => .of [(0, .t (.ptr i 0)), (3, .arr 3), (50, .t (.int .i64 (g.map Cr.tv).length)), (51, .t (.int .i64 (m : Nat)))] [] [(3, some ⟨1, false, (bs.flatMap BkX.xs ++ g.take m).map Cr.pt⟩)] H)
      (fun m => m ≤ g.length) (fun m => g.length - m) 0 (by simp) (.of ⟨rfl, rfl, rfl, rfl, trivial⟩ trivial ⟨by simp; rfl, trivial⟩ (fun _ => .inr rfl)) ?_
    intro m hm3
    conv => whnf
    constructor <;> intro h2
    · have hlt2 : m < g.length := by have h2 : decide ((m : Int) < ((g.map Cr.tv).length : Int)) = true := h2; have := of_decide_eq_true h2; rw [List.length_map] at this; omega
      obtain ⟨z, hz⟩ : ∃ z, g[m]? = some z := ⟨_, List.getElem?_eq_getElem hlt2⟩
      conv => whnf
      refine ⟨_, hH, ?_⟩
      conv => whnf
      refine ⟨by omega, by rw [List.length_map]; omega, ?_⟩
      intro x hx2
      obtain rfl := get_same hx2 hz
      conv => whnf
      have hap : (bs.flatMap BkX.xs ++ g.take m).map Cr.pt ++ [z.pt] = (bs.flatMap BkX.xs ++ g.take (m + 1)).map Cr.pt := by rw [take_succ_get hz]; simp
      have hle : (bs.flatMap BkX.xs ++ g.take m).length + 1 ≤ 4000 := by rw [List.length_append, List.length_take]; omega
      refine ⟨by show (((bs.flatMap BkX.xs ++ g.take m).map Cr.pt).length + 1) * 8 ≤ _; rw [List.length_map]; omega, by show ((bs.flatMap BkX.xs ++ g.take m).map Cr.pt).length + 1 ≤ _; rw [List.length_map]; omega, ?_⟩
      conv => whnf
      refine ⟨m + 1, by omega, by omega, .of ⟨rfl, rfl, rfl, ?_, trivial⟩ trivial ⟨?_, trivial⟩ (fun _ => .inr rfl)⟩
      · show SV.t (.int .i64 (IntKind.i64.wrap ((m : Int) + 1))) = _
        rw [wrap_i64 (by omega) (by omega)]; rfl
      · rw [← hap]; rfl
    · have hge2 : g.length ≤ m := by have h2 : decide ((m : Int) < ((g.map Cr.tv).length : Int)) = false := h2; have := of_decide_eq_false h2; rw [List.length_map] at this; omega
      rw [List.take_of_length_le hge2]
      conv => whnf
      exact ⟨rfl, rfl⟩
end Go.T
set_option linter.unusedVariables false
set_option linter.unusedSimpArgs false
namespace Go.T
open Go.Proofs Go.RowKit
/-! ### Each constraint has a name -/
section
variable {l : List Tok}
theorem variableP_vars {c : Cn} {p : Nat} {x : Cn × Nat} (h : variableP l c p = .ok x) : x.1.vars.length = c.vars.length + 1 := by
  unfold variableP at h
  cases h2 : nameP l p with
  | error k => rw [h2] at h; cases h
  | ok q => rw [h2] at h; cases h; simp
theorem variablesG_vars {least : Nat} {more : Bool} : ∀ (f : Nat) {n : Nat} {c : Cn} {p : Nat} {x : Cn × Nat}, variablesG l least more f n c p = .ok x → c.vars.length ≤ x.1.vars.length ∧ least ≤ n + (x.1.vars.length - c.vars.length)
  | 0, n, c, p, x, h => by simp [variablesG] at h
  | f + 1, n, c, p, x, h => by
    unfold variablesG at h
    split at h
    · cases h2 : variableP l c p with
      | error k => rw [h2] at h; cases h
      | ok y =>
        rw [h2] at h
        have h3 := variableP_vars h2
        have h4 := variablesG_vars f h
        omega
    · rename_i hc
      cases h
      simp only [Bool.or_eq_true, decide_eq_true_eq, not_or] at hc
      dsimp only
      omega
theorem sumG_vars : ∀ (f : Nat) {c : Cn} {p : Nat} {x : Cn × Nat}, sumG l f c p = .ok x → c.vars.length ≤ x.1.vars.length
  | 0, c, p, x, h => by simp [sumG] at h
  | f + 1, c, p, x, h => by
    unfold sumG at h
    split at h
    · cases h1 : signP l p with
      | error k => rw [h1, err_bind] at h; cases h
      | ok y =>
        rw [h1, ok_bind] at h
        dsimp only at h
        cases h2 : termP l y.1 c y.2 with
        | error k => rw [h2] at h; cases h
        | ok z =>
          rw [h2] at h
          have h3 := termP_ok h2
          have h4 := sumG_vars f h
          omega
    · cases h; exact Nat.le_refl _
theorem relP_vars {c : Cn} {p : Nat} {x : Cn × Nat} (h : relP l c p = .ok x) : x.1.vars = c.vars := by
  unfold relP at h
  split at h
  · cases h2 : numberP l (p + 1) with
    | error k => rw [h2] at h; cases h
    | ok y => rw [h2] at h; cases h; rfl
  · cases h
theorem sumP_vars {c : Cn} {p : Nat} {x : Cn × Nat} (h : sumP l c p = .ok x) : c.vars.length + 1 ≤ x.1.vars.length := by
  have key : ∀ {s : Int} {q : Nat}, (do
      let (c, p) ← termP l s c q
      let (c, p) ← sumG l 5000 c p
      relP l c p) = .ok x → c.vars.length + 1 ≤ x.1.vars.length := by
    intro s q h
    cases h1 : termP l s c q with
    | error k => rw [h1, err_bind] at h; cases h
    | ok y =>
      rw [h1, ok_bind] at h
      dsimp only at h
      cases h2 : sumG l 5000 y.1 y.2 with
      | error k => rw [h2, err_bind] at h; cases h
      | ok z =>
        rw [h2, ok_bind] at h
        have h3 := termP_ok h1
        have h4 := sumG_vars _ h2
        have h5 := relP_vars h
        rw [h5]
        omega
  unfold sumP at h
  split at h <;> exact key h
theorem conP_vars {upto p : Nat} {x : Cn × Nat} (h : conP l upto p = .ok x) : 1 ≤ x.1.vars.length := by
  unfold conP at h
  split at h
  · have := variablesG_vars _ h; omega
  split at h
  · cases h1 : variableP l { con0 upto with kind := 3 } (p + 1) with
    | error k => rw [h1, err_bind] at h; cases h
    | ok y => rw [h1, ok_bind] at h; have := sumP_vars h; omega
  have nums : ∀ {n : Nat} {m : Bool} {c : Cn} {k : Nat}, 1 ≤ n → (do
      let (c, p) ← variablesP l n m c (p + 1)
      numsP l k c p) = .ok x → 1 ≤ x.1.vars.length := by
    intro n m c k hn h
    cases h1 : variablesP l n m c (p + 1) with
    | error k => rw [h1, err_bind] at h; cases h
    | ok y =>
      rw [h1, ok_bind] at h
      unfold numsP at h
      have h3 := variablesG_vars _ h1
      cases h2 : numbersP l k y.2 with
      | error k => dsimp only at h; rw [h2] at h; cases h
      | ok z => dsimp only at h; rw [h2] at h; cases h; dsimp only; omega
  split at h
  · exact nums (by omega) h
  split at h
  · have := variablesG_vars _ h; omega
  split at h
  · exact nums (by omega) h
  · have := sumP_vars h; omega
def Named (c : Cn) : Prop := 1 ≤ c.vars.length
theorem listG_vars {upto : Nat} : ∀ (f : Nat) {acc : List Cn} {p : Nat} {x : List Cn × Nat}, listG l upto f acc p = .ok x → (∀ c, c ∈ acc → Named c) → ∀ c, c ∈ x.1 → Named c
  | 0, acc, p, x, h, ha => by simp [listG] at h
  | f + 1, acc, p, x, h, ha => by
    unfold listG at h
    split at h
    · cases h2 : conP l upto (p + 1) with
      | error k => rw [h2] at h; cases h
      | ok y =>
        rw [h2] at h
        refine listG_vars f h fun c hc => ?_
        rcases List.mem_append.1 hc with h1 | h1
        · exact ha c h1
        · rw [List.mem_singleton.1 h1]; exact conP_vars h2
    · cases h; exact ha
theorem listP_vars {upto p : Nat} {x : List Cn × Nat} (h : listP l upto p = .ok x) : ∀ c, c ∈ x.1 → Named c := by
  unfold listP at h
  split at h
  · cases h; intro c hc; cases hc
  · cases h2 : conP l upto p with
    | error k => rw [h2, err_bind] at h; cases h
    | ok y =>
      rw [h2, ok_bind] at h
      refine listG_vars _ h fun c hc => ?_
      rw [List.mem_singleton.1 hc]; exact conP_vars h2
theorem blockP_vars {n p : Nat} {x : Bk × Nat} (h : blockP l n p = .ok x) : ∀ c, c ∈ x.1.cons → Named c := by
  unfold blockP at h
  cases h1 : quantP l p with
  | error k => rw [h1] at h; cases h
  | ok a =>
    rw [h1, ok_bind] at h
    dsimp only at h
    cases h2 : declP l a.2 with
    | error k => rw [h2] at h; cases h
    | ok d =>
      rw [h2, ok_bind] at h
      cases h3 : declsG l 5000 [d.1] d.2 with
      | error k => rw [h3] at h; cases h
      | ok ds =>
        rw [h3, ok_bind] at h
        cases h4 : whereP l (n + ds.1.length) ds.2 with
        | error k => rw [h4] at h; cases h
        | ok cs =>
          rw [h4, ok_bind] at h
          cases h5 : mustP l [59] cs.2 with
          | error k => rw [h5] at h; cases h
          | ok q =>
            rw [h5] at h; cases h
            unfold whereP at h4
            split at h4
            · exact listP_vars h4
            · cases h4; intro c hc; cases hc
theorem blocksG_vars : ∀ (f : Nat) {acc : List Bk} {p : Nat} {x : List Bk × Nat}, blocksG l f acc p = .ok x → (∀ b, b ∈ acc → ∀ c, c ∈ b.cons → Named c) → ∀ b, b ∈ x.1 → ∀ c, c ∈ b.cons → Named c
  | 0, acc, p, x, h, ha => by simp [blocksG] at h
  | f + 1, acc, p, x, h, ha => by
    unfold blocksG at h
    cases h2 : blockP l (uptoB acc) p with
    | error k => rw [h2] at h; cases h
    | ok y =>
      rw [h2] at h
      dsimp only at h
      have hb : ∀ b, b ∈ acc ++ [y.1] → ∀ c, c ∈ b.cons → Named c := fun b hb => by
        rcases List.mem_append.1 hb with h1 | h1
        · exact ha b h1
        · rw [List.mem_singleton.1 h1]; exact blockP_vars h2
      split at h
      · cases h; exact hb
      · exact blocksG_vars f h hb
theorem allP_vars {p : Nat} {x : Md × Nat} (h : allP l p = .ok x) : (∀ b, b ∈ x.1.blocks → ∀ c, c ∈ b.cons → Named c) ∧ ∀ c, c ∈ x.1.goal → Named c := by
  unfold allP at h
  cases h1 : blocksG l 5000 [] p with
  | error k => rw [h1] at h; cases h
  | ok a =>
    rw [h1, ok_bind] at h
    dsimp only at h
    cases h2 : mustP l kGoal a.2 with
    | error k => rw [h2] at h; cases h
    | ok q =>
      rw [h2, ok_bind] at h
      cases h3 : listP l (uptoB a.1) q with
      | error k => rw [h3] at h; cases h
      | ok g =>
        rw [h3, ok_bind] at h
        cases h4 : mustP l [59] g.2 with
        | error k => rw [h4] at h; cases h
        | ok q2 =>
          rw [h4, ok_bind] at h
          split at h
          · cases h
          · cases h
            exact ⟨blocksG_vars _ h1 (fun b hb => by cases hb), listP_vars h3⟩
end
/-! ### All constraints, each with how many variables there are -/
def uconsB : Nat → List BkX → List (Cr × Nat)
  | _, [] => []
  | n, y :: bs => y.xs.map (·, n + y.b.vars.length) ++ uconsB (n + y.b.vars.length) bs
def ucons (bs : List BkX) (g : List Cr) : List (Cr × Nat) := uconsB 0 bs ++ g.map (·, (namesB bs).length)
theorem uconsB_fst : ∀ (n : Nat) (bs : List BkX), (uconsB n bs).map Prod.fst = bs.flatMap BkX.xs
  | n, [] => rfl
  | n, y :: bs => by rw [uconsB, List.map_append, uconsB_fst]; simp [Function.comp_def]
theorem ucons_fst (bs : List BkX) (g : List Cr) : (ucons bs g).map Prod.fst = bs.flatMap BkX.xs ++ g := by
  rw [ucons, List.map_append, uconsB_fst]; simp [Function.comp_def]
def useOf (l : List Tk) (q : Cr × Nat) : List TV := q.1.c.vars.map (Nm.use l q.2)
theorem usesOf_eq (l : List Tk) (n : Nat) (xs : List Cr) : usesOf l n xs = (xs.map (·, n)).flatMap (useOf l) := by
  induction xs with
  | nil => rfl
  | cons x xs ih => rw [List.map_cons, List.flatMap_cons, ← ih]; simp [usesOf, useOf]
theorem usesB_eq (l : List Tk) : ∀ (n : Nat) (bs : List BkX), usesB l n bs = (uconsB n bs).flatMap (useOf l)
  | n, [] => rfl
  | n, y :: bs => by rw [usesB, uconsB, List.flatMap_append, usesB_eq, usesOf_eq]
theorem uses_eq (l : List Tk) (bs : List BkX) (g : List Cr) : usesB l 0 bs ++ usesOf l (namesB bs).length g = (ucons bs g).flatMap (useOf l) := by
  rw [ucons, List.flatMap_append, usesB_eq, usesOf_eq]
theorem uconsB_le : ∀ (n : Nat) (bs : List BkX) (q : Cr × Nat), q ∈ uconsB n bs → q.2 ≤ n + (namesB bs).length
  | n, [], q, h => by cases h
  | n, y :: bs, q, h => by
    rw [show y :: bs = [y] ++ bs from rfl, namesB_append, namesB_one]
    simp only [List.length_append, List.length_map]
    rcases List.mem_append.1 h with h1 | h1
    · obtain ⟨x, _, rfl⟩ := List.mem_map.1 h1
      dsimp only; omega
    · have := uconsB_le _ bs q h1
      omega
theorem ucons_le (bs : List BkX) (g : List Cr) (q : Cr × Nat) (h : q ∈ ucons bs g) : q.2 ≤ (namesB bs).length := by
  rcases List.mem_append.1 h with h1 | h1
  · have := uconsB_le 0 bs q h1; omega
  · obtain ⟨x, _, rfl⟩ := List.mem_map.1 h1
    exact Nat.le_refl _
/-- The number of a name's variable; below 0: there is none. -/
def valOf (V : List (List UInt8)) (n : Nat) (x : Nm) : Int := idx (V.take n) x.name 0
/-- The first name that is no variable. -/
def badIn (V : List (List UInt8)) (n : Nat) (xs : List Nm) : Option Nm := xs.find? fun x => decide (valOf V n x < 0)
def resolveU (V : List (List UInt8)) : List (Cr × Nat) → Option Nm
  | [] => none
  | q :: U => match badIn V q.2 q.1.c.vars with
    | some x => some x
    | none => resolveU V U
/-- What an array of variables holds of which so many are resolved. -/
def part (V : List (List UInt8)) (n : Nat) (xs : List Nm) (d : Nat) : List TV := (xs.take d).map (fun x => .int .i64 (valOf V n x)) ++ zeros (xs.length - d)
theorem part_length (V : List (List UInt8)) (n : Nat) (xs : List Nm) {d : Nat} (h : d ≤ xs.length) : (part V n xs d).length = xs.length := by
  simp [part, zeros]; omega
theorem part_set (V : List (List UInt8)) (n : Nat) (xs : List Nm) {d : Nat} {x : Nm} (h : xs[d]? = some x) : (part V n xs d).set d (.int .i64 (valOf V n x)) = part V n xs (d + 1) := by
  have hlt : d < xs.length := by
    rcases Nat.lt_or_ge d xs.length with h' | h'
    · exact h'
    · simp [List.getElem?_eq_none h'] at h
  have h1 : ((xs.take d).map (fun x => TV.int .i64 (valOf V n x))).length = d := by simp; omega
  have h2 : zeros (xs.length - d) = .int .i64 0 :: zeros (xs.length - (d + 1)) := by
    rw [show xs.length - d = (xs.length - (d + 1)) + 1 by omega]
    simp [zeros, List.replicate_succ]
  rw [part, h2, List.set_append, if_neg (by omega), h1, Nat.sub_self, List.set_cons_zero, part, take_succ_get h]
  simp
theorem part_get (V : List (List UInt8)) (n : Nat) (xs : List Nm) {d : Nat} {x : Nm} (h : xs[d]? = some x) : (part V n xs (d + 1))[d]? = some (.int .i64 (valOf V n x)) := by
  have hlt : d < xs.length := by
    rcases Nat.lt_or_ge d xs.length with h' | h'
    · exact h'
    · simp [List.getElem?_eq_none h'] at h
  rw [part, List.getElem?_append_left (by simp; omega), List.getElem?_map, List.getElem?_take, if_pos (by omega), h]
  rfl
/-- How far the arrays are resolved. -/
structure RS (H0 : Nat → Option RObj) (U : List (Cr × Nat)) (V : List (List UInt8)) (k j : Nat) (H : Nat → Option RObj) : Prop where
  at_ : ∀ (q : Nat) (x : Cr × Nat), U[q]? = some x → H x.1.r = some (.arr 1 x.1.cap (part V x.2 x.1.c.vars (if q < k then x.1.c.vars.length else if q = k then j else 0)))
  fr : ∀ y, (∀ x, x ∈ U → y ≠ x.1.r) → H y = H0 y
theorem RS.start {H0 : Nat → Option RObj} {U : List (Cr × Nat)} {V : List (List UInt8)} (h : ∀ x, x ∈ U → H0 x.1.r = some (.arr 1 x.1.cap (zeros x.1.c.vars.length))) : RS H0 U V 0 0 H0 :=
  ⟨fun q x hx => by rw [h x (List.mem_of_getElem? hx)]; simp [part], fun _ _ => rfl⟩
/-- One more is resolved. -/
theorem RS.set {H0 : Nat → Option RObj} {U : List (Cr × Nat)} {V : List (List UInt8)} {k j : Nat} {H : Nat → Option RObj} (h : RS H0 U V k j H) (ap : (U.map Prod.fst).Pairwise (fun x y => x.r ≠ y.r)) {x : Cr × Nat} (hx : U[k]? = some x) :
    RS H0 U V k (j + 1) (upd H x.1.r (some (.arr 1 x.1.cap (part V x.2 x.1.c.vars (j + 1))))) := by
  refine ⟨fun q y hy => ?_, fun y hy => ?_⟩
  · by_cases e : q = k
    · subst e
      rw [hx] at hy; cases hy
      rw [upd_same, if_neg (by omega), if_pos rfl]
    · have hne : y.1.r ≠ x.1.r := by
        have ap' := List.pairwise_iff_getElem.1 ap
        obtain ⟨h1, rfl⟩ := List.getElem?_eq_some_iff.1 hx
        obtain ⟨h2, rfl⟩ := List.getElem?_eq_some_iff.1 hy
        rcases Nat.lt_or_gt_of_ne e with h3 | h3
        · have := ap' q k (by simpa using h2) (by simpa using h1) h3
          simpa using this
        · have := ap' k q (by simpa using h1) (by simpa using h2) h3
          simpa using this.symm
      rw [upd_ne _ _ hne, h.at_ q y hy, if_neg e, if_neg e]
  · rw [upd_ne _ _ (hy x (List.mem_of_getElem? hx))]
    exact h.fr y hy
theorem RS.next {H0 : Nat → Option RObj} {U : List (Cr × Nat)} {V : List (List UInt8)} {k : Nat} {x : Cr × Nat} {H : Nat → Option RObj} (h : RS H0 U V k x.1.c.vars.length H) (hx : U[k]? = some x) : RS H0 U V (k + 1) 0 H := by
  refine ⟨fun q y hy => ?_, h.fr⟩
  rw [h.at_ q y hy]
  by_cases e : q = k
  · subst e
    rw [hx] at hy; cases hy
    rw [if_neg (by omega), if_pos rfl, if_pos (by omega)]
  · by_cases e2 : q < k
    · rw [if_pos e2, if_pos (by omega)]
    · rw [if_neg e2, if_neg e, if_neg (by omega), ite_self]
end Go.T
set_option linter.unusedVariables false
set_option linter.unusedSimpArgs false
namespace Go.T
open Go.Proofs Go.RowKit
variable {Ev : Env} {H : Nat → Option RObj}
theorem drop_flat {α β : Type} {f : α → List β} {l : List α} {k : Nat} {x : α} (h : l[k]? = some x) : (l.drop k).flatMap f = f x ++ (l.drop (k + 1)).flatMap f := by
  rw [drop_get h, List.flatMap_cons]
theorem resolveU_none {V : List (List UInt8)} {U : List (Cr × Nat)} {k : Nat} {x : Cr × Nat} (hx : U[k]? = some x) (hb : badIn V x.2 x.1.c.vars = none) : resolveU V (U.drop k) = resolveU V (U.drop (k + 1)) := by
  rw [drop_get hx, resolveU, hb]
theorem badIn_drop {V : List (List UInt8)} {n : Nat} {xs : List Nm} {j : Nat} {x : Nm} (hx : xs[j]? = some x) : badIn V n (xs.drop j) = if valOf V n x < 0 then some x else badIn V n (xs.drop (j + 1)) := by
  rw [drop_get hx, badIn, List.find?_cons]
  by_cases h : valOf V n x < 0
  · simp [h]
  · simp [h, badIn]
theorem c_resolve (i : Nat) (l : List Tk) (p : Nat) (e : Int) (bs : List BkX) (g : List Cr) (H0 : Nat → Option RObj) (hH : H i = some (pcell l p e (.own 3 (bs.map BkX.tv)) (.own 6 (g.map Cr.tv)) (namesB bs) (usesB l 0 bs ++ usesOf l (namesB bs).length g)))
    (hb : (ucons bs g).length ≤ 4000) (hu : ((ucons bs g).flatMap (useOf l)).length ≤ 4000) (hV : (namesB bs).length ≤ 4000)
    (har : ∀ x, x ∈ ucons bs g → H x.1.r = some (.arr 1 x.1.cap (zeros x.1.c.vars.length))) (ap : ((ucons bs g).map Prod.fst).Pairwise (fun x y => x.r ≠ y.r)) :
    TCalls Tryz.prog Ev 13 [.ptr i 0] H fun o H' => match resolveU (namesB bs) (ucons bs g) with
      | some x => o = .ret (.t (.int .i64 (l.getD x.ix ⟨0, [], 0, 0⟩).pos))
      | none => o = .ret (.t (.int .i64 (-1))) ∧ RS H (ucons bs g) (namesB bs) (ucons bs g).length 0 H' := by
  have hcons : (ucons bs g).map (fun x => x.1.pt) = (bs.flatMap BkX.xs ++ g).map Cr.pt := by rw [← ucons_fst, List.map_map]; rfl
  have hlen2 : (bs.flatMap BkX.xs ++ g).length = (ucons bs g).length := by rw [← ucons_fst, List.length_map]
  have hnn : ∀ x, x ∈ ucons bs g → x.2 ≤ (namesB bs).length := ucons_le bs g
  have hci := c_cons (Ev := Ev) i l p e bs g (namesB bs) _ hH (by omega)
  rw [← hcons] at hci
  rw [uses_eq] at hH
  generalize ucons bs g = U at *
  generalize namesB bs = V at *
  generalize hr : resolveU V U = r0
  refine go noStop noStop Tryz.func13 rfl (by kernel_rfl) rfl ?_
  conv => whnf
  refine ⟨_, hH, ?_⟩
  conv => whnf
  refine hci.use ?_
  conv => whnf
  intro hm
  conv => whnf
  have hi : ∀ x, x ∈ U → i ≠ x.1.r := fun x hx e => by rw [e, har x hx] at hH; cases hH
  refine goLoop noStop noStop (fun s : Nat × (Nat → Option RObj) => .of [(0, .t (.ptr i 0)), (3, .t (.sl 3 ((U.drop s.1).flatMap (useOf l)))), (13, .arr 13), (14, .t (.int .i64 (U.map (fun x => x.1.pt)).length)), (15, .t (.int .i64 (s.1 : Nat)))] [] [(13, some ⟨1, true, U.map (fun x => x.1.pt)⟩)] s.2)
    (fun s => s.1 ≤ U.length ∧ RS H U V s.1 0 s.2 ∧ r0 = resolveU V (U.drop s.1)) (fun s => U.length - s.1) (0, H) ⟨by simp, .start har, hr.symm⟩ (.of ⟨rfl, rfl, rfl, rfl, rfl, trivial⟩ trivial ⟨rfl, trivial⟩ (fun _ => .inr rfl)) ?_
  rintro ⟨k, H1⟩ ⟨h1, h2, h3⟩
  dsimp only at h1 h2 h3
  have hUl : (U.map (fun x => x.1.pt)).length = U.length := List.length_map ..
  conv => whnf
  constructor <;> intro h4
  · have hlt : k < U.length := by have h4 : decide ((k : Int) < ((U.map (fun x => x.1.pt)).length : Int)) = true := h4; have := of_decide_eq_true h4; omega
    obtain ⟨u, hk⟩ : ∃ u, U[k]? = some u := ⟨_, List.getElem?_eq_getElem hlt⟩
    have humem := List.mem_of_getElem? hk
    conv => whnf
    refine ⟨by omega, by show (k : Int) < ((U.map (fun x => x.1.pt)).length : Int); omega, ?_⟩
    conv => whnf
    refine ⟨by show (k : Int).toNat < (U.map (fun x => x.1.pt)).length; omega, ?_⟩
    intro x hx
    obtain rfl := get_same hx hk
    conv => whnf
    intro hm3
    conv => whnf
    have hrest : (U.drop k).flatMap (useOf l) = (u.1.c.vars.drop 0).map (Nm.use l u.2) ++ (U.drop (k + 1)).flatMap (useOf l) := drop_flat hk
    have hleu : (useOf l u).length ≤ 4000 := by
      have e1 : U.flatMap (useOf l) = (U.take k).flatMap (useOf l) ++ ((useOf l u) ++ (U.drop (k + 1)).flatMap (useOf l)) := by rw [← drop_flat hk, ← List.flatMap_append, List.take_append_drop]
      rw [e1] at hu
      simp only [List.length_append] at hu
      omega
    have hleu2 : u.1.c.vars.length ≤ 4000 := by rw [useOf, List.length_map] at hleu; exact hleu
    refine goLoop noStop noStop (fun s : Nat × (Nat → Option RObj) => .of [(0, .t (.ptr i 0)), (3, .t (.sl 3 ((u.1.c.vars.drop s.1).map (Nm.use l u.2) ++ (U.drop (k + 1)).flatMap (useOf l)))), (5, .t u.1.pt), (13, .arr 13), (14, .t (.int .i64 (U.map (fun x => x.1.pt)).length)), (15, .t (.int .i64 (k : Nat))), (23, .t (.int .i64 u.1.c.vars.length)), (24, .t (.int .i64 (s.1 : Nat)))] [] [(13, some ⟨1, true, U.map (fun x => x.1.pt)⟩)] s.2)
      (fun s => s.1 ≤ u.1.c.vars.length ∧ RS H U V k s.1 s.2 ∧ r0 = (match badIn V u.2 (u.1.c.vars.drop s.1) with
        | some x => some x
        | none => resolveU V (U.drop (k + 1)))) (fun s => u.1.c.vars.length - s.1) (0, H1) ⟨by simp, h2, by rw [h3, drop_get hk, resolveU]; rfl⟩ (.of ⟨rfl, by rw [← hrest]; rfl, rfl, rfl, rfl, rfl, rfl, rfl, trivial⟩ trivial ⟨rfl, trivial⟩ (fun _ => .inr rfl)) ?_
    rintro ⟨j, H2⟩ ⟨g1, g2, g3⟩
    dsimp only at g1 g2 g3
    conv => whnf
    constructor <;> intro g4
    · have hltj : j < u.1.c.vars.length := by have g4 : decide ((j : Int) < (u.1.c.vars.length : Int)) = true := g4; have := of_decide_eq_true g4; omega
      obtain ⟨x, hx⟩ : ∃ x, u.1.c.vars[j]? = some x := ⟨_, List.getElem?_eq_getElem hltj⟩
      have hd : (u.1.c.vars.drop j).map (Nm.use l u.2) ++ (U.drop (k + 1)).flatMap (useOf l) = Nm.use l u.2 x :: ((u.1.c.vars.drop (j + 1)).map (Nm.use l u.2) ++ (U.drop (k + 1)).flatMap (useOf l)) := by rw [drop_get hx]; rfl
      rw [hd]
      conv => whnf
      refine ⟨by omega, by simp; omega, ?_⟩
      intro y hy
      obtain rfl : Nm.use l u.2 x = y := by simpa using hy
      conv => whnf
      refine ⟨by omega, by simp; omega, by omega, by omega, ?_⟩
      conv => whnf
      have hHi : H2 i = some (pcell l p e (.own 3 (bs.map BkX.tv)) (.own 6 (g.map Cr.tv)) V (U.flatMap (useOf l))) := (g2.fr i hi).trans hH
      have hn := hnn u humem
      have hVl : (V.map TV.str).length = V.length := List.length_map ..
      have hargs : ((V.map TV.str).take ((u.2 : Nat) : Int).toNat).drop (0 : Int).toNat = (V.take u.2).map TV.str := by simp
      have rest1 : SV.t (.sl 3 (((Nm.use l u.2 x :: ((u.1.c.vars.drop (j + 1)).map (Nm.use l u.2) ++ (U.drop (k + 1)).flatMap (useOf l))).take ((Nm.use l u.2 x :: ((u.1.c.vars.drop (j + 1)).map (Nm.use l u.2) ++ (U.drop (k + 1)).flatMap (useOf l))).length : Int).toNat).drop (1 : Int).toNat)) = SV.t (.sl 3 ((u.1.c.vars.drop (j + 1)).map (Nm.use l u.2) ++ (U.drop (k + 1)).flatMap (useOf l))) := by
        rw [Int.toNat_natCast, List.take_of_length_le (Nat.le_refl _)]; rfl
      have hidx : ∀ H, Ret Tryz.prog Ev 35 [.sl 1 (((V.map TV.str).take ((u.2 : Nat) : Int).toNat).drop (0 : Int).toNat), .str x.name] H (.t (.int .i64 (valOf V u.2 x))) := fun H => by rw [hargs]; exact c_index _ _
      have hat : H2 u.1.r = some (.arr 1 u.1.cap (part V u.2 u.1.c.vars j)) := by
        have := g2.at_ k u hk
        rwa [if_neg (by omega), if_pos rfl] at this
      refine goDrawTo noStop [0, 1, 2, 4, 5, 6, 7, 8, 9, 10, 11, 12, 13, 15] (.first 0 false (.first 1 false (.first 2 false (.first 4 false (.first 5 false (.first 6 false (.first 7 false (.first 9 false (.first 12 false (.first 8 true (.first 10 true (.first 11 false (.first 13 true (.alt 3 (.alt 14 (.first 15 false (.alt 16 .fin .noalt)) .noalt) (.alt 14 (.alt 3 (.first 15 false (.alt 16 .fin .noalt)) .noalt) .noalt))))))))))))))) (by kernel_rfl) (by kernel_rfl) (fun _ : Unit => .of [(0, .t (.ptr i 0)), (3, .t (.sl 3 ((u.1.c.vars.drop (j + 1)).map (Nm.use l u.2) ++ (U.drop (k + 1)).flatMap (useOf l)))), (5, .t u.1.pt), (6, .t (.int .i64 (j : Nat))), (7, .lp 7 0), (13, .arr 13), (14, .t (.int .i64 (U.map (fun x => x.1.pt)).length)), (15, .t (.int .i64 (k : Nat))), (23, .t (.int .i64 u.1.c.vars.length)), (24, .t (.int .i64 (j : Nat)))]
        [(7, some (.cells [.v (.str x.name), .v (.int .i64 (l.getD x.ix ⟨0, [], 0, 0⟩).pos), .v (.int .i64 u.2)]))] [(13, some ⟨1, true, U.map (fun x => x.1.pt)⟩)] (upd H2 u.1.r (some (.arr 1 u.1.cap (part V u.2 u.1.c.vars (j + 1)))))) (fun _ => True) ?_ ?_
      · conv => whnf
        refine ⟨_, hHi, ?_⟩
        conv => whnf
        refine ⟨by omega, by omega, by omega, by omega, ?_⟩
        conv => whnf
        refine ⟨?_, ?_, trivial⟩
        · conv => whnf
          refine ⟨?_, trivial⟩
          conv => whnf
          refine (hidx _).use ?_
          conv => whnf
          refine ⟨by omega, by show (j : Int) < (u.1.c.vars.length : Int); omega, ?_⟩
          conv => whnf
          refine ⟨⟨_, _, hat, ?_⟩, trivial⟩
          conv => whnf
          refine ⟨by show (j : Int).toNat < _; rw [part_length _ _ _ g1]; omega, ?_⟩
          conv => whnf
          refine ⟨(), trivial, .of ⟨rfl, rest1, rfl, rfl, rfl, rfl, rfl, rfl, rfl, rfl, trivial⟩ ⟨rfl, trivial⟩ ⟨rfl, trivial⟩ (fun y => .inr ?_)⟩
          show upd H2 u.1.r (some (.arr 1 u.1.cap ((part V u.2 u.1.c.vars j).set (j : Int).toNat (.int .i64 (valOf V u.2 x))))) y = _
          rw [Int.toNat_natCast, part_set _ _ _ hx]
        · conv => whnf
          refine (hidx _).use ?_
          conv => whnf
          refine ⟨?_, trivial⟩
          conv => whnf
          refine ⟨by omega, by show (j : Int) < (u.1.c.vars.length : Int); omega, ?_⟩
          conv => whnf
          refine ⟨⟨_, _, hat, ?_⟩, trivial⟩
          conv => whnf
          refine ⟨by show (j : Int).toNat < _; rw [part_length _ _ _ g1]; omega, ?_⟩
          conv => whnf
          refine ⟨(), trivial, .of ⟨rfl, rest1, rfl, rfl, rfl, rfl, rfl, rfl, rfl, rfl, trivial⟩ ⟨rfl, trivial⟩ ⟨rfl, trivial⟩ (fun y => .inr ?_)⟩
          show upd H2 u.1.r (some (.arr 1 u.1.cap ((part V u.2 u.1.c.vars j).set (j : Int).toNat (.int .i64 (valOf V u.2 x))))) y = _
          rw [Int.toNat_natCast, part_set _ _ _ hx]
      · rintro _ _
        have hg2 := g2.set ap hk
        have hat2 : upd H2 u.1.r (some (.arr 1 u.1.cap (part V u.2 u.1.c.vars (j + 1)))) u.1.r = some (.arr 1 u.1.cap (part V u.2 u.1.c.vars (j + 1))) := upd_same _ _ _
        rw [badIn_drop hx] at g3
        conv => whnf
        refine ⟨by omega, by show (j : Int) < (u.1.c.vars.length : Int); omega, ?_⟩
        conv => whnf
        refine ⟨_, _, hat2, ?_⟩
        refine ⟨by show (j : Int).toNat < _; rw [part_length _ _ _ (by omega)]; omega, ?_⟩
        intro y hy
        obtain rfl : y = .int .i64 (valOf V u.2 x) := by
          rw [Int.toNat_natCast, part_get _ _ _ hx] at hy
          exact (Option.some.inj hy).symm
        conv => whnf
        constructor <;> intro g5
        · have g5' : valOf V u.2 x < 0 := of_decide_eq_true g5
          rw [if_pos g5'] at g3
          dsimp only at g3
          subst g3
          conv => whnf
        · have g5' : ¬ valOf V u.2 x < 0 := of_decide_eq_false g5
          rw [if_neg g5'] at g3
          conv => whnf
          refine ⟨(j + 1, _), ⟨by dsimp only; omega, hg2, g3⟩, by dsimp only; omega, .of ⟨rfl, rfl, rfl, rfl, rfl, rfl, rfl, ?_, trivial⟩ trivial ⟨rfl, trivial⟩ (fun _ => .inr rfl)⟩
          show SV.t (.int .i64 (IntKind.i64.wrap ((j : Int) + 1))) = _
          rw [wrap_i64 (by omega) (by omega)]; rfl
    · have hgej : u.1.c.vars.length ≤ j := by have g4 : decide ((j : Int) < (u.1.c.vars.length : Int)) = false := g4; have := of_decide_eq_false g4; omega
      obtain rfl : j = u.1.c.vars.length := by omega
      conv => whnf
      rw [List.drop_eq_nil_of_le (Nat.le_refl _)] at g3
      refine ⟨(k + 1, H2), ⟨by dsimp only; omega, g2.next hk, g3⟩, by dsimp only; omega, .of ⟨rfl, ?_, rfl, rfl, ?_, trivial⟩ trivial ⟨rfl, trivial⟩ (fun _ => .inr rfl)⟩
      · show SV.t (.sl 3 ((u.1.c.vars.drop u.1.c.vars.length).map (Nm.use l u.2) ++ (U.drop (k + 1)).flatMap (useOf l))) = _
        rw [List.drop_eq_nil_of_le (Nat.le_refl _)]
        rfl
      · show SV.t (.int .i64 (IntKind.i64.wrap ((k : Int) + 1))) = _
        rw [wrap_i64 (by omega) (by omega)]; rfl
  · have hge : U.length ≤ k := by have h4 : decide ((k : Int) < ((U.map (fun x => x.1.pt)).length : Int)) = false := h4; have := of_decide_eq_false h4; omega
    obtain rfl : k = U.length := by omega
    rw [List.drop_eq_nil_of_le (Nat.le_refl _), resolveU] at h3
    subst h3
    conv => whnf
    exact ⟨rfl, h2⟩
end Go.T
set_option linter.unusedVariables false
namespace Go.T
structure ConD where
  kind : Int
  vars : List Int
  coefs : List Int
  rel : Int
  const : Int
  nums : List Int
  deriving DecidableEq
structure DeclD where
  name : List UInt8
  dom : List (Int × Int)
  deriving DecidableEq
structure BlockD where
  all : Bool
  vars : List DeclD
  cons : List ConD
  deriving DecidableEq
structure ModelD where
  blocks : List BlockD
  goal : List ConD
  deriving DecidableEq
def ConD.tv (c : ConD) : TV := .agg [.int .i64 c.kind, .sl 1 (ints c.vars), .sl 1 (ints c.coefs), .int .i64 c.rel, .int .i64 c.const, .sl 1 (ints c.nums)]
def DeclD.tv (d : DeclD) : TV := .agg [.str d.name, .sl 2 (d.dom.map spanTV)]
def BlockD.tv (b : BlockD) : TV := .agg [.bool b.all, .sl 2 (b.vars.map DeclD.tv), .sl 6 (b.cons.map ConD.tv)]
def ModelD.tv (m : ModelD) : TV := .agg [.sl 3 (m.blocks.map BlockD.tv), .sl 6 (m.goal.map ConD.tv)]
def setText : List UInt8 := [97, 98, 99, 100, 101, 102, 103, 104, 105, 106, 107, 108, 109, 110, 111, 112, 113, 114, 115, 116, 117, 118, 119, 120, 121, 122, 48, 49, 50, 51, 52, 53, 54, 55, 56, 57, 95]
/-- May a name be? -/
def nameM (s : List UInt8) : Bool :=
  !(s == []) && !decide (s.length > 12) && !decide (((s.getD 0 0).toNat : Int) < 97) && !decide (((s.getD 0 0).toNat : Int) > 122) && !Lib.contains kwText (([32] ++ s) ++ [32]) && (Lib.trimS s setText == [])
def farM (most n : Int) : Bool := decide (n < -most) || decide (n > most)
def withinM (l : List Int) (most : Int) : Bool := !l.any (farM most)
/-- The place of a number in a list. -/
def idxI (l : List Int) (x : Int) (i : Nat) : Int :=
  match l with
  | [] => -1
  | y :: l => if x == y then i else idxI l x (i + 1)
def hasI (l : List Int) (x : Int) : Bool := decide (idxI l x 0 ≥ 0)
def varsG (vars : Int) (l : List Int) : List Int → Nat → Bool
  | [], _ => true
  | v :: r, i => !(decide (v < 0) || decide (v ≥ vars) || hasI (l.take i) v) && varsG vars l r (i + 1)
def variablesM (c : ConD) (vars least most : Int) : Bool := !decide ((c.vars.length : Int) < least) && !decide ((c.vars.length : Int) > most) && varsG vars c.vars c.vars 0
def sumM (c : ConD) (but : Int) : Bool :=
  ((c.coefs.length : Int) == (c.vars.length : Int) - but) && withinM c.coefs 1048576 && !hasI c.coefs 0 && decide (c.rel ≥ 0) && decide (c.rel ≤ 5) && withinM [c.const] 1099511627776 && ((c.nums.length : Int) == 0)
def bareM (c : ConD) (least most : Int) : Bool :=
  ((c.coefs.length : Int) == 0) && (c.rel == 0) && (c.const == 0) && decide ((c.nums.length : Int) ≥ least) && decide ((c.nums.length : Int) ≤ most) && withinM c.nums 1048576
def linearM (c : ConD) (vars : Int) : Bool := variablesM c vars 1 8 && sumM c 0
def productM (c : ConD) (vars : Int) : Bool := variablesM c vars 3 3 && bareM c 0 0
def iffM (c : ConD) (vars : Int) : Bool := variablesM c vars 2 9 && sumM c 1
def elementM (c : ConD) (vars : Int) : Bool := variablesM c vars 2 2 && bareM c 1 96
def differM (c : ConD) (vars : Int) : Bool := variablesM c vars 2 8 && bareM c 0 0
def tableM (c : ConD) (vars : Int) : Bool := variablesM c vars 1 8 && bareM c 0 96 && ((c.nums.length : Int).tmod c.vars.length == 0)
/-- May a constraint of so many variables be? -/
def rightM (c : ConD) (vars : Int) : Bool :=
  if c.kind = 1 then linearM c vars else if c.kind = 2 then productM c vars else if c.kind = 3 then iffM c vars else if c.kind = 4 then elementM c vars else if c.kind = 5 then differM c vars else if c.kind = 6 then tableM c vars else false
/-- Is a list of spans right? -/
def spansG : Option Int → List (Int × Int) → Bool
  | _, [] => true
  | last, s :: l => !(decide (s.1 > s.2) || decide (s.1 < -1048576) || decide (s.2 > 1048576) || (match last with
    | some h => decide (s.1 ≤ h + 1)
    | none => false)) && spansG (some s.2) l
def spansM (l : List (Int × Int)) : Bool := spansG none l
def sizeG (l : List (Int × Int)) : Int := l.foldl (fun n s => n + (s.2 - s.1 + 1)) 0
def sizeM (l : List (Int × Int)) : Int := if spansM l then sizeG l else 0
def varsM (m : ModelD) : List DeclD := m.blocks.flatMap BlockD.vars
def endsG : Nat → List BlockD → List Int
  | _, [] => []
  | n, b :: l => ((n + b.vars.length : Nat) : Int) :: endsG (n + b.vars.length) l
def endsM (m : ModelD) : List Int := endsG 0 m.blocks
def bigM (m : ModelD) : Bool := decide ((m.blocks.length : Int) > 8) || decide (((varsM m).length : Int) > 16) || decide ((m.goal.length : Int) > 16) || m.blocks.any (fun b => decide ((b.cons.length : Int) > 16))
def wrongG : Nat → List BlockD → Bool
  | _, [] => false
  | n, b :: l => b.cons.any (fun c => !rightM c ((n + b.vars.length : Nat) : Int)) || wrongG (n + b.vars.length) l
def wrongM (m : ModelD) : Bool := wrongG 0 m.blocks || m.goal.any (fun c => !rightM c ((varsM m).length : Int))
def twiceG (l : List DeclD) : List DeclD → Nat → Bool
  | [], _ => false
  | d :: r, i => (l.take i).any (fun x => x.name == d.name) || twiceG l r (i + 1)
def twiceM (l : List DeclD) : Bool := twiceG l l 0
def valsM (d : DeclD) : Bool := decide (sizeM d.dom < 1) || decide (sizeM d.dom > 64)
/-- May a model be? -/
def checkM (m : ModelD) : Int :=
  if bigM m then 5
  else if ((m.blocks.length : Int) == 0) || m.blocks.any (fun b => ((b.vars.length : Int) == 0)) then 2
  else if (varsM m).any (fun d => !nameM d.name) then 7
  else if twiceM (varsM m) then 8
  else if (varsM m).any valsM then 1
  else if wrongM m then 12
  else 0
end Go.T
set_option linter.unusedVariables false
set_option linter.unusedSimpArgs false
namespace Go.T
open Go.Proofs Go.RowKit
variable {Ev : Env} {H : Nat → Option RObj}
/-- The first one that is such. -/
def idxF {α : Type} (p : α → Bool) (l : List α) (i : Nat) : Int :=
  match l with
  | [] => -1
  | y :: l => if p y then i else idxF p l (i + 1)
theorem idxF_any {α : Type} (p : α → Bool) : ∀ (l : List α) (i : Nat), decide (idxF p l i ≥ 0) = l.any p
  | [], i => by simp [idxF]
  | y :: l, i => by
    unfold idxF
    cases h : p y with
    | true => simp [h]
    | false => simp [h, ← idxF_any p l (i + 1)]
/-- A contract by which a world may have more blocks behind it. -/
theorem Ret.ofBelow {P : Program} {f : FuncId} {args : List TV} {r : RV} (hE : Enters P f) (hr : ∀ (g : Gh) (w w' : World) (v : Value), RVR g w r v → Ext g w g w' → RVR g w' r v)
    (h : ∀ (g : Gh) (w : World) (vs : Array Value), Ev.E w → VVs g w args vs.toList → ∃ v, RVR g w r v ∧ Calls P f vs w fun e w' => e = .returned v ∧ Below w.heap.size w w') : Ret P Ev f args H r := by
  refine ⟨hE, fun g w vs hrel hv => ?_⟩
  obtain ⟨v, h1, h2⟩ := h g w vs hrel.wf.env hv
  refine h2.mono fun e w' ⟨e1, e2⟩ => ?_
  subst e1
  have hk : Kept g w g w' := ⟨e2.os, e2.tape, e2.output, e2.size, fun b hb _ => ⟨e2.block b hb, rfl, rfl⟩⟩
  have hlt : ∀ b L, g.O b = some L → b < w.heap.size := fun b L hL => by
    rcases Nat.lt_or_ge b w.heap.size with h' | h'
    · exact h'
    · rw [(hrel.wf.new b h').1] at hL; cases hL
  have hx : Ext g w g w' := ⟨fun _ => Nat.le_refl _, fun b j hj => by
    have : b < w.heap.size := by
      rcases Nat.lt_or_ge b w.heap.size with h' | h'
      · exact h'
      · rw [(hrel.wf.new b h').2] at hj; omega
    exact World.cell?_of_block (e2.block b this), fun i hi => ⟨rfl, hi⟩⟩
  have hst : Step (fun _ => False) g w g w' := ⟨hx, hk, fun b L hL _ => ⟨e2.block b (hlt b L hL), hL, rfl⟩⟩
  have hwf : Wf Ev g w' := hrel.wf.kept hk (fun b hb => hrel.wf.new b (Nat.le_trans e2.size hb)) hrel.wf.m
  exact ⟨.ret r, H, g, ⟨rfl, rfl⟩, ⟨fun i o ho => (hrel.heap i o ho).step hst (fun h => h) (fun _ h => h), hwf⟩, hx, hk, hr g w w' v h1 hx⟩
theorem set_all : ∀ b ∈ setText, b.toNat < 128 := by decide
theorem c_trim (l : List UInt8) (hl : l.length ≤ 9000000000000000000) : Ret Tryz.prog Ev 41 [.str l, .str setText] H (.t (.str (Lib.trimS l setText))) := by
  refine Ret.ofBelow ⟨_, Tryz.func41, by kernel_rfl, rfl⟩ (fun g w w' v hv hx => VV.ext hx hv) fun g w vs hw hv => ?_
  obtain ⟨v1, vs1, e1, h1, hv⟩ := hv.cons_inv
  obtain ⟨v2, vs2, rfl, h2, hv⟩ := hv.cons_inv
  obtain rfl := hv.nil_inv
  obtain ⟨b, rfl, rfl⟩ := h1.str_inv
  obtain ⟨c, hc, rfl⟩ := h2.str_inv
  rw [arr2 e1]
  have hcs : c.size = 37 := by
    have : c.data.toList.length = c.size := by simp
    rw [← this, hc]; rfl
  refine ⟨_, ?_, (Any.strings_Trim_laid Tryz.lays160 (by kernel_rfl) b c w (by simpa using Nat.le_trans hl (by decide)) (by omega) (fun j x hx => set_all x (by rw [hc] at hx; exact List.mem_of_getElem? hx)))⟩
  rw [← hc]
  show g.VV w (.str (Lib.trimS b.data.toList c.data.toList)) _
  have := VV.str (w := w) (c := g.c) (ρ := g.ρ) (O := g.O) ⟨(Lib.trimS b.data.toList c.data.toList).toArray⟩
  simpa using this

theorem c_indexF_block {f : FuncId} {fs cs : List TV} (p : BlockD → Bool) (l : List BlockD) (hp : ∀ x, x ∈ l → Ret Tryz.prog Ev f (fs ++ [x.tv] ++ cs) H (.t (.bool (p x)))) :
    Ret Tryz.prog Ev 37 [.sl 3 (l.map BlockD.tv), .fn (.func f) fs cs] H (.t (.int .i64 (idxF p l 0))) := by
  refine go noStop noStop Tryz.func37 rfl (by kernel_rfl) rfl ?_
  conv => whnf
  intro hm
  have hm' : l.length ≤ 9223372036854775807 := by have e : (l.map BlockD.tv).length = l.length := List.length_map ..; rw [← e]; exact hm
  conv => whnf
  refine goLoop noStop noStop (fun i : Nat => .of [(0, .t (.sl 3 (l.map BlockD.tv))), (1, .t (.fn (.func f) fs cs)), (7, .t (.int .i64 (l.map BlockD.tv).length)), (8, .t (.int .i64 (i : Nat)))] [] [] H)
    (fun i => i ≤ l.length ∧ idxF p l 0 = idxF p (l.drop i) i) (fun i => l.length - i) 0 ⟨by simp, by simp⟩ (.of ⟨rfl, rfl, rfl, rfl, trivial⟩ trivial trivial (fun _ => .inr rfl)) ?_
  rintro i ⟨hi, he⟩
  conv => whnf
  constructor <;> intro h1
  · have hlt : i < l.length := by have h1 : decide ((i : Int) < ((l.map BlockD.tv).length : Int)) = true := h1; have := of_decide_eq_true h1; rw [List.length_map] at this; omega
    obtain ⟨x, hx⟩ : ∃ x, l[i]? = some x := ⟨_, List.getElem?_eq_getElem hlt⟩
    have hd := drop_get hx
    conv => whnf
    refine ⟨by omega, by rw [List.length_map]; omega, ?_⟩
    intro y hy
    obtain rfl := get_same hy hx
    conv => whnf
    refine (hp x (List.mem_of_getElem? hx)).use ?_
    conv => whnf
    constructor <;> intro h2
    · conv => whnf
      refine ⟨?_, rfl⟩
      rw [he, hd, idxF, if_pos h2]
    · conv => whnf
      refine ⟨i + 1, ⟨by omega, by rw [he, hd, idxF, if_neg (by rw [show p x = false from h2]; simp)]⟩, by omega, .of ⟨rfl, rfl, rfl, ?_, trivial⟩ trivial trivial (fun _ => .inr rfl)⟩
      show SV.t (.int .i64 (IntKind.i64.wrap ((i : Int) + 1))) = _
      rw [wrap_i64 (by omega) (by omega)]; rfl
  · have hge : l.length ≤ i := by have h1 : decide ((i : Int) < ((l.map BlockD.tv).length : Int)) = false := h1; have := of_decide_eq_false h1; rw [List.length_map] at this; omega
    conv => whnf
    refine ⟨?_, rfl⟩
    rw [he, List.drop_eq_nil_of_le hge, idxF]
theorem c_anyF_block {f : FuncId} {fs cs : List TV} (p : BlockD → Bool) (l : List BlockD) (hp : ∀ x, x ∈ l → Ret Tryz.prog Ev f (fs ++ [x.tv] ++ cs) H (.t (.bool (p x)))) :
    Ret Tryz.prog Ev 15 [.sl 3 (l.map BlockD.tv), .fn (.func f) fs cs] H (.t (.bool (l.any p))) := by
  refine go noStop noStop Tryz.func15 rfl (by kernel_rfl) rfl ?_
  conv => whnf
  refine (c_indexF_block p l hp).use ?_
  conv => whnf
  refine ⟨?_, rfl⟩
  rw [← idxF_any p l 0]

theorem c_indexF_decl {f : FuncId} {fs cs : List TV} (p : DeclD → Bool) (l : List DeclD) (hp : ∀ x, x ∈ l → Ret Tryz.prog Ev f (fs ++ [x.tv] ++ cs) H (.t (.bool (p x)))) :
    Ret Tryz.prog Ev 39 [.sl 2 (l.map DeclD.tv), .fn (.func f) fs cs] H (.t (.int .i64 (idxF p l 0))) := by
  refine go noStop noStop Tryz.func39 rfl (by kernel_rfl) rfl ?_
  conv => whnf
  intro hm
  have hm' : l.length ≤ 9223372036854775807 := by have e : (l.map DeclD.tv).length = l.length := List.length_map ..; rw [← e]; exact hm
  conv => whnf
  refine goLoop noStop noStop (fun i : Nat => .of [(0, .t (.sl 2 (l.map DeclD.tv))), (1, .t (.fn (.func f) fs cs)), (7, .t (.int .i64 (l.map DeclD.tv).length)), (8, .t (.int .i64 (i : Nat)))] [] [] H)
    (fun i => i ≤ l.length ∧ idxF p l 0 = idxF p (l.drop i) i) (fun i => l.length - i) 0 ⟨by simp, by simp⟩ (.of ⟨rfl, rfl, rfl, rfl, trivial⟩ trivial trivial (fun _ => .inr rfl)) ?_
  rintro i ⟨hi, he⟩
  conv => whnf
  constructor <;> intro h1
  · have hlt : i < l.length := by have h1 : decide ((i : Int) < ((l.map DeclD.tv).length : Int)) = true := h1; have := of_decide_eq_true h1; rw [List.length_map] at this; omega
    obtain ⟨x, hx⟩ : ∃ x, l[i]? = some x := ⟨_, List.getElem?_eq_getElem hlt⟩
    have hd := drop_get hx
    conv => whnf
    refine ⟨by omega, by rw [List.length_map]; omega, ?_⟩
    intro y hy
    obtain rfl := get_same hy hx
    conv => whnf
    refine (hp x (List.mem_of_getElem? hx)).use ?_
    conv => whnf
    constructor <;> intro h2
    · conv => whnf
      refine ⟨?_, rfl⟩
      rw [he, hd, idxF, if_pos h2]
    · conv => whnf
      refine ⟨i + 1, ⟨by omega, by rw [he, hd, idxF, if_neg (by rw [show p x = false from h2]; simp)]⟩, by omega, .of ⟨rfl, rfl, rfl, ?_, trivial⟩ trivial trivial (fun _ => .inr rfl)⟩
      show SV.t (.int .i64 (IntKind.i64.wrap ((i : Int) + 1))) = _
      rw [wrap_i64 (by omega) (by omega)]; rfl
  · have hge : l.length ≤ i := by have h1 : decide ((i : Int) < ((l.map DeclD.tv).length : Int)) = false := h1; have := of_decide_eq_false h1; rw [List.length_map] at this; omega
    conv => whnf
    refine ⟨?_, rfl⟩
    rw [he, List.drop_eq_nil_of_le hge, idxF]
theorem c_anyF_decl {f : FuncId} {fs cs : List TV} (p : DeclD → Bool) (l : List DeclD) (hp : ∀ x, x ∈ l → Ret Tryz.prog Ev f (fs ++ [x.tv] ++ cs) H (.t (.bool (p x)))) :
    Ret Tryz.prog Ev 18 [.sl 2 (l.map DeclD.tv), .fn (.func f) fs cs] H (.t (.bool (l.any p))) := by
  refine go noStop noStop Tryz.func18 rfl (by kernel_rfl) rfl ?_
  conv => whnf
  refine (c_indexF_decl p l hp).use ?_
  conv => whnf
  refine ⟨?_, rfl⟩
  rw [← idxF_any p l 0]

theorem c_indexF_con {f : FuncId} {fs cs : List TV} (p : ConD → Bool) (l : List ConD) (hp : ∀ x, x ∈ l → Ret Tryz.prog Ev f (fs ++ [x.tv] ++ cs) H (.t (.bool (p x)))) :
    Ret Tryz.prog Ev 69 [.sl 6 (l.map ConD.tv), .fn (.func f) fs cs] H (.t (.int .i64 (idxF p l 0))) := by
  refine go noStop noStop Tryz.func69 rfl (by kernel_rfl) rfl ?_
  conv => whnf
  intro hm
  have hm' : l.length ≤ 9223372036854775807 := by have e : (l.map ConD.tv).length = l.length := List.length_map ..; rw [← e]; exact hm
  conv => whnf
  refine goLoop noStop noStop (fun i : Nat => .of [(0, .t (.sl 6 (l.map ConD.tv))), (1, .t (.fn (.func f) fs cs)), (7, .t (.int .i64 (l.map ConD.tv).length)), (8, .t (.int .i64 (i : Nat)))] [] [] H)
    (fun i => i ≤ l.length ∧ idxF p l 0 = idxF p (l.drop i) i) (fun i => l.length - i) 0 ⟨by simp, by simp⟩ (.of ⟨rfl, rfl, rfl, rfl, trivial⟩ trivial trivial (fun _ => .inr rfl)) ?_
  rintro i ⟨hi, he⟩
  conv => whnf
  constructor <;> intro h1
  · have hlt : i < l.length := by have h1 : decide ((i : Int) < ((l.map ConD.tv).length : Int)) = true := h1; have := of_decide_eq_true h1; rw [List.length_map] at this; omega
    obtain ⟨x, hx⟩ : ∃ x, l[i]? = some x := ⟨_, List.getElem?_eq_getElem hlt⟩
    have hd := drop_get hx
    conv => whnf
    refine ⟨by omega, by rw [List.length_map]; omega, ?_⟩
    intro y hy
    obtain rfl := get_same hy hx
    conv => whnf
    refine (hp x (List.mem_of_getElem? hx)).use ?_
    conv => whnf
    constructor <;> intro h2
    · conv => whnf
      refine ⟨?_, rfl⟩
      rw [he, hd, idxF, if_pos h2]
    · conv => whnf
      refine ⟨i + 1, ⟨by omega, by rw [he, hd, idxF, if_neg (by rw [show p x = false from h2]; simp)]⟩, by omega, .of ⟨rfl, rfl, rfl, ?_, trivial⟩ trivial trivial (fun _ => .inr rfl)⟩
      show SV.t (.int .i64 (IntKind.i64.wrap ((i : Int) + 1))) = _
      rw [wrap_i64 (by omega) (by omega)]; rfl
  · have hge : l.length ≤ i := by have h1 : decide ((i : Int) < ((l.map ConD.tv).length : Int)) = false := h1; have := of_decide_eq_false h1; rw [List.length_map] at this; omega
    conv => whnf
    refine ⟨?_, rfl⟩
    rw [he, List.drop_eq_nil_of_le hge, idxF]
theorem c_anyF_con {f : FuncId} {fs cs : List TV} (p : ConD → Bool) (l : List ConD) (hp : ∀ x, x ∈ l → Ret Tryz.prog Ev f (fs ++ [x.tv] ++ cs) H (.t (.bool (p x)))) :
    Ret Tryz.prog Ev 44 [.sl 6 (l.map ConD.tv), .fn (.func f) fs cs] H (.t (.bool (l.any p))) := by
  refine go noStop noStop Tryz.func44 rfl (by kernel_rfl) rfl ?_
  conv => whnf
  refine (c_indexF_con p l hp).use ?_
  conv => whnf
  refine ⟨?_, rfl⟩
  rw [← idxF_any p l 0]

theorem c_indexF_int {f : FuncId} {fs cs : List TV} (p : Int → Bool) (l : List Int) (hp : ∀ x, x ∈ l → Ret Tryz.prog Ev f (fs ++ [.int .i64 x] ++ cs) H (.t (.bool (p x)))) :
    Ret Tryz.prog Ev 113 [.sl 1 (l.map (TV.int .i64)), .fn (.func f) fs cs] H (.t (.int .i64 (idxF p l 0))) := by
  refine go noStop noStop Tryz.func113 rfl (by kernel_rfl) rfl ?_
  conv => whnf
  intro hm
  have hm' : l.length ≤ 9223372036854775807 := by have e : (l.map (TV.int .i64)).length = l.length := List.length_map ..; rw [← e]; exact hm
  conv => whnf
  refine goLoop noStop noStop (fun i : Nat => .of [(0, .t (.sl 1 (l.map (TV.int .i64)))), (1, .t (.fn (.func f) fs cs)), (7, .t (.int .i64 (l.map (TV.int .i64)).length)), (8, .t (.int .i64 (i : Nat)))] [] [] H)
    (fun i => i ≤ l.length ∧ idxF p l 0 = idxF p (l.drop i) i) (fun i => l.length - i) 0 ⟨by simp, by simp⟩ (.of ⟨rfl, rfl, rfl, rfl, trivial⟩ trivial trivial (fun _ => .inr rfl)) ?_
  rintro i ⟨hi, he⟩
  conv => whnf
  constructor <;> intro h1
  · have hlt : i < l.length := by have h1 : decide ((i : Int) < ((l.map (TV.int .i64)).length : Int)) = true := h1; have := of_decide_eq_true h1; rw [List.length_map] at this; omega
    obtain ⟨x, hx⟩ : ∃ x, l[i]? = some x := ⟨_, List.getElem?_eq_getElem hlt⟩
    have hd := drop_get hx
    conv => whnf
    refine ⟨by omega, by rw [List.length_map]; omega, ?_⟩
    intro y hy
    obtain rfl := get_same hy hx
    conv => whnf
    refine (hp x (List.mem_of_getElem? hx)).use ?_
    conv => whnf
    constructor <;> intro h2
    · conv => whnf
      refine ⟨?_, rfl⟩
      rw [he, hd, idxF, if_pos h2]
    · conv => whnf
      refine ⟨i + 1, ⟨by omega, by rw [he, hd, idxF, if_neg (by rw [show p x = false from h2]; simp)]⟩, by omega, .of ⟨rfl, rfl, rfl, ?_, trivial⟩ trivial trivial (fun _ => .inr rfl)⟩
      show SV.t (.int .i64 (IntKind.i64.wrap ((i : Int) + 1))) = _
      rw [wrap_i64 (by omega) (by omega)]; rfl
  · have hge : l.length ≤ i := by have h1 : decide ((i : Int) < ((l.map (TV.int .i64)).length : Int)) = false := h1; have := of_decide_eq_false h1; rw [List.length_map] at this; omega
    conv => whnf
    refine ⟨?_, rfl⟩
    rw [he, List.drop_eq_nil_of_le hge, idxF]
theorem c_anyF_int {f : FuncId} {fs cs : List TV} (p : Int → Bool) (l : List Int) (hp : ∀ x, x ∈ l → Ret Tryz.prog Ev f (fs ++ [.int .i64 x] ++ cs) H (.t (.bool (p x)))) :
    Ret Tryz.prog Ev 111 [.sl 1 (l.map (TV.int .i64)), .fn (.func f) fs cs] H (.t (.bool (l.any p))) := by
  refine go noStop noStop Tryz.func111 rfl (by kernel_rfl) rfl ?_
  conv => whnf
  refine (c_indexF_int p l hp).use ?_
  conv => whnf
  refine ⟨?_, rfl⟩
  rw [← idxF_any p l 0]
end Go.T
set_option linter.unusedVariables false
set_option linter.unusedSimpArgs false
namespace Go.T
open Go.Proofs Go.RowKit
variable {Ev : Env} {H : Nat → Option RObj}
def at1 (k : Nat) : Nat → Bool := fun d => Nat.beq d k
set_option maxHeartbeats 1000000 in
theorem c_name8 (hE : ∀ w, Ev.E w → HasMax w) (s : List UInt8) (hs : s.length ≤ 9000000000000000000) : Ret Tryz.prog Ev 20 [.str s] H (.t (.bool (nameM s))) := by
  refine go noStop noStop Tryz.func20 rfl (by kernel_rfl) rfl ?_
  unfold nameM
  conv => whnf
  constructor <;> intro h1
  · have g1 : (s == []) = false := h1
    have hne : 0 < s.length := by
      cases s with
      | nil => cases g1
      | cons a l => simp
    conv => whnf
    constructor <;> intro h2
    · have g2 : decide (s.length > 12) = false := by have h2 : decide ((s.length : Int) > 12) = false := h2; have := of_decide_eq_false h2; exact decide_eq_false (by omega)
      conv => whnf
      refine ⟨by omega, by omega, ?_⟩
      conv => whnf
      constructor <;> intro h3
      · have g3 : decide (((s.getD 0 0).toNat : Int) < 97) = false := h3
        conv => whnf
        refine ⟨by omega, by omega, ?_⟩
        conv => whnf
        constructor <;> intro h4
        · have g4 : decide (((s.getD 0 0).toNat : Int) > 122) = false := h4
          have g2' := of_decide_eq_false g2
          conv => whnf
          refine ⟨by simp only [List.length_singleton]; omega, ?_⟩
          conv => whnf
          refine ⟨by simp only [List.length_append, List.length_singleton]; omega, ?_⟩
          conv => whnf
          refine (c_contains hE _ _ (by decide)).use ?_
          conv => whnf
          have tail : ∀ b : Bool, Lib.contains kwText (([32] ++ s) ++ [32]) = b → True := fun _ _ => trivial
          constructor <;> intro h5
          · have g5 : Lib.contains kwText (([32] ++ s) ++ [32]) = true := h5
            conv => whnf
            refine ⟨?_, rfl⟩
            rw [g1, g2, g3, g4, g5]
            rfl
          · have g5 : Lib.contains kwText (([32] ++ s) ++ [32]) = false := h5
            conv => whnf
            refine (c_trim s hs).use ?_
            conv => whnf
            refine ⟨?_, rfl⟩
            rw [g1, g2, g3, g4, g5]
            rfl
        · have g4 : decide (((s.getD 0 0).toNat : Int) > 122) = true := h4
          repeat ((conv => whnf); constructor <;> intro hh <;> cases hh)
          conv => whnf
          refine ⟨?_, rfl⟩
          rw [g1, g2, g3, g4]
          simp
      · have g3 : decide (((s.getD 0 0).toNat : Int) < 97) = true := h3
        repeat ((conv => whnf); constructor <;> intro hh <;> cases hh)
        conv => whnf
        refine ⟨?_, rfl⟩
        rw [g1, g2, g3]
        simp
    · have g2 : decide (s.length > 12) = true := by have h2 : decide ((s.length : Int) > 12) = true := h2; have := of_decide_eq_true h2; exact decide_eq_true (by omega)
      repeat ((conv => whnf); constructor <;> intro hh <;> cases hh)
      conv => whnf
      refine ⟨?_, rfl⟩
      rw [g1, g2]
      simp
  · have g1 : (s == []) = true := h1
    repeat ((conv => whnf); constructor <;> intro hh <;> cases hh)
    conv => whnf
    refine ⟨?_, rfl⟩
    rw [g1]
    simp
theorem c_far (most n : Int) (hm : -9223372036854775807 ≤ most ∧ most ≤ 9223372036854775807) : Ret Tryz.prog Ev 112 [.int .i64 n, .eptr [.int .i64 most]] H (.t (.bool (farM most n))) := by
  refine go noStop noStop Tryz.func112 rfl (by kernel_rfl) rfl ?_
  have hw : IntKind.i64.wrap (0 - most) = -most := by rw [wrap_i64 (by omega) (by omega)]; omega
  unfold farM
  conv => whnf
  constructor <;> intro h1
  · have g1 : decide (n < -most) = false := by rw [← hw]; exact h1
    conv => whnf
    refine ⟨?_, rfl⟩
    rw [g1]
    simp
  · have g1 : decide (n < -most) = true := by rw [← hw]; exact h1
    conv => whnf
    refine ⟨?_, rfl⟩
    rw [g1]
    rfl
theorem c_within (l : List Int) (most : Int) (hm : -9223372036854775807 ≤ most ∧ most ≤ 9223372036854775807) : Ret Tryz.prog Ev 104 [.sl 1 (ints l), .int .i64 most] H (.t (.bool (withinM l most))) := by
  refine go (at1 3) noStop Tryz.func104 rfl (by kernel_rfl) rfl ?_
  conv => whnf
  refine (c_anyF_int (fs := []) (cs := [.eptr [.int .i64 most]]) (farM most) l fun n _ => c_far most n hm).use ?_
  conv => whnf
  refine ⟨?_, rfl⟩
  rfl
theorem c_idxI (l : List Int) (x : Int) : Ret Tryz.prog Ev 110 [.sl 1 (ints l), .int .i64 x] H (.t (.int .i64 (idxI l x 0))) := by
  refine go noStop noStop Tryz.func110 rfl (by kernel_rfl) rfl ?_
  conv => whnf
  intro hlen
  have hl : (ints l).length = l.length := by simp [ints]
  have hl2 : l.length ≤ 9223372036854775807 := by rw [← hl]; exact hlen
  conv => whnf
  refine goLoop noStop noStop (fun i : Nat => .of [(0, .t (.sl 1 (ints l))), (1, .t (.int .i64 x)), (7, .t (.int .i64 (ints l).length)), (8, .t (.int .i64 (i : Nat)))] [] [] H)
    (fun i => i ≤ l.length ∧ idxI l x 0 = idxI (l.drop i) x i) (fun i => l.length - i) 0 ⟨by simp, by simp⟩ (.of ⟨rfl, rfl, rfl, rfl, trivial⟩ trivial trivial (fun _ => .inr rfl)) ?_
  rintro i ⟨hi, he⟩
  conv => whnf
  constructor <;> intro h1
  · have hlt : i < l.length := by have h1 : decide ((i : Int) < ((ints l).length : Int)) = true := h1; have := of_decide_eq_true h1; omega
    conv => whnf
    refine ⟨by omega, by omega, ?_⟩
    intro y hy
    obtain ⟨z, hz, rfl⟩ := get_map' hy
    have hd := drop_get hz
    conv => whnf
    constructor <;> intro h2
    · conv => whnf
      refine ⟨?_, rfl⟩
      rw [he, hd, idxI, if_pos h2]
    · conv => whnf
      refine ⟨i + 1, ⟨by omega, by rw [he, hd, idxI, if_neg (by rw [show (x == z) = false from h2]; simp)]⟩, by omega, .of ⟨rfl, rfl, rfl, ?_, trivial⟩ trivial trivial (fun _ => .inr rfl)⟩
      show SV.t (.int .i64 (IntKind.i64.wrap ((i : Int) + 1))) = _
      rw [wrap_i64 (by omega) (by omega)]; rfl
  · have hge : l.length ≤ i := by have h1 : decide ((i : Int) < ((ints l).length : Int)) = false := h1; have := of_decide_eq_false h1; omega
    conv => whnf
    refine ⟨?_, rfl⟩
    rw [he, List.drop_eq_nil_of_le hge, idxI]
theorem c_hasI (l : List Int) (x : Int) : Ret Tryz.prog Ev 103 [.sl 1 (ints l), .int .i64 x] H (.t (.bool (hasI l x))) := by
  refine go noStop noStop Tryz.func103 rfl (by kernel_rfl) rfl ?_
  conv => whnf
  refine (c_idxI l x).use ?_
  conv => whnf
  exact ⟨rfl, rfl⟩
end Go.T
set_option linter.unusedVariables false
set_option linter.unusedSimpArgs false
namespace Go.T
open Go.Proofs Go.RowKit
variable {Ev : Env} {H : Nat → Option RObj}
def lookTV (c : ConD) (vars : Int) : TV := .agg [.int .i64 c.kind, .sl 1 (ints c.vars), .sl 1 (ints c.coefs), .int .i64 c.rel, .int .i64 c.const, .sl 1 (ints c.nums), .int .i64 vars]
theorem ints_len (l : List Int) : (ints l).length = l.length := by simp [ints]
theorem varsG_drop {vars : Int} {l : List Int} {i : Nat} {v : Int} (h : l[i]? = some v) : varsG vars l (l.drop i) i = (!(decide (v < 0) || decide (v ≥ vars) || hasI (l.take i) v) && varsG vars l (l.drop (i + 1)) (i + 1)) := by
  rw [drop_get h, varsG]
set_option maxHeartbeats 1000000 in
theorem c_lvariables (c : ConD) (vars least most : Int) : Ret Tryz.prog Ev 86 [lookTV c vars, .int .i64 least, .int .i64 most] H (.t (.bool (variablesM c vars least most))) := by
  refine go (at1 3) noStop Tryz.func86 rfl (by kernel_rfl) rfl ?_
  have hl := ints_len c.vars
  conv => whnf
  intro hm
  have hm' : c.vars.length ≤ 9223372036854775807 := by rw [← hl]; exact hm
  conv => whnf
  have main : decide ((c.vars.length : Int) < least) = false → decide ((c.vars.length : Int) > most) = false → True := fun _ _ => trivial
  constructor <;> intro h1
  · have g1 : decide ((c.vars.length : Int) < least) = false := by rw [← hl]; exact h1
    conv => whnf
    constructor <;> intro h2
    · have g2 : decide ((c.vars.length : Int) > most) = true := by rw [← hl]; exact h2
      conv => whnf
      refine ⟨?_, rfl⟩
      simp only [variablesM, g1, g2, Bool.not_true, Bool.and_false, Bool.false_and]
    · have g2 : decide ((c.vars.length : Int) > most) = false := by rw [← hl]; exact h2
      have g3 : variablesM c vars least most = varsG vars c.vars c.vars 0 := by simp only [variablesM, g1, g2, Bool.not_false, Bool.true_and]
      rw [g3]
      conv => whnf
      intro hm2
      conv => whnf
      refine goLoop (at1 3) noStop (fun i : Nat => .of [(3, .ea (lookTV c vars).cells), (24, .t (.sl 1 (ints c.vars))), (25, .t (.int .i64 (ints c.vars).length)), (26, .t (.int .i64 (i : Nat)))] [] [] H)
        (fun i => i ≤ c.vars.length ∧ varsG vars c.vars c.vars 0 = varsG vars c.vars (c.vars.drop i) i) (fun i => c.vars.length - i) 0 ⟨by simp, by simp⟩ (.of ⟨rfl, rfl, rfl, rfl, trivial⟩ trivial trivial (fun _ => .inr rfl)) ?_
      rintro i ⟨hi, he⟩
      conv => whnf
      constructor <;> intro h3
      · have hlt : i < c.vars.length := by have h3 : decide ((i : Int) < ((ints c.vars).length : Int)) = true := h3; have := of_decide_eq_true h3; omega
        obtain ⟨v, hv⟩ : ∃ v, c.vars[i]? = some v := ⟨_, List.getElem?_eq_getElem hlt⟩
        rw [varsG_drop hv] at he
        have htk : (ints c.vars).take ((i : Nat) : Int).toNat = ints (c.vars.take i) := by simp [ints]
        have hdr : ((ints c.vars).take ((i : Nat) : Int).toNat).drop (0 : Int).toNat = ints (c.vars.take i) := by rw [htk]; rfl
        have hcall : ∀ H, Ret Tryz.prog Ev 103 [.sl 1 (((ints c.vars).take ((i : Nat) : Int).toNat).drop (0 : Int).toNat), .int .i64 v] H (.t (.bool (hasI (c.vars.take i) v))) := fun H => by rw [hdr]; exact c_hasI _ _
        conv => whnf
        refine ⟨by omega, by omega, ?_⟩
        intro y hy
        obtain rfl : y = .int .i64 v := get_same (f := TV.int .i64) hy hv
        conv => whnf
        constructor <;> intro h4
        · have g4 : decide (v < 0) = false := h4
          conv => whnf
          constructor <;> intro h5
          · have g5 : decide (v ≥ vars) = false := h5
            conv => whnf
            refine ⟨by omega, by omega, by omega, by omega, ?_⟩
            conv => whnf
            refine (hcall _).use ?_
            conv => whnf
            constructor <;> intro h6
            · have g6 : hasI (c.vars.take i) v = true := h6
              conv => whnf
              refine ⟨?_, rfl⟩
              rw [he, g6]; simp
            · have g6 : hasI (c.vars.take i) v = false := h6
              rw [g4, g5, g6] at he
              conv => whnf
              refine ⟨i + 1, ⟨by omega, by rw [he]; simp⟩, by omega, .of ⟨rfl, rfl, rfl, ?_, trivial⟩ trivial trivial (fun _ => .inr rfl)⟩
              show SV.t (.int .i64 (IntKind.i64.wrap ((i : Int) + 1))) = _
              rw [wrap_i64 (by omega) (by omega)]; rfl
          · have g5 : decide (v ≥ vars) = true := h5
            repeat ((conv => whnf); constructor <;> intro hh <;> cases hh)
            conv => whnf
            refine ⟨?_, rfl⟩
            rw [he, g5]; simp
        · have g4 : decide (v < 0) = true := h4
          repeat ((conv => whnf); constructor <;> intro hh <;> cases hh)
          conv => whnf
          refine ⟨?_, rfl⟩
          rw [he, g4]; simp
      · have hge : c.vars.length ≤ i := by have h3 : decide ((i : Int) < ((ints c.vars).length : Int)) = false := h3; have := of_decide_eq_false h3; omega
        conv => whnf
        refine ⟨?_, rfl⟩
        rw [he, List.drop_eq_nil_of_le hge, varsG]
  · have g1 : decide ((c.vars.length : Int) < least) = true := by rw [← hl]; exact h1
    repeat ((conv => whnf); constructor <;> intro hh <;> cases hh)
    conv => whnf
    refine ⟨?_, rfl⟩
    simp only [variablesM, g1, Bool.not_true, Bool.false_and]
set_option maxHeartbeats 4000000 in
theorem c_lsum (c : ConD) (vars but : Int) (hb : but = 0 ∨ but = 1) : Ret Tryz.prog Ev 87 [lookTV c vars, .int .i64 but] H (.t (.bool (sumM c but))) := by
  refine go (at1 2) noStop Tryz.func87 rfl (by kernel_rfl) rfl ?_
  have hl1 := ints_len c.vars
  have hl2 := ints_len c.coefs
  have hl3 := ints_len c.nums
  unfold sumM
  conv => whnf
  intro hm1
  have hm1' : c.coefs.length ≤ 9223372036854775807 := by rw [← hl2]; exact hm1
  conv => whnf
  intro hm2
  have hm2' : c.vars.length ≤ 9223372036854775807 := by rw [← hl1]; exact hm2
  have hw : IntKind.i64.wrap (((ints c.vars).length : Int) - but) = (c.vars.length : Int) - but := by rw [hl1]; rcases hb with rfl | rfl <;> rw [wrap_i64 (by omega) (by omega)]
  conv => whnf
  constructor <;> intro h0
  · have g0 : ((c.coefs.length : Int) == (c.vars.length : Int) - but) = true := (by rw [← hl2, ← hw]; exact h0)
    conv => whnf
    refine (c_within c.coefs 1048576 (by decide)).use ?_
    conv => whnf
    constructor <;> intro h1
    · have g1 : (withinM c.coefs 1048576) = true := h1
      conv => whnf
      refine (c_hasI c.coefs 0).use ?_
      conv => whnf
      constructor <;> intro h2
      · have g2 : (!hasI c.coefs 0) = true := h2
        conv => whnf
        constructor <;> intro h3
        · have g3 : (decide (c.rel ≥ 0)) = true := h3
          conv => whnf
          constructor <;> intro h4
          · have g4 : (decide (c.rel ≤ 5)) = true := h4
            conv => whnf
            refine (c_within [c.const] 1099511627776 (by decide)).use ?_
            conv => whnf
            constructor <;> intro h5
            · have g5 : (withinM [c.const] 1099511627776) = true := h5
              conv => whnf
              intro hm3
              conv => whnf
              refine ⟨?_, rfl⟩
              rw [g0, g1, g2, g3, g4, g5]
              simp only [Bool.true_and, Bool.and_true]
              rw [← hl3]; rfl
            · have g5 : (withinM [c.const] 1099511627776) = false := h5
              repeat ((conv => whnf); constructor <;> intro hh <;> cases hh)
              conv => whnf
              refine ⟨?_, rfl⟩
              rw [g0, g1, g2, g3, g4, g5]
              simp only [Bool.true_and, Bool.false_and, Bool.and_false]
          · have g4 : (decide (c.rel ≤ 5)) = false := h4
            repeat ((conv => whnf); constructor <;> intro hh <;> cases hh)
            conv => whnf
            refine ⟨?_, rfl⟩
            rw [g0, g1, g2, g3, g4]
            simp only [Bool.true_and, Bool.false_and, Bool.and_false]
        · have g3 : (decide (c.rel ≥ 0)) = false := h3
          repeat ((conv => whnf); constructor <;> intro hh <;> cases hh)
          conv => whnf
          refine ⟨?_, rfl⟩
          rw [g0, g1, g2, g3]
          simp only [Bool.true_and, Bool.false_and, Bool.and_false]
      · have g2 : (!hasI c.coefs 0) = false := h2
        repeat ((conv => whnf); constructor <;> intro hh <;> cases hh)
        conv => whnf
        refine ⟨?_, rfl⟩
        rw [g0, g1, g2]
        simp only [Bool.true_and, Bool.false_and, Bool.and_false]
    · have g1 : (withinM c.coefs 1048576) = false := h1
      repeat ((conv => whnf); constructor <;> intro hh <;> cases hh)
      conv => whnf
      refine ⟨?_, rfl⟩
      rw [g0, g1]
      simp only [Bool.true_and, Bool.false_and, Bool.and_false]
  · have g0 : ((c.coefs.length : Int) == (c.vars.length : Int) - but) = false := (by rw [← hl2, ← hw]; exact h0)
    repeat ((conv => whnf); constructor <;> intro hh <;> cases hh)
    conv => whnf
    refine ⟨?_, rfl⟩
    rw [g0]
    simp only [Bool.true_and, Bool.false_and, Bool.and_false]
set_option maxHeartbeats 4000000 in
theorem c_lbare (c : ConD) (vars least most : Int) : Ret Tryz.prog Ev 88 [lookTV c vars, .int .i64 least, .int .i64 most] H (.t (.bool (bareM c least most))) := by
  refine go (at1 3) noStop Tryz.func88 rfl (by kernel_rfl) rfl ?_
  have hl1 := ints_len c.vars
  have hl2 := ints_len c.coefs
  have hl3 := ints_len c.nums
  unfold bareM
  conv => whnf
  intro hm1
  conv => whnf
  constructor <;> intro h0
  · have g0 : ((c.coefs.length : Int) == 0) = true := (by rw [← hl2]; exact h0)
    conv => whnf
    constructor <;> intro h1
    · have g1 : (c.rel == 0) = true := h1
      conv => whnf
      constructor <;> intro h2
      · have g2 : (c.const == 0) = true := h2
        conv => whnf
        intro hm2
        conv => whnf
        constructor <;> intro h3
        · have g3 : (decide ((c.nums.length : Int) ≥ least)) = true := (by rw [← hl3]; exact h3)
          conv => whnf
          intro hm3
          conv => whnf
          constructor <;> intro h4
          · have g4 : (decide ((c.nums.length : Int) ≤ most)) = true := (by rw [← hl3]; exact h4)
            conv => whnf
            refine (c_within c.nums 1048576 (by decide)).use ?_
            conv => whnf
            refine ⟨?_, rfl⟩
            rw [g0, g1, g2, g3, g4]
            simp only [Bool.true_and, Bool.and_true]
            rfl
          · have g4 : (decide ((c.nums.length : Int) ≤ most)) = false := (by rw [← hl3]; exact h4)
            repeat ((conv => whnf); constructor <;> intro hh <;> cases hh)
            conv => whnf
            refine ⟨?_, rfl⟩
            rw [g0, g1, g2, g3, g4]
            simp only [Bool.true_and, Bool.false_and, Bool.and_false]
        · have g3 : (decide ((c.nums.length : Int) ≥ least)) = false := (by rw [← hl3]; exact h3)
          repeat ((conv => whnf); constructor <;> intro hh <;> cases hh)
          conv => whnf
          refine ⟨?_, rfl⟩
          rw [g0, g1, g2, g3]
          simp only [Bool.true_and, Bool.false_and, Bool.and_false]
      · have g2 : (c.const == 0) = false := h2
        repeat ((conv => whnf); constructor <;> intro hh <;> cases hh)
        conv => whnf
        refine ⟨?_, rfl⟩
        rw [g0, g1, g2]
        simp only [Bool.true_and, Bool.false_and, Bool.and_false]
    · have g1 : (c.rel == 0) = false := h1
      repeat ((conv => whnf); constructor <;> intro hh <;> cases hh)
      conv => whnf
      refine ⟨?_, rfl⟩
      rw [g0, g1]
      simp only [Bool.true_and, Bool.false_and, Bool.and_false]
  · have g0 : ((c.coefs.length : Int) == 0) = false := (by rw [← hl2]; exact h0)
    repeat ((conv => whnf); constructor <;> intro hh <;> cases hh)
    conv => whnf
    refine ⟨?_, rfl⟩
    rw [g0]
    simp only [Bool.true_and, Bool.false_and, Bool.and_false]
set_option maxHeartbeats 4000000 in
theorem c_llinear (c : ConD) (vars : Int) : Ret Tryz.prog Ev 70 [lookTV c vars] H (.t (.bool (linearM c vars))) := by
  refine go (at1 1) noStop Tryz.func70 rfl (by kernel_rfl) rfl ?_
  have hl1 := ints_len c.vars
  have hl2 := ints_len c.coefs
  have hl3 := ints_len c.nums
  unfold linearM
  conv => whnf
  refine (c_lvariables c vars 1 8).use ?_
  conv => whnf
  constructor <;> intro h0
  · have g0 : (variablesM c vars 1 8) = true := h0
    conv => whnf
    refine (c_lsum c vars 0 (.inl rfl)).use ?_
    conv => whnf
    refine ⟨?_, rfl⟩
    rw [g0]
    simp only [Bool.true_and, Bool.and_true]
    rfl
  · have g0 : (variablesM c vars 1 8) = false := h0
    repeat ((conv => whnf); constructor <;> intro hh <;> cases hh)
    conv => whnf
    refine ⟨?_, rfl⟩
    rw [g0]
    simp only [Bool.true_and, Bool.false_and, Bool.and_false]
set_option maxHeartbeats 4000000 in
theorem c_lproduct (c : ConD) (vars : Int) : Ret Tryz.prog Ev 71 [lookTV c vars] H (.t (.bool (productM c vars))) := by
  refine go (at1 1) noStop Tryz.func71 rfl (by kernel_rfl) rfl ?_
  have hl1 := ints_len c.vars
  have hl2 := ints_len c.coefs
  have hl3 := ints_len c.nums
  unfold productM
  conv => whnf
  refine (c_lvariables c vars 3 3).use ?_
  conv => whnf
  constructor <;> intro h0
  · have g0 : (variablesM c vars 3 3) = true := h0
    conv => whnf
    refine (c_lbare c vars 0 0).use ?_
    conv => whnf
    refine ⟨?_, rfl⟩
    rw [g0]
    simp only [Bool.true_and, Bool.and_true]
    rfl
  · have g0 : (variablesM c vars 3 3) = false := h0
    repeat ((conv => whnf); constructor <;> intro hh <;> cases hh)
    conv => whnf
    refine ⟨?_, rfl⟩
    rw [g0]
    simp only [Bool.true_and, Bool.false_and, Bool.and_false]
set_option maxHeartbeats 4000000 in
theorem c_liff (c : ConD) (vars : Int) : Ret Tryz.prog Ev 72 [lookTV c vars] H (.t (.bool (iffM c vars))) := by
  refine go (at1 1) noStop Tryz.func72 rfl (by kernel_rfl) rfl ?_
  have hl1 := ints_len c.vars
  have hl2 := ints_len c.coefs
  have hl3 := ints_len c.nums
  unfold iffM
  conv => whnf
  refine (c_lvariables c vars 2 9).use ?_
  conv => whnf
  constructor <;> intro h0
  · have g0 : (variablesM c vars 2 9) = true := h0
    conv => whnf
    refine (c_lsum c vars 1 (.inr rfl)).use ?_
    conv => whnf
    refine ⟨?_, rfl⟩
    rw [g0]
    simp only [Bool.true_and, Bool.and_true]
    rfl
  · have g0 : (variablesM c vars 2 9) = false := h0
    repeat ((conv => whnf); constructor <;> intro hh <;> cases hh)
    conv => whnf
    refine ⟨?_, rfl⟩
    rw [g0]
    simp only [Bool.true_and, Bool.false_and, Bool.and_false]
set_option maxHeartbeats 4000000 in
theorem c_lelement (c : ConD) (vars : Int) : Ret Tryz.prog Ev 73 [lookTV c vars] H (.t (.bool (elementM c vars))) := by
  refine go (at1 1) noStop Tryz.func73 rfl (by kernel_rfl) rfl ?_
  have hl1 := ints_len c.vars
  have hl2 := ints_len c.coefs
  have hl3 := ints_len c.nums
  unfold elementM
  conv => whnf
  refine (c_lvariables c vars 2 2).use ?_
  conv => whnf
  constructor <;> intro h0
  · have g0 : (variablesM c vars 2 2) = true := h0
    conv => whnf
    refine (c_lbare c vars 1 96).use ?_
    conv => whnf
    refine ⟨?_, rfl⟩
    rw [g0]
    simp only [Bool.true_and, Bool.and_true]
    rfl
  · have g0 : (variablesM c vars 2 2) = false := h0
    repeat ((conv => whnf); constructor <;> intro hh <;> cases hh)
    conv => whnf
    refine ⟨?_, rfl⟩
    rw [g0]
    simp only [Bool.true_and, Bool.false_and, Bool.and_false]
set_option maxHeartbeats 4000000 in
theorem c_ldiffer (c : ConD) (vars : Int) : Ret Tryz.prog Ev 74 [lookTV c vars] H (.t (.bool (differM c vars))) := by
  refine go (at1 1) noStop Tryz.func74 rfl (by kernel_rfl) rfl ?_
  have hl1 := ints_len c.vars
  have hl2 := ints_len c.coefs
  have hl3 := ints_len c.nums
  unfold differM
  conv => whnf
  refine (c_lvariables c vars 2 8).use ?_
  conv => whnf
  constructor <;> intro h0
  · have g0 : (variablesM c vars 2 8) = true := h0
    conv => whnf
    refine (c_lbare c vars 0 0).use ?_
    conv => whnf
    refine ⟨?_, rfl⟩
    rw [g0]
    simp only [Bool.true_and, Bool.and_true]
    rfl
  · have g0 : (variablesM c vars 2 8) = false := h0
    repeat ((conv => whnf); constructor <;> intro hh <;> cases hh)
    conv => whnf
    refine ⟨?_, rfl⟩
    rw [g0]
    simp only [Bool.true_and, Bool.false_and, Bool.and_false]
set_option maxHeartbeats 4000000 in
theorem c_ltable (c : ConD) (vars : Int) : Ret Tryz.prog Ev 75 [lookTV c vars] H (.t (.bool (tableM c vars))) := by
  refine go (at1 1) noStop Tryz.func75 rfl (by kernel_rfl) rfl ?_
  have hl1 := ints_len c.vars
  have hl2 := ints_len c.coefs
  have hl3 := ints_len c.nums
  unfold tableM
  conv => whnf
  refine (c_lvariables c vars 1 8).use ?_
  conv => whnf
  constructor <;> intro h0
  · have g0 : (variablesM c vars 1 8) = true := h0
    conv => whnf
    refine (c_lbare c vars 0 96).use ?_
    conv => whnf
    constructor <;> intro h1
    · have g1 : (bareM c 0 96) = true := h1
      conv => whnf
      intro hm1
      conv => whnf
      intro hm2
      conv => whnf
      refine ⟨?_, ?_⟩
      · have h0 : variablesM c vars 1 8 = true := g0
        rw [hl1]
        intro e
        have e' : (c.vars.length : Int) < 1 := by omega
        simp only [variablesM, decide_eq_true e', Bool.not_true, Bool.false_and] at h0
        cases h0
      conv => whnf
      refine ⟨?_, rfl⟩
      rw [g0, g1]
      simp only [Bool.true_and, Bool.and_true]
      rw [← hl1, ← hl3]; rfl
    · have g1 : (bareM c 0 96) = false := h1
      repeat ((conv => whnf); constructor <;> intro hh <;> cases hh)
      conv => whnf
      refine ⟨?_, rfl⟩
      rw [g0, g1]
      simp only [Bool.true_and, Bool.false_and, Bool.and_false]
  · have g0 : (variablesM c vars 1 8) = false := h0
    repeat ((conv => whnf); constructor <;> intro hh <;> cases hh)
    conv => whnf
    refine ⟨?_, rfl⟩
    rw [g0]
    simp only [Bool.true_and, Bool.false_and, Bool.and_false]
end Go.T
