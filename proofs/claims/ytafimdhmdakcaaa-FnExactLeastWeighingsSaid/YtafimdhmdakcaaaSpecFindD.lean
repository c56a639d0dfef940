/- The reference's search of weighings: the first weighing that does is looked for. Condition: what fewer weighings can find is known. -/
import Derived.Test.YtafimdhmdakcaaaSpecFindC
import Derived.Test.YtafimdhmdakcaaaEql
set_option linter.unusedVariables false
set_option linter.unusedSimpArgs false
namespace Go.Proofs.Ytafimdhmdakcaaa
open Go Go.RowKit Coins

/-- The memory while 'first' looks: M: the weighing that is tried. -/
def FR (gF gS L all k : Nat) (x : K) (s : Nat → Int) (w : World) (M : Array Value) (wr : World) : Prop :=
  (∃ s', FI gF gS L all wr s' ∧ Mem all k s' ∧ (∀ i, k < i % 6 → s' i = s i)) ∧ Kp [gS] w wr ∧
    wr.heap[w.heap.size]? = some (.cells #[.int .i64 x.o, .int .i64 x.h, .int .i64 x.l, .int .i64 x.n] 100 (0, 0)) ∧
    wr.heap[w.heap.size + 1]? = some (.cells #[.int .i64 0, .int .i64 0, .int .i64 0, .int .i64 0, .int .i64 0, .int .i64 0, .int .i64 0, .int .i64 0] 191 (0, 0)) ∧
    wr.heap[w.heap.size + 1 + 1]? = some (.cells M 191 (0, 0)) ∧ gF < w.heap.size ∧ gS < w.heap.size

theorem FR.set {gF gS L all k : Nat} {x : K} {s : Nat → Int} {w wr : World} {M : Array Value} (h : FR gF gS L all k x s w M wr) (i : Nat) (v : Value) :
    FR gF gS L all k x s w (M.setIfInBounds i v) (wr.setCell ⟨w.heap.size + 1 + 1, i, none⟩ v) := by
  obtain ⟨⟨s', ⟨h1, A, h2, h3⟩, hM, hs⟩, hK, b1, b2, b3, l1, l2⟩ := h
  exact ⟨⟨s', ⟨blk_far h1 (by simp; omega) _, A, blk_far h2 (by simp; omega) _, h3⟩, hM, hs⟩, hK.setCell (.inr (by simp; omega)) _, blk_far b1 (by simp; omega) _, blk_far b2 (by simp) _, blk_set b3 i v, l1, l2⟩

abbrev cc (n : Nat) : Value := .int .i64 n
abbrev ii (n : Int) : Value := .int .i64 n

/-- No weighing so far: the six stages. -/
def no1 (all k : Nat) (x : K) (a : Nat) : Prop := ((List.range a).any fun a => (List.range (x.o - a + 1)).any fun b => any2 x.h fun c d => any2 x.l fun e f => does all k x a b c d e f) = false
def no2 (all k : Nat) (x : K) (a b : Nat) : Prop := ((List.range b).any fun b => any2 x.h fun c d => any2 x.l fun e f => does all k x a b c d e f) = false
def no3 (all k : Nat) (x : K) (a b c : Nat) : Prop := ((List.range c).any fun c => (List.range (x.h - c + 1)).any fun d => any2 x.l fun e f => does all k x a b c d e f) = false
def no4 (all k : Nat) (x : K) (a b c d : Nat) : Prop := ((List.range d).any fun d => any2 x.l fun e f => does all k x a b c d e f) = false
def no5 (all k : Nat) (x : K) (a b c d e : Nat) : Prop := ((List.range e).any fun e => (List.range (x.l - e + 1)).any fun f => does all k x a b c d e f) = false
def no6 (all k : Nat) (x : K) (a b c d e f : Nat) : Prop := ((List.range f).any fun f => does all k x a b c d e f) = false

theorem no6_succ {all k : Nat} {x : K} {a b c d e f : Nat} (h : no6 all k x a b c d e f) (h' : does all k x a b c d e f = false) : no6 all k x a b c d e (f + 1) := by
  unfold no6 at *; rw [any_range_succ, h, h']; rfl
theorem no5_succ {all k : Nat} {x : K} {a b c d e : Nat} (h : no5 all k x a b c d e) (h' : no6 all k x a b c d e (x.l - e + 1)) : no5 all k x a b c d (e + 1) := by
  unfold no5 at *; rw [any_range_succ, h, h']; rfl
theorem no4_succ {all k : Nat} {x : K} {a b c d : Nat} (h : no4 all k x a b c d) (h' : no5 all k x a b c d (x.l + 1)) : no4 all k x a b c (d + 1) := by
  unfold no4 at *; rw [any_range_succ, h]; exact h'
theorem no3_succ {all k : Nat} {x : K} {a b c : Nat} (h : no3 all k x a b c) (h' : no4 all k x a b c (x.h - c + 1)) : no3 all k x a b (c + 1) := by
  unfold no3 at *; rw [any_range_succ, h, h']; rfl
theorem no2_succ {all k : Nat} {x : K} {a b : Nat} (h : no2 all k x a b) (h' : no3 all k x a b (x.h + 1)) : no2 all k x a (b + 1) := by
  unfold no2 at *; rw [any_range_succ, h]; exact h'
theorem no1_succ {all k : Nat} {x : K} {a : Nat} (h : no1 all k x a) (h' : no2 all k x a (x.o - a + 1)) : no1 all k x (a + 1) := by
  unfold no1 at *; rw [any_range_succ, h, h']; rfl
theorem some1_no {all k : Nat} {x : K} (h : no1 all k x (x.o + 1)) : some1 all k x = false := h

theorem any2_yes {m : Nat} {p : Nat → Nat → Bool} {a b : Nat} (h : a + b ≤ m) (hp : p a b = true) : any2 m p = true := by
  unfold any2
  exact List.any_eq_true.2 ⟨a, List.mem_range.2 (by omega), List.any_eq_true.2 ⟨b, List.mem_range.2 (by omega), hp⟩⟩
theorem some1_yes {all k : Nat} {x : K} {a b c d e f : Nat} (h1 : a + b ≤ x.o) (h2 : c + d ≤ x.h) (h3 : e + f ≤ x.l) (h : does all k x a b c d e f = true) : some1 all k x = true :=
  any2_yes h1 (any2_yes h2 (any2_yes h3 h))

theorem FR.call {gF gS L all k : Nat} {x : K} {s : Nat → Int} {w wr w1 : World} {M : Array Value} {s' s1 : Nat → Int} (h : FR gF gS L all k x s w M wr) (hs' : ∀ i, k < i % 6 → s' i = s i)
    (hF : FI gF gS L all w1 s1) (hM : Mem all k s1) (hs : ∀ i, k < i % 6 → s1 i = s' i) (hK : Kp [gS] wr w1) : FR gF gS L all k x s w M w1 := by
  obtain ⟨_, hK0, b1, b2, b3, l1, l2⟩ := h
  exact ⟨⟨s1, hF, hM, fun i hi => (hs i hi).trans (hs' i hi)⟩, hK0.trans hK, hK.blk b1 (by simp; omega), hK.blk b2 (by simp; omega), hK.blk b3 (by simp; omega), l1, l2⟩

theorem FI.far {gF gS L all : Nat} {w : World} {s : Nat → Int} (h : FI gF gS L all w s) {p : Addr} (h1 : gF ≠ p.block) (h2 : gS ≠ p.block) (u : Value) : FI gF gS L all (w.setCell p u) s := by
  obtain ⟨a1, A, a2, a3⟩ := h
  exact ⟨blk_far a1 h1 _, A, blk_far a2 h2 _, a3⟩

theorem FR.start {gF gS L all k : Nat} {x : K} {s : Nat → Int} {w : World} (hF : FI gF gS L all w s) (hM : Mem all k s) (nq : Nat) :
    FR gF gS L all k x s w #[cc 0, ii 0, ii 0, ii 0, ii 0, ii 0, ii 0, ii 0] ((((w.alloc (.cells #[.int .i64 x.o, .int .i64 x.h, .int .i64 x.l, .int .i64 x.n] 100)).alloc (.cells #[.int .i64 0, .int .i64 0, .int .i64 0, .int .i64 0, .int .i64 0, .int .i64 0, .int .i64 0, .int .i64 0] 191)).drewN nq).alloc (.cells #[.int .i64 0, .int .i64 0, .int .i64 0, .int .i64 0, .int .i64 0, .int .i64 0, .int .i64 0, .int .i64 0] 191)) := by
  have hF1 : gF < w.heap.size := blk_lt hF.1
  have hS1 : gS < w.heap.size := by obtain ⟨_, A, h2, _⟩ := hF; exact blk_lt h2
  refine ⟨⟨s, hF.kp ((((Kp.refl _ _).alloc _).alloc _).drewN _ |>.alloc _), hM, fun _ _ => rfl⟩, ((((Kp.refl _ _).alloc _).alloc _).drewN _ |>.alloc _), ?_, ?_, ?_, hF1, hS1⟩
  · exact blk_alloc (blk_alloc (blk_new _ _) _) _
  · show (((w.heap.push _).push _).push _)[w.heap.size + 1]? = _
    rw [Array.getElem?_push, if_neg (by simp), Array.getElem?_push, if_pos (by simp)]
  · show (((w.heap.push _).push _).push _)[w.heap.size + 1 + 1]? = _
    rw [Array.getElem?_push, if_pos (by simp)]
    rfl

theorem infoI64 : (Try.prog.info? 2).map (fun i => (i.zero, i.size, i.bytes)) = some (some (.int .i64 0), 1, 8) := by kernel_rfl

theorem eqMove (a0 a1 a2 a3 a4 a5 a6 a7 : Int) (w : World) (v : Bool) (hv : v = (a0 == 0 && a1 == 0 && a2 == 0 && a3 == 0 && a4 == 0 && a5 == 0 && a6 == 0 && a7 == 0)) :
    (binOp .eql 191 (.agg #[.int .i64 a0, .int .i64 a1, .int .i64 a2, .int .i64 a3, .int .i64 a4, .int .i64 a5, .int .i64 a6, .int .i64 a7]) (.agg #[.int .i64 0, .int .i64 0, .int .i64 0, .int .i64 0, .int .i64 0, .int .i64 0, .int .i64 0, .int .i64 0])).run Try.prog w = .ok (.bool v) w := by
  obtain ⟨i0, hi, _⟩ := info_parts infoI64
  rw [run_eql_ints (n := 8) (k := .i64) Try.underlying191 hi (by kernel_rfl) Try.underlying2 (by kernel_rfl) _ _ (fun i => [a0, a1, a2, a3, a4, a5, a6, a7].getD i 0) (fun _ => 0) (fun i hi => by
    match i, hi with
    | 0, _ => exact ⟨rfl, rfl⟩
    | 1, _ => exact ⟨rfl, rfl⟩
    | 2, _ => exact ⟨rfl, rfl⟩
    | 3, _ => exact ⟨rfl, rfl⟩
    | 4, _ => exact ⟨rfl, rfl⟩
    | 5, _ => exact ⟨rfl, rfl⟩
    | 6, _ => exact ⟨rfl, rfl⟩
    | 7, _ => exact ⟨rfl, rfl⟩) w, hv]
  simp [List.range, List.range.loop, Bool.and_assoc]

set_option maxHeartbeats 4000000 in
set_option maxRecDepth 100000 in
theorem specFirst (gF gS L all k : Nat) (hk : k ≤ 4) (hall14 : all ≤ 14) (hcan : CanSpec gF gS L all k) : FirstSpec gF gS L all k := by
  intro x s w hx hall hF hM
  have HF := Lib.hid hF
  replace hcan := Lib.hid hcan
  have hF0 : w.cell? ⟨gF, 0, none⟩ = some (.int .i64 all) := blk_cell hF.1 0
  have hF1 : gF < w.heap.size := blk_lt hF.1
  have hS1 : gS < w.heap.size := by obtain ⟨_, A, h2, _⟩ := hF; exact blk_lt h2
  have hx1 := hx.sum
  have hx2 : x.o + x.h + x.l ≤ all := hall
  clear hF
  unfold kval
  go_enter Try.func130, Try.ntmps130
  go_wp2_with fail
  go_quiet (fail)
  go_wp2_with fail
  obtain ⟨g, hg⟩ : ∃ g, g = all - x.o - x.h - x.l := ⟨_, rfl⟩
  rw [show (all : Int) - x.o - x.h - x.l = (g : Int) from by omega]
  have hg14 : g ≤ 14 := by omega
  replace hg := Lib.hid hg
  clear hF0
  go_loopg [] (x.o + 1) (fun k' wr => ∃ (a : Nat) (r1 r2 r3 r4 r5 r6 r7 : Int), a + k' = x.o + 1 ∧ Hid (no1 all k x a) ∧ Hid (FR gF gS L all k x s w #[cc a, ii r1, ii r2, ii r3, ii r4, ii r5, ii r6, ii r7] wr))
  case atStart => exact ⟨0, 0, 0, 0, 0, 0, 0, 0, by omega, Lib.hid rfl, Lib.hid (FR.start HF.out hM nq)⟩
  case round =>
    obtain ⟨a, r1, r2, r3, r4, r5, r6, r7, ha, hn1, HR⟩ := hrel
    obtain rfl : gk = x.o + 1 - a := by omega
    obtain ⟨_, _, hX, _, hW, _, _⟩ := HR.out
    obtain ⟨x0, x1, x2, x3⟩ := cells4 hX
    obtain ⟨m0, m1, m2, m3, m4, m5, m6, m7⟩ := cells8 hW
    obtain ⟨f0, f1, f2, f3, f4, f5, f6, f7⟩ := frozen8 hW
    have hz := blk_lt hW
    clear hX hW
    by_cases hc1 : a ≤ x.o
    · go_wp2_with fail
      go_loopg [] (x.o - a + 1) (fun k' wr => ∃ (b : Nat) (r2 r3 r4 r5 r6 r7 : Int), b + k' = x.o - a + 1 ∧ Hid (no2 all k x a b) ∧ Hid (FR gF gS L all k x s w #[cc a, cc b, ii r2, ii r3, ii r4, ii r5, ii r6, ii r7] wr))
      case atStart => exact ⟨0, r2, r3, r4, r5, r6, r7, by omega, Lib.hid rfl, Lib.hid (HR.out.set 1 _)⟩
      case round =>
        clear HR x0 x1 x2 x3 m0 m1 m2 m3 m4 m5 m6 m7 f0 f1 f2 f3 f4 f5 f6 f7 hz r1 r2 r3 r4 r5 r6 r7
        obtain ⟨b, r2, r3, r4, r5, r6, r7, hb, hn2, HR⟩ := hrel
        obtain rfl : gk = x.o - a + 1 - b := by omega
        obtain ⟨_, _, hX, _, hW, _, _⟩ := HR.out
        obtain ⟨x0, x1, x2, x3⟩ := cells4 hX
        obtain ⟨m0, m1, m2, m3, m4, m5, m6, m7⟩ := cells8 hW
        obtain ⟨f0, f1, f2, f3, f4, f5, f6, f7⟩ := frozen8 hW
        have hz := blk_lt hW
        clear hX hW
        by_cases hc2 : a + b ≤ x.o
        · have hda : decide ((a : Int) + b ≤ x.o) = true := by simp; omega
          go_wp2_with fail
          go_loopg [] (x.h + 1) (fun k' wr => ∃ (c : Nat) (r3 r4 r5 r6 r7 : Int), c + k' = x.h + 1 ∧ Hid (no3 all k x a b c) ∧ Hid (FR gF gS L all k x s w #[cc a, cc b, cc c, ii r3, ii r4, ii r5, ii r6, ii r7] wr))
          case atStart => exact ⟨0, r3, r4, r5, r6, r7, by omega, Lib.hid rfl, Lib.hid (HR.out.set 2 _)⟩
          case round =>
            clear HR x0 x1 x2 x3 m0 m1 m2 m3 m4 m5 m6 m7 f0 f1 f2 f3 f4 f5 f6 f7 hz r2 r3 r4 r5 r6 r7
            obtain ⟨c, r3, r4, r5, r6, r7, hc, hn3, HR⟩ := hrel
            obtain rfl : gk = x.h + 1 - c := by omega
            obtain ⟨_, _, hX, _, hW, _, _⟩ := HR.out
            obtain ⟨x0, x1, x2, x3⟩ := cells4 hX
            obtain ⟨m0, m1, m2, m3, m4, m5, m6, m7⟩ := cells8 hW
            obtain ⟨f0, f1, f2, f3, f4, f5, f6, f7⟩ := frozen8 hW
            have hz := blk_lt hW
            clear hX hW
            by_cases hc3 : c ≤ x.h
            · go_wp2_with fail
              go_loopg [] (x.h - c + 1) (fun k' wr => ∃ (d : Nat) (r4 r5 r6 r7 : Int), d + k' = x.h - c + 1 ∧ Hid (no4 all k x a b c d) ∧ Hid (FR gF gS L all k x s w #[cc a, cc b, cc c, cc d, ii r4, ii r5, ii r6, ii r7] wr))
              case atStart => exact ⟨0, r4, r5, r6, r7, by omega, Lib.hid rfl, Lib.hid (HR.out.set 3 _)⟩
              case round =>
                clear HR x0 x1 x2 x3 m0 m1 m2 m3 m4 m5 m6 m7 f0 f1 f2 f3 f4 f5 f6 f7 hz r3 r4 r5 r6 r7
                obtain ⟨d, r4, r5, r6, r7, hd, hn4, HR⟩ := hrel
                obtain rfl : gk = x.h - c + 1 - d := by omega
                obtain ⟨_, _, hX, _, hW, _, _⟩ := HR.out
                obtain ⟨x0, x1, x2, x3⟩ := cells4 hX
                obtain ⟨m0, m1, m2, m3, m4, m5, m6, m7⟩ := cells8 hW
                obtain ⟨f0, f1, f2, f3, f4, f5, f6, f7⟩ := frozen8 hW
                have hz := blk_lt hW
                clear hX hW
                by_cases hc4 : c + d ≤ x.h
                · have hdc : decide ((c : Int) + d ≤ x.h) = true := by simp; omega
                  go_wp2_with fail
                  go_loopg [] (x.l + 1) (fun k' wr => ∃ (e : Nat) (r5 r6 r7 : Int), e + k' = x.l + 1 ∧ Hid (no5 all k x a b c d e) ∧ Hid (FR gF gS L all k x s w #[cc a, cc b, cc c, cc d, cc e, ii r5, ii r6, ii r7] wr))
                  case atStart => exact ⟨0, r5, r6, r7, by omega, Lib.hid rfl, Lib.hid (HR.out.set 4 _)⟩
                  case round =>
                    clear HR x0 x1 x2 x3 m0 m1 m2 m3 m4 m5 m6 m7 f0 f1 f2 f3 f4 f5 f6 f7 hz r4 r5 r6 r7
                    obtain ⟨e, r5, r6, r7, he, hn5, HR⟩ := hrel
                    obtain rfl : gk = x.l + 1 - e := by omega
                    obtain ⟨_, _, hX, _, hW, _, _⟩ := HR.out
                    obtain ⟨x0, x1, x2, x3⟩ := cells4 hX
                    obtain ⟨m0, m1, m2, m3, m4, m5, m6, m7⟩ := cells8 hW
                    obtain ⟨f0, f1, f2, f3, f4, f5, f6, f7⟩ := frozen8 hW
                    have hz := blk_lt hW
                    clear hX hW
                    by_cases hc5 : e ≤ x.l
                    · go_wp2_with fail
                      go_loopg [] (x.l - e + 1) (fun k' wr => ∃ (f : Nat) (r6 r7 : Int), f + k' = x.l - e + 1 ∧ Hid (no6 all k x a b c d e f) ∧ Hid (FR gF gS L all k x s w #[cc a, cc b, cc c, cc d, cc e, cc f, ii r6, ii r7] wr))
                      case atStart => exact ⟨0, r6, r7, by omega, Lib.hid rfl, Lib.hid (HR.out.set 5 _)⟩
                      case round =>
                        clear HR x0 x1 x2 x3 m0 m1 m2 m3 m4 m5 m6 m7 f0 f1 f2 f3 f4 f5 f6 f7 hz r5 r6 r7
                        obtain ⟨f, r6, r7, hf, hn6, HR⟩ := hrel
                        obtain rfl : gk = x.l - e + 1 - f := by omega
                        obtain ⟨_, _, hX, _, hW, _, _⟩ := HR.out
                        obtain ⟨x0, x1, x2, x3⟩ := cells4 hX
                        obtain ⟨m0, m1, m2, m3, m4, m5, m6, m7⟩ := cells8 hW
                        obtain ⟨f0, f1, f2, f3, f4, f5, f6, f7⟩ := frozen8 hW
                        have hz := blk_lt hW
                        clear hX hW
                        by_cases hc6 : e + f ≤ x.l
                        · have hde : decide ((e : Int) + f ≤ x.l) = true := by simp; omega
                          go_wp2_with fail
                          have hl : a + c + e ≤ 13 := by omega
                          have hr : b + d + f ≤ 13 := by omega
                          refine (specMax _ _ _).mono ?_
                          rintro e1 w1 ⟨rfl, rfl⟩
                          rw [show (if -((a : Int) + c + e - b - d - f) < 0 then 0 else -((a : Int) + c + e - b - d - f)) = ((b + d + f - (a + c + e) : Nat) : Int) from by split <;> omega]
                          have HR1 := Lib.hid (HR.out.set 6 (cc (b + d + f - (a + c + e))))
                          go_wp2_with fail
                          refine (specMax _ _ _).mono ?_
                          rintro e1 w1 ⟨rfl, rfl⟩
                          rw [show (if (a : Int) + c + e - b - d - f < 0 then 0 else (a : Int) + c + e - b - d - f) = ((a + c + e - (b + d + f) : Nat) : Int) from by split <;> omega]
                          have HR2 := Lib.hid (HR1.out.set 7 (cc (a + c + e - (b + d + f))))
                          obtain ⟨m7, hm7⟩ : ∃ m, m = a + c + e - (b + d + f) := ⟨_, rfl⟩
                          obtain ⟨m6, hm6⟩ : ∃ m, m = b + d + f - (a + c + e) := ⟨_, rfl⟩
                          rw [← hm7] at HR2 ⊢
                          rw [← hm6] at HR1 HR2 ⊢
                          have hm8 : m6 ≤ 13 := by omega
                          have hm9 : m7 ≤ 13 := by omega
                          by_cases h6 : g < m6
                          · have hdo : Hid (does all k x a b c d e f = false) := Lib.hid (by have := hg.out; simp [does, fits]; omega)
                            replace hm6 := Lib.hid hm6; replace hm7 := Lib.hid hm7
                            go_wp2_with fail
                            go_roundg (x.l - e - f)
                            case rel => exact ⟨f + 1, _, _, by omega, Lib.hid (no6_succ hn6.out hdo.out), Lib.hid (HR2.out.set 5 (cc (f + 1)))⟩
                            case measure => omega
                          · by_cases h7 : g < m7
                            · have hdo : Hid (does all k x a b c d e f = false) := Lib.hid (by have := hg.out; simp [does, fits]; omega)
                              replace hm6 := Lib.hid hm6; replace hm7 := Lib.hid hm7
                              go_wp2_with fail
                              go_roundg (x.l - e - f)
                              case rel => exact ⟨f + 1, _, _, by omega, Lib.hid (no6_succ hn6.out hdo.out), Lib.hid (HR2.out.set 5 (cc (f + 1)))⟩
                              case measure => omega
                            · by_cases h0 : a + b + c + d + e + f = 0
                              · have hdo : Hid (does all k x a b c d e f = false) := Lib.hid (by have := hg.out; simp [does, fits]; omega)
                                have hq := fun w' => eqMove a b c d e f m6 m7 w' true (by
                                  obtain ⟨rfl, rfl, rfl, rfl, rfl, rfl⟩ : a = 0 ∧ b = 0 ∧ c = 0 ∧ d = 0 ∧ e = 0 ∧ f = 0 := by omega
                                  simp at hm6 hm7; subst hm6; subst hm7; rfl)
                                replace hm6 := Lib.hid hm6; replace hm7 := Lib.hid hm7; replace h0 := Lib.hid h0
                                go_wp2_with fail
                                go_roundg (x.l - e - f)
                                case rel => exact ⟨f + 1, _, _, by omega, Lib.hid (no6_succ hn6.out hdo.out), Lib.hid (HR2.out.set 5 (cc (f + 1)))⟩
                                case measure => omega
                              · have hq := fun w' => eqMove a b c d e f m6 m7 w' false (by
                                  by_cases q0 : a = 0
                                  · by_cases q1 : b = 0
                                    · by_cases q2 : c = 0
                                      · by_cases q3 : d = 0
                                        · by_cases q4 : e = 0
                                          · have q5 : f ≠ 0 := by omega
                                            simp [q5]
                                          · simp [q4]
                                        · simp [q3]
                                      · simp [q2]
                                    · simp [q1]
                                  · simp [q0])
                                have hfit : Hid (does all k x a b c d e f = wk all k x a b c d e f) := Lib.hid (by
                                  have hgg := hg.out
                                  have : fits (all - x.o - x.h - x.l) a b c d e f = true := by simp [fits]; omega
                                  simp [does, wk, this])
                                replace hm6 := Lib.hid hm6; replace hm7 := Lib.hid hm7; replace h0 := Lib.hid h0
                                go_wp2_with fail
                                obtain ⟨⟨s', hF', hM', hs'⟩, _, _, _, hW, _, _⟩ := HR2.out
                                refine (specWorks gF gS L all k x a b c d e f m6 m7 s' _ (w.heap.size + 1 + 1) hcan.out hk hx hall hc2 hc4 hc6 hF' hM' (by omega) hW).mono ?_
                                rintro e1 w1 ⟨rfl, s1, hF1, hM1, hs1, hK1⟩
                                have HR3 := Lib.hid (HR2.out.call hs' hF1 hM1 hs1 hK1)
                                clear hF' hM' hs' hW hF1 hM1 hs1 hK1 hq
                                clear x0 x1 x2 x3 m0 m1 m2 m3 m4 m5 f0 f1 f2 f3 f4 f5 f6 f7 hz
                                obtain ⟨_, hK3, _, hQ, hW, _, _⟩ := HR3.out
                                obtain ⟨m0, m1, m2, m3, m4, m5, m6', m7'⟩ := cells8 hW
                                obtain ⟨f0, f1, f2, f3, f4, f5, f6, f7⟩ := frozen8 hW
                                obtain ⟨q0, q1, q2, q3, q4, q5, q6, q7⟩ := cells8 hQ
                                obtain ⟨z0, z1, z2, z3, z4, z5, z6, z7⟩ := frozen8 hQ
                                have hz := blk_lt hW
                                replace hK3 := Lib.hid hK3
                                clear hQ hW
                                obtain ⟨v, hv⟩ : ∃ v, wk all k x a b c d e f = v := ⟨_, rfl⟩
                                rw [hv]
                                replace hv := Lib.hid hv
                                cases v with
                                | false =>
                                  go_wp2_with fail
                                  go_roundg (x.l - e - f)
                                  case rel => exact ⟨f + 1, _, _, by omega, Lib.hid (no6_succ hn6.out (hfit.out.trans hv.out)), Lib.hid (HR3.out.set 5 (cc (f + 1)))⟩
                                  case measure => omega
                                | true =>
                                  have HS : Hid (some1 all k x = true) := Lib.hid (some1_yes hc2 hc4 hc6 (hfit.out.trans hv.out))
                                  go_wp2_with fail
                                  obtain ⟨⟨s', hF', hM', hs'⟩, hK', _, _, _, hl1, hl2⟩ := HR3.out
                                  refine bodyPost_ret (v := .tuple #[.agg #[.int .i64 a, .int .i64 b, .int .i64 c, .int .i64 d, .int .i64 e, .int .i64 f, .int .i64 m6, .int .i64 m7], .bool true]) (by simp [results, Try.results130, go_sem, q0, q1, q2, q3, q4, q5, q6, q7]) rfl ⟨_, _, _, _, _, _, _, _, by rw [HS.out], s', ?_, hM', hs', ?_⟩
                                  · repeat (first | (with_reducible exact hF') | refine FI.far ?_ (by simp; omega) (by simp; omega) _)
                                  · repeat (first | (with_reducible exact hK') | refine Kp.setCell ?_ (.inr (by simp)) _)
                        · obtain rfl : f = x.l - e + 1 := by omega
                          go_wp2_with fail
                          go_roundg (x.l - e)
                          case rel => exact ⟨e + 1, _, _, _, by omega, Lib.hid (no5_succ hn5.out hn6.out), Lib.hid (HR.out.set 4 (cc (e + 1)))⟩
                          case measure => omega
                    · obtain rfl : e = x.l + 1 := by omega
                      go_wp2_with fail
                      go_roundg (x.h - c - d)
                      case rel => exact ⟨d + 1, _, _, _, _, by omega, Lib.hid (no4_succ hn4.out hn5.out), Lib.hid (HR.out.set 3 (cc (d + 1)))⟩
                      case measure => omega
                · obtain rfl : d = x.h - c + 1 := by omega
                  go_wp2_with fail
                  go_roundg (x.h - c)
                  case rel => exact ⟨c + 1, _, _, _, _, _, by omega, Lib.hid (no3_succ hn3.out hn4.out), Lib.hid (HR.out.set 2 (cc (c + 1)))⟩
                  case measure => omega
            · obtain rfl : c = x.h + 1 := by omega
              go_wp2_with fail
              go_roundg (x.o - a - b)
              case rel => exact ⟨b + 1, _, _, _, _, _, _, by omega, Lib.hid (no2_succ hn2.out hn3.out), Lib.hid (HR.out.set 1 (cc (b + 1)))⟩
              case measure => omega
        · obtain rfl : b = x.o - a + 1 := by omega
          go_wp2_with fail
          go_roundg (x.o - a)
          case rel => exact ⟨a + 1, _, _, _, _, _, _, _, by omega, Lib.hid (no1_succ hn1.out hn2.out), Lib.hid (HR.out.set 0 (cc (a + 1)))⟩
          case measure => omega
    · clear m0 m1 m2 m3 m4 m5 m6 m7 f0 f1 f2 f3 f4 f5 f6 f7 hz
      obtain rfl : a = x.o + 1 := by omega
      have HS : Hid (some1 all k x = false) := Lib.hid (some1_no hn1.out)
      obtain ⟨_, hK3, _, hQ, hW, _, _⟩ := HR.out
      obtain ⟨m0, m1, m2, m3, m4, m5, m6', m7'⟩ := cells8 hW
      obtain ⟨f0, f1, f2, f3, f4, f5, f6, f7⟩ := frozen8 hW
      obtain ⟨q0, q1, q2, q3, q4, q5, q6, q7⟩ := cells8 hQ
      obtain ⟨z0, z1, z2, z3, z4, z5, z6, z7⟩ := frozen8 hQ
      have hz := blk_lt hW
      replace hK3 := Lib.hid hK3
      clear hQ hW
      go_wp2_with fail
      obtain ⟨⟨s', hF', hM', hs'⟩, hK', _, _, _, hl1, hl2⟩ := HR.out
      refine bodyPost_ret (v := .tuple #[.agg #[.int .i64 0, .int .i64 0, .int .i64 0, .int .i64 0, .int .i64 0, .int .i64 0, .int .i64 0, .int .i64 0], .bool false]) (by simp [results, Try.results130, go_sem, q0, q1, q2, q3, q4, q5, q6, q7]) rfl ⟨_, _, _, _, _, _, _, _, by rw [HS.out], s', ?_, hM', hs', ?_⟩
      · repeat (first | (with_reducible exact hF') | refine FI.far ?_ (by simp; omega) (by simp; omega) _)
      · repeat (first | (with_reducible exact hK') | refine Kp.setCell ?_ (.inr (by simp)) _)
end Go.Proofs.Ytafimdhmdakcaaa
