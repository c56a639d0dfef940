/- The plain law of coins: what can be found by weighings, as numbers alone. No condition. -/
set_option linter.unusedVariables false
set_option linter.unusedSimpArgs false
namespace Go.Proofs.Ytafimdhmdakcaaa.Coins

/-- How many coins are open, may be heavier, may be lighter; whether there may be none (0 or 1). -/
structure K where
  o : Nat
  h : Nat
  l : Nat
  n : Nat
deriving DecidableEq

def K.cases (x : K) : Nat := 2 * x.o + x.h + x.l + x.n
def K.sum (x : K) : Nat := x.o + x.h + x.l

/-- Is there a pair of numbers, together at most m, with p? -/
def any2 (m : Nat) (p : Nat → Nat → Bool) : Bool := (List.range (m + 1)).any fun a => (List.range (m - a + 1)).any fun b => p a b

def neg (a b c d e f : Nat) : K := ⟨0, a + c, b + f, 0⟩
def pos (a b c d e f : Nat) : K := ⟨0, b + d, a + e, 0⟩
def zer (x : K) (a b c d e f : Nat) : K := ⟨x.o - a - b, x.h - c - d, x.l - e - f, x.n⟩

def fits (g a b c d e f : Nat) : Bool := decide (a + c + e + b + d + f ≠ 0) && decide (b + d + f - (a + c + e) ≤ g) && decide (a + c + e - (b + d + f) ≤ g)

/-- Can k weighings find all cases? -/
def can (all : Nat) : Nat → K → Bool
  | 0, x => decide (x.cases ≤ 1)
  | k + 1, x => decide (x.cases ≤ 1) || (decide (x.cases ≤ 3 ^ (k + 1)) &&
      any2 x.o fun a b => any2 x.h fun c d => any2 x.l fun e f =>
        fits (all - x.o - x.h - x.l) a b c d e f && (can all k (neg a b c d e f) && can all k (zer x a b c d e f) && can all k (pos a b c d e f)))

/-- One weighing does, with k more behind it. -/
def does (all k : Nat) (x : K) (a b c d e f : Nat) : Bool :=
  fits (all - x.o - x.h - x.l) a b c d e f && (can all k (neg a b c d e f) && can all k (zer x a b c d e f) && can all k (pos a b c d e f))

/-- Some weighing does. -/
def some1 (all k : Nat) (x : K) : Bool := any2 x.o fun a b => any2 x.h fun c d => any2 x.l fun e f => does all k x a b c d e f

theorem can_zero (all : Nat) (x : K) : can all 0 x = decide (x.cases ≤ 1) := rfl
theorem can_succ (all k : Nat) (x : K) : can all (k + 1) x = (decide (x.cases ≤ 1) || (decide (x.cases ≤ 3 ^ (k + 1)) && some1 all k x)) := rfl

theorem can_small (all k : Nat) (x : K) (h : x.cases ≤ 1) : can all k x = true := by
  cases k <;> simp [can, h]
theorem can_large (all k : Nat) (x : K) (h : ¬ x.cases ≤ 1) (h' : ¬ x.cases ≤ 3 ^ k) : can all k x = false := by
  cases k <;> simp [can, h, h']
theorem can_mid (all k : Nat) (x : K) (h : ¬ x.cases ≤ 1) (h' : x.cases ≤ 3 ^ (k + 1)) : can all (k + 1) x = some1 all k x := by
  simp [can_succ, h, h']

/-- The place of what is known, with k weighings left, in a list of 14 * 14 * 14 * 2 * 6. -/
def place (x : K) (k : Nat) : Nat := (((x.o * 14 + x.h) * 14 + x.l) * 2 + x.n) * 6 + k

structure Ok (x : K) : Prop where
  sum : x.o + x.h + x.l ≤ 13
  n : x.n ≤ 1

theorem place_lt {x : K} {k : Nat} (h : Ok x) (hk : k ≤ 5) : place x k < 32928 := by
  obtain ⟨h1, h2⟩ := h
  unfold place; omega

theorem place_mod {x : K} {k : Nat} (hk : k ≤ 5) : place x k % 6 = k := by
  unfold place; omega

theorem place_inj {x y : K} {k j : Nat} (hx : Ok x) (hy : Ok y) (hk : k ≤ 5) (hj : j ≤ 5) (h : place x k = place y j) : x = y ∧ k = j := by
  obtain ⟨h1, h2⟩ := hx
  obtain ⟨h3, h4⟩ := hy
  unfold place at h
  have e1 : k = j := by omega
  subst e1
  have e2 : x.n = y.n := by omega
  have e3 : x.l = y.l := by omega
  have e4 : x.h = y.h := by omega
  have e5 : x.o = y.o := by omega
  cases x; cases y; simp at *; exact ⟨e5, e4, e3, e2⟩

/-- What the list of what is known tells up to k weighings. -/
def Mem (all k : Nat) (s : Nat → Int) : Prop := ∀ x j, Ok x → j ≤ k → s (place x j) = 0 ∨ s (place x j) = if can all j x then 2 else 1

theorem Mem.mono {all k j : Nat} {s : Nat → Int} (h : Mem all k s) (hj : j ≤ k) : Mem all j s := fun x i hx hi => h x i hx (Nat.le_trans hi hj)

theorem neg_ok {x : K} (hx : Ok x) {a b c d e f : Nat} (h1 : a + b ≤ x.o) (h2 : c + d ≤ x.h) (h3 : e + f ≤ x.l) : Ok (neg a b c d e f) := by
  obtain ⟨h, _⟩ := hx
  exact ⟨by simp only [neg]; omega, by simp [neg]⟩
theorem pos_ok {x : K} (hx : Ok x) {a b c d e f : Nat} (h1 : a + b ≤ x.o) (h2 : c + d ≤ x.h) (h3 : e + f ≤ x.l) : Ok (pos a b c d e f) := by
  obtain ⟨h, _⟩ := hx
  exact ⟨by simp only [pos]; omega, by simp [pos]⟩
theorem zer_ok {x : K} (hx : Ok x) (a b c d e f : Nat) : Ok (zer x a b c d e f) := by
  obtain ⟨h, h'⟩ := hx
  exact ⟨by simp only [zer]; omega, by simpa [zer] using h'⟩

/-- 'any' over a range, one more. -/
theorem any_range_succ (n : Nat) (p : Nat → Bool) : (List.range (n + 1)).any p = ((List.range n).any p || p n) := by
  rw [List.range_succ, List.any_append]; simp

end Go.Proofs.Ytafimdhmdakcaaa.Coins
