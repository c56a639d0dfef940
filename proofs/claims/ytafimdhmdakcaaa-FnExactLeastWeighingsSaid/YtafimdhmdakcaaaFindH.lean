/- The program's search of weighings: what is known at the beginning. Condition: the task is valid. -/
import Derived.Test.YtafimdhmdakcaaaFindG
set_option linter.unusedVariables false
set_option linter.unusedSimpArgs false
namespace Go.Proofs.Ytafimdhmdakcaaa
open Go Go.RowKit Coins

set_option maxHeartbeats 1000000 in
set_option maxRecDepth 100000 in
theorem implOf (a0 a1 a2 a3 : Option Addr) (l0 l1 l2 l3 c0 c1 c2 c3 : Nat) (n : Bool) (w : World) (h0 : l0 ≤ 13) (h1 : l1 ≤ 13) (h2 : l2 ≤ 13) (h3 : l3 ≤ 13) :
    Calls Try.prog 68 #[.agg #[.slice a0 l0 c0, .slice a1 l1 c1, .slice a2 l2 c2, .slice a3 l3 c3], .bool n] w fun e w' => e = .returned (.agg #[.int .i64 l0, .int .i64 l1, .int .i64 l2, .int .i64 l3, .bool n]) ∧ Below w.heap.size w w' := by
  have i0 : ∀ w, (Instr.index 112 (.agg #[.slice a0 l0 c0, .slice a1 l1 c1, .slice a2 l2 c2, .slice a3 l3 c3]) (.int .i64 0)).run Try.prog w = .ok (.slice a0 l0 c0) w := fun _ => by kernel_rfl
  have i1 : ∀ w, (Instr.index 112 (.agg #[.slice a0 l0 c0, .slice a1 l1 c1, .slice a2 l2 c2, .slice a3 l3 c3]) (.int .i64 1)).run Try.prog w = .ok (.slice a1 l1 c1) w := fun _ => by kernel_rfl
  have i2 : ∀ w, (Instr.index 112 (.agg #[.slice a0 l0 c0, .slice a1 l1 c1, .slice a2 l2 c2, .slice a3 l3 c3]) (.int .i64 2)).run Try.prog w = .ok (.slice a2 l2 c2) w := fun _ => by kernel_rfl
  have i3 : ∀ w, (Instr.index 112 (.agg #[.slice a0 l0 c0, .slice a1 l1 c1, .slice a2 l2 c2, .slice a3 l3 c3]) (.int .i64 3)).run Try.prog w = .ok (.slice a3 l3 c3) w := fun _ => by kernel_rfl
  go_enter Try.func68, Try.ntmps68
  go_wp2_with fail
  refine wp_loop_rounds 5 ?_
  rw [rounds_succ]
  go_wp2_with fail
  rw [rounds_succ]
  go_wp2_with fail
  rw [rounds_succ]
  go_wp2_with fail
  rw [rounds_succ]
  go_wp2_with fail
  rw [rounds_succ]
  go_wp2_with fail
  refine bodyPost_ret (v := .agg #[.int .i64 l0, .int .i64 l1, .int .i64 l2, .int .i64 l3, .bool n]) (by simp [results, Try.results68, go_sem]) rfl ⟨rfl, ?_⟩
  repeat (first | (with_reducible exact Below.refl _ _) | (with_reducible refine Below.drew ?_) | (with_reducible refine Below.setCell ?_ (by simp) _) | (with_reducible refine Below.alloc ?_ (by simp <;> omega) _))

theorem infoI8' : (Try.prog.info? 22).map (fun i => (i.zero, i.size, i.bytes)) = some (some (.int .i8 0), 1, 1) := by kernel_rfl

/-- Four slices whose lengths are told. -/
def KnownPost (l0 l1 l2 l3 : Nat) (w : World) (e : Ending) (w' : World) : Prop :=
  ∃ a0 a1 a2 a3 c0 c1 c2 c3, e = .returned (.agg #[.slice a0 l0 c0, .slice a1 l1 c1, .slice a2 l2 c2, .slice a3 l3 c3]) ∧ Below w.heap.size w w'

theorem own_ne {w : World} {base : Nat} {e t : TypeId} {size n b : Nat} {v : Value} {xs : List Value} {cs : Array Value} {fr : Nat × Nat} (h : w.ownsRow base e size v n xs) (hb : w.heap[b]? = some (.cells cs t fr)) (ht : t ≠ e) : some b ≠ v.ownBlock := by
  obtain ⟨_, h | ⟨g, cap, cur, rfl, _, hg, _⟩⟩ := h
  · rw [h.1]; simp [Value.ownBlock]
  · simp only [Value.ownBlock]
    rintro e
    injection e with e
    subst e
    rw [hb] at hg
    injection hg with hg
    injection hg with _ h2
    exact ht h2

theorem blk_grown {w w1 : World} {row : Option Nat} {b : Nat} {o : Obj} (h : w.heap[b]? = some o) (hg : w.grownBy w1 row) (hne : some b ≠ row) : w1.heap[b]? = some o := by
  rw [hg.block b (blk_lt h) hne, h]

theorem own_far {w : World} {base : Nat} {e : TypeId} {size n : Nat} {v : Value} {xs : List Value} (h : w.ownsRow base e size v n xs) {p : Addr} (hp : some p.block ≠ v.ownBlock) (u : Value) : (w.setCell p u).ownsRow base e size v n xs := by
  obtain ⟨h1, h2⟩ := h
  refine ⟨h1, ?_⟩
  rcases h2 with h2 | ⟨g, cap, cur, rfl, h3, h4, h5⟩
  · exact .inl h2
  · refine .inr ⟨g, cap, cur, rfl, h3, ?_, h5⟩
    rw [Below.heap_setCell _ _ _ _ (fun e => hp (by simp [Value.ownBlock, e])), h4]

theorem own_slice {w : World} {base : Nat} {e : TypeId} {size n : Nat} {v : Value} {xs : List Value} (h : w.ownsRow base e size v n xs) : ∃ a c, v = .slice a n c := by
  obtain ⟨_, ⟨h, h'⟩ | ⟨g, cap, cur, rfl, _⟩⟩ := h
  · exact ⟨none, 0, by rw [h, h']⟩
  · exact ⟨_, _, rfl⟩

set_option maxHeartbeats 2000000 in
set_option maxRecDepth 100000 in
theorem implKnown0 (c : Nat) (n g : Bool) (w : World) (hc : c ≤ 13) :
    Calls Try.prog 67 #[.agg #[.int .i8 c, .int .i8 0, .bool n, .bool g]] w (KnownPost 0 c 0 g.toNat w) := by
  go_enter Try.func67, Try.ntmps67
  go_upto_region 1 with fail
  go_cut [3, 4] (fun s3 s4 wx => ∃ bo, s3 = .pointer (some ⟨bo, 0, none⟩) ∧ s4 = .int .i64 1 ∧ wx.heap[bo]? = some (.cells #[.slice none 0 0, .slice none 0 0, .slice none 0 0, .slice none 0 0] 112 (0, 0)) ∧ w.heap.size + 1 < bo ∧
    wx.heap[w.heap.size]? = some (.cells #[.int .i8 c, .int .i8 0, .bool n, .bool g] 27 (0, 0)) ∧ wx.heap[w.heap.size + 1]? = some (.cells #[.slice none 0 0, .slice none 0 0, .slice none 0 0, .slice none 0 0] 112 (0, 0)) ∧ Kp [] w wx)
  case first =>
    go_region
    all_goals
      go_wp2_with fail
      go_meet
      refine ⟨_, rfl, rfl, ?_, ?_, ?_, ?_, ?_⟩
      · (repeat (first | (with_reducible refine at_drew ?_) | ((with_reducible refine at_new ?_); simp; done) | (with_reducible refine blk_alloc ?_ _)))
      · omega
      · (repeat (first | (with_reducible refine at_drew ?_) | ((with_reducible refine at_new ?_); simp; done) | (with_reducible refine blk_alloc ?_ _)))
      · (repeat (first | (with_reducible refine at_drew ?_) | ((with_reducible refine at_new ?_); simp; done) | (with_reducible refine blk_alloc ?_ _)))
      · (repeat (first | (with_reducible exact Kp.refl _ _) | (with_reducible refine Kp.drew ?_) | (with_reducible refine Kp.drewN ?_ _) | (with_reducible refine Kp.alloc ?_ _)))
  case rest =>
    obtain ⟨bo, rfl, rfl, hb, hlt, hT, hR, hK⟩ := hcut
    obtain ⟨t0, t1, t2, t3⟩ := cells4 hT
    have hbo := blk_lt hb
    replace hb := Lib.hid hb; replace hT := Lib.hid hT; replace hR := Lib.hid hR; replace hK := Lib.hid hK
    obtain ⟨i0, hi, hz0, hz1, hz2⟩ := info_parts infoI8'
    go_wp2_with fail
    go_loopg [14] c (fun k' i wr => ∃ (j : Nat) (v : Value) (xs : List Value), j + k' = c ∧ i = .int .i8 j ∧ Hid (wr.ownsRow (w.heap.size + 1) 22 1 v j xs ∧ wr.heap[bo]? = some (.cells #[.slice none 0 0, v, .slice none 0 0, .slice none 0 0] 112 (0, 0)) ∧
        wr.heap[w.heap.size]? = some (.cells #[.int .i8 c, .int .i8 0, .bool n, .bool g] 27 (0, 0)) ∧ wr.heap[w.heap.size + 1]? = some (.cells #[.slice none 0 0, .slice none 0 0, .slice none 0 0, .slice none 0 0] 112 (0, 0)) ∧ Kp [] w wr))
    case atStart => exact ⟨0, .slice none 0 0, [], by omega, rfl, Lib.hid ⟨World.ownsRow_nil _ _ _ _, hb.out, hT.out, hR.out, hK.out⟩⟩
    case round =>
      obtain ⟨j, v, xs, hj, rfl, hr⟩ := hrel
      obtain ⟨hown, hbw, hTw, hRw, hKw⟩ := hr.out
      obtain ⟨a1, cp, hv1⟩ := own_slice hown
      subst hv1
      have c1 : wr.cell? ⟨bo, 1, none⟩ = some (.slice a1 j cp) := blk_cell hbw 1
      have f1 : wr.frozen? ⟨bo, 1, none⟩ = false := blk_frozen hbw 1
      have hbz := blk_lt hbw
      have hg3 : wr.cell? ⟨w.heap.size, 3, none⟩ = some (.bool g) := blk_cell hTw 3
      have hg0 : wr.cell? ⟨w.heap.size, 0, none⟩ = some (.int .i8 c) := blk_cell hTw 0
      have hne := own_ne hown hbw (by decide)
      have hbw := Lib.hid hbw
      replace hTw := Lib.hid hTw; replace hRw := Lib.hid hRw; replace hKw := Lib.hid hKw; replace hne := Lib.hid hne
      by_cases hjc : j < c
      · go_wp2_with (at_builtin; refine wpList_append_own _ rfl _ _ 110 rfl (w.heap.size + 1) 22 i0 (.int .i8 0) 1 1 Try.underlying110 hi hz0 hz1 hz2 rfl (by decide) _ _ _ rfl (hown.alloc _) ⟨wr.heap.size, 0, none⟩ 1 1 [.int .i8 j] rfl rfl ?c1 ?c2 ?c3 ?c4 ?c5 ?_)
        case c1 =>
          intro q u hq
          match q, hq with
          | 0, hq => simp at hq; subst hq; simp [Addr.add]
        case c2 => intro u hu; simp at hu; subst hu; rfl
        case c3 => unfold maxLen; omega
        case c4 => omega
        case c5 => have := hKw.out.size; simp; omega
        intro v' w1 hown' hgrow _
        obtain ⟨a', c', hv'⟩ := own_slice hown'
        rw [hv'] at hown' ⊢
        clear hv'
        have hb1 := blk_grown (blk_alloc hbw.out _) hgrow hne.out
        have hcell : w1.cell? ⟨bo, 1, none⟩ = some (.slice a1 j cp) := blk_cell hb1 1
        have hfr : w1.frozen? ⟨bo, 1, none⟩ = false := blk_frozen hb1 1
        have hsz := hgrow.size
        simp at hsz
        have hown1 := Lib.hid hown'; have hgrow1 := Lib.hid hgrow
        replace hb1 := Lib.hid hb1
        clear hown' hgrow
        go_wp2_with fail
        go_roundg (gk - 1)
        case rel =>
          have hne1 := own_ne hown1.out hb1.out (by decide)
          refine ⟨j + 1, .slice a' (j + 1) c', xs ++ [.int .i8 j], by omega, by go_num, Lib.hid ⟨own_far hown1.out hne1 _, blk_set hb1.out 1 _, ?_, ?_, ?_⟩⟩
          · exact blk_far (blk_grown (blk_alloc hTw.out _) hgrow1.out (own_ne hown hTw.out (by decide))) (by simp; omega) _
          · exact blk_far (blk_grown (blk_alloc hRw.out _) hgrow1.out (own_ne hown hRw.out (by decide))) (by simp; omega) _
          · exact ((hKw.out.alloc _).grown hgrow1.out (fun k hk => .inr (by have := hown.lt k hk; omega))).setCell (.inr (by simp; omega)) _
        case measure => omega
      · obtain rfl : j = c := by omega
        obtain ⟨q0, q1, q2, q3⟩ := cells4 hRw.out
        obtain ⟨b0, b1, b2, b3⟩ := cells4 hbw.out
        have fr3 : wr.frozen? ⟨bo, 3, none⟩ = false := blk_frozen hbw.out 3
        have z0 : wr.frozen? ⟨w.heap.size + 1, 0, none⟩ = false := blk_frozen hRw.out 0
        have z1 : wr.frozen? ⟨w.heap.size + 1, 1, none⟩ = false := blk_frozen hRw.out 1
        have z2 : wr.frozen? ⟨w.heap.size + 1, 2, none⟩ = false := blk_frozen hRw.out 2
        have z3 : wr.frozen? ⟨w.heap.size + 1, 3, none⟩ = false := blk_frozen hRw.out 3
        have hbo1 : bo ≠ w.heap.size + 1 := by omega
        have hbo2 : w.heap.size + 1 ≠ bo := by omega
        have hbR := blk_lt hRw.out
        cases g with
        | false =>
          go_wp2_with fail
          refine bodyPost_ret (v := .agg #[.slice none 0 0, .slice a1 j cp, .slice none 0 0, .slice none 0 0]) (by simp [results, Try.results67, go_sem, q0, q1, q2, q3, hbo1, hbo2, hbR]) rfl ⟨_, _, _, _, _, _, _, _, rfl, Kp.below ?_⟩
          repeat (first | (with_reducible exact hKw.out) | (with_reducible refine Kp.drew ?_) | (with_reducible refine Kp.setCell ?_ (.inr (by simp <;> omega)) _) | (with_reducible refine Kp.alloc ?_ _))
        | true =>
          go_wp2_with fail
          refine bodyPost_ret (v := .agg #[.slice none 0 0, .slice a1 j cp, .slice none 0 0, .slice (some ⟨wr.heap.size, 0, none⟩) 1 1]) (by simp [results, Try.results67, go_sem, q0, q1, q2, q3, hbo1, hbo2, hbR]) rfl ⟨_, _, _, _, _, _, _, _, rfl, Kp.below ?_⟩
          repeat (first | (with_reducible exact hKw.out) | (with_reducible refine Kp.drew ?_) | (with_reducible refine Kp.setCell ?_ (.inr (by simp <;> omega)) _) | (with_reducible refine Kp.alloc ?_ _))
set_option maxHeartbeats 2000000 in
set_option maxRecDepth 100000 in
theorem implKnown1 (c : Nat) (n g : Bool) (w : World) (hc : c ≤ 13) :
    Calls Try.prog 67 #[.agg #[.int .i8 c, .int .i8 1, .bool n, .bool g]] w (KnownPost 0 0 c g.toNat w) := by
  go_enter Try.func67, Try.ntmps67
  go_upto_region 1 with fail
  go_cut [3, 4] (fun s3 s4 wx => ∃ bo, s3 = .pointer (some ⟨bo, 0, none⟩) ∧ s4 = .int .i64 2 ∧ wx.heap[bo]? = some (.cells #[.slice none 0 0, .slice none 0 0, .slice none 0 0, .slice none 0 0] 112 (0, 0)) ∧ w.heap.size + 1 < bo ∧
    wx.heap[w.heap.size]? = some (.cells #[.int .i8 c, .int .i8 1, .bool n, .bool g] 27 (0, 0)) ∧ wx.heap[w.heap.size + 1]? = some (.cells #[.slice none 0 0, .slice none 0 0, .slice none 0 0, .slice none 0 0] 112 (0, 0)) ∧ Kp [] w wx)
  case first =>
    go_region
    all_goals
      go_wp2_with fail
      go_meet
      refine ⟨_, rfl, rfl, ?_, ?_, ?_, ?_, ?_⟩
      · (repeat (first | (with_reducible refine at_drew ?_) | ((with_reducible refine at_new ?_); simp; done) | (with_reducible refine blk_alloc ?_ _)))
      · omega
      · (repeat (first | (with_reducible refine at_drew ?_) | ((with_reducible refine at_new ?_); simp; done) | (with_reducible refine blk_alloc ?_ _)))
      · (repeat (first | (with_reducible refine at_drew ?_) | ((with_reducible refine at_new ?_); simp; done) | (with_reducible refine blk_alloc ?_ _)))
      · (repeat (first | (with_reducible exact Kp.refl _ _) | (with_reducible refine Kp.drew ?_) | (with_reducible refine Kp.drewN ?_ _) | (with_reducible refine Kp.alloc ?_ _)))
  case rest =>
    obtain ⟨bo, rfl, rfl, hb, hlt, hT, hR, hK⟩ := hcut
    obtain ⟨t0, t1, t2, t3⟩ := cells4 hT
    have hbo := blk_lt hb
    replace hb := Lib.hid hb; replace hT := Lib.hid hT; replace hR := Lib.hid hR; replace hK := Lib.hid hK
    obtain ⟨i0, hi, hz0, hz1, hz2⟩ := info_parts infoI8'
    go_wp2_with fail
    go_loopg [14] c (fun k' i wr => ∃ (j : Nat) (v : Value) (xs : List Value), j + k' = c ∧ i = .int .i8 j ∧ Hid (wr.ownsRow (w.heap.size + 1) 22 1 v j xs ∧ wr.heap[bo]? = some (.cells #[.slice none 0 0, .slice none 0 0, v, .slice none 0 0] 112 (0, 0)) ∧
        wr.heap[w.heap.size]? = some (.cells #[.int .i8 c, .int .i8 1, .bool n, .bool g] 27 (0, 0)) ∧ wr.heap[w.heap.size + 1]? = some (.cells #[.slice none 0 0, .slice none 0 0, .slice none 0 0, .slice none 0 0] 112 (0, 0)) ∧ Kp [] w wr))
    case atStart => exact ⟨0, .slice none 0 0, [], by omega, rfl, Lib.hid ⟨World.ownsRow_nil _ _ _ _, hb.out, hT.out, hR.out, hK.out⟩⟩
    case round =>
      obtain ⟨j, v, xs, hj, rfl, hr⟩ := hrel
      obtain ⟨hown, hbw, hTw, hRw, hKw⟩ := hr.out
      obtain ⟨a1, cp, hv1⟩ := own_slice hown
      subst hv1
      have c1 : wr.cell? ⟨bo, 2, none⟩ = some (.slice a1 j cp) := blk_cell hbw 2
      have f1 : wr.frozen? ⟨bo, 2, none⟩ = false := blk_frozen hbw 2
      have hbz := blk_lt hbw
      have hg3 : wr.cell? ⟨w.heap.size, 3, none⟩ = some (.bool g) := blk_cell hTw 3
      have hg0 : wr.cell? ⟨w.heap.size, 0, none⟩ = some (.int .i8 c) := blk_cell hTw 0
      have hne := own_ne hown hbw (by decide)
      have hbw := Lib.hid hbw
      replace hTw := Lib.hid hTw; replace hRw := Lib.hid hRw; replace hKw := Lib.hid hKw; replace hne := Lib.hid hne
      by_cases hjc : j < c
      · go_wp2_with (at_builtin; refine wpList_append_own _ rfl _ _ 110 rfl (w.heap.size + 1) 22 i0 (.int .i8 0) 1 1 Try.underlying110 hi hz0 hz1 hz2 rfl (by decide) _ _ _ rfl (hown.alloc _) ⟨wr.heap.size, 0, none⟩ 1 1 [.int .i8 j] rfl rfl ?c1 ?c2 ?c3 ?c4 ?c5 ?_)
        case c1 =>
          intro q u hq
          match q, hq with
          | 0, hq => simp at hq; subst hq; simp [Addr.add]
        case c2 => intro u hu; simp at hu; subst hu; rfl
        case c3 => unfold maxLen; omega
        case c4 => omega
        case c5 => have := hKw.out.size; simp; omega
        intro v' w1 hown' hgrow _
        obtain ⟨a', c', hv'⟩ := own_slice hown'
        rw [hv'] at hown' ⊢
        clear hv'
        have hb1 := blk_grown (blk_alloc hbw.out _) hgrow hne.out
        have hcell : w1.cell? ⟨bo, 2, none⟩ = some (.slice a1 j cp) := blk_cell hb1 2
        have hfr : w1.frozen? ⟨bo, 2, none⟩ = false := blk_frozen hb1 2
        have hsz := hgrow.size
        simp at hsz
        have hown1 := Lib.hid hown'; have hgrow1 := Lib.hid hgrow
        replace hb1 := Lib.hid hb1
        clear hown' hgrow
        go_wp2_with fail
        go_roundg (gk - 1)
        case rel =>
          have hne1 := own_ne hown1.out hb1.out (by decide)
          refine ⟨j + 1, .slice a' (j + 1) c', xs ++ [.int .i8 j], by omega, by go_num, Lib.hid ⟨own_far hown1.out hne1 _, blk_set hb1.out 2 _, ?_, ?_, ?_⟩⟩
          · exact blk_far (blk_grown (blk_alloc hTw.out _) hgrow1.out (own_ne hown hTw.out (by decide))) (by simp; omega) _
          · exact blk_far (blk_grown (blk_alloc hRw.out _) hgrow1.out (own_ne hown hRw.out (by decide))) (by simp; omega) _
          · exact ((hKw.out.alloc _).grown hgrow1.out (fun k hk => .inr (by have := hown.lt k hk; omega))).setCell (.inr (by simp; omega)) _
        case measure => omega
      · obtain rfl : j = c := by omega
        obtain ⟨q0, q1, q2, q3⟩ := cells4 hRw.out
        obtain ⟨b0, b1, b2, b3⟩ := cells4 hbw.out
        have fr3 : wr.frozen? ⟨bo, 3, none⟩ = false := blk_frozen hbw.out 3
        have z0 : wr.frozen? ⟨w.heap.size + 1, 0, none⟩ = false := blk_frozen hRw.out 0
        have z1 : wr.frozen? ⟨w.heap.size + 1, 1, none⟩ = false := blk_frozen hRw.out 1
        have z2 : wr.frozen? ⟨w.heap.size + 1, 2, none⟩ = false := blk_frozen hRw.out 2
        have z3 : wr.frozen? ⟨w.heap.size + 1, 3, none⟩ = false := blk_frozen hRw.out 3
        have hbo1 : bo ≠ w.heap.size + 1 := by omega
        have hbo2 : w.heap.size + 1 ≠ bo := by omega
        have hbR := blk_lt hRw.out
        cases g with
        | false =>
          go_wp2_with fail
          refine bodyPost_ret (v := .agg #[.slice none 0 0, .slice none 0 0, .slice a1 j cp, .slice none 0 0]) (by simp [results, Try.results67, go_sem, q0, q1, q2, q3, hbo1, hbo2, hbR]) rfl ⟨_, _, _, _, _, _, _, _, rfl, Kp.below ?_⟩
          repeat (first | (with_reducible exact hKw.out) | (with_reducible refine Kp.drew ?_) | (with_reducible refine Kp.setCell ?_ (.inr (by simp <;> omega)) _) | (with_reducible refine Kp.alloc ?_ _))
        | true =>
          go_wp2_with fail
          refine bodyPost_ret (v := .agg #[.slice none 0 0, .slice none 0 0, .slice a1 j cp, .slice (some ⟨wr.heap.size, 0, none⟩) 1 1]) (by simp [results, Try.results67, go_sem, q0, q1, q2, q3, hbo1, hbo2, hbR]) rfl ⟨_, _, _, _, _, _, _, _, rfl, Kp.below ?_⟩
          repeat (first | (with_reducible exact hKw.out) | (with_reducible refine Kp.drew ?_) | (with_reducible refine Kp.setCell ?_ (.inr (by simp <;> omega)) _) | (with_reducible refine Kp.alloc ?_ _))
set_option maxHeartbeats 2000000 in
set_option maxRecDepth 100000 in
theorem implKnown2 (c : Nat) (n g : Bool) (w : World) (hc : c ≤ 13) :
    Calls Try.prog 67 #[.agg #[.int .i8 c, .int .i8 2, .bool n, .bool g]] w (KnownPost c 0 0 g.toNat w) := by
  go_enter Try.func67, Try.ntmps67
  go_upto_region 1 with fail
  go_cut [3, 4] (fun s3 s4 wx => ∃ bo, s3 = .pointer (some ⟨bo, 0, none⟩) ∧ s4 = .int .i64 0 ∧ wx.heap[bo]? = some (.cells #[.slice none 0 0, .slice none 0 0, .slice none 0 0, .slice none 0 0] 112 (0, 0)) ∧ w.heap.size + 1 < bo ∧
    wx.heap[w.heap.size]? = some (.cells #[.int .i8 c, .int .i8 2, .bool n, .bool g] 27 (0, 0)) ∧ wx.heap[w.heap.size + 1]? = some (.cells #[.slice none 0 0, .slice none 0 0, .slice none 0 0, .slice none 0 0] 112 (0, 0)) ∧ Kp [] w wx)
  case first =>
    go_region
    all_goals
      go_wp2_with fail
      go_meet
      refine ⟨_, rfl, rfl, ?_, ?_, ?_, ?_, ?_⟩
      · (repeat (first | (with_reducible refine at_drew ?_) | ((with_reducible refine at_new ?_); simp; done) | (with_reducible refine blk_alloc ?_ _)))
      · omega
      · (repeat (first | (with_reducible refine at_drew ?_) | ((with_reducible refine at_new ?_); simp; done) | (with_reducible refine blk_alloc ?_ _)))
      · (repeat (first | (with_reducible refine at_drew ?_) | ((with_reducible refine at_new ?_); simp; done) | (with_reducible refine blk_alloc ?_ _)))
      · (repeat (first | (with_reducible exact Kp.refl _ _) | (with_reducible refine Kp.drew ?_) | (with_reducible refine Kp.drewN ?_ _) | (with_reducible refine Kp.alloc ?_ _)))
  case rest =>
    obtain ⟨bo, rfl, rfl, hb, hlt, hT, hR, hK⟩ := hcut
    obtain ⟨t0, t1, t2, t3⟩ := cells4 hT
    have hbo := blk_lt hb
    replace hb := Lib.hid hb; replace hT := Lib.hid hT; replace hR := Lib.hid hR; replace hK := Lib.hid hK
    obtain ⟨i0, hi, hz0, hz1, hz2⟩ := info_parts infoI8'
    go_wp2_with fail
    go_loopg [14] c (fun k' i wr => ∃ (j : Nat) (v : Value) (xs : List Value), j + k' = c ∧ i = .int .i8 j ∧ Hid (wr.ownsRow (w.heap.size + 1) 22 1 v j xs ∧ wr.heap[bo]? = some (.cells #[v, .slice none 0 0, .slice none 0 0, .slice none 0 0] 112 (0, 0)) ∧
        wr.heap[w.heap.size]? = some (.cells #[.int .i8 c, .int .i8 2, .bool n, .bool g] 27 (0, 0)) ∧ wr.heap[w.heap.size + 1]? = some (.cells #[.slice none 0 0, .slice none 0 0, .slice none 0 0, .slice none 0 0] 112 (0, 0)) ∧ Kp [] w wr))
    case atStart => exact ⟨0, .slice none 0 0, [], by omega, rfl, Lib.hid ⟨World.ownsRow_nil _ _ _ _, hb.out, hT.out, hR.out, hK.out⟩⟩
    case round =>
      obtain ⟨j, v, xs, hj, rfl, hr⟩ := hrel
      obtain ⟨hown, hbw, hTw, hRw, hKw⟩ := hr.out
      obtain ⟨a1, cp, hv1⟩ := own_slice hown
      subst hv1
      have c1 : wr.cell? ⟨bo, 0, none⟩ = some (.slice a1 j cp) := blk_cell hbw 0
      have f1 : wr.frozen? ⟨bo, 0, none⟩ = false := blk_frozen hbw 0
      have hbz := blk_lt hbw
      have hg3 : wr.cell? ⟨w.heap.size, 3, none⟩ = some (.bool g) := blk_cell hTw 3
      have hg0 : wr.cell? ⟨w.heap.size, 0, none⟩ = some (.int .i8 c) := blk_cell hTw 0
      have hne := own_ne hown hbw (by decide)
      have hbw := Lib.hid hbw
      replace hTw := Lib.hid hTw; replace hRw := Lib.hid hRw; replace hKw := Lib.hid hKw; replace hne := Lib.hid hne
      by_cases hjc : j < c
      · go_wp2_with (at_builtin; refine wpList_append_own _ rfl _ _ 110 rfl (w.heap.size + 1) 22 i0 (.int .i8 0) 1 1 Try.underlying110 hi hz0 hz1 hz2 rfl (by decide) _ _ _ rfl (hown.alloc _) ⟨wr.heap.size, 0, none⟩ 1 1 [.int .i8 j] rfl rfl ?c1 ?c2 ?c3 ?c4 ?c5 ?_)
        case c1 =>
          intro q u hq
          match q, hq with
          | 0, hq => simp at hq; subst hq; simp [Addr.add]
        case c2 => intro u hu; simp at hu; subst hu; rfl
        case c3 => unfold maxLen; omega
        case c4 => omega
        case c5 => have := hKw.out.size; simp; omega
        intro v' w1 hown' hgrow _
        obtain ⟨a', c', hv'⟩ := own_slice hown'
        rw [hv'] at hown' ⊢
        clear hv'
        have hb1 := blk_grown (blk_alloc hbw.out _) hgrow hne.out
        have hcell : w1.cell? ⟨bo, 0, none⟩ = some (.slice a1 j cp) := blk_cell hb1 0
        have hfr : w1.frozen? ⟨bo, 0, none⟩ = false := blk_frozen hb1 0
        have hsz := hgrow.size
        simp at hsz
        have hown1 := Lib.hid hown'; have hgrow1 := Lib.hid hgrow
        replace hb1 := Lib.hid hb1
        clear hown' hgrow
        go_wp2_with fail
        go_roundg (gk - 1)
        case rel =>
          have hne1 := own_ne hown1.out hb1.out (by decide)
          refine ⟨j + 1, .slice a' (j + 1) c', xs ++ [.int .i8 j], by omega, by go_num, Lib.hid ⟨own_far hown1.out hne1 _, blk_set hb1.out 0 _, ?_, ?_, ?_⟩⟩
          · exact blk_far (blk_grown (blk_alloc hTw.out _) hgrow1.out (own_ne hown hTw.out (by decide))) (by simp; omega) _
          · exact blk_far (blk_grown (blk_alloc hRw.out _) hgrow1.out (own_ne hown hRw.out (by decide))) (by simp; omega) _
          · exact ((hKw.out.alloc _).grown hgrow1.out (fun k hk => .inr (by have := hown.lt k hk; omega))).setCell (.inr (by simp; omega)) _
        case measure => omega
      · obtain rfl : j = c := by omega
        obtain ⟨q0, q1, q2, q3⟩ := cells4 hRw.out
        obtain ⟨b0, b1, b2, b3⟩ := cells4 hbw.out
        have fr3 : wr.frozen? ⟨bo, 3, none⟩ = false := blk_frozen hbw.out 3
        have z0 : wr.frozen? ⟨w.heap.size + 1, 0, none⟩ = false := blk_frozen hRw.out 0
        have z1 : wr.frozen? ⟨w.heap.size + 1, 1, none⟩ = false := blk_frozen hRw.out 1
        have z2 : wr.frozen? ⟨w.heap.size + 1, 2, none⟩ = false := blk_frozen hRw.out 2
        have z3 : wr.frozen? ⟨w.heap.size + 1, 3, none⟩ = false := blk_frozen hRw.out 3
        have hbo1 : bo ≠ w.heap.size + 1 := by omega
        have hbo2 : w.heap.size + 1 ≠ bo := by omega
        have hbR := blk_lt hRw.out
        cases g with
        | false =>
          go_wp2_with fail
          refine bodyPost_ret (v := .agg #[.slice a1 j cp, .slice none 0 0, .slice none 0 0, .slice none 0 0]) (by simp [results, Try.results67, go_sem, q0, q1, q2, q3, hbo1, hbo2, hbR]) rfl ⟨_, _, _, _, _, _, _, _, rfl, Kp.below ?_⟩
          repeat (first | (with_reducible exact hKw.out) | (with_reducible refine Kp.drew ?_) | (with_reducible refine Kp.setCell ?_ (.inr (by simp <;> omega)) _) | (with_reducible refine Kp.alloc ?_ _))
        | true =>
          go_wp2_with fail
          refine bodyPost_ret (v := .agg #[.slice a1 j cp, .slice none 0 0, .slice none 0 0, .slice (some ⟨wr.heap.size, 0, none⟩) 1 1]) (by simp [results, Try.results67, go_sem, q0, q1, q2, q3, hbo1, hbo2, hbR]) rfl ⟨_, _, _, _, _, _, _, _, rfl, Kp.below ?_⟩
          repeat (first | (with_reducible exact hKw.out) | (with_reducible refine Kp.drew ?_) | (with_reducible refine Kp.setCell ?_ (.inr (by simp <;> omega)) _) | (with_reducible refine Kp.alloc ?_ _))
end Go.Proofs.Ytafimdhmdakcaaa
