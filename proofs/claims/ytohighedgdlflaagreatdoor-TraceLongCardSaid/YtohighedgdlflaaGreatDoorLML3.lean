/- The law TraceLong of package trace answers true, for every two numbers. -/
import Derived.Test.YtohighedgdlflaaGreatDoorLML1
import Derived.Test.YtohighedgdlflaaGreatDoorLML2
import Derived.Lib.OthersKept
import Derived.Lib.ItoaLen
import Derived.Test.YtohighedgdlflaaGreatDoorLPRx3
/- What the calls of package wire's Writer that a trace uses come to, where there is room. -/
namespace Go.Proofs.YtohighedgdlflaaGreatDoor
open Go.RowKit Go.Proofs.YtohighedgdlflaaGreatDoorW.PrintWords Go.Proofs.YtohighedgdlflaaGreatDoor.PR
set_option linter.unusedVariables false
set_option linter.unusedSimpArgs false
theorem room_ok (g : Nat) (lim k : Int) (A : Option Addr) (n c : Nat) (w : World) (h0 : w.cell? ⟨g, 0, none⟩ = some (.int .i64 lim)) (h1 : w.cell? ⟨g, 1, none⟩ = some (.slice A n c)) (h3 : w.cell? ⟨g, 3, none⟩ = some (.int .i64 0))
   (hl : lim ≤ 67108864) (hn : (n : Int) ≤ lim) (hk0 : 0 ≤ k) (hk : k ≤ lim - n) :
    Calls Tryz.prog 103 #[.pointer (some ⟨g, 0, none⟩), .int .i64 k] w fun e w' => e = .returned (.bool true) ∧ ∃ m, w' = w.drewN m := by
  go_enter Tryz.func103, Tryz.ntmps103
  go_wp2
  go_quiet (fail)
  go_wp2
  go_ret
  exact ⟨rfl, _, rfl⟩
theorem size32 (w : World) : Calls Tryz.prog 120 #[] w fun e w' => e = .returned (.int .i64 4) ∧ w = w' := by
  have hb : bits .xor .u32 IntKind.u32.max 0 = 4294967295 := by kernel_rfl
  go_enter Tryz.func120, Tryz.ntmps120
  go_wp2
  refine wp_loop_rounds 5 ?_
  iterate 5 (rw [rounds_succ]; go_wp2)
  go_ret
  exact ⟨rfl, rfl⟩
theorem size64 (w : World) : Calls Tryz.prog 121 #[] w fun e w' => e = .returned (.int .i64 8) ∧ w = w' := by
  have hb : bits .xor .u64 IntKind.u64.max 0 = 18446744073709551615 := by kernel_rfl
  go_enter Tryz.func121, Tryz.ntmps121
  go_wp2
  refine wp_loop_rounds 9 ?_
  iterate 9 (rw [rounds_succ]; go_wp2)
  go_ret
  exact ⟨rfl, rfl⟩
theorem size8 (w : World) : Calls Tryz.prog 122 #[] w fun e w' => e = .returned (.int .i64 1) ∧ w = w' := by
  have hb : bits .xor .u8 IntKind.u8.max 0 = 255 := by kernel_rfl
  go_enter Tryz.func122, Tryz.ntmps122
  go_wp2
  refine wp_loop_rounds 2 ?_
  iterate 2 (rw [rounds_succ]; go_wp2)
  go_ret
  exact ⟨rfl, rfl⟩
/-- Writer at block g: limit, bytes so far, open map (empty), no error. -/
structure Wr (w : World) (base g : Nat) (lim : Int) (v : Value) (xs : List Int) : Prop where
  mk' ::
  base_g : base ≤ g
  cells : ∃ mb, w.heap[g]? = some (.cells #[.int .i64 lim, v, .map (some mb), .int .i64 0] 136 (0, 0)) ∧ w.heap[mb]? = some (.map #[] 0) ∧ base ≤ mb
  own : w.ownsRow base 5 1 v xs.length (nums .u8 xs)

theorem own_ne_cells {w : World} {base : Nat} {e t : TypeId} {size n g : Nat} {v : Value} {xs : List Value} {cs : Array Value} {fr : Nat × Nat} (h : w.ownsRow base e size v n xs) (hg : w.heap[g]? = some (.cells cs t fr)) (hne : e ≠ t) : some g ≠ v.ownBlock := by
  intro hk
  obtain ⟨cells, hc⟩ := own_typed h g hk.symm
  rw [hg] at hc
  injection hc with hc
  injection hc with _ hc
  exact hne hc.symm
theorem own_ne_map {w : World} {base : Nat} {e : TypeId} {size n g : Nat} {v : Value} {xs : List Value} {es : Array MapEntry} {cl : Nat} (h : w.ownsRow base e size v n xs) (hg : w.heap[g]? = some (.map es cl)) : some g ≠ v.ownBlock := by
  intro hk
  obtain ⟨cells, hc⟩ := own_typed h g hk.symm
  rw [hg] at hc
  injection hc with hc
  cases hc
theorem heap_lt {w : World} {g : Nat} {o : Obj} (h : w.heap[g]? = some o) : g < w.heap.size := (Array.getElem?_eq_some_iff.1 h).1
theorem Wr.below {w W : World} {base g : Nat} {lim : Int} {v : Value} {xs : List Int} (h : Wr w base g lim v xs) (hb : Below w.heap.size w W) : Wr W base g lim v xs := by
  obtain ⟨hbg, ⟨mb, hg, hm, hbm⟩, ho⟩ := h
  exact ⟨hbg, ⟨mb, (hb.block g (heap_lt hg)).trans hg, (hb.block mb (heap_lt hm)).trans hm, hbm⟩, pw_own_below ho hb⟩
theorem Wr.push {w w1 : World} {base g : Nat} {lim : Int} {v v1 : Value} {xs ys : List Int} (h : Wr w base g lim v xs) (hg1 : w.grownBy w1 v.ownBlock) (ho1 : w1.ownsRow base 5 1 v1 ys.length (nums .u8 ys)) : Wr (w1.setCell ⟨g, 1, none⟩ v1) base g lim v1 ys := by
  obtain ⟨hbg, ⟨mb, hg, hm, hbm⟩, ho⟩ := h
  have e1 := (hg1.block g (heap_lt hg) (own_ne_cells ho hg (by decide))).trans hg
  have e2 := (hg1.block mb (heap_lt hm) (own_ne_map ho hm)).trans hm
  have hne : mb ≠ g := by
    rintro rfl
    rw [hg] at hm
    cases hm
  refine ⟨hbg, ⟨mb, ?_, ?_, hbm⟩, ?_⟩
  · simp [World.setCell, Array.getElem?_modify, e1]
  · rw [Below.heap_setCell _ _ _ _ hne]; exact e2
  · exact own_move ho1 (fun k hk => Below.heap_setCell _ _ _ _ (fun e => own_ne_cells ho1 e1 (by decide) (by rw [hk, e])))
/-- What a store into the writer asks. -/
theorem Wr.at1 {w w1 : World} {base g : Nat} {lim : Int} {v : Value} {xs : List Int} (h : Wr w base g lim v xs) (hg1 : w.grownBy w1 v.ownBlock) : w1.cell? ⟨g, 1, none⟩ = some v ∧ w1.frozen? ⟨g, 1, none⟩ = false := by
  obtain ⟨hbg, ⟨mb, hg, hm, hbm⟩, ho⟩ := h
  have e1 := (hg1.block g (heap_lt hg) (own_ne_cells ho hg (by decide))).trans hg
  exact ⟨by simp [World.cell?, e1], by simp [World.frozen?, e1]⟩
/-- What a call on the writer has turned: its own block and its row's. -/
def Wk (w w' : World) (g : Nat) (v v' : Value) : Prop := KeepBut w w' g v.ownBlock ∧ ∀ k, v'.ownBlock = some k → v.ownBlock = some k ∨ w.heap.size ≤ k
theorem Wk.refl (w : World) (g : Nat) (v : Value) : Wk w w g v v := ⟨⟨Nat.le_refl _, fun _ _ _ _ => rfl⟩, fun _ h => .inl h⟩
theorem Wk.trans {w w1 w2 : World} {g : Nat} {v v1 v2 : Value} (h : Wk w w1 g v v1) (k : Wk w1 w2 g v1 v2) : Wk w w2 g v v2 := by
  refine ⟨⟨Nat.le_trans h.1.1 k.1.1, fun i hi hg hr => (k.1.2 i (Nat.lt_of_lt_of_le hi h.1.1) hg (fun e => ?_)).trans (h.1.2 i hi hg hr)⟩, fun i hi => ?_⟩
  · rcases h.2 i e.symm with h' | h'
    · exact hr h'.symm
    · omega
  · rcases k.2 i hi with h' | h'
    · exact h.2 i h'
    · exact .inr (Nat.le_trans h.1.1 h')
theorem Wk.below {w W : World} {g : Nat} {v : Value} (h : Below w.heap.size w W) : Wk w W g v v := ⟨⟨h.size, fun i hi _ _ => h.block i hi⟩, fun _ h => .inl h⟩
theorem Wk.push {w w1 : World} {g : Nat} {v v1 : Value} (hg1 : w.grownBy w1 v.ownBlock) (hat : v1.ownBlock = v.ownBlock ∨ ∃ b, v1.ownBlock = some b ∧ w.heap.size ≤ b) (u : Value) : Wk w (w1.setCell ⟨g, 1, none⟩ u) g v v1 := by
  refine ⟨⟨by have := hg1.size; simpa [World.setCell] using this, fun i hi hg hr => ?_⟩, fun k hk => ?_⟩
  · rw [Below.heap_setCell _ _ _ _ hg]; exact hg1.block i hi hr
  · rcases hat with hat | hat
    · exact .inl (hat ▸ hk)
    · obtain ⟨b, hb, hle⟩ := hat; rw [hb] at hk; injection hk with hk; exact .inr (by omega)
/-- A cell of another block. -/
theorem Wk.cell {w w' : World} {g : Nat} {v v' : Value} (h : Wk w w' g v v') {p : Addr} {u : Value} (hc : w.cell? p = some u) (hg : p.block ≠ g) (hr : some p.block ≠ v.ownBlock) : w'.cell? p = some u := by
  have := h.1.2 p.block (World.block_lt_of_cell? w p hc) hg hr
  rw [World.cell?_of_block (w := w) this]; exact hc
theorem nums_snoc (k : IntKind) (xs : List Int) (y : Int) : nums k (xs ++ [y]) = nums k xs ++ [.int k y] := by simp [nums]

set_option maxHeartbeats 400000 in
theorem put32 (base g : Nat) (lim x : Int) (v : Value) (xs : List Int) (w0 w : World) (hW : Wr w base g lim v xs) (hl : lim ≤ 67108864) (hn : (xs.length : Int) + 4 ≤ lim) (hx0 : 0 ≤ x) (hx1 : x < 4294967296) (hB : Below base w0 w) :
    Calls Tryz.prog 100 #[.pointer (some ⟨g, 0, none⟩), .int .u32 x] w fun e w' => e = .returned (.tuple #[]) ∧ ∃ v', Wr w' base g lim v' (xs ++ leb 4 x) ∧ Wk w w' g v v' ∧ Below base w0 w' := by
  have hW0 := Lib.hid hW
  obtain ⟨hbg, ⟨mb, hg, hm, hbm⟩, ho⟩ := hW
  obtain ⟨A, c, rfl⟩ := own_slice ho
  have h0 : w.cell? ⟨g, 0, none⟩ = some (.int .i64 lim) := by simp [World.cell?, hg]
  have h1 : w.cell? ⟨g, 1, none⟩ = some (.slice A xs.length c) := by simp [World.cell?, hg]
  have h3 : w.cell? ⟨g, 3, none⟩ = some (.int .i64 0) := by simp [World.cell?, hg]
  go_enter Tryz.func100, Tryz.ntmps100
  go_wp2_with fail
  refine (size32 _).mono ?_
  rintro e w' ⟨rfl, rfl⟩
  go_wp2_with fail
  refine (room_ok g lim 4 A xs.length c _ h0 h1 h3 hl (by omega) (by omega) (by omega)).mono ?_
  rintro e w' ⟨rfl, m, rfl⟩
  go_wp2_with fail
  clear hg hm ho h0 h1 h3 hbm
  go_loopw [5, 12] (fun v5 v12 wr => ∃ (k : Nat) (v' : Value) (zs : List Int), k ≤ 4 ∧ v12 = .int .i64 k ∧ Hid (zs = xs ++ leb k x) ∧ Hid (Wr wr base g lim v' zs) ∧ Hid (Wk w wr g (.slice A xs.length c) v') ∧ Hid (Below base w0 wr)) (fun _ i _ => 4 - (intOf i).toNat)
  case atStart => exact ⟨0, _, xs, by omega, rfl, by simp [leb, Hid], hW0.out.below (pw_below_drewN (Below.refl _ _) m), Wk.below (pw_below_drewN (Below.refl _ _) m), pw_below_drewN hB m⟩
  case round =>
    clear hW0
    obtain ⟨k, v', zs, hk, rfl, hz, hWr, hWk, hBr⟩ := hrel
    have hzl : (zs.length : Int) = xs.length + k := by rw [hz.out]; simp [leb]
    have Hzl := Lib.hid hzl
    have hzl2 : (zs.length : Int) < lim + 1 := by omega
    clear hzl
    by_cases hlt : k < 4
    · obtain ⟨A', c', rfl⟩ := own_slice hWr.out.own
      obtain ⟨mb', hg, hm, hbm'⟩ := hWr.out.cells
      have hbs : base ≤ wr.heap.size := by have := heap_lt hg; omega
      have h1 : wr.cell? ⟨g, 1, none⟩ = some (.slice A' zs.length c') := by simp [World.cell?, hg]
      have h1a : ∀ o, (wr.alloc o).cell? ⟨g, 1, none⟩ = some (.slice A' zs.length c') := fun o => pw_cell_below (below_alloc (Below.refl _ _) o) h1
      have Hg := Lib.hid hg
      have Hm := Lib.hid hm
      clear hg hm
      go_wp2_with fail
      have hwx : IntKind.u64.wrap x = x := by rw [IntKind.wrap_u64]; omega
      have h8 : IntKind.i64.wrap (8 * (k : Int)) = 8 * k := IntWalk.i64_in _ (by omega)
      go_region_law (refine step_app1 (w0 := w0) base (by simp [Region.wanted]) (.tmp 19) (.tmp 26) 37 5 (.int .u8 0) 1 rfl Tryz.underlying37 info5 rfl (by decide) (.slice A' zs.length c') zs.length (nums .u8 zs) (.int .u8 (IntKind.u8.wrap (x / 2 ^ (8 * (k : Int)).toNat))) wr.heap.size (by simp [Act.eval]) (by simp [Act.eval]) (by simp) rfl (pw_own_below hWr.out.own (below_drew (below_alloc (Below.refl _ _) _))) (below_drew (hBr.out.alloc hbs _)) (by simp; omega) (by omega) ?_; intro v1 w1 hown hb1 hg1 hat; obtain ⟨hc1, hf1⟩ := (hWr.out.below (below_drew (below_alloc (Below.refl _ _) _))).at1 hg1; have Hown := Lib.hid hown; have Hb1 := Lib.hid hb1; have Hg1 := Lib.hid hg1; have Hat := Lib.hid hat; clear hown hb1 hg1 hat; obtain ⟨g1, cap1, hv1⟩ : ∃ g1 cap1, v1 = .slice (some ⟨g1, 0, none⟩) (zs.length + 1) cap1 := (by obtain ⟨g1, cap1, h, _⟩ := Hown.out.form (by omega); exact ⟨g1, cap1, h⟩); subst hv1)
      all_goals
        go_wp2
        go_roundw
        case measure => simp [intOf]; omega
        case rel =>
          refine ⟨k + 1, .slice (some ⟨g1, 0, none⟩) (zs.length + 1) cap1, zs ++ [x / 2 ^ (8 * k) % 256], by omega, by go_num, ?_, ?_, ?_, ?_⟩
          · have := hz.out; subst this; simp [Hid, leb_succ]
          · have e8 : IntKind.u8.wrap (x / 2 ^ (8 * (k : Int)).toNat) = x / 2 ^ (8 * k) % 256 := by rw [IntKind.wrap_u8]; congr 2
            have := Hown.out
            rw [e8, ← nums_snoc] at this
            have := (hWr.out.below (below_drew (below_alloc (Below.refl _ _) _))).push (ys := zs ++ [x / 2 ^ (8 * k) % 256]) Hg1.out (by simpa using this)
            exact Lib.hid (by simpa using this)
          · exact Lib.hid (hWk.out.trans ((Wk.below (below_drew (below_alloc (Below.refl _ _) _))).trans (Wk.push Hg1.out (Hat.out.imp id fun h => ⟨_, h, Nat.le_refl _⟩) _)))
          · exact Hb1.out.setCell (p := ⟨g, 1, none⟩) hbg _
    · obtain rfl : k = 4 := by omega
      go_wp2
      go_end0
      exact ⟨rfl, v', by rw [← hz.out]; exact hWr.out, hWk.out, hBr.out⟩
set_option maxHeartbeats 400000 in
theorem put64 (base g : Nat) (lim x : Int) (v : Value) (xs : List Int) (w0 w : World) (hW : Wr w base g lim v xs) (hl : lim ≤ 67108864) (hn : (xs.length : Int) + 8 ≤ lim) (hB : Below base w0 w) :
    Calls Tryz.prog 123 #[.pointer (some ⟨g, 0, none⟩), .int .u64 x] w fun e w' => e = .returned (.tuple #[]) ∧ ∃ v', Wr w' base g lim v' (xs ++ leb 8 x) ∧ Wk w w' g v v' ∧ Below base w0 w' := by
  have hW0 := Lib.hid hW
  obtain ⟨hbg, ⟨mb, hg, hm, hbm⟩, ho⟩ := hW
  obtain ⟨A, c, rfl⟩ := own_slice ho
  have h0 : w.cell? ⟨g, 0, none⟩ = some (.int .i64 lim) := by simp [World.cell?, hg]
  have h1 : w.cell? ⟨g, 1, none⟩ = some (.slice A xs.length c) := by simp [World.cell?, hg]
  have h3 : w.cell? ⟨g, 3, none⟩ = some (.int .i64 0) := by simp [World.cell?, hg]
  go_enter Tryz.func123, Tryz.ntmps123
  go_wp2_with fail
  refine (size64 _).mono ?_
  rintro e w' ⟨rfl, rfl⟩
  go_wp2_with fail
  refine (room_ok g lim 8 A xs.length c _ h0 h1 h3 hl (by omega) (by omega) (by omega)).mono ?_
  rintro e w' ⟨rfl, m, rfl⟩
  go_wp2_with fail
  clear hg hm ho h0 h1 h3 hbm
  go_loopw [5, 12] (fun v5 v12 wr => ∃ (k : Nat) (v' : Value) (zs : List Int), k ≤ 8 ∧ v12 = .int .i64 k ∧ Hid (zs = xs ++ leb k x) ∧ Hid (Wr wr base g lim v' zs) ∧ Hid (Wk w wr g (.slice A xs.length c) v') ∧ Hid (Below base w0 wr)) (fun _ i _ => 8 - (intOf i).toNat)
  case atStart => exact ⟨0, _, xs, by omega, rfl, by simp [leb, Hid], hW0.out.below (pw_below_drewN (Below.refl _ _) m), Wk.below (pw_below_drewN (Below.refl _ _) m), pw_below_drewN hB m⟩
  case round =>
    clear hW0
    obtain ⟨k, v', zs, hk, rfl, hz, hWr, hWk, hBr⟩ := hrel
    have hzl : (zs.length : Int) = xs.length + k := by rw [hz.out]; simp [leb]
    have Hzl := Lib.hid hzl
    have hzl2 : (zs.length : Int) < lim + 1 := by omega
    clear hzl
    by_cases hlt : k < 8
    · obtain ⟨A', c', rfl⟩ := own_slice hWr.out.own
      obtain ⟨mb', hg, hm, hbm'⟩ := hWr.out.cells
      have hbs : base ≤ wr.heap.size := by have := heap_lt hg; omega
      have h1 : wr.cell? ⟨g, 1, none⟩ = some (.slice A' zs.length c') := by simp [World.cell?, hg]
      have h1a : ∀ o, (wr.alloc o).cell? ⟨g, 1, none⟩ = some (.slice A' zs.length c') := fun o => pw_cell_below (below_alloc (Below.refl _ _) o) h1
      have Hg := Lib.hid hg
      have Hm := Lib.hid hm
      clear hg hm
      go_wp2_with fail
      have h8 : IntKind.i64.wrap (8 * (k : Int)) = 8 * k := IntWalk.i64_in _ (by omega)
      go_region_law (refine step_app1 (w0 := w0) base (by simp [Region.wanted]) (.tmp 19) (.tmp 25) 37 5 (.int .u8 0) 1 rfl Tryz.underlying37 info5 rfl (by decide) (.slice A' zs.length c') zs.length (nums .u8 zs) (.int .u8 (IntKind.u8.wrap (x / 2 ^ (8 * (k : Int)).toNat))) wr.heap.size (by simp [Act.eval]) (by simp [Act.eval]) (by simp) rfl (pw_own_below hWr.out.own (below_drew (below_alloc (Below.refl _ _) _))) (below_drew (hBr.out.alloc hbs _)) (by simp; omega) (by omega) ?_; intro v1 w1 hown hb1 hg1 hat; obtain ⟨hc1, hf1⟩ := (hWr.out.below (below_drew (below_alloc (Below.refl _ _) _))).at1 hg1; have Hown := Lib.hid hown; have Hb1 := Lib.hid hb1; have Hg1 := Lib.hid hg1; have Hat := Lib.hid hat; clear hown hb1 hg1 hat; obtain ⟨g1, cap1, hv1⟩ : ∃ g1 cap1, v1 = .slice (some ⟨g1, 0, none⟩) (zs.length + 1) cap1 := (by obtain ⟨g1, cap1, h, _⟩ := Hown.out.form (by omega); exact ⟨g1, cap1, h⟩); subst hv1)
      all_goals
        go_wp2
        go_roundw
        case measure => simp [intOf]; omega
        case rel =>
          refine ⟨k + 1, .slice (some ⟨g1, 0, none⟩) (zs.length + 1) cap1, zs ++ [x / 2 ^ (8 * k) % 256], by omega, by go_num, ?_, ?_, ?_, ?_⟩
          · have := hz.out; subst this; simp [Hid, leb_succ]
          · have e8 : IntKind.u8.wrap (x / 2 ^ (8 * (k : Int)).toNat) = x / 2 ^ (8 * k) % 256 := by rw [IntKind.wrap_u8]; congr 2
            have := Hown.out
            rw [e8, ← nums_snoc] at this
            have := (hWr.out.below (below_drew (below_alloc (Below.refl _ _) _))).push (ys := zs ++ [x / 2 ^ (8 * k) % 256]) Hg1.out (by simpa using this)
            exact Lib.hid (by simpa using this)
          · exact Lib.hid (hWk.out.trans ((Wk.below (below_drew (below_alloc (Below.refl _ _) _))).trans (Wk.push Hg1.out (Hat.out.imp id fun h => ⟨_, h, Nat.le_refl _⟩) _)))
          · exact Hb1.out.setCell (p := ⟨g, 1, none⟩) hbg _
    · obtain rfl : k = 8 := by omega
      go_wp2
      go_end0
      exact ⟨rfl, v', by rw [← hz.out]; exact hWr.out, hWk.out, hBr.out⟩
set_option maxHeartbeats 400000 in
theorem put8 (base g : Nat) (lim x : Int) (v : Value) (xs : List Int) (w0 w : World) (hW : Wr w base g lim v xs) (hl : lim ≤ 67108864) (hn : (xs.length : Int) + 1 ≤ lim) (hx0 : 0 ≤ x) (hx1 : x < 256) (hB : Below base w0 w) :
    Calls Tryz.prog 124 #[.pointer (some ⟨g, 0, none⟩), .int .u8 x] w fun e w' => e = .returned (.tuple #[]) ∧ ∃ v', Wr w' base g lim v' (xs ++ leb 1 x) ∧ Wk w w' g v v' ∧ Below base w0 w' := by
  have hW0 := Lib.hid hW
  obtain ⟨hbg, ⟨mb, hg, hm, hbm⟩, ho⟩ := hW
  obtain ⟨A, c, rfl⟩ := own_slice ho
  have h0 : w.cell? ⟨g, 0, none⟩ = some (.int .i64 lim) := by simp [World.cell?, hg]
  have h1 : w.cell? ⟨g, 1, none⟩ = some (.slice A xs.length c) := by simp [World.cell?, hg]
  have h3 : w.cell? ⟨g, 3, none⟩ = some (.int .i64 0) := by simp [World.cell?, hg]
  go_enter Tryz.func124, Tryz.ntmps124
  go_wp2_with fail
  refine (size8 _).mono ?_
  rintro e w' ⟨rfl, rfl⟩
  go_wp2_with fail
  refine (room_ok g lim 1 A xs.length c _ h0 h1 h3 hl (by omega) (by omega) (by omega)).mono ?_
  rintro e w' ⟨rfl, m, rfl⟩
  go_wp2_with fail
  clear hg hm ho h0 h1 h3 hbm
  go_loopw [5, 12] (fun v5 v12 wr => ∃ (k : Nat) (v' : Value) (zs : List Int), k ≤ 1 ∧ v12 = .int .i64 k ∧ Hid (zs = xs ++ leb k x) ∧ Hid (Wr wr base g lim v' zs) ∧ Hid (Wk w wr g (.slice A xs.length c) v') ∧ Hid (Below base w0 wr)) (fun _ i _ => 1 - (intOf i).toNat)
  case atStart => exact ⟨0, _, xs, by omega, rfl, by simp [leb, Hid], hW0.out.below (pw_below_drewN (Below.refl _ _) m), Wk.below (pw_below_drewN (Below.refl _ _) m), pw_below_drewN hB m⟩
  case round =>
    clear hW0
    obtain ⟨k, v', zs, hk, rfl, hz, hWr, hWk, hBr⟩ := hrel
    have hzl : (zs.length : Int) = xs.length + k := by rw [hz.out]; simp [leb]
    have Hzl := Lib.hid hzl
    have hzl2 : (zs.length : Int) < lim + 1 := by omega
    clear hzl
    by_cases hlt : k < 1
    · obtain ⟨A', c', rfl⟩ := own_slice hWr.out.own
      obtain ⟨mb', hg, hm, hbm'⟩ := hWr.out.cells
      have hbs : base ≤ wr.heap.size := by have := heap_lt hg; omega
      have h1 : wr.cell? ⟨g, 1, none⟩ = some (.slice A' zs.length c') := by simp [World.cell?, hg]
      have h1a : ∀ o, (wr.alloc o).cell? ⟨g, 1, none⟩ = some (.slice A' zs.length c') := fun o => pw_cell_below (below_alloc (Below.refl _ _) o) h1
      have Hg := Lib.hid hg
      have Hm := Lib.hid hm
      clear hg hm
      go_wp2_with fail
      have hwx : IntKind.u64.wrap x = x := by rw [IntKind.wrap_u64]; omega
      have h8 : IntKind.i64.wrap (8 * (k : Int)) = 8 * k := IntWalk.i64_in _ (by omega)
      go_region_law (refine step_app1 (w0 := w0) base (by simp [Region.wanted]) (.tmp 19) (.tmp 26) 37 5 (.int .u8 0) 1 rfl Tryz.underlying37 info5 rfl (by decide) (.slice A' zs.length c') zs.length (nums .u8 zs) (.int .u8 (IntKind.u8.wrap (x / 2 ^ (8 * (k : Int)).toNat))) wr.heap.size (by simp [Act.eval]) (by simp [Act.eval]) (by simp) rfl (pw_own_below hWr.out.own (below_drew (below_alloc (Below.refl _ _) _))) (below_drew (hBr.out.alloc hbs _)) (by simp; omega) (by omega) ?_; intro v1 w1 hown hb1 hg1 hat; obtain ⟨hc1, hf1⟩ := (hWr.out.below (below_drew (below_alloc (Below.refl _ _) _))).at1 hg1; have Hown := Lib.hid hown; have Hb1 := Lib.hid hb1; have Hg1 := Lib.hid hg1; have Hat := Lib.hid hat; clear hown hb1 hg1 hat; obtain ⟨g1, cap1, hv1⟩ : ∃ g1 cap1, v1 = .slice (some ⟨g1, 0, none⟩) (zs.length + 1) cap1 := (by obtain ⟨g1, cap1, h, _⟩ := Hown.out.form (by omega); exact ⟨g1, cap1, h⟩); subst hv1)
      all_goals
        go_wp2
        go_roundw
        case measure => simp [intOf]; omega
        case rel =>
          refine ⟨k + 1, .slice (some ⟨g1, 0, none⟩) (zs.length + 1) cap1, zs ++ [x / 2 ^ (8 * k) % 256], by omega, by go_num, ?_, ?_, ?_, ?_⟩
          · have := hz.out; subst this; simp [Hid, leb_succ]
          · have e8 : IntKind.u8.wrap (x / 2 ^ (8 * (k : Int)).toNat) = x / 2 ^ (8 * k) % 256 := by rw [IntKind.wrap_u8]; congr 2
            have := Hown.out
            rw [e8, ← nums_snoc] at this
            have := (hWr.out.below (below_drew (below_alloc (Below.refl _ _) _))).push (ys := zs ++ [x / 2 ^ (8 * k) % 256]) Hg1.out (by simpa using this)
            exact Lib.hid (by simpa using this)
          · exact Lib.hid (hWk.out.trans ((Wk.below (below_drew (below_alloc (Below.refl _ _) _))).trans (Wk.push Hg1.out (Hat.out.imp id fun h => ⟨_, h, Nat.le_refl _⟩) _)))
          · exact Hb1.out.setCell (p := ⟨g, 1, none⟩) hbg _
    · obtain rfl : k = 1 := by omega
      go_wp2
      go_end0
      exact ⟨rfl, v', by rw [← hz.out]; exact hWr.out, hWk.out, hBr.out⟩
end Go.Proofs.YtohighedgdlflaaGreatDoor

/- The Writer's calls Word, Long, Byte, Raw, Done and NewWriter, and the row that package trace writes. -/
namespace Go.Proofs.YtohighedgdlflaaGreatDoor
open Go.RowKit Go.Proofs.YtohighedgdlflaaGreatDoorW.PrintWords Go.Proofs.YtohighedgdlflaaGreatDoor.PR
set_option linter.unusedVariables false
set_option linter.unusedSimpArgs false
theorem word_ok (base g : Nat) (lim x : Int) (v : Value) (xs : List Int) (w0 w : World) (hW : Wr w base g lim v xs) (hl : lim ≤ 67108864) (hn : (xs.length : Int) + 4 ≤ lim) (hx0 : 0 ≤ x) (hx1 : x < 4294967296) (hB : Below base w0 w) :
    Calls Tryz.prog 56 #[.pointer (some ⟨g, 0, none⟩), .int .u32 x] w fun e w' => e = .returned (.tuple #[]) ∧ ∃ v', Wr w' base g lim v' (xs ++ leb 4 x) ∧ Wk w w' g v v' ∧ Below base w0 w' := by
  go_enter Tryz.func56, Tryz.ntmps56
  go_wp2_with fail
  refine (put32 base g lim x v xs w0 _ hW hl hn hx0 hx1 hB).mono ?_
  rintro e w' ⟨rfl, h⟩
  go_wp2_with fail
  go_end0
  exact ⟨rfl, h⟩
theorem long_ok (base g : Nat) (lim x : Int) (v : Value) (xs : List Int) (w0 w : World) (hW : Wr w base g lim v xs) (hl : lim ≤ 67108864) (hn : (xs.length : Int) + 8 ≤ lim) (hB : Below base w0 w) :
    Calls Tryz.prog 101 #[.pointer (some ⟨g, 0, none⟩), .int .u64 x] w fun e w' => e = .returned (.tuple #[]) ∧ ∃ v', Wr w' base g lim v' (xs ++ leb 8 x) ∧ Wk w w' g v v' ∧ Below base w0 w' := by
  go_enter Tryz.func101, Tryz.ntmps101
  go_wp2_with fail
  refine (put64 base g lim x v xs w0 _ hW hl hn hB).mono ?_
  rintro e w' ⟨rfl, h⟩
  go_wp2_with fail
  go_end0
  exact ⟨rfl, h⟩
theorem byte_ok (base g : Nat) (lim x : Int) (v : Value) (xs : List Int) (w0 w : World) (hW : Wr w base g lim v xs) (hl : lim ≤ 67108864) (hn : (xs.length : Int) + 1 ≤ lim) (hx0 : 0 ≤ x) (hx1 : x < 256) (hB : Below base w0 w) :
    Calls Tryz.prog 102 #[.pointer (some ⟨g, 0, none⟩), .int .u8 x] w fun e w' => e = .returned (.tuple #[]) ∧ ∃ v', Wr w' base g lim v' (xs ++ leb 1 x) ∧ Wk w w' g v v' ∧ Below base w0 w' := by
  go_enter Tryz.func102, Tryz.ntmps102
  go_wp2_with fail
  refine (put8 base g lim x v xs w0 _ hW hl hn hx0 hx1 hB).mono ?_
  rintro e w' ⟨rfl, h⟩
  go_wp2_with fail
  go_end0
  exact ⟨rfl, h⟩
/-- An observation's row. -/
def rowB (o : S35) : List Int := leb 8 o.f0 ++ leb 1 (o.f1 % 256) ++ leb 1 (o.f2 % 256) ++ leb 4 o.f3 ++ leb 4 o.f4 ++ leb 4 o.f5
theorem rowB_length (o : S35) : (rowB o).length = 22 := by simp [rowB, leb_length]
/-- The kinds of an observation's fields (those that the calls below lean on). -/
def Fits (o : S35) : Prop := 0 ≤ o.f3 ∧ o.f3 < 4294967296 ∧ 0 ≤ o.f4 ∧ o.f4 < 4294967296 ∧ 0 ≤ o.f5 ∧ o.f5 < 4294967296
def obsV (o : S35) : Value := .agg #[.int .u64 o.f0, .int .i64 o.f1, .int .i64 o.f2, .int .u32 o.f3, .int .u32 o.f4, .int .u32 o.f5]
/-- Six cells of an observation at the head of a block. -/
def Ob6 (w : World) (B : Nat) (o : S35) : Prop := w.heap[B]? = some (.cells #[.int .u64 o.f0, .int .i64 o.f1, .int .i64 o.f2, .int .u32 o.f3, .int .u32 o.f4, .int .u32 o.f5] 35 (0, 0))
theorem Ob6.wk {w w' : World} {B g : Nat} {o : S35} {v v' : Value} {base n : Nat} {xs : List Value} (h : Ob6 w B o) (hk : Wk w w' g v v') (hg : B ≠ g) (ho : w.ownsRow base 5 1 v n xs) : Ob6 w' B o :=
  (hk.1.2 B (heap_lt h) hg (own_ne_cells ho h (by decide))).trans h
theorem Ob6.cells {w : World} {B : Nat} {o : S35} (h : Ob6 w B o) : w.cell? ⟨B, 0, none⟩ = some (.int .u64 o.f0) ∧ w.cell? ⟨B, 1, none⟩ = some (.int .i64 o.f1) ∧ w.cell? ⟨B, 2, none⟩ = some (.int .i64 o.f2) ∧ w.cell? ⟨B, 3, none⟩ = some (.int .u32 o.f3) ∧ w.cell? ⟨B, 4, none⟩ = some (.int .u32 o.f4) ∧ w.cell? ⟨B, 5, none⟩ = some (.int .u32 o.f5) := by
  unfold Ob6 at h
  refine ⟨?_, ?_, ?_, ?_, ?_, ?_⟩ <;> simp [World.cell?, h]
set_option maxHeartbeats 400000 in
theorem row_ok (base g : Nat) (lim : Int) (o : S35) (v : Value) (xs : List Int) (w0 w : World) (hW : Wr w base g lim v xs) (hl : lim ≤ 67108864) (hn : (xs.length : Int) + 22 ≤ lim) (ho : Fits o) (hB : Below base w0 w) :
    Calls Tryz.prog 57 #[.pointer (some ⟨g, 0, none⟩), obsV o] w fun e w' => e = .returned (.tuple #[]) ∧ ∃ v', Wr w' base g lim v' (xs ++ rowB o) ∧ Wk w w' g v v' ∧ Below base w0 w' := by
  obtain ⟨h1, h2, h3, h4, h5, h6⟩ := ho
  simp only [obsV] at *
  have hs : base ≤ w.heap.size ∧ g < w.heap.size := by obtain ⟨mb, hg, _, _⟩ := hW.cells; have := hW.base_g; have := heap_lt hg; omega
  obtain ⟨hs, hgs⟩ := hs
  obtain ⟨bx, hbx⟩ : ∃ bx, bx = (Obj.cells #[.int .u64 o.f0, .int .i64 o.f1, .int .i64 o.f2, .int .u32 o.f3, .int .u32 o.f4, .int .u32 o.f5] 35 : Obj) := ⟨_, rfl⟩
  have hbl := below_alloc (Below.refl w.heap.size w) bx
  have HW := Lib.hid (hW.below hbl)
  have HB := Lib.hid (hB.alloc hs bx)
  have HK := Lib.hid (Wk.below (g := g) (v := v) hbl)
  have HO : Ob6 (w.alloc bx) w.heap.size o := by unfold Ob6; rw [hbx]; exact heap_alloc_new w _
  have hne : w.heap.size ≠ g := by omega
  subst hbx
  clear hW hB hbl
  go_enter Tryz.func57, Tryz.ntmps57
  go_wp2_with fail
  refine (long_ok base g lim _ v xs w0 _ HW.out hl (by omega) HB.out).mono ?_
  rintro e w1 ⟨rfl, v1, hW1, hK1, hB1⟩
  replace HO := HO.wk hK1 hne HW.out.own
  replace HK := Lib.hid (HK.out.trans hK1)
  have hc := HO.cells
  obtain ⟨c0, c1, c2, c3, c4, c5⟩ := hc
  have HW1 := Lib.hid hW1; have HB1 := Lib.hid hB1; clear hW1 hB1 hK1 HW HB
  go_wp2_with fail
  refine (byte_ok base g lim (o.f1 % 256) _ _ w0 _ HW1.out hl (by simp [leb_length]; omega) (by omega) (by omega) HB1.out).mono ?_
  clear c0 c1 c2 c3 c4 c5
  rintro e w2 ⟨rfl, v2, hW2, hK2, hB2⟩
  replace HO := HO.wk hK2 hne HW1.out.own
  replace HK := Lib.hid (HK.out.trans hK2)
  obtain ⟨c0, c1, c2, c3, c4, c5⟩ := HO.cells
  have HW2 := Lib.hid hW2; have HB2 := Lib.hid hB2; clear hW2 hB2 hK2 HW1 HB1
  go_wp2_with fail
  refine (byte_ok base g lim (o.f2 % 256) _ _ w0 _ HW2.out hl (by simp [leb_length]; omega) (by omega) (by omega) HB2.out).mono ?_
  clear c0 c1 c2 c3 c4 c5
  rintro e w3 ⟨rfl, v3, hW3, hK3, hB3⟩
  replace HO := HO.wk hK3 hne HW2.out.own
  replace HK := Lib.hid (HK.out.trans hK3)
  obtain ⟨c0, c1, c2, c3, c4, c5⟩ := HO.cells
  have HW3 := Lib.hid hW3; have HB3 := Lib.hid hB3; clear hW3 hB3 hK3 HW2 HB2
  go_wp2_with fail
  refine (word_ok base g lim o.f3 _ _ w0 _ HW3.out hl (by simp [leb_length]; omega) (by omega) (by omega) HB3.out).mono ?_
  clear c0 c1 c2 c3 c4 c5
  rintro e w4 ⟨rfl, v4, hW4, hK4, hB4⟩
  replace HO := HO.wk hK4 hne HW3.out.own
  replace HK := Lib.hid (HK.out.trans hK4)
  obtain ⟨c0, c1, c2, c3, c4, c5⟩ := HO.cells
  have HW4 := Lib.hid hW4; have HB4 := Lib.hid hB4; clear hW4 hB4 hK4 HW3 HB3
  go_wp2_with fail
  refine (word_ok base g lim o.f4 _ _ w0 _ HW4.out hl (by simp [leb_length]; omega) (by omega) (by omega) HB4.out).mono ?_
  clear c0 c1 c2 c3 c4 c5
  rintro e w5 ⟨rfl, v5, hW5, hK5, hB5⟩
  replace HO := HO.wk hK5 hne HW4.out.own
  replace HK := Lib.hid (HK.out.trans hK5)
  obtain ⟨c0, c1, c2, c3, c4, c5⟩ := HO.cells
  have HW5 := Lib.hid hW5; have HB5 := Lib.hid hB5; clear hW5 hB5 hK5 HW4 HB4
  go_wp2_with fail
  refine (word_ok base g lim o.f5 _ _ w0 _ HW5.out hl (by simp [leb_length]; omega) (by omega) (by omega) HB5.out).mono ?_
  clear c0 c1 c2 c3 c4 c5
  rintro e w6 ⟨rfl, v6, hW6, hK6, hB6⟩
  replace HK := Lib.hid (HK.out.trans hK6)
  have HW6 := Lib.hid hW6; have HB6 := Lib.hid hB6; clear hW6 hB6 hK6 HW5 HB5 HO
  go_wp2_with fail
  go_end0
  exact ⟨rfl, v6, by simpa [rowB] using HW6.out, HK.out, HB6.out⟩
end Go.Proofs.YtohighedgdlflaaGreatDoor

/- What trace.Text writes. -/
namespace Go.Proofs.YtohighedgdlflaaGreatDoor
open Go.Shelf Go.RowKit Go.Sort Go.Lib Go.Proofs.YtohighedgdlflaaGreatDoorW.PrintWords Go.Proofs.YtohighedgdlflaaGreatDoor.PR
set_option linter.unusedVariables false
set_option linter.unusedSimpArgs false
def decS (n : Nat) : ByteArray := ⟨(Lib.decDigits n).toArray⟩
/-- The words behind the place. -/
def writeL (o : S35) : List ByteArray :=
  if o.f2 = 1 ∨ o.f2 = 2 then [hexS o.f4.toNat, hexS o.f5.toNat]
  else if o.f2 = 3 then [faultS.getD o.f4.toNat ByteArray.empty, hexS o.f5.toNat]
  else if o.f2 = 4 then [decS o.f4.toNat]
  else if o.f2 = 5 then [hexS o.f5.toNat ++ hexS o.f4.toNat]
  else if o.f2 = 7 then [hexS o.f4.toNat]
  else []
def headL (o : S35) : List ByteArray := [decS o.f0.toNat, decS o.f1.toNat, kindS.getD o.f2.toNat ByteArray.empty, hexS o.f3.toNat]
def wordsL (o : S35) : List ByteArray := headL o ++ writeL o
def lineB (o : S35) : List UInt8 := Lib.join ((wordsL o).map (·.data.toList)) [32] ++ [10]
def textB (l : List S35) : List UInt8 := l.flatMap lineB
def textS (l : List S35) : ByteArray := ⟨(textB l).toArray⟩
def TextR (w : World) (l : List S35) (e : Ending) (w' : World) : Prop :=
  e = .returned (.tuple #[.string (if l.all mayB = true then textS l else ⟨#[]⟩), .int .i64 (if l.all mayB = true then 0 else 220)]) ∧ Below w.heap.size w w'
theorem TextR.bad {w W : World} {l : List S35} (hb : l.all mayB = false) (h : Below w.heap.size w W) : TextR w l (.returned (.tuple #[.string ⟨#[]⟩, .int .i64 220])) W :=
  ⟨by rw [hb]; rfl, h⟩
theorem decS_size (n : Nat) : (decS n).size = Lib.nDigits n := by
  have := Lib.decDigits_length n
  simpa [decS, ByteArray.size] using this
theorem words_len (o : S35) (h0 : o.f0 < 18446744073709551616) (h1 : o.f1 < 18446744073709551616) (h4 : o.f4 < 18446744073709551616) : (lineB o).length ≤ 200 := by
  have d0 : (decS o.f0.toNat).data.toList.length ≤ 20 := by
    rw [← Lib.size_eq, decS_size]; exact Lib.nDigits_le20 _ (by omega)
  have d1 : (decS o.f1.toNat).data.toList.length ≤ 20 := by
    rw [← Lib.size_eq, decS_size]; exact Lib.nDigits_le20 _ (by omega)
  have d4 : (decS o.f4.toNat).data.toList.length ≤ 20 := by
    rw [← Lib.size_eq, decS_size]; exact Lib.nDigits_le20 _ (by omega)
  have hx : ∀ n, (hexS n).data.toList.length = 8 := fun n => by rw [← Lib.size_eq, hexS_size]
  have hk : (kindS.getD o.f2.toNat ByteArray.empty).data.toList.length ≤ 9 := by
    rcases (show o.f2.toNat = 0 ∨ o.f2.toNat = 1 ∨ o.f2.toNat = 2 ∨ o.f2.toNat = 3 ∨ o.f2.toNat = 4 ∨ o.f2.toNat = 5 ∨ o.f2.toNat = 6 ∨ o.f2.toNat = 7 ∨ 8 ≤ o.f2.toNat by omega) with h | h | h | h | h | h | h | h | h
    all_goals first | (rw [h]; decide) | (rw [List.getD_eq_getElem?_getD, List.getElem?_eq_none (by simpa [kindS] using h)]; exact Nat.zero_le _)
  have hf : (faultS.getD o.f4.toNat ByteArray.empty).data.toList.length ≤ 9 := by
    rcases (show o.f4.toNat = 0 ∨ o.f4.toNat = 1 ∨ o.f4.toNat = 2 ∨ o.f4.toNat = 3 ∨ o.f4.toNat = 4 ∨ o.f4.toNat = 5 ∨ o.f4.toNat = 6 ∨ 7 ≤ o.f4.toNat by omega) with h | h | h | h | h | h | h | h
    all_goals first | (rw [h]; decide) | (rw [List.getD_eq_getElem?_getD, List.getElem?_eq_none (by simpa [faultS] using h)]; exact Nat.zero_le _)
  have happ : ∀ a b : Nat, (hexS a ++ hexS b).data.toList.length = 16 := fun a b => by
    rw [← Lib.size_eq, ByteArray.size_append, hexS_size, hexS_size]
  have hxa := hx o.f3.toNat
  have hxb := hx o.f4.toNat
  have hxc := hx o.f5.toNat
  have hxd := happ o.f5.toNat o.f4.toNat
  have hs : ∀ xs : List (List UInt8), (Lib.join xs [32]).length ≤ Lib.lens xs + xs.length := fun xs => by
    cases xs with
    | nil => simp [Lib.join_nil]
    | cons x r => rw [Lib.join_cons, List.length_append, Lib.joinTail_length]; simp [Lib.lens]; omega
  have := hs ((wordsL o).map (·.data.toList))
  unfold lineB
  rw [List.length_append]
  refine Nat.le_trans (Nat.add_le_add_right this _) ?_
  unfold wordsL headL writeL
  split
  · simp only [Lib.lens, List.map_cons, List.map_nil, List.cons_append, List.nil_append, List.sum_cons, List.sum_nil, List.length_cons, List.length_nil]; omega
  · split
    · simp only [Lib.lens, List.map_cons, List.map_nil, List.cons_append, List.nil_append, List.sum_cons, List.sum_nil, List.length_cons, List.length_nil]; omega
    · split
      · simp only [Lib.lens, List.map_cons, List.map_nil, List.cons_append, List.nil_append, List.sum_cons, List.sum_nil, List.length_cons, List.length_nil]; omega
      · split
        · simp only [Lib.lens, List.map_cons, List.map_nil, List.cons_append, List.nil_append, List.sum_cons, List.sum_nil, List.length_cons, List.length_nil]; omega
        · split <;> (simp only [Lib.lens, List.map_cons, List.map_nil, List.cons_append, List.nil_append, List.append_nil, List.sum_cons, List.sum_nil, List.length_cons, List.length_nil]; omega)
theorem text_len (l : List S35) (h : ∀ o ∈ l, (lineB o).length ≤ 200) : (textB l).length ≤ 200 * l.length := by
  induction l with
  | nil => simp [textB]
  | cons o l ih =>
    have h1 := h o (by simp)
    have h2 := ih (fun x hx => h x (by simp [hx]))
    simp only [textB, List.flatMap_cons, List.length_append, List.length_cons] at h2 ⊢
    omega
end Go.Proofs.YtohighedgdlflaaGreatDoor

/- What the document's own writers of numbers give: decS and hexS. -/
namespace Go.Proofs.YtohighedgdlflaaGreatDoor
open Go.Shelf Go.RowKit Go.Sort Go.Lib Go.Proofs.YtohighedgdlflaaGreatDoorW.PrintWords Go.Proofs.YtohighedgdlflaaGreatDoor.PR
set_option linter.unusedVariables false
set_option linter.unusedSimpArgs false
theorem w64_small (n : Nat) (h : n < 9223372036854775808) : wrap64 (n : Int) = (n : Int) := by unfold wrap64; omega
theorem w64_succ (i : Nat) (h : i + 1 < 9223372036854775808) : wrap64 ((i : Int) + 1) = ((i + 1 : Nat) : Int) := by
  have := w64_small (i + 1) h
  rw [← this]; congr 1
end Go.Proofs.YtohighedgdlflaaGreatDoor
