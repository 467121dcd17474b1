/- The law TraceBack answers true for every rows of raw numbers; proved from the walks of package trace and plain laws on its bytes and lines. -/
import Derived.Test.YtohighedgdlflaaGreatDoorMB3
import Derived.Test.YtohighedgdlflaaGreatDoorMB1
import Derived.Test.YtohighedgdlflaaGreatDoorMB2
import Derived.Deep.QuietTactic
import Derived.BigQuiet
import Derived.Laws.EntriesVeiled
import Derived.Deep.RegionHeld3
import Derived.Deep.Slices
import Derived.OpenShut
/- trace.Parse reads the lines of observations that may be. -/
namespace Go.Proofs.YtohighedgdlflaaGreatDoor
open Go.Proofs.YtohighedgdlflaaGreatDoorW.PrintLast Go.Shelf Go.RowKit Go.Sort Go.Lib Go.Proofs.YtohighedgdlflaaGreatDoorW.PrintWords Go.Proofs.YtohighedgdlflaaGreatDoor.PR
set_option linter.unusedVariables false
set_option linter.unusedSimpArgs false
theorem del_cut (x : ByteArray) (W : World) (hx : x.size ≤ 1000000000) :
    Calls Tryz.prog 66 #[.slice (some ⟨W.heap.size, 0, none⟩) (Lib.countB x ⟨#[32]⟩ + 1) (Lib.countB x ⟨#[32]⟩ + 1), .func (.func 67) #[] #[]] (W.alloc (.cells ((cutB x).map Value.string).toArray 9)) fun e w' =>
      e = .returned (.slice (some ⟨W.heap.size, 0, none⟩) (wordsB x).length (Lib.countB x ⟨#[32]⟩ + 1)) ∧ Below W.heap.size W w' ∧ W.heap.size < w'.heap.size ∧ ∀ (j : Nat) y, (wordsB x)[j]? = some y → w'.cell? ⟨W.heap.size, j, none⟩ = some (.string y) := by
  have hl := cutB_len x
  have hcs := count_small x ⟨#[32]⟩ (by decide)
  rw [← hl]
  have hd : (cutB x).length = (cutB x).toArray.size := by simp
  rw [hd]
  have hH : Holds Value.string (W.alloc (.cells ((cutB x).map Value.string).toArray 9)) W.heap.size 0 (cutB x).toArray := by
    intro j hj
    have hj2 : j < (cutB x).length := by simpa using hj
    rw [Nat.zero_add]
    have hb := blk_new W (.cells ((cutB x).map Value.string).toArray 9)
    constructor
    · simp only [World.cell?, hb]
      simp [hj2, getElem!_pos, List.getElem?_eq_getElem hj2]
    · simp only [World.frozen?, hb]; simp
  refine (del_ok W.heap.size _ (cutB x).toArray _ hH (by simp) (by rw [← hd, hl]; omega) (Nat.le_refl _)).mono ?_
  rintro e w' ⟨rfl, hb, hc⟩
  have hb2 : Below W.heap.size W w' := (below_alloc (Below.refl _ _) _).trans hb
  refine ⟨by rw [← hd]; rfl, hb2, ?_, hc⟩
  have := hb.size
  rw [World.size_alloc] at this
  omega
theorem R_sl {W : World} {B : Nat} {ok : Nat → Prop} {v : Value} {xs : List S35} (h : Kd.R k35 35 W B ok v xs) : ∃ A L c, v = .slice A L c := by
  obtain ⟨A, c, hv⟩ := Kd.R_slice h
  exact ⟨A, _, c, hv⟩
theorem cell_one {W : World} {B q : Nat} {v : Value} (h : W.heap[B]? = some (.cells #[v] q (0, 0))) : W.cell? ⟨B, 0, none⟩ = some v ∧ W.frozen? ⟨B, 0, none⟩ = false := by
  constructor
  · simp only [World.cell?, h]; rfl
  · simp only [World.frozen?, h]; rfl
/-- What holds while the lines are read. -/
structure PInv (w W : World) (n G : Nat) (cs : Array Value) (v : Value) (xs : List S35) : Prop where
  low : Below w.heap.size w W
  l : W.heap[w.heap.size]? = some (.cells #[v] 22 (0, 0))
  e : W.heap[w.heap.size + 1]? = some (.cells #[.int .i64 0] 25 (0, 0))
  r : Kd.R k35 35 W w.heap.size (fun _ => True) v xs
  frm : Frm W n
  pcs : W.heap[G]? = some (.cells cs 9 (0, 0))
theorem PInv.below {w W W' : World} {n G : Nat} {cs : Array Value} {v : Value} {xs : List S35} (h : PInv w W n G cs v xs) (hb : Below W.heap.size W W') : PInv w W' n G cs v xs :=
  ⟨h.low.trans (hb.mono h.low.size), (hb.block _ (heap_lt' h.l)).trans h.l, (hb.block _ (heap_lt' h.e)).trans h.e, Kd.R_below h.r hb, h.frm.below hb, (hb.block _ (heap_lt' h.pcs)).trans h.pcs⟩
theorem PInv.cellv {w W : World} {n G : Nat} {cs : Array Value} {v : Value} {xs : List S35} (h : PInv w W n G cs v xs) : W.cell? ⟨w.heap.size, 0, none⟩ = some v ∧ W.frozen? ⟨w.heap.size, 0, none⟩ = false := by
  have := h.l
  exact ⟨by simp [World.cell?, this], by simp [World.frozen?, this]⟩
theorem PInv.celle {w W : World} {n G : Nat} {cs : Array Value} {v : Value} {xs : List S35} (h : PInv w W n G cs v xs) : W.cell? ⟨w.heap.size + 1, 0, none⟩ = some (.int .i64 0) ∧ W.frozen? ⟨w.heap.size + 1, 0, none⟩ = false := by
  have := h.e
  exact ⟨by simp [World.cell?, this], by simp [World.frozen?, this]⟩
theorem PInv.grown {w W W1 : World} {n G : Nat} {cs : Array Value} {v : Value} {xs : List S35} (h : PInv w W n G cs v xs) (hg : W.grownBy W1 v.ownBlock) : W1.heap[w.heap.size]? = some (.cells #[v] 22 (0, 0)) :=
  (hg.block _ (heap_lt' h.l) (Kd.R_ne h.r h.l (by decide))).trans h.l
theorem k35_E {q : Nat} (h : q ∈ 35 :: k35.E) : q = 35 := by simpa [k35, Kd.iso, Kd.pair, Kd.int, Kd.scalar] using h
theorem PInv.put {w W W1 : World} {n G : Nat} {cs : Array Value} {v v1 : Value} {xs ys : List S35} (h : PInv w W n G cs v xs) (hg : W.grownBy W1 v.ownBlock) (hr : Kd.R k35 35 W1 w.heap.size (fun _ => True) v1 ys) (hb : Below w.heap.size w W1) (hn : w.heap.size < n) (hG : w.heap.size < G) : PInv w (W1.setCell ⟨w.heap.size, 0, none⟩ v1) n G cs v1 ys := by
  have hl := h.grown hg
  have mv : ∀ (k : Nat) (cells : Array Value) (q : Nat), w.heap.size ≠ k → q ≠ 35 → W.heap[k]? = some (.cells cells q (0, 0)) → (W1.setCell ⟨w.heap.size, 0, none⟩ v1).heap[k]? = some (.cells cells q (0, 0)) := fun k cells q hk hq hc => by
    rw [Below.heap_setCell _ _ _ _ (by simp; omega)]
    exact (hg.block _ (heap_lt' hc) (Kd.R_ne h.r hc (by omega))).trans hc
  refine ⟨hb.setCell (Nat.le_refl _) _, heap_setCell_same _ _ _ _ _ _ hl, mv _ _ _ (by omega) (by decide) h.e, Kd.R_set hr hl (fun q hq => by rw [k35_E hq]; decide) 0 v1, ⟨mv _ _ _ (by omega) (by decide) h.frm.names, mv _ _ _ (by omega) (by decide) h.frm.ptr, mv _ _ _ (by omega) (by decide) h.frm.tab⟩, mv _ _ _ (by omega) (by decide) h.pcs⟩
set_option maxRecDepth 100000 in
set_option maxHeartbeats 8000000 in
theorem parse_ok (s : ByteArray) (m : Int) (oss : List (List S35)) (w : World) (hs : s.size ≤ 1000000000) (hm : w.cell? ⟨2, 0, none⟩ = some (.int .i64 m)) (hlen : oss.length = (pieces s).length)
    (hP : ∀ (k : Nat) x os, (pieces s)[k]? = some x → oss[k]? = some os → PieceIs x os) (hn : oss.flatten.length ≤ 1000000) :
    Calls Tryz.prog 31 #[.string s] w fun e w' => ∃ v, e = .returned (.tuple #[v, .int .i64 0, .int .i64 0]) ∧ Kd.R k35 35 w' w.heap.size (fun _ => True) v oss.flatten ∧ Below w.heap.size w w' := by
  have HP := Lib.hid hP
  have HM := Lib.hid hm
  have h2 : 2 < w.heap.size := World.block_lt_of_cell? _ _ hm
  clear hP hm
  have hpl := pieces_len s
  obtain ⟨N, hN⟩ : ∃ N, N = (pieces s).length := ⟨_, rfl⟩
  have hmf : ∀ (fn : Fn) (first cap : Array Value) (w : World), (Instr.makeFunc fn first cap).run Tryz.prog w = .ok (.func fn first cap) w := fun _ _ _ _ => rfl
  go_enter_defers Tryz.func31, Tryz.ntmps31
  go_wp2_with fail
  have hA0 : ((w.alloc (.cells #[.slice none 0 0] 22)).alloc (.cells #[.int .i64 0] 25)).heap[w.heap.size]? = some (.cells #[.slice none 0 0] 22 (0, 0)) :=
    (below_alloc (Below.refl _ _) _ |>.block _ (by simp)).trans (blk_new w (.cells #[.slice none 0 0] 22))
  have hA1 : ((w.alloc (.cells #[.slice none 0 0] 22)).alloc (.cells #[.int .i64 0] 25)).heap[w.heap.size + 1]? = some (.cells #[.int .i64 0] 25 (0, 0)) := by
    have := blk_new (w.alloc (.cells #[.slice none 0 0] 22)) (.cells #[.int .i64 0] 25)
    rwa [World.size_alloc] at this
  have hB0 : Below w.heap.size w ((w.alloc (.cells #[.slice none 0 0] 22)).alloc (.cells #[.int .i64 0] 25)) := below_alloc (below_alloc (Below.refl _ _) _) _
  refine (forms_ok _).mono ?_
  rintro e w1 ⟨rfl, hfr, hb1⟩
  have HB1 := Lib.hid (hB0.trans (hb1.mono hB0.size))
  have HA1 := Lib.hid (And.intro ((hb1.block _ (heap_lt' hA0)).trans hA0) ((hb1.block _ (heap_lt' hA1)).trans hA1))
  simp only [World.size_alloc] at hfr ⊢
  generalize hn2 : w.heap.size + 1 + 1 = n at hfr ⊢
  have HF1 := Lib.hid hfr
  have hG1 : n + 2 < w1.heap.size := hfr.lt
  clear hA0 hA1 hB0 hfr hb1
  go_wp2_with fail
  refine (Tryz.strings_Split s ⟨#[10]⟩ m _ (by omega) ?_ (by decide)).mono ?_
  · rw [HB1.out.cell h2]; exact HM.out
  rintro e w2 ⟨rfl, rfl⟩
  have hNs : Lib.countB s ⟨#[10]⟩ + 1 ≤ 1000000001 := by
    have := count_small s ⟨#[10]⟩ (by decide)
    omega
  have hN' : (pieces s).length = N := hN.symm
  rw [← hpl, hN'] at hNs
  rw [← hpl, hN']
  have HN := Lib.hid hN'
  have hol : oss.length = N := hlen.trans hN'
  have HOL := Lib.hid hol
  clear hN hN' hpl hol hlen
  obtain ⟨cs, hcs⟩ : ∃ cs, cs = ((pieces s).map Value.string).toArray := ⟨_, rfl⟩
  have hI : PInv w (w1.alloc (.cells cs 9)) n w1.heap.size cs (.slice none 0 0) [] := by
    have hba := below_alloc (Below.refl w1.heap.size w1) (.cells cs 9)
    refine ⟨HB1.out.trans (hba.mono HB1.out.size), (hba.block _ (heap_lt' HA1.out.1)).trans HA1.out.1, (hba.block _ (heap_lt' HA1.out.2)).trans HA1.out.2, Kd.R_nil _ _ _ _ _, HF1.out.below hba, ?_⟩
    exact blk_new _ _
  have hcs2 : ((Lib.splitB ⟨#[10]⟩ 0 (Lib.countB s ⟨#[10]⟩) s).map Value.string).toArray = cs := by rw [hcs]; rfl
  rw [hcs2]
  have HI0 := Lib.hid hI
  have HCS := Lib.hid hcs
  clear HF1 HA1 HB1 hcs2 hcs hI
  go_wp2_with fail
  generalize w1.alloc (.cells cs 9) = w2 at HI0 ⊢
  go_loopw [4, 6, 7, 8, 14] (fun v4 v6 v7 v8 v14 wr => ∃ (k : Nat) (v : Value), k ≤ N ∧ v14 = .int .i64 k ∧ Hid (PInv w wr n w1.heap.size cs v (oss.take k).flatten)) (fun _ _ _ _ i _ => N - (RowKit.intOf i).toNat)
  case atStart => exact ⟨0, _, by omega, rfl, HI0⟩
  case round =>
    clear HI0
    obtain ⟨k, v, hk, rfl, HI⟩ := hrel
    by_cases hlt : k < N
    · obtain ⟨x, hx⟩ : ∃ x, (pieces s)[k]? = some x := ⟨_, List.getElem?_eq_getElem (by rw [HN.out]; exact hlt)⟩
      obtain ⟨os, hos⟩ : ∃ os, oss[k]? = some os := ⟨_, List.getElem?_eq_getElem (by rw [HOL.out]; exact hlt)⟩
      have HPI := Lib.hid (HP.out k x os hx hos)
      have hxs : x.size ≤ 1000000000 := Nat.le_trans (pieces_le (List.mem_of_getElem? hx)) hs
      have hcx : wr.cell? ⟨w1.heap.size, k, none⟩ = some (.string x) := by
        have h1 := HI.out.pcs
        have h2 := HCS.out
        simp only [World.cell?, h1, h2]
        simp [hx]
      have Hos := Lib.hid hos
      clear hx hos
      go_wp2_with fail
      refine (Tryz.strings_Split x ⟨#[32]⟩ m _ (by omega) ?_ (by decide)).mono ?_
      · rw [HI.out.low.cell h2]; exact HM.out
      rintro e w3 ⟨rfl, rfl⟩
      go_wp2_with fail
      refine (del_cut x _ hxs).mono ?_
      rintro e w4 ⟨rfl, hb4, hg4, hw4⟩
      have HI4 := Lib.hid (HI.out.below hb4)
      have HW4 := Lib.hid hw4
      have hcb : (wordsB x).length ≤ Lib.countB x ⟨#[32]⟩ + 1 := by rw [← cutB_len x]; exact List.length_filter_le _ _
      generalize wr.heap.size = g at hg4 HW4 ⊢
      generalize Lib.countB x ⟨#[32]⟩ + 1 = c at hcb ⊢
      clear hb4 hw4 HI hcx
      rcases HPI.out with ⟨hwe, hose⟩ | ⟨t, cl, q, p, a, b, hG, hwn, hose⟩
      · rw [hwe, List.length_nil]
        have HI5 : Hid (PInv w w4 n w1.heap.size cs v (oss.take (k + 1)).flatten) := by
          show PInv w w4 n w1.heap.size cs v (oss.take (k + 1)).flatten
          rw [List.take_add_one, Hos.out, hose]
          simpa using HI4.out
        clear HI4 HPI hwe hcb HW4
        go_wp2_with fail
        go_roundw
        case rel => exact ⟨k + 1, v, by omega, by go_num, HI5⟩
        case measure => simp [RowKit.intOf]; omega
      · obtain ⟨acc, hacc⟩ : ∃ acc, acc = (oss.take k).flatten := ⟨_, rfl⟩
        have hfl : (oss.take (k + 1)).flatten = acc ++ [obN t cl q p a b] := by
          rw [List.take_add_one, Hos.out, hose, hacc]; simp
        have hal : acc.length + 1 ≤ 1000000 := by
          have h1 : ((oss.take (k + 1)).flatten).length ≤ oss.flatten.length := by
            have h0 : oss.flatten = (oss.take (k + 1)).flatten ++ (oss.drop (k + 1)).flatten := by rw [← List.flatten_append, List.take_append_drop]
            rw [h0, List.length_append]; omega
          rw [hfl, List.length_append, List.length_singleton] at h1
          omega
        rw [← hacc] at HI4
        have Hfl := Lib.hid hfl
        clear hfl hacc hose HPI
        rw [hwn, wordsN_len t cl q p a b hG.q1 hG.q7] at hcb ⊢
        have hW0 := HW4.out 0 (decS t) (by rw [hwn]; rfl)
        have HW : Hid (∀ (j : Nat) x, (wordsN t cl q p a b)[j]? = some x → w4.cell? ⟨g, j, none⟩ = some (.string x)) := by
          intro j y hy
          exact HW4.out j y (by rw [hwn]; exact hy)
        have HG := Lib.hid hG
        have HI := HI4
        obtain ⟨hz0, hne⟩ := decS_first t
        have hpos : (0 : Int) < 4 + (nWords q : Int) := by omega
        have hg := hg4
        have hc := hcb
        clear hwn HW4 HI4 hG hg4 hcb
        go_upto_region 9 with (fail)
        clear hne hpos hW0
        have hc32 : k35.sz = 6 := rfl
        refine wp_region_noPanic ?_
        refine start_ (n := 7) (S := fun w' => w'.cell? ⟨w.heap.size, 0, none⟩ = some v) (ds := [6]) #[false, false, false, false, false, false, false] (by kernel_rfl) rfl rfl (HI.out.cellv.1) (fun hHeld => ?_)
        replace HI : Hid (PInv w w4.drew n w1.heap.size cs v acc) := HI.out.below (below_drew (Below.refl _ _))
        replace HW : Hid (∀ (j : Nat) x, (wordsN t cl q p a b)[j]? = some x → w4.drew.cell? ⟨g, j, none⟩ = some (.string x)) := HW.out
        replace hg : g < w4.drew.heap.size := hg
        generalize w4.drew = WY at HI HW hg hHeld ⊢
        refine pure_ (i := 1) (N := some 35) (v := ?_) (a' := ?_) #[false, true, false, false, false, false, false] rfl rfl (by kernel_rfl) (fun _ _ _ h => h) (Or.inl ⟨by rfl, ?_⟩) ?_ ?_
        rotate_left
        · intro w'
          go_simp
          with_reducible rfl
        rotate_left
        · simp only [Act.put, List.setIfInBounds_toArray, List.set_cons_zero, List.set_cons_succ, i64_w, i32_w]
          rfl
        refine pure_ (i := 2) (N := some 36) (v := ?_) (a' := ?_) #[false, true, true, false, false, false, false] rfl rfl (by kernel_rfl) (fun _ _ _ h => h) (Or.inl ⟨by rfl, ?_⟩) ?_ ?_
        rotate_left
        · intro w'
          go_simp
          with_reducible rfl
        rotate_left
        · simp only [Act.put, List.setIfInBounds_toArray, List.set_cons_zero, List.set_cons_succ, i64_w, i32_w]
          rfl
        refine take_ (i := 0) (N := some 34) (v := ?_) (a' := ?_) #[true, true, true, false, false, false, false] rfl rfl (by kernel_rfl) (fun _ _ _ h => h) (Or.inl ⟨by rfl, ?_⟩) hHeld ?_ ?_
        rotate_left
        · intro w' s0
          go_simp
          with_reducible rfl
        rotate_left
        · simp only [Act.put, List.setIfInBounds_toArray, List.set_cons_zero, List.set_cons_succ, i64_w, i32_w]
          rfl
        refine one_ (i := 3) (N := some 37) #[true, true, true, true, false, false, false] rfl rfl (by kernel_rfl) (by decide) (fun K hK => ?_)
        refine goes_ Tryz.func68 (by kernel_rfl) rfl #[.slice (some ⟨n + 2, 0, none⟩) 8 8, .slice (some ⟨g, 0, none⟩) (4 + nWords q) c] (by rfl) rfl rfl (by simp only [List.map_toArray, List.map_cons, List.map_nil]; rfl) ?_
        with_reducible refine (line_ok n g c t cl q p a b _ HG.out HI.out.frm hg hc HW.out).mono ?_
        rintro e w7 ⟨rfl, hb⟩
        refine ⟨_, rfl, ?_⟩
        replace HI := Lib.hid (HI.out.below hb)
        clear hb
        refine hK.out _ _ (HI.out.cellv.1) (fun hHeld => ?_)
        clear hK K
        refine norm_ (a' := ?_) ?_ ?_
        rotate_left
        · show Act.put _ (some 37) _ = _
          simp only [Act.put, List.setIfInBounds_toArray, List.set_cons_zero, List.set_cons_succ, i64_w, i32_w]
          rfl
        refine one_ (i := 4) (N := some 38) #[true, true, true, true, true, false, false] rfl rfl (by kernel_rfl) (by decide) (fun K hK => ?_)
        refine value_ (w1 := ?_) (v := ?_) (by rfl) rfl ?_ ?_
        rotate_left 2
        · go_simp
          constructor
          · rfl
          · rfl
        refine hK.out _ _ ((HI.out.below (below_alloc (Below.refl _ _) _)).cellv.1) (fun hHeld => ?_)
        clear hK K
        refine norm_ (a' := ?_) ?_ ?_
        rotate_left
        · show Act.put _ (some 38) _ = _
          simp only [Act.put, List.setIfInBounds_toArray, List.set_cons_zero, List.set_cons_succ, i64_w, i32_w]
          rfl
        refine one_ (i := 5) (N := some 39) #[true, true, true, true, true, true, false] rfl rfl (by kernel_rfl) (by decide) (fun K hK => ?_)
        refine Kd.R_append_step k35 (w0 := w) w.heap.size (by rfl) (.tmp 34) (.tmp 38) 22 35 (.agg #[(.int .u64 0), (.int .i64 0), (.int .i64 0), (.int .u32 0), (.int .u32 0), (.int .u32 0)]) 40 rfl Tryz.underlying22 info35 rfl (by decide) (by omega) v acc (obN t cl q p a b) [.int .u64 t, .int .i64 cl, .int .i64 q, .int .u32 p, .int .u32 a, .int .u32 b] (fun _ => True) (fun _ => False) (by rfl) (by rfl) (k35_mkM _ _ _ (obN t cl q p a b)) (fun _ hk => hk.elim) (fun _ _ => trivial) HI.out.r HI.out.low HI.out.low.size (by omega) ?_
        intro v9 w9 ho9 hb9 hg9 hat9
        have HO9 := Lib.hid ho9
        have HB9 := Lib.hid hb9
        have HG9 := Lib.hid hg9
        clear ho9 hb9 hg9 hat9
        obtain ⟨A9, L9, c9, rfl⟩ := R_sl HO9.out
        obtain ⟨hz9, hf9⟩ := cell_one (HI.out.grown HG9.out)
        refine hK.out _ _ (hz9) (fun hHeld => ?_)
        clear hK K
        refine norm_ (a' := ?_) ?_ ?_
        rotate_left
        · show Act.put _ (some 39) _ = _
          simp only [Act.put, List.setIfInBounds_toArray, List.set_cons_zero, List.set_cons_succ, i64_w, i32_w]
          rfl
        refine last_ (i := 6) (N := none) #[true, true, true, true, true, true, true] rfl rfl (by kernel_rfl) (by decide) (fun K hK => ?_)
        refine skip_ (w1 := ?_) (by rfl) rfl ?_ ?_
        rotate_left
        · go_simp
          rfl
        refine hK.out _ _ ?_
        clear hK K
        refine done_ (by kernel_rfl) ?_
        refine NoPanic.normal ?_
        have HI9 : Hid (PInv w (w9.setCell ⟨w.heap.size, 0, none⟩ (.slice A9 L9 c9)) n w1.heap.size cs (.slice A9 L9 c9) (oss.take (k + 1)).flatten) := by
          show PInv w (w9.setCell ⟨w.heap.size, 0, none⟩ (.slice A9 L9 c9)) n w1.heap.size cs (.slice A9 L9 c9) (oss.take (k + 1)).flatten
          rw [Hfl.out]
          exact HI.out.put HG9.out HO9.out HB9.out (by omega) (by omega)
        clear HI HO9 HG9 HB9 hz9 hf9 HW HG hHeld
        go_wp2_with fail
        go_roundw
        case rel => exact ⟨k + 1, _, by omega, by go_num, HI9⟩
        case measure => simp [RowKit.intOf]; omega
    · obtain rfl : k = N := by omega
      obtain ⟨A0, L0, c0, rfl⟩ := R_sl HI.out.r
      obtain ⟨hcv, hfv⟩ := HI.out.cellv
      obtain ⟨hce, hfe⟩ := HI.out.celle
      have hll := HI.out.l
      have hee := HI.out.e
      have hl1 := heap_setCell_same _ _ 0 _ _ (.slice A0 L0 c0) hll
      have he1 : (wr.setCell ⟨w.heap.size, 0, none⟩ (.slice A0 L0 c0)).heap[w.heap.size + 1]? = some (.cells #[.int .i64 0] 25 (0, 0)) := by
        rw [Below.heap_setCell _ _ _ _ (by simp)]; exact hee
      have hl2 : ((wr.setCell ⟨w.heap.size, 0, none⟩ (.slice A0 L0 c0)).setCell ⟨w.heap.size + 1, 0, none⟩ (.int .i64 0)).heap[w.heap.size]? = some (.cells #[.slice A0 L0 c0] 22 (0, 0)) := by
        rw [Below.heap_setCell _ _ _ _ (by simp)]; exact hl1
      have he2 := heap_setCell_same _ _ 0 _ _ (.int .i64 0) he1
      have hr2 : Kd.R k35 35 ((wr.setCell ⟨w.heap.size, 0, none⟩ (.slice A0 L0 c0)).setCell ⟨w.heap.size + 1, 0, none⟩ (.int .i64 0)) w.heap.size (fun _ => True) (.slice A0 L0 c0) oss.flatten := by
        have h1 := HI.out.r
        rw [List.take_of_length_le (by rw [HOL.out]; exact Nat.le_refl _)] at h1
        exact Kd.R_set (Kd.R_set h1 hll (fun q hq => by rw [k35_E hq]; decide) 0 _) he1 (fun q hq => by rw [k35_E hq]; decide) 0 _
      have hb2 : Below w.heap.size w ((wr.setCell ⟨w.heap.size, 0, none⟩ (.slice A0 L0 c0)).setCell ⟨w.heap.size + 1, 0, none⟩ (.int .i64 0)) := (HI.out.low.setCell (Nat.le_refl _) _).setCell (by simp) _
      have hce1 := (cell_one he1)
      obtain ⟨hce1, hfe1⟩ := hce1
      clear hl1 he1 hll hee HI hce hfe
      have Hr2 := Lib.hid hr2
      have Hb2 := Lib.hid hb2
      have Hl2 := Lib.hid hl2
      have He2 := Lib.hid he2
      clear hr2 hb2 hl2 he2
      go_wp2_with fail
      generalize ((wr.setCell ⟨w.heap.size, 0, none⟩ (.slice A0 L0 c0)).setCell ⟨w.heap.size + 1, 0, none⟩ (.int .i64 0)) = wF at Hr2 Hb2 Hl2 He2 ⊢
      refine leaves_cons (f := 64) (args := #[.pointer (some ⟨w.heap.size, 0, none⟩), .pointer (some ⟨w.heap.size + 1, 0, none⟩)]) (by simp) (by simp [go_sem]) ?_
      refine (p64_idle _ _ _).mono ?_
      rintro e u' w'' ⟨rfl, rfl, rfl⟩
      obtain ⟨cv, _⟩ := cell_one Hl2.out
      obtain ⟨ce, _⟩ := cell_one He2.out
      have hres : Tryz.f31.results = #[.cell 2 22, .cell 3 25, .tmp 4] := rfl
      simp [Leaves, settle, results, hres, go_sem, cv, ce]
      exact ⟨Hr2.out, Hb2.out⟩
end Go.Proofs.YtohighedgdlflaaGreatDoor

/- trace.Text writes textS. -/
namespace Go.Proofs.YtohighedgdlflaaGreatDoor
open Go.Shelf Go.RowKit Go.Sort Go.Lib Go.Proofs.YtohighedgdlflaaGreatDoorW.PrintWords Go.Proofs.YtohighedgdlflaaGreatDoor.PR
set_option linter.unusedVariables false
set_option linter.unusedSimpArgs false
set_option maxRecDepth 100000 in
set_option maxHeartbeats 8000000 in
theorem text_ok (l : List S35) (A : Option Addr) (c : Nat) (w : World) (hT : PTab w) (hR : Kd.C k35 w A l.length l) (hF : ∀ o ∈ l, FitsT o) (hl : l.length ≤ 1000000) :
    Calls Tryz.prog 13 #[.slice A l.length c] w (TextR w l) := by
  have HR := Lib.hid hR
  have HT := Lib.hid hT
  have HF := Lib.hid hF
  have hm := Kd.C_max hR
  clear hR hT hF
  go_enter Tryz.func13, Tryz.ntmps13
  go_wp2_with fail
  have hbl : Hid (Below w.heap.size w (w.alloc (.cells #[.pointer none, .slice none 0 0] 67))) := below_alloc (Below.refl _ _) _
  have hnb : Hid (Lib.IsBuilderF 67 5 w.heap.size w.heap.size [] (w.alloc (.cells #[.pointer none, .slice none 0 0] 67))) := builder_new w
  refine (forms_ok _).mono ?_
  rintro e w1 ⟨rfl, hfr, hb1⟩
  rw [World.size_alloc] at hfr
  have HF1 := Lib.hid hfr
  have HB1 := Lib.hid (hbl.out.trans (hb1.mono hbl.out.size))
  have hNB1 : Lib.IsBuilderF 67 5 w.heap.size w.heap.size [] w1 := builder_below hnb.out hb1
  have HNB1 := Lib.hid hNB1
  clear hnb hbl hfr hb1 hNB1
  simp only [World.size_alloc]
  go_wp2_with fail
  go_loopw [7, 8, 9, 13] (fun v7 v8 v9 v13 wr => ∃ k : Nat, k ≤ l.length ∧ v13 = .int .i64 k ∧ Hid ((l.take k).all mayB = true) ∧ Hid (Frm wr (w.heap.size + 1)) ∧ Hid (Lib.IsBuilderF 67 5 w.heap.size w.heap.size (Lib.byteCells (textB (l.take k))) wr) ∧ Hid (Below w.heap.size w wr)) (fun _ _ _ i _ => l.length - (RowKit.intOf i).toNat)
  case atStart => exact ⟨0, by omega, rfl, rfl, HF1, HNB1, HB1⟩
  case round =>
    clear HF1 HNB1 HB1
    obtain ⟨k, hk, rfl, hall, HFr, HNB, HB⟩ := hrel
    by_cases hlt : k < l.length
    · obtain ⟨o, ho⟩ : ∃ o, o = rd_T35 l k := ⟨_, rfl⟩
      have ho2 : Hid (l[k]? = some o) := by
        show l[k]? = some o
        rw [ho]; simp [rd_T35, List.getD_eq_getElem?_getD, List.getElem?_eq_getElem hlt]
      obtain ⟨ad, rfl, c0, c1, c2, c3, c4, c5⟩ := at_T35 (Kd.C_below HR.out HB.out) k (by omega) (by omega)
      rw [← ho] at c0 c1 c2 c3 c4 c5
      simp only [Int.toNat_natCast] at c0 c1 c2 c3 c4 c5
      clear ho
      have hfit := Lib.hid (HF.out o (List.mem_of_getElem? ho2.out))
      go_wp2_with fail
      refine (may_ok o _).mono ?_
      rintro e w2 ⟨rfl, hb2⟩
      have hbo : Hid (Below w.heap.size w (wr.alloc (.cells #[.int .u64 o.f0, .int .i64 o.f1, .int .i64 o.f2, .int .u32 o.f3, .int .u32 o.f4, .int .u32 o.f5] 35))) := below_alloc HB.out _
      cases hmb : mayB o with
      | false =>
        have HB2 := Lib.hid (hbo.out.trans (hb2.mono hbo.out.size))
        have hbad : Hid (l.all mayB = false) := by
          show l.all mayB = false
          rw [List.all_eq_false]
          exact ⟨o, List.mem_of_getElem? ho2.out, by rw [hmb]; decide⟩
        clear hbo hb2
        go_wp2_with fail
        refine bodyPost_ret (results_tmp2 rfl _ _ _) rfl ?_
        exact TextR.bad hbad.out HB2.out
      | true =>
        have HB2 := Lib.hid (hbo.out.trans (hb2.mono hbo.out.size))
        have hlow : Below wr.heap.size wr w2 := (below_alloc (Below.refl _ _) _).trans (hb2.mono (by simp))
        have HFr2 := Lib.hid (HFr.out.below hlow)
        have hO6 : Ob6 w2 wr.heap.size o := by
          unfold Ob6
          rw [hb2.block _ (by simp)]
          exact blk_new _ _
        obtain ⟨t, cl, q, p, a, b, hq1, hq7, hcl, ht, hp, ha, hb, h0, h1, h2, h3, h4, h5, hk1, hk2⟩ : ∃ t cl q p a b : Nat, 1 ≤ q ∧ q ≤ 7 ∧ cl < 10 ∧ t < 18446744073709551616 ∧ p < 4294967296 ∧ a < 4294967296 ∧ b < 4294967296 ∧ o.f0 = t ∧ o.f1 = cl ∧ o.f2 = q ∧ o.f3 = p ∧ o.f4 = a ∧ o.f5 = b ∧ (q = 3 → a < 7) ∧ (q = 4 → a < 100) := by
          obtain ⟨⟨f1, f2, f3, f4, f5, f6⟩, f7, f8⟩ := hfit.out
          have hm2 := hmb
          unfold mayB kindB at hm2
          simp only [Bool.and_eq_true, decide_eq_true_eq] at hm2
          obtain ⟨⟨⟨m1, m2⟩, m3⟩, m4⟩ := hm2
          have hq : 1 ≤ o.f2 ∧ o.f2 ≤ 7 ∧ (o.f2 = 3 → o.f4 ≤ 6) ∧ (o.f2 = 4 → o.f4 < 32) := by
            split at m4
            · omega
            · split at m4
              · omega
              · split at m4
                · simp at m4; omega
                · split at m4
                  · simp at m4; omega
                  · split at m4
                    · omega
                    · split at m4
                      · omega
                      · split at m4
                        · omega
                        · simp at m4
          exact ⟨o.f0.toNat, o.f1.toNat, o.f2.toNat, o.f3.toNat, o.f4.toNat, o.f5.toNat, by omega, by omega, by omega, by omega, by omega, by omega, by omega, by omega, by omega, by omega, by omega, by omega, by omega, by omega, by omega⟩
        obtain ⟨mw, fvw, nw, mr, fvr, g0, g1, g2, g3, hfw⟩ := frm_row HFr2.out q hq1 hq7
        clear c0 c1 c2 c3 c4 c5
        obtain ⟨c0, c1, c2, c3, c4, c5⟩ := hO6.cells
        have hOlt : wr.heap.size < w2.heap.size := heap_lt hO6
        rw [h0] at c0; rw [h1] at c1; rw [h2] at c2; rw [h3] at c3; rw [h4] at c4; rw [h5] at c5
        have Hfw := Lib.hid hfw
        obtain ⟨wd, hwd⟩ : ∃ wd, wd = kindS.getD q ByteArray.empty := ⟨_, rfl⟩
        rw [← hwd] at g0
        have Hwd := Lib.hid hwd
        have Hk12 := Lib.hid (And.intro hk1 hk2)
        have Hhs := Lib.hid (And.intro h0 (And.intro h1 (And.intro h2 (And.intro h3 (And.intro h4 h5)))))
        have hq8 : (0 : Int) ≤ q ∧ (q : Int) < 8 := by omega
        have HL2 := Lib.hid hlow
        clear hwd hfw hlow hb2 hbo hfit hk1 hk2 h0 h1 h2 h3 h4 h5
        have hcell : Hid (∀ W, Below (w2.heap.size + 1) (w2.alloc (.cells #[.string wd, .func (.func mw) #[] fvw, .int .i64 nw, .func (.func mr) #[] fvr] 74)) W → W.cell? ⟨wr.heap.size, 0, none⟩ = some (.int .u64 t) ∧ W.cell? ⟨wr.heap.size, 1, none⟩ = some (.int .i64 cl) ∧ W.cell? ⟨wr.heap.size, 3, none⟩ = some (.int .u32 p) ∧ W.cell? ⟨w2.heap.size, 0, none⟩ = some (.string wd) ∧ PTab W) := by
          intro W hW
          have hA : Below w2.heap.size w2 (w2.alloc (.cells #[.string wd, .func (.func mw) #[] fvw, .int .i64 nw, .func (.func mr) #[] fvr] 74)) := below_alloc (Below.refl _ _) _
          have hB : Below w2.heap.size w2 W := hA.trans (hW.mono (by omega))
          refine ⟨?_, ?_, ?_, ?_, HT.out.below (HB2.out.trans (hB.mono HB2.out.size))⟩
          · rw [hB.cell (by simp; omega)]; exact c0
          · rw [hB.cell (by simp; omega)]; exact c1
          · rw [hB.cell (by simp; omega)]; exact c3
          · rw [hW.cell (by simp)]; simp [World.cell?_alloc_new]
        have hcell2 : Hid (∀ W, Below (w2.heap.size + 1) (w2.alloc (.cells #[.string wd, .func (.func mw) #[] fvw, .int .i64 nw, .func (.func mr) #[] fvr] 74)) W → W.cell? ⟨wr.heap.size, 0, none⟩ = some (.int .u64 t) ∧ W.cell? ⟨wr.heap.size, 1, none⟩ = some (.int .i64 cl) ∧ W.cell? ⟨wr.heap.size, 2, none⟩ = some (.int .i64 q) ∧ W.cell? ⟨wr.heap.size, 3, none⟩ = some (.int .u32 p) ∧ W.cell? ⟨wr.heap.size, 4, none⟩ = some (.int .u32 a) ∧ W.cell? ⟨wr.heap.size, 5, none⟩ = some (.int .u32 b) ∧ W.cell? ⟨w2.heap.size, 1, none⟩ = some (.func (.func mw) #[] fvw)) := by
          intro W hW
          have hA : Below w2.heap.size w2 (w2.alloc (.cells #[.string wd, .func (.func mw) #[] fvw, .int .i64 nw, .func (.func mr) #[] fvr] 74)) := below_alloc (Below.refl _ _) _
          have hB : Below w2.heap.size w2 W := hA.trans (hW.mono (by omega))
          refine ⟨?_, ?_, ?_, ?_, ?_, ?_, ?_⟩
          · rw [hB.cell (by simp; omega)]; exact c0
          · rw [hB.cell (by simp; omega)]; exact c1
          · rw [hB.cell (by simp; omega)]; exact c2
          · rw [hB.cell (by simp; omega)]; exact c3
          · rw [hB.cell (by simp; omega)]; exact c4
          · rw [hB.cell (by simp; omega)]; exact c5
          · rw [hW.cell (by simp)]; simp [World.cell?_alloc_new]
        go_upto_region 9 with (fail)
        clear g0 g1 g2 g3 c0 c1 c2 c3 c4 c5 hq8
        go_cut [9] (fun v9 wc => Hid (Kd.string.R 9 wc (w2.heap.size + 1) (fun _ => True) v9 [decS t, decS cl, wd, hexS p]) ∧ Hid (Below (w2.heap.size + 1) (w2.alloc (.cells #[.string wd, .func (.func mw) #[] fvw, .int .i64 nw, .func (.func mr) #[] fvr] 74)) wc))
        case first =>
          clear hcell2 HR HT HF HFr HNB HB ho2 hall HB2 HFr2 Hfw Hwd Hk12 Hhs
          have HS : Hid (∀ W, Below (w2.heap.size + 1) (w2.alloc (.cells #[.string wd, .func (.func mw) #[] fvw, .int .i64 nw, .func (.func mr) #[] fvr] 74)) W → (W.cell? ⟨wr.heap.size, 0, none⟩ = some (.int .u64 t) ∧ W.cell? ⟨wr.heap.size, 1, none⟩ = some (.int .i64 cl) ∧ W.cell? ⟨wr.heap.size, 3, none⟩ = some (.int .u32 p) ∧ W.cell? ⟨w2.heap.size, 0, none⟩ = some (.string wd) ∧ Hid (PTab W) ∧ Hid (Below (w2.heap.size + 1) (w2.alloc (.cells #[.string wd, .func (.func mw) #[] fvw, .int .i64 nw, .func (.func mr) #[] fvr] 74)) W))) := fun W hW => by
            obtain ⟨e0, e1, e3, ef, ep⟩ := hcell.out _ hW
            exact ⟨e0, e1, e3, ef, ep, hW⟩
          have HB0 := Lib.hid (Below.refl (w2.heap.size + 1) (w2.alloc (.cells #[.string wd, .func (.func mw) #[] fvw, .int .i64 nw, .func (.func mr) #[] fvr] 74)))
          clear hcell
          go_region_held3 (fun W => W.cell? ⟨wr.heap.size, 0, none⟩ = some (.int .u64 t) ∧ W.cell? ⟨wr.heap.size, 1, none⟩ = some (.int .i64 cl) ∧ W.cell? ⟨wr.heap.size, 3, none⟩ = some (.int .u32 p) ∧ W.cell? ⟨w2.heap.size, 0, none⟩ = some (.string wd) ∧ Hid (PTab W) ∧ Hid (Below (w2.heap.size + 1) (w2.alloc (.cells #[.string wd, .func (.func mw) #[] fvw, .int .i64 nw, .func (.func mr) #[] fvr] 74)) W))
            (first
              | exact HS.out _ HB0.out
              | exact HS.out _ (below_drew HB0.out)
              | exact HS.out _ HB5.out
              | exact HS.out _ HB7.out
              | exact HS.out _ (HB7.out.alloc (by have hz := HB7.out.size; simp at hz; omega) _))
            (first
              | (go_at_call 34; with_reducible refine (fmt_ok t ht _ (HS.out _ (below_drew HB0.out)).2.2.2.2.1.out).mono ?_; rintro e w5 ⟨rfl, hb5⟩; have HB5 := Lib.hid ((below_drew HB0.out).trans (hb5.mono (by simp))))
              | (go_at_call 35; with_reducible refine (Tryz.strconv_Itoa_small cl (by omega) _).mono ?_; rintro e w6 ⟨rfl, rfl⟩)
              | (go_at_call 36; with_reducible refine (hex_ok p hp _).mono ?_; rintro e w7 ⟨rfl, hb7⟩; have HB7 := Lib.hid (HB5.out.trans (hb7.mono (by have hz := HB5.out.size; simp at hz; omega)))))
          all_goals
            go_wp2_with fail
            go_meet
            case rel =>
              refine ⟨?_, ?_⟩
              · exact R_fresh _ [decS t, decS cl, wd, hexS p] (by have hz := HB7.out.size; simp at hz; omega) rfl (by simp) rfl
              · exact HB7.out.alloc (by have hz := HB7.out.size; simp at hz; omega) _
        case rest =>
          obtain ⟨HV, HBc⟩ := hcut
          obtain ⟨A9, cp9, rfl, hc9, hC9⟩ := Kd.R_reads HV.out
          have hent : ∀ args w, (callFunc mw args).run Tryz.prog w = .ok (.enter mw args) w := enter_any hq1 hq7 Hfw.out
          have hwr : Hid (∀ W, Below (w2.heap.size + 1) (w2.alloc (.cells #[.string wd, .func (.func mw) #[] fvw, .int .i64 nw, .func (.func mr) #[] fvr] 74)) W → Calls Tryz.prog mw (#[.agg #[.int .u64 t, .int .i64 cl, .int .i64 q, .int .u32 p, .int .u32 a, .int .u32 b]] ++ fvw) W (WrR W (writeL o))) := by
            intro W hW
            obtain ⟨h0, h1, h2, h3, h4, h5⟩ := Hhs.out
            rw [writeL_eq h2 h4 h5]
            refine write_any (HFr2.out.below ?_) t cl p a b hq1 hq7 ha hb Hk12.out.1 Hk12.out.2 Hfw.out
            exact (below_alloc (Below.refl w2.heap.size w2) _).trans (hW.mono (by omega))
          obtain ⟨c0, c1, c2, c3, c4, c5, f1⟩ := hcell2.out _ HBc.out
          have HLc : Hid (Below wr.heap.size wr wc) := HL2.out.trans ((below_alloc (Below.refl w2.heap.size w2) _ |>.trans (HBc.out.mono (by omega))).mono HL2.out.size)
          have HCc : Hid (Below w.heap.size w wc) := HB.out.trans (HLc.out.mono HB.out.size)
          have hsz : wr.heap.size ≤ wc.heap.size ∧ w2.heap.size + 1 ≤ wc.heap.size := ⟨HLc.out.size, by have hz := HBc.out.size; simp at hz; omega⟩
          go_wp2_with fail
          refine (hwr.out _ HBc.out).mono ?_
          rintro e w10 ⟨v10, rfl, hr10, hb10⟩
          clear c0 c1 c2 c3 c4 c5 f1 hcell hcell2
          obtain ⟨A10, c10, rfl, hc10, hC10⟩ := Kd.R_reads hr10
          have HC10 := Lib.hid hC10
          have HV10 : Hid (Kd.string.R 9 w10 (w2.heap.size + 1) (fun _ => True) (.slice A9 [decS t, decS cl, wd, hexS p].length cp9) [decS t, decS cl, wd, hexS p]) := Kd.R_below HV.out hb10
          have HL10 : Hid (Below wr.heap.size wr w10) := HLc.out.trans (hb10.mono hsz.1)
          have HB10 : Hid (Below w.heap.size w w10) := HCc.out.trans (hb10.mono HCc.out.size)
          have hs10 : w2.heap.size + 1 ≤ w10.heap.size := by have := hb10.size; omega
          have hwl : (writeL o).length ≤ 2 := by unfold writeL; repeat' (first | split | simp)
          clear hr10 hb10 hC10 hC9 HV HBc hwr hent
          go_wp2_with (at_builtin; refine Kd.R_append_row Value.string ByteArray.empty (w0 := wr) wr.heap.size rfl (.tmp 37) (.tmp 41) 78 9 (.string ⟨#[]⟩) 16 rfl Tryz.underlying78 info9 rfl (by decide) _ _ (writeL o) A10 _ c10 (fun _ => True) rfl rfl (fun _ _ => trivial) (Kd.R_lower HV10.out (by omega)) HC10.out HL10.out HL10.out.size (by simp; omega) ?_; intro v11 w11 hr11 hb11 hg11 hat11; have HR11 := Lib.hid hr11; have HL11 := Lib.hid hb11; clear hr11 hb11 hg11 hat11)
          have hws : [decS t, decS cl, wd, hexS p] ++ writeL o = wordsL o := by
            obtain ⟨h0, h1, h2, h3, h4, h5⟩ := Hhs.out
            simp [wordsL, headL, h0, h1, h2, h3, Hwd.out]
          have HR11' := HR11.out
          rw [hws] at HR11'
          obtain ⟨g11, c11, rfl, hcp11, hg11, hcell11⟩ := R_cells HR11' (by simp [wordsL, headL])
          have HX11 := Lib.hid hcell11
          have hll : (lineB o).length ≤ 200 := by
            obtain ⟨h0, h1, h2, h3, h4, h5⟩ := Hhs.out
            exact words_len o (by omega) (by omega) (by omega)
          have hjl : (Lib.join ((wordsL o).map (·.data.toList)) [32]).length ≤ 199 := by unfold lineB at hll; rw [List.length_append] at hll; simp at hll; omega
          have HJ := Lib.hid hjl
          have hwl2 : (wordsL o).length ≤ 6 := by rw [← hws, List.length_append]; simp; omega
          clear HR11 HR11' hcell11 hws hjl HC10 HV10
          refine (Tryz.strings_Join g11 0 c11 (wordsL o) _ _ HX11.out hg11 (by omega) hcp11 (by have := HJ.out; simpa using Nat.le_trans this (by omega))).mono ?_
          rintro e w12 ⟨rfl, hb12⟩
          have HL12 := Lib.hid (HL11.out.trans (hb12.mono HL11.out.size))
          clear HX11 hb12 HL11
          obtain ⟨ln, hln⟩ : ∃ ln : ByteArray, ln = ⟨(Lib.join ((wordsL o).map (·.data.toList)) [32]).toArray⟩ := ⟨_, rfl⟩
          have hlb : (ln ++ ⟨#[10]⟩ : ByteArray).data.toList = lineB o := by rw [hln]; simp [lineB]
          have h10 : (⟨#[10]⟩ : ByteArray).size = 1 := rfl
          have hls : ln.size ≤ 199 := by rw [hln]; simpa [ByteArray.size] using HJ.out
          have hlz : (ln ++ ⟨#[10]⟩ : ByteArray).size ≤ 200 := by rw [ByteArray.size_append, h10]; omega
          have Hlb := Lib.hid hlb
          have hadd : ∀ W : World, (Op.stringOp .add ln ⟨#[10]⟩).run Tryz.prog W = .ok (.string (ln ++ ⟨#[10]⟩)) W := fun W => run_string_add_sum W _ _ (by rw [h10]; omega)
          rw [← hln]
          clear hln hls hlb HJ
          go_wp2_with fail
          have hbuf : (Lib.byteCells (textB (l.take k))).length ≤ 200 * 1000000 := by
            rw [Lib.byteCells_length]
            refine Nat.le_trans (text_len _ (fun x hx => ?_)) ?_
            · have hx2 := HF.out x (List.mem_of_mem_take hx)
              obtain ⟨⟨f1, f2, f3, f4, f5, f6⟩, f7, f8⟩ := hx2
              have := List.all_eq_true.1 hall.out x hx
              unfold mayB at this
              simp only [Bool.and_eq_true, decide_eq_true_eq] at this
              exact words_len x (by omega) (by omega) (by omega)
            · rw [List.length_take]; exact Nat.mul_le_mul_left _ (by omega)
          have HB12 := Lib.hid (HB.out.trans (HL12.out.mono HB.out.size))
          have hW := Tryz.Builder_WriteString_k w.heap.size w.heap.size _ (ln ++ ⟨#[10]⟩) w12 (builder_below HNB.out HL12.out) (by omega) HB12.out.size
          obtain ⟨lz, hz⟩ : ∃ lz : ByteArray, lz = ln ++ ⟨#[10]⟩ := ⟨_, rfl⟩
          rw [← hz] at hW ⊢
          have Hz := Lib.hid hz
          clear hz
          refine hW.mono ?_
          clear hW
          rintro e w13 ⟨rfl, hbu, hb13, hok13⟩
          have HFr13 := Lib.hid ((HFr.out.below HL12.out).others hok13 (by omega))
          have HB13 := Lib.hid (HB12.out.trans hb13)
          have hall13 : Hid ((l.take (k + 1)).all mayB = true) := by
            show (l.take (k + 1)).all mayB = true
            rw [List.take_add_one, ho2.out]
            simp [hall.out, hmb]
          have HNB13 : Hid (Lib.IsBuilderF 67 5 w.heap.size w.heap.size (Lib.byteCells (textB (l.take (k + 1)))) w13) := by
            have h1 := hbu
            rw [Lib.strCells_eq, Hz.out, Hlb.out] at h1
            have h2 : Lib.byteCells (textB (l.take (k + 1))) = Lib.byteCells (textB (l.take k)) ++ Lib.byteCells (lineB o) := by
              rw [List.take_add_one, ho2.out]
              simp [textB, Lib.byteCells]
            show Lib.IsBuilderF 67 5 w.heap.size w.heap.size (Lib.byteCells (textB (l.take (k + 1)))) w13
            rw [h2]
            exact .inr h1
          clear hbu hb13 hok13 hbuf hall HNB HB HFr HL12 HB12 hadd
          go_wp2_with fail
          go_roundw
          case rel => exact ⟨k + 1, by omega, by go_num, hall13, HFr13, HNB13, HB13⟩
          case measure => simp [RowKit.intOf]; omega
    · obtain rfl : k = l.length := by omega
      go_wp2_with fail
      refine (Tryz.Builder_String_any_f w.heap.size w.heap.size _ wr HNB.out HB.out.size).mono ?_
      rintro e w14 ⟨rfl, _, hb14⟩
      have HB14 := Lib.hid (HB.out.trans hb14)
      clear hb14
      go_wp2_with fail
      refine bodyPost_ret (results_tmp2 rfl _ _ _) rfl ?_
      have h1 := hall.out
      rw [List.take_of_length_le (Nat.le_refl _)] at h1
      refine ⟨?_, HB14.out⟩
      rw [if_pos h1, if_pos h1]
      rfl
end Go.Proofs.YtohighedgdlflaaGreatDoor

/- The law TraceBack answers true, whatever the rows. -/
namespace Go.Proofs.YtohighedgdlflaaGreatDoor
open Go.Proofs.YtohighedgdlflaaGreatDoorW.PrintLast Go.Shelf Go.RowKit Go.Sort Go.Lib Go.Proofs.YtohighedgdlflaaGreatDoorW.PrintWords Go.Proofs.YtohighedgdlflaaGreatDoor.PR
set_option linter.unusedVariables false
set_option linter.unusedSimpArgs false
theorem pick_okw (c : Int) (n : Nat) (hc : I64 c) (hn : 0 < n) : ∃ r : Nat, r < n ∧ ∀ w, Calls Tryz.prog 29 #[.int .i64 c, .int .i64 n] w fun e w' => e = .returned (.int .i64 r) ∧ Drawn0 w w' := by
  obtain ⟨r, h1, h2⟩ := pick_some c n hc hn
  exact ⟨r, h2, fun w => cloisterlaw22_pick.calls c n r w h1⟩
theorem xor_u8 (a b : Nat) (ha : a < 256) (hb : b < 256) : bits .xor .u8 a b = ((a ^^^ b : Nat) : Int) := by
  have ha' : a % 2 ^ IntKind.u8.bits = a := Nat.mod_eq_of_lt (by simpa [IntKind.bits] using ha)
  have hb' : b % 2 ^ IntKind.u8.bits = b := Nat.mod_eq_of_lt (by simpa [IntKind.bits] using hb)
  simp only [bits, BitVec.ofInt_natCast, BitVec.toNat_xor, BitVec.toNat_ofNat, ha', hb']
  have := Nat.xor_lt_two_pow (n := 8) ha hb
  show (((a ^^^ b : Nat) : Int)) % 256 = _
  omega
theorem flat1 {α : Type} : ∀ (l : List α), (l.map fun o => [o]).flatten = l
  | [] => rfl
  | o :: l => by rw [List.map_cons, List.flatten_cons, flat1 l]; rfl
theorem xor_byte (b j : Nat) (hb : b < 256) (hj : j < 255) : ∃ y : Nat, bits .xor .u8 (b : Int) (IntKind.u8.wrap (wrap64 (1 + (j : Int)))) = (y : Int) ∧ y < 256 ∧ y ≠ b := by
  have e : IntKind.u8.wrap (wrap64 (1 + (j : Int))) = ((j + 1 : Nat) : Int) := by
    have h1 : wrap64 (1 + (j : Int)) = ((j + 1 : Nat) : Int) := by unfold wrap64; omega
    rw [h1]
    show (((j + 1 : Nat) : Int)) % 256 = _
    omega
  refine ⟨b ^^^ (j + 1), ?_, Nat.xor_lt_two_pow (n := 8) hb (by omega), fun h => ?_⟩
  · rw [e, xor_u8 b (j + 1) hb (by omega)]
  · have h2 : b ^^^ (b ^^^ (j + 1)) = b ^^^ b := by rw [h]
    rw [← Nat.xor_assoc, Nat.xor_self, Nat.zero_xor] at h2
    omega
theorem parse_text (l : List S35) (hm : ∀ o ∈ l, mayB o = true) (hF : ∀ o ∈ l, FitsT o) (hl : l.length ≤ 1000000) (m : Int) (w : World) (hm2 : w.cell? ⟨2, 0, none⟩ = some (.int .i64 m)) :
    Calls Tryz.prog 31 #[.string (textS l)] w fun e w' => ∃ v, e = .returned (.tuple #[v, .int .i64 0, .int .i64 0]) ∧ Kd.R k35 35 w' w.heap.size (fun _ => True) v l ∧ Below w.heap.size w w' := by
  obtain ⟨zs, h1, h2, h3⟩ := text_pieces l hm hF
  have hfl : ((l.map fun o => [o]) ++ [[]]).flatten = l := by
    rw [List.flatten_append, flat1]
    simp
  have hsz : (textS l).size ≤ 1000000000 := by
    have h4 : (textB l).length ≤ 200 * l.length := text_len _ (fun x hx => by
      obtain ⟨t, cl, q, p, a, b, rfl, hG⟩ := good_of_may (hm x hx) (hF x hx)
      have := hG.t63; have := hG.cl8; have := hG.a32
      exact words_len _ (show (t : Int) < _ by omega) (show (cl : Int) < _ by omega) (show (a : Int) < _ by omega))
    have h5 : (textS l).size = (textB l).length := by simp [textS, ByteArray.size]
    omega
  have := parse_ok (textS l) m ((l.map fun o => [o]) ++ [[]]) w hsz hm2 (by rw [h1]; simp [h2]) (by
    intro k x os hx ho
    rw [h1] at hx
    rcases Nat.lt_or_ge k zs.length with hk | hk
    · rw [List.getElem?_append_left hk] at hx
      rw [List.getElem?_append_left (by simp; omega), List.getElem?_map] at ho
      obtain ⟨o, ho1, rfl⟩ := Option.map_eq_some_iff.1 ho
      exact h3 k x o hx ho1
    · rw [List.getElem?_append_right hk] at hx
      rw [List.getElem?_append_right (by simp; omega)] at ho
      simp only [List.length_map, ← h2] at ho
      match hkk : k - zs.length with
      | 0 =>
        rw [hkk] at hx ho
        obtain rfl := Option.some.inj hx
        obtain rfl := Option.some.inj ho
        refine .inl ⟨?_, rfl⟩
        have hc : cutB ⟨#[]⟩ = [⟨#[]⟩] := map_ba' (by
          show (Lib.splitB ⟨#[32]⟩ 0 (Lib.countB _ ⟨#[32]⟩) _).map (·.data.toList) = _
          rw [splitB_splitC]; rfl)
        unfold wordsB
        rw [hc]
        have : emp ⟨#[]⟩ = true := by
          unfold emp
          rw [← decide_eq_emptyBytes]
          exact decide_eq_true rfl
        simp [this]
      | n + 1 => rw [hkk] at hx; simp at hx) (by rw [hfl]; exact hl)
  rwa [hfl] at this
set_option maxRecDepth 100000 in
set_option maxHeartbeats 1000000 in
theorem back_ok (l : List S108) (hl : ∀ x ∈ l, Fits108 x) (A : Option Addr) (c : Nat) (at_ by_ : Int) (ha : I64 at_) (hb : I64 by_) (m : Int) (w : World) (hW : WTab w) (hT : PTab w) (hm : w.cell? ⟨2, 0, none⟩ = some (.int .i64 m)) (hR : Kd.C k108 w A l.length l) (hc : l.length ≤ c) :
    Calls Tryz.prog 7 #[.slice A l.length c, .int .i64 at_, .int .i64 by_] w fun e w' => e = .returned (.bool true) ∧ Below w.heap.size w w' := by
  obtain ⟨r, hr200, hmay, hfit, hall⟩ := all_ok l hl A c w hR hc
  have HW := Lib.hid hW
  have HT := Lib.hid hT
  have HM := Lib.hid hm
  have h2 : 2 < w.heap.size := World.block_lt_of_cell? _ _ hm
  have HMay := Lib.hid hmay
  have HF := Lib.hid hfit
  have Hall := Lib.hid hall
  clear hW hT hm hR hmay hfit hall hl
  have hok : encOk r = true := by
    unfold encOk
    rw [Bool.and_eq_true]
    exact ⟨decide_eq_true (by omega), List.all_eq_true.2 HMay.out⟩
  have hallB : r.all mayB = true := List.all_eq_true.2 HMay.out
  have HOk := Lib.hid hok
  have HAll := Lib.hid hallB
  clear hok hallB
  go_enter Tryz.func7, Tryz.ntmps7
  go_wp2_with fail
  refine Hall.out.mono ?_
  rintro e w1 ⟨v1, rfl, hr1, hb1⟩
  obtain ⟨A1, c1, rfl, hc1, hC1⟩ := Kd.R_reads hr1
  have HC1 := Lib.hid hC1
  have HB1 := Lib.hid hb1
  clear hr1 hb1 hC1 Hall
  go_wp2_with fail
  refine (twin_ok A1 c1 r _ HC1.out hc1 (by omega)).mono ?_
  rintro e w2 ⟨v2, rfl, hr2, hb2⟩
  obtain ⟨A2, c2, rfl, hc2, hC2⟩ := Kd.R_reads hr2
  have HC2 := Lib.hid (Kd.C_below HC1.out hb2)
  have HD2 := Lib.hid hC2
  have HB2 := Lib.hid (HB1.out.trans (hb2.mono HB1.out.size))
  clear hr2 hb2 hC2 HC1 HB1
  go_wp2_with fail
  refine (encode_ok r A2 c2 w2 (HW.out.below HB2.out) HD2.out (fun o ho => (HF.out o ho).1)).mono ?_
  rintro e w3 ⟨v3, rfl, hr3, hb3⟩
  rw [if_pos HOk.out] at hr3 ⊢
  obtain ⟨bs, hbs⟩ : ∃ bs, bs = encBytes r := ⟨_, rfl⟩
  rw [← hbs] at hr3
  have hlen : bs.length = 12 + 22 * r.length := by rw [hbs]; exact enc_len r
  obtain ⟨g, cb, rfl, hg, _, _⟩ := Kd.R_form hr3 (by omega)
  obtain ⟨_, hcb, hC3⟩ := Kd.R_reads' hr3
  have HBS := Lib.hid hbs
  have HR3 := Lib.hid (Kd.R_lower hr3 HB2.out.size)
  have hg0 : w.heap.size ≤ g := Nat.le_trans HB2.out.size hg
  have HC3 := Lib.hid (Kd.C_below HC2.out hb3)
  have HB3 := Lib.hid (HB2.out.trans (hb3.mono HB2.out.size))
  have HLen := Lib.hid hlen
  clear hr3 hb3 hC3 HC2 HD2 HB2 hbs hg hlen
  go_wp2_with fail
  have hbb : Crc.Bytes bs := by rw [HBS.out]; exact enc_bytes r
  have Hbb := Lib.hid hbb
  clear hbb
  refine (decode_ok bs (some ⟨g, 0, none⟩) cb w3 (HW.out.below HB3.out) (Kd.R_reads' HR3.out).2.2 hcb (by rw [HLen.out]; omega) Hbb.out).mono ?_
  rintro e w4 ⟨v4, rfl, hr4, hb4⟩
  have hde : decode bs = (r, -1) := by rw [HBS.out]; exact decode_enc r (by omega) HMay.out HF.out
  rw [hde] at hr4 ⊢
  obtain ⟨A4, c4, rfl, hc4, hC4⟩ := Kd.R_reads hr4
  have HR4 := Lib.hid (Kd.R_below HR3.out hb4)
  have HC4 := Lib.hid (Kd.C_below HC3.out hb4)
  have HD4 := Lib.hid hC4
  have HB4 := Lib.hid (HB3.out.trans (hb4.mono HB3.out.size))
  clear hr4 hb4 hC4 HR3 HC3 HB3 hde
  go_wp2_with fail
  refine (twin_ok A1 c1 r _ HC4.out hc1 (by omega)).mono ?_
  rintro e w5 ⟨v5, rfl, hr5, hb5⟩
  obtain ⟨A5, c5, rfl, hc5, hC5⟩ := Kd.R_reads hr5
  have HR5 := Lib.hid (Kd.R_below HR4.out hb5)
  have HC5 := Lib.hid (Kd.C_below HC4.out hb5)
  have HD5 := Lib.hid (Kd.C_below HD4.out hb5)
  have HE5 := Lib.hid hC5
  have HB5 := Lib.hid (HB4.out.trans (hb5.mono HB4.out.size))
  clear hr5 hb5 hC5 HR4 HC4 HD4 HB4
  go_wp2_with fail
  refine (text_ok r A5 c5 w5 (HT.out.below HB5.out) HE5.out HF.out (by omega)).mono ?_
  rintro e w6 ⟨rfl, hb6⟩
  rw [if_pos HAll.out, if_pos HAll.out]
  have HR6 := Lib.hid (Kd.R_below HR5.out hb6)
  have HC6 := Lib.hid (Kd.C_below HC5.out hb6)
  have HD6 := Lib.hid (Kd.C_below HD5.out hb6)
  have HB6 := Lib.hid (HB5.out.trans (hb6.mono HB5.out.size))
  clear hb6 HR5 HC5 HD5 HE5 HB5
  obtain ⟨tx, htx⟩ : ∃ tx, tx = textS r := ⟨_, rfl⟩
  rw [← htx]
  have HTx := Lib.hid htx
  clear htx
  go_wp2_with fail
  have hps := parse_text r HMay.out HF.out (by omega) m w6 (by rw [HB6.out.cell h2]; exact HM.out)
  rw [← HTx.out] at hps
  refine hps.mono ?_
  clear hps
  rintro e w7 ⟨v7, rfl, hr7, hb7⟩
  obtain ⟨A7, c7, rfl, hc7, hC7⟩ := Kd.R_reads hr7
  have HR7 := Lib.hid (Kd.R_below HR6.out hb7)
  have HC7 := Lib.hid (Kd.C_below HC6.out hb7)
  have HD7 := Lib.hid (Kd.C_below HD6.out hb7)
  have HP7 := Lib.hid hC7
  have HB7 := Lib.hid (HB6.out.trans (hb7.mono HB6.out.size))
  clear hr7 hb7 hC7 HR6 HC6 HD6 HB6
  have h12 : ¬ ((bs.length : Int) < 12) := by rw [HLen.out]; omega
  have h12b : decide ((bs.length : Int) < 12) = false := decide_eq_false h12
  have h12c : decide (bs.length < 12) = false := decide_eq_false (by rw [HLen.out]; omega)
  clear h12
  go_wp2_with fail
  refine (same_ok A4 A1 c4 c1 r w7 HD7.out hc4 HC7.out hc1 (by omega)).mono ?_
  rintro e w8 ⟨rfl, ⟨n8, rfl⟩⟩
  go_wp2_with fail
  refine (same_ok A7 A1 c7 c1 r _ (Kd.C_drewN HP7.out n8) hc7 (Kd.C_drewN HC7.out n8) hc1 (by omega)).mono ?_
  rintro e w9 ⟨rfl, ⟨n9, rfl⟩⟩
  have HR9 : Hid (Kd.R (Kd.int .u8) 5 ((w7.drewN n8).drewN n9) w.heap.size (fun _ => True) (.slice (some ⟨g, 0, none⟩) bs.length cb) bs) := Kd.R_drewN (Kd.R_drewN HR7.out n8) n9
  have HB9 : Hid (Below w.heap.size w ((w7.drewN n8).drewN n9)) := pw_below_drewN (pw_below_drewN HB7.out n8) n9
  clear HR7 HB7 HC7 HD7 HP7 h12b h12c
  generalize (w7.drewN n8).drewN n9 = w10 at HR9 HB9 ⊢
  obtain ⟨n1, hn1⟩ : ∃ n1, n1 = 11 + 22 * r.length := ⟨_, rfl⟩
  have hb1 : bs.length = n1 + 1 := by rw [HLen.out]; omega
  have HN1 := Lib.hid hn1
  have HB1 := Lib.hid hb1
  rw [hb1]
  have hle : n1 ≤ cb := by omega
  have hsl : ∀ W : World, (Instr.slice 37 (.slice (some ⟨g, 0, none⟩) (n1 + 1) cb) none (some (.int .i64 (wrap64 (n1 : Int)))) none).run Tryz.prog W = .ok (.slice (some ⟨g, 0, none⟩) n1 cb) W := by
    intro W
    have hwn : wrap64 (n1 : Int) = (n1 : Int) := by unfold wrap64; omega
    obtain ⟨i0, hi, _⟩ := Option.map_eq_some_iff.1 info5
    have := cut_to (P := Tryz.prog) 37 5 .i64 Tryz.underlying37 hi (some ⟨g, 0, none⟩) (n1 + 1) cb (n1 : Int) (by omega) (by omega) (by omega) W
    rw [hwn, this, Int.toNat_natCast]
  clear hn1 hb1
  go_wp2_with fail
  have htl : (bs.take n1).length = n1 := by rw [List.length_take, HB1.out]; omega
  have hdk := decode_ok (bs.take n1) (some ⟨g, 0, none⟩) cb w10 (HW.out.below HB9.out) (Kd.C_take (Kd.R_reads' HR9.out).2.2 (by rw [HB1.out]; omega)) (by omega) (by rw [htl, HN1.out]; omega) (fun z hz => Hbb.out z (List.mem_of_mem_take hz))
  have hdc : decode (bs.take n1) = ([], 4) := by rw [HBS.out, HN1.out]; exact decode_cut r (by omega)
  rw [htl] at hdk
  refine hdk.mono ?_
  clear hdk
  rintro e w11 ⟨v11, rfl, hr11, hb11⟩
  rw [hdc] at hr11 ⊢
  obtain ⟨A11, c11, rfl, _, _⟩ := Kd.R_reads hr11
  have HR11 := Lib.hid (Kd.R_below HR9.out hb11)
  have HB11 := Lib.hid (HB9.out.trans (hb11.mono HB9.out.size))
  clear hr11 hb11 HR9 HB9 hdc htl
  obtain ⟨k, hk, hpk0⟩ := pick_okw at_ (n1 + 1) ha (by omega)
  have hpk : ∀ w, Calls Tryz.prog 29 #[.int .i64 at_, .int .i64 ((n1 : Int) + 1)] w fun e w' => e = .returned (.int .i64 k) ∧ Drawn0 w w' := hpk0
  obtain ⟨j, hj, hpj0⟩ := pick_okw by_ 255 hb (by omega)
  have hpj : ∀ w, Calls Tryz.prog 29 #[.int .i64 by_, .int .i64 255] w fun e w' => e = .returned (.int .i64 j) ∧ Drawn0 w w' := hpj0
  clear hpk0 hpj0
  go_wp2_with fail
  refine (hpk _).mono ?_
  rintro e w12 ⟨rfl, ⟨n12, rfl⟩⟩
  have HR12 : Hid (Kd.R (Kd.int .u8) 5 (w11.drewN n12) w.heap.size (fun _ => True) (.slice (some ⟨g, 0, none⟩) bs.length cb) bs) := Kd.R_drewN HR11.out n12
  have HB12 : Hid (Below w.heap.size w (w11.drewN n12)) := pw_below_drewN HB11.out n12
  clear HR11 HB11 hpk
  generalize w11.drewN n12 = w12 at HR12 HB12 ⊢
  have hkl : k < bs.length := by rw [HB1.out]; exact hk
  obtain ⟨bk, hbk⟩ : ∃ bk, bk = bs[k] := ⟨_, rfl⟩
  have hck0 := Kd.R_cell (d := (0 : Int)) HR12.out (k : Int) (by omega) (by omega)
  have hrd : rdOf (0 : Int) bs (k : Int) = bk := by
    rw [hbk]; simp [rdOf, List.getD_eq_getElem?_getD, List.getElem?_eq_getElem hkl]
  rw [hrd, Int.toNat_natCast] at hck0
  obtain ⟨hck1, hfk⟩ := hck0
  have hck : w12.drew.cell? ⟨g, k, none⟩ = some (.int .u8 bk) := hck1
  have hki : (0 : Int) ≤ k ∧ (k : Int) < (n1 : Int) + 1 := by omega
  have HBk := Lib.hid hbk
  clear hrd hbk
  go_upto_region 10 with (fail)
  refine start_ (n := 13) (S := fun w' => w'.cell? ⟨g, k, none⟩ = some (.int .u8 bk)) (ds := [12]) #[false, false, false, false, false, false, false, false, false, false, false, false, false] (by kernel_rfl) rfl rfl (hck) (fun hHeld => ?_)
  refine pure_ (i := 0) (N := some 96) (v := ?_) (a' := ?_) #[true, false, false, false, false, false, false, false, false, false, false, false, false] rfl rfl (by kernel_rfl) (fun _ _ _ h => h) (Or.inl ⟨by rfl, ?_⟩) ?_ ?_
  rotate_left
  · intro w'
    go_simp
    with_reducible rfl
  rotate_left
  · simp only [Act.put, List.setIfInBounds_toArray, List.set_cons_zero, List.set_cons_succ, i64_w, i32_w]
    rfl
  refine pure_ (i := 1) (N := some 97) (v := ?_) (a' := ?_) #[true, true, false, false, false, false, false, false, false, false, false, false, false] rfl rfl (by kernel_rfl) (fun _ _ _ h => h) (Or.inl ⟨by rfl, ?_⟩) ?_ ?_
  rotate_left
  · intro w'
    go_simp
    with_reducible rfl
  rotate_left
  · simp only [Act.put, List.setIfInBounds_toArray, List.set_cons_zero, List.set_cons_succ, i64_w, i32_w]
    rfl
  refine pure_ (i := 2) (N := some 98) (v := ?_) (a' := ?_) #[true, true, true, false, false, false, false, false, false, false, false, false, false] rfl rfl (by kernel_rfl) (fun _ _ _ h => h) (Or.inl ⟨by rfl, ?_⟩) ?_ ?_
  rotate_left
  · intro w'
    go_simp
    with_reducible rfl
  rotate_left
  · simp only [Act.put, List.setIfInBounds_toArray, List.set_cons_zero, List.set_cons_succ, i64_w, i32_w]
    rfl
  refine pure_ (i := 3) (N := some 99) (v := ?_) (a' := ?_) #[true, true, true, true, false, false, false, false, false, false, false, false, false] rfl rfl (by kernel_rfl) (fun _ _ _ h => h) (Or.inl ⟨by rfl, ?_⟩) ?_ ?_
  rotate_left
  · intro w'
    go_simp
    with_reducible rfl
  rotate_left
  · simp only [Act.put, List.setIfInBounds_toArray, List.set_cons_zero, List.set_cons_succ, i64_w, i32_w]
    rfl
  refine pure_ (i := 4) (N := some 100) (v := ?_) (a' := ?_) #[true, true, true, true, true, false, false, false, false, false, false, false, false] rfl rfl (by kernel_rfl) (fun _ _ _ h => h) (Or.inl ⟨by rfl, ?_⟩) ?_ ?_
  rotate_left
  · intro w'
    go_simp
    with_reducible rfl
  rotate_left
  · simp only [Act.put, List.setIfInBounds_toArray, List.set_cons_zero, List.set_cons_succ, i64_w, i32_w]
    rfl
  refine pure_ (i := 6) (N := some 102) (v := ?_) (a' := ?_) #[true, true, true, true, true, false, true, false, false, false, false, false, false] rfl rfl (by kernel_rfl) (fun _ _ _ h => h) (Or.inl ⟨by rfl, ?_⟩) ?_ ?_
  rotate_left
  · intro w'
    go_simp
    with_reducible rfl
  rotate_left
  · simp only [Act.put, List.setIfInBounds_toArray, List.set_cons_zero, List.set_cons_succ, i64_w, i32_w]
    rfl
  refine take_ (i := 5) (N := some 101) (v := ?_) (a' := ?_) #[true, true, true, true, true, true, true, false, false, false, false, false, false] rfl rfl (by kernel_rfl) (fun _ _ _ h => h) (Or.inl ⟨by rfl, ?_⟩) hHeld ?_ ?_
  rotate_left
  · intro w' s0
    go_simp
    with_reducible rfl
  rotate_left
  · simp only [Act.put, List.setIfInBounds_toArray, List.set_cons_zero, List.set_cons_succ, i64_w, i32_w]
    rfl
  refine one_ (i := 7) (N := some 103) #[true, true, true, true, true, true, true, true, false, false, false, false, false] rfl rfl (by kernel_rfl) (by decide) (fun K hK => ?_)
  refine goes_ Tryz.func29 (by kernel_rfl) rfl #[.int .i64 by_, .int .i64 255] (by rfl) rfl rfl (by simp only [List.map_toArray, List.map_cons, List.map_nil]; rfl) ?_
  with_reducible refine (hpj _).mono ?_
  rintro e w11 ⟨rfl, ⟨nd, rfl⟩⟩
  refine ⟨_, rfl, ?_⟩
  refine hK.out _ _ (hHeld) (fun hHeld => ?_)
  clear hK K
  refine norm_ (a' := ?_) ?_ ?_
  rotate_left
  · show Act.put _ (some 103) _ = _
    simp only [Act.put, List.setIfInBounds_toArray, List.set_cons_zero, List.set_cons_succ, i64_w, i32_w]
    rfl
  refine pure_ (i := 8) (N := some 104) (v := ?_) (a' := ?_) #[true, true, true, true, true, true, true, true, true, false, false, false, false] rfl rfl (by kernel_rfl) (fun _ _ _ h => h) (Or.inl ⟨by rfl, ?_⟩) ?_ ?_
  rotate_left
  · intro w'
    go_simp
    with_reducible rfl
  rotate_left
  · simp only [Act.put, List.setIfInBounds_toArray, List.set_cons_zero, List.set_cons_succ, i64_w, i32_w]
    rfl
  refine pure_ (i := 9) (N := some 105) (v := ?_) (a' := ?_) #[true, true, true, true, true, true, true, true, true, true, false, false, false] rfl rfl (by kernel_rfl) (fun _ _ _ h => h) (Or.inl ⟨by rfl, ?_⟩) ?_ ?_
  rotate_left
  · intro w'
    go_simp
    with_reducible rfl
  rotate_left
  · simp only [Act.put, List.setIfInBounds_toArray, List.set_cons_zero, List.set_cons_succ, i64_w, i32_w]
    rfl
  refine pure_ (i := 10) (N := some 106) (v := ?_) (a' := ?_) #[true, true, true, true, true, true, true, true, true, true, true, false, false] rfl rfl (by kernel_rfl) (fun _ _ _ h => h) (Or.inl ⟨by rfl, ?_⟩) ?_ ?_
  rotate_left
  · intro w'
    go_simp
    with_reducible rfl
  rotate_left
  · simp only [Act.put, List.setIfInBounds_toArray, List.set_cons_zero, List.set_cons_succ, i64_w, i32_w]
    rfl
  refine pure_ (i := 11) (N := some 107) (v := ?_) (a' := ?_) #[true, true, true, true, true, true, true, true, true, true, true, true, false] rfl rfl (by kernel_rfl) (fun _ _ _ h => h) (Or.inl ⟨by rfl, ?_⟩) ?_ ?_
  rotate_left
  · intro w'
    go_simp
    with_reducible rfl
  rotate_left
  · simp only [Act.put, List.setIfInBounds_toArray, List.set_cons_zero, List.set_cons_succ, i64_w, i32_w]
    rfl
  refine last_ (i := 12) (N := none) #[true, true, true, true, true, true, true, true, true, true, true, true, true] rfl rfl (by kernel_rfl) (by decide) (fun K hK => ?_)
  refine skip_ (w1 := ?_) (by rfl) rfl ?_ ?_
  rotate_left
  · go_simp
    rfl
  refine hK.out _ _ ?_
  clear hK K
  refine done_ (by kernel_rfl) ?_
  have hbk0 := Hbb.out bk (by rw [HBk.out]; exact List.getElem_mem hkl)
  obtain ⟨bn, hbn⟩ : ∃ bn : Nat, bk = (bn : Int) := ⟨bk.toNat, by omega⟩
  obtain ⟨y, hy, hy256, hyne⟩ := xor_byte bn j (by omega) hj
  rw [hbn, hy]
  obtain ⟨W13, hW13⟩ : ∃ W13, W13 = ((w12.drewN (1 + nd)).setCell ⟨g, k, none⟩ (.int .u8 (y : Int))) := ⟨_, rfl⟩
  have HR13 : Hid (Kd.R (Kd.int .u8) 5 W13 w.heap.size (fun _ => True) (.slice (some ⟨g, 0, none⟩) bs.length cb) (bs.set k (y : Int))) := by
    show Kd.R (Kd.int .u8) 5 W13 w.heap.size (fun _ => True) (.slice (some ⟨g, 0, none⟩) bs.length cb) (bs.set k (y : Int))
    rw [hW13]
    exact (Kd.R_putg (Kd.R_drewN HR12.out (1 + nd)) (k : Int) (y : Int)).1
  have HB13 : Hid (Below w.heap.size w W13) := by
    show Below w.heap.size w W13
    rw [hW13]
    exact (pw_below_drewN HB12.out (1 + nd)).setCell hg0 _
  rw [← hW13]
  clear hW13 HR12 HB12 hHeld hck hck1 hfk hpj hki
  have hlen2 : (bs.set k (y : Int)).length = n1 + 1 := by rw [List.length_set, HB1.out]
  have hdk := decode_ok (bs.set k (y : Int)) (some ⟨g, 0, none⟩) cb W13 (HW.out.below HB13.out) (Kd.R_reads' HR13.out).2.2 (by rw [List.length_set]; exact hcb) (by rw [hlen2, HN1.out]; omega) (bytes_set Hbb.out ⟨by omega, by omega⟩)
  have hds : ∃ p : Nat, decode (bs.set k (y : Int)) = ([], (p : Int)) := by
    have hbse := HBS.out
    have hke : k < (encBytes r).length := by rw [← hbse]; exact hkl
    have hk2 : bs[k] = (encBytes r)[k] := by
      have h3 : bs[k]? = (encBytes r)[k]? := by rw [← hbse]
      rw [List.getElem?_eq_getElem hkl, List.getElem?_eq_getElem hke] at h3
      exact Option.some.inj h3
    rw [hbse]
    exact decode_set r (by omega) k hke (y : Int) ⟨by omega, by omega⟩ (fun h => by
      rw [← hk2, ← HBk.out, hbn] at h
      exact hyne (Int.ofNat.inj h))
  obtain ⟨p, hdp⟩ := hds
  rw [hlen2] at hdk
  clear hbk0 hyne hy256 hy hlen2
  go_wp2_with fail
  refine hdk.mono ?_
  clear hdk
  rintro e w14 ⟨v14, rfl, hr14, hb14⟩
  have hp0 : ¬ ((p : Int) < 0) := by omega
  rw [hdp] at hr14 ⊢
  rw [if_neg hp0, if_neg hp0]
  obtain ⟨A14, c14, rfl, _, _⟩ := Kd.R_reads hr14
  have HB14 := Lib.hid (HB13.out.trans (hb14.mono HB13.out.size))
  clear hr14 hb14 HR13 HB13 hdp
  go_wp2_with fail
  go_ret
  exact ⟨rfl, HB14.out⟩
end Go.Proofs.YtohighedgdlflaaGreatDoor

/- A row of raw observations among the arguments, opened. -/
namespace Go.Proofs.YtohighedgdlflaaGreatDoor
open Go.ChangeShapes Go.WideShapes Go.Deep Go.RowKit Go.Proofs.YtohighedgdlflaaGreatDoorW.PrintWords Go.Proofs.YtohighedgdlflaaGreatDoor.PR
set_option linter.unusedVariables false
set_option linter.unusedSimpArgs false
namespace raw
theorem cells108 : Tryz.prog.cellsOf 108 = 6 := by kernel_rfl
theorem cells3 : Tryz.prog.cellsOf 3 = 1 := by kernel_rfl
theorem len6 {α : Type} {l : List α} (h : l.length = 6) : ∃ a b c d e f, l = [a, b, c, d, e, f] := by
  match l, h with
  | [a, b, c, d, e, f], _ => exact ⟨a, b, c, d, e, f, rfl⟩
theorem wf_i64 {n : Int} (h : (Lit.int .i64 n).wf = true) : I64 n := by
  have e1 : IntKind.i64.min = -9223372036854775808 := by decide
  have e2 : IntKind.i64.max = 9223372036854775807 := by decide
  simp only [Lit.wf, Bool.and_eq_true, decide_eq_true_eq, e1, e2] at h
  exact ⟨by omega, by omega⟩
def cells (x : S108) : List Value := [.int .i64 x.f0, .int .i64 x.f1, .int .i64 x.f2, .int .i64 x.f3, .int .i64 x.f4, .int .i64 x.f5]
section
variable {H : Type} {enc : TypeId × Value → H} {W : World} {spare : Nat → Bool} {held : Bool}
theorem open_one {n : Nat} {v0 v1 v2 v3 v4 v5 : Value} {x : DataW H × List MemPlace} (h : DataW.trod enc Tryz.prog W 0 spare held n 108 [v0, v1, v2, v3, v4, v5] = some x) :
    ∃ o : S108, Fits108 o ∧ [v0, v1, v2, v3, v4, v5] = cells o := by
  obtain ⟨xs, k, hk, hxy, _, hxl, hf⟩ := DataW.trod_struct Tryz.underlying108 h
  obtain ⟨y0, y1, y2, y3, y4, y5, rfl⟩ := len6 (l := xs) hxl
  have g0 : DataW.trod enc Tryz.prog W 0 spare held k 3 (([v0, v1, v2, v3, v4, v5].drop 0).take (Tryz.prog.cellsOf 3)) = some y0 := hf 0 _ rfl
  have g1 : DataW.trod enc Tryz.prog W 0 spare held k 3 (([v0, v1, v2, v3, v4, v5].drop 1).take (Tryz.prog.cellsOf 3)) = some y1 := hf 1 _ rfl
  have g2 : DataW.trod enc Tryz.prog W 0 spare held k 3 (([v0, v1, v2, v3, v4, v5].drop 2).take (Tryz.prog.cellsOf 3)) = some y2 := hf 2 _ rfl
  have g3 : DataW.trod enc Tryz.prog W 0 spare held k 3 (([v0, v1, v2, v3, v4, v5].drop 3).take (Tryz.prog.cellsOf 3)) = some y3 := hf 3 _ rfl
  have g4 : DataW.trod enc Tryz.prog W 0 spare held k 3 (([v0, v1, v2, v3, v4, v5].drop 4).take (Tryz.prog.cellsOf 3)) = some y4 := hf 4 _ rfl
  have g5 : DataW.trod enc Tryz.prog W 0 spare held k 3 (([v0, v1, v2, v3, v4, v5].drop 5).take (Tryz.prog.cellsOf 3)) = some y5 := hf 5 _ rfl
  clear hf h
  rw [cells3] at g0 g1 g2 g3 g4 g5
  obtain ⟨n0, e0, _, w0⟩ := DataW.trod_int Tryz.underlying3 g0
  obtain ⟨n1, e1, _, w1⟩ := DataW.trod_int Tryz.underlying3 g1
  obtain ⟨n2, e2, _, w2⟩ := DataW.trod_int Tryz.underlying3 g2
  obtain ⟨n3, e3, _, w3⟩ := DataW.trod_int Tryz.underlying3 g3
  obtain ⟨n4, e4, _, w4⟩ := DataW.trod_int Tryz.underlying3 g4
  obtain ⟨n5, e5, _, w5⟩ := DataW.trod_int Tryz.underlying3 g5
  refine ⟨⟨n0, n1, n2, n3, n4, n5⟩, ⟨wf_i64 w0, wf_i64 w1, wf_i64 w2, wf_i64 w3, wf_i64 w4, wf_i64 w5⟩, ?_⟩
  obtain rfl : v0 = .int .i64 n0 := (List.cons.inj (show [v0] = [_] from e0)).1
  obtain rfl : v1 = .int .i64 n1 := (List.cons.inj (show [v1] = [_] from e1)).1
  obtain rfl : v2 = .int .i64 n2 := (List.cons.inj (show [v2] = [_] from e2)).1
  obtain rfl : v3 = .int .i64 n3 := (List.cons.inj (show [v3] = [_] from e3)).1
  obtain rfl : v4 = .int .i64 n4 := (List.cons.inj (show [v4] = [_] from e4)).1
  obtain rfl : v5 = .int .i64 n5 := (List.cons.inj (show [v5] = [_] from e5)).1
  rfl
theorem open_raws {fuel : Nat} {A : Option Addr} {len cap : Nat} {x : DataW H × List MemPlace} (h : DataW.trod enc Tryz.prog W 0 spare held fuel 60 [.slice A len cap] = some x) :
    ∃ l : List S108, len = l.length ∧ l.length ≤ cap ∧ Kd.C k108 W A l.length l ∧ ∀ o ∈ l, Fits108 o := by
  rcases open_slice Tryz.underlying60 h with ⟨h0, _⟩ | ⟨a, len', cap', m, n, D, Pl, hcs, _, hl, hm, hmm, _, hx⟩
  · simp only [List.cons.injEq, Value.slice.injEq, and_true] at h0
    obtain ⟨rfl, rfl, rfl⟩ := h0
    exact ⟨[], rfl, by simp, Kd.C_nil _ _, by simp⟩
  · simp only [List.cons.injEq, Value.slice.injEq, and_true] at hcs
    obtain ⟨rfl, rfl, rfl⟩ := hcs
    have hlm : len ≤ m := by rw [hmm]; split <;> omega
    have hmax : cap ≤ 9223372036854775807 := by
      have e : maxLen = 9223372036854775807 := by decide
      omega
    have each : ∀ i, i < len → ∃ o : S108, Fits108 o ∧ ∀ j u, (cells o)[j]? = some u → W.cell? (a.add (i * 6 + j)) = some u := by
      intro i hi
      obtain ⟨cs', h1, h2⟩ := hx i (by omega)
      rw [cells108] at h1
      obtain ⟨_, hlen, hcell⟩ := World.cells?_some h1
      obtain ⟨v0, v1, v2, v3, v4, v5, rfl⟩ := len6 hlen
      obtain ⟨o, ho, he⟩ := open_one h2
      refine ⟨o, ho, fun j u hu => ?_⟩
      have hj : j < 6 := by
        rcases Nat.lt_or_ge j 6 with h' | h'
        · exact h'
        · rw [List.getElem?_eq_none (by simpa [cells] using h')] at hu; simp at hu
      have := hcell j hj
      rw [Deep.add_add] at this
      rw [this, he, hu]
    haveI : Inhabited S108 := ⟨z108⟩
    obtain ⟨q, hq⟩ := choose_lt each
    refine ⟨(List.range len).map q, by simp, by simpa using hl, ⟨rfl, by simp; omega, fun hpos => ⟨a, rfl, fun j p hj => ?_⟩⟩, ?_⟩
    · rw [List.getElem?_map] at hj
      rcases Nat.lt_or_ge j len with h' | h'
      · rw [List.getElem?_range h'] at hj
        obtain rfl := Option.some.inj hj
        exact ⟨_, rfl, k108_mk _ _, fun i u hu => (hq j h').2 i u hu⟩
      · rw [List.getElem?_eq_none (by simpa using h')] at hj; simp at hj
    · intro o ho
      obtain ⟨i, hi, rfl⟩ := List.mem_map.1 ho
      exact (hq i (List.mem_range.1 hi)).1
end
end raw
end Go.Proofs.YtohighedgdlflaaGreatDoor

/- TraceBack holds, for every input. -/
set_option maxRecDepth 100000
namespace Go.Proofs.YtohighedgdlflaaGreatDoor
open Go.ChangeShapes Go.WideShapes Go.ChangeAt Go.RowKit
set_option linter.unusedVariables false
namespace back
open base
theorem hless : (Rows.traceBackRow.laid.all fun x => x.2.handleName?.isNone) = true := by kernel_rfl
theorem contract (H : Type) (enc : TypeId × Value → H) (W : World) (base : Nat) (args : Array Value) (ds gs : List (DataW H)) (before : List MemPlace)
    (hval : ∀ (j : Nat) t v, Tryz.f7.params[j]? = some t → args[j]? = some v → Value.okWide Tryz.prog W .any base t v)
    (hW : DataW.Whole enc Tryz.prog Tryz.f7.params.toList Rows.traceBackSpec.vars false W args.toList ds gs before) (hL : laidMetH Tryz.prog Rows.traceBackRow.laid W) (hS : W.ShapedOpen Tryz.prog) :
    Calls Tryz.prog 7 args W fun e W' => ∃ v, e = .returned v ∧ Rows.traceBackSpec.post enc Tryz.prog Tryz.f7 false true false false W args v W' := by
  have hW' := hW
  obtain ⟨p, q, hA0, hV, rfl, hfz, hnd⟩ := hW
  have hA : DataW.TrodAll enc Tryz.prog W 0 (fun _ => true) true Tryz.f7.params.toList args.toList ds p := hA0
  rw [Tryz.params7] at hA hval
  obtain ⟨v0, vs0, d0, ds0, p0, q0, hargs, rfl, rfl, h0, r0⟩ := trodAll_cons hA
  obtain ⟨v1, vs1, d1, ds1, p1, q1, rfl, rfl, rfl, h1, r1⟩ := trodAll_cons r0
  obtain ⟨v2, vs2, d2, ds2, p2, q2, rfl, rfl, rfl, h2, r2⟩ := trodAll_cons r1
  obtain ⟨rfl, rfl, rfl⟩ := trodAll_nil r2
  obtain rfl : args = #[v0, v1, v2] := by cases args; simp_all
  obtain ⟨rfl, rfl⟩ := trodVars_none hV
  obtain ⟨A, len, cap, rfl⟩ := okWide_slice Tryz.underlying60 (hval 0 60 v0 rfl rfl)
  have k0 := h0
  have lt0 : ∀ x ∈ p0, x.block < W.heap.size := by obtain ⟨m, hm⟩ := k0; exact DataW.trod_lt m _ _ _ hm
  obtain ⟨a1, rfl, rfl, rfl, w1⟩ := open_int Tryz.underlying3 (hval 1 3 v1 rfl rfl) h1
  obtain ⟨a2, rfl, rfl, rfl, w2⟩ := open_int Tryz.underlying3 (hval 2 3 v2 rfl rfl) h2
  obtain ⟨fuel, hf⟩ := h0
  obtain ⟨l, rfl, hlc, hC, hF⟩ := raw.open_raws hf
  obtain ⟨m, hm⟩ := maxLen_cell hS
  rw [MakeChecks.laidMetH_plain _ _ _ hless] at hL
  have hWt : WTab W := wire_of hL
  have hT : PTab W := pow_of hL.tail.tail.tail
  refine (back_ok l hF A cap a1 a2 (raw.wf_i64 w1) (raw.wf_i64 w2) m W hWt hT hm hC hlc).mono fun e W' ⟨he, bel⟩ => ?_
  subst he
  exact ⟨_, rfl, _, _, _, [], _, [], hW', trodAll_mk1 (shut_bool Tryz.underlying4 _), (trodAll_cons_mk (Below.trod laidOut (by kernel_rfl) (of_decide_eq_true (by kernel_rfl)) k0 bel lt0) (trodAll_cons_mk (shut_int Tryz.underlying3 w1) (trodAll_cons_mk (shut_int Tryz.underlying3 w2) trodAll_mk0))), rfl, bel.frame _, fun h => by cases h⟩
theorem laid_met (os : Os) (args : Array Value) : laidMet Tryz.prog Rows.traceBackRow.laid ((W0 os).forCall (fun _ _ => 0) ⟨#[], args, []⟩).memory :=
  laidMet_of_run' 8 (by kernel_rfl) (by kernel_rfl)
theorem reads (os : Os) {H : Type} (enc : TypeId × Value → H) : ∃ places, DataW.whole enc Tryz.prog ((W0 os).forCall (fun _ _ => 0) ⟨#[], #[.slice none 0 0, .int .i64 0, .int .i64 0], []⟩).memory Tryz.f7.params.toList Rows.traceBackSpec.vars false #[Value.slice none 0 0, .int .i64 0, .int .i64 0].toList 8 = some ([.nil, .lit (.int .i64 0), .lit (.int .i64 0)], [], places) :=
  ⟨[], by kernel_rfl⟩
theorem lifted (os : Os) (started : os.Started) (H : Type) (enc : TypeId × Value → H) (F : Stop.Interp) :
    ReturnsInHanded {} Tryz.checked os 7 .any ((OpenSpec.ofChange Rows.traceBackSpec).preRow enc Tryz.prog Tryz.f7 Rows.traceBackRow.domain false Rows.traceBackRow.laid) (((OpenSpec.ofChange Rows.traceBackSpec).at F).post enc Tryz.prog Tryz.f7 false true false false) := by
  obtain ⟨places, hx⟩ := reads os enc
  refine returnsInHanded_of_row (C := Tryz.checked) (s := OpenSpec.ofChange Rows.traceBackSpec) own started (by kernel_rfl) Tryz.func7
    (witness_row_at (enc := enc) (C := Tryz.checked) false (W0 os) #[.slice none 0 0, .int .i64 0, .int .i64 0] rfl (by kernel_rfl) (by kernel_rfl) (by kernel_rfl)
      (OpenSpec.preRow_of_cond 8 hx (by kernel_rfl) (fun k hk => by cases hk) (by kernel_rfl) (laid_met os _))) ?_
  intro W base args ds gs before hval hW _ _ _ hL hS _
  exact contract H enc W base args ds gs before hval hW hL hS
theorem said : Rows.TraceBackSaid :=
  OpenClaim.holds_of_cond 7 Tryz.f7 rfl rfl rfl rfl rfl rfl rfl ⟨rfl, rfl, rfl, rfl, rfl⟩ rfl rfl rfl rfl rfl (by kernel_rfl) Tryz.func7 (by kernel_rfl)
    (of_decide_eq_true (by kernel_rfl)) (by unfold Func.isWrapper; first | (rw [if_pos (by decide +kernel)]; kernel_rfl) | (rw [if_neg (by decide +kernel)]; exact ⟨rfl, rfl⟩))
    (fun os started H enc _ F => by rw [OpenClaim.pre_eq_preRow]; exact lifted os started H enc F)
theorem plain (f : FuncId) (fn : Func) (hf : Tryz.pinned.checked.prog.funcNamed "cloister/cloisterlaw22.TraceBack" = some f) (hfn : Tryz.pinned.checked.prog.funcs[f]? = some fn) :
    true = Tryz.pinned.checked.prog.looks [] ∧ ∀ (j : Nat) t, fn.params[j]? = some t → Tryz.pinned.checked.prog.wantsStandIn t = false := by
  obtain rfl : f = 7 := Option.some.inj ((show Tryz.prog.funcNamed "cloister/cloisterlaw22.TraceBack" = some 7 by kernel_rfl).symm.trans hf) |>.symm
  obtain rfl : fn = Tryz.f7 := (Option.some.inj (Tryz.func7.symm.trans hfn)).symm
  refine ⟨by kernel_rfl, fun j t ht => ?_⟩
  rw [Tryz.params7] at ht
  have hm : t ∈ [60, 3, 3] := by simpa using Array.mem_of_getElem? ht
  have hall : ([60, 3, 3].all fun u => !Tryz.prog.wantsStandIn u) = true := by kernel_rfl
  exact (show Tryz.prog.wantsStandIn t = false by simpa using List.all_eq_true.1 hall t hm)
/-- The card. -/
theorem card : Rows.TraceBackCardSaid :=
  Claim7.holds_tied_plain_at .later [] _ _ _ _ said (fun _ h => by cases h) (by kernel_rfl) (fun _ h => by cases h) traceBack_row_tie rfl ⟨rfl, rfl⟩ (by kernel_rfl) rfl plain (by kernel_rfl)
end back
/-- The law's card holds: TraceBack answers true for every rows. -/
theorem traceBack_card : Rows.TraceBackCardSaid := back.card
end Go.Proofs.YtohighedgdlflaaGreatDoor
