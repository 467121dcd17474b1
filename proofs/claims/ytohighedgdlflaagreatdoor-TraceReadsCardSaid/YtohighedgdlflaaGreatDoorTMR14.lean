/- Texts of a proof that TraceReads holds, for every row of bytes, merged in order. -/
import Derived.Test.YtohighedgdlflaaGreatDoorTMR9
import Derived.Test.YtohighedgdlflaaGreatDoorTMR10
import Derived.Test.YtohighedgdlflaaGreatDoorTMR7
import Derived.Test.YtohighedgdlflaaGreatDoorTPRx3
import Derived.Test.YtohighedgdlflaaGreatDoorTMR2
/- Plain law: what was written as bytes is read; a byte that is another one is told. -/
namespace Go.Proofs.YtohighedgdlflaaGreatDoor
open Go.Proofs.YtohighedgdlflaaGreatDoor.PR
set_option linter.unusedVariables false
set_option linter.unusedSimpArgs false
namespace Crc
end Crc
theorem mod_div (x P Q : Int) (hP : 0 < P) : (x % (P * (256 * Q))) / P % 256 = x / P % 256 := by
  have e : x % (P * (256 * Q)) = x + P * (256 * (-(Q * (x / (P * (256 * Q)))))) := by
    rw [Int.emod_def]
    have : P * (256 * -(Q * (x / (P * (256 * Q))))) = -(P * (256 * Q) * (x / (P * (256 * Q)))) := by
      rw [Int.mul_neg, Int.mul_neg, Int.mul_assoc, Int.mul_assoc]
    rw [this]; omega
  rw [e, Int.add_mul_ediv_left _ _ (by omega), Int.add_mul_emod_self_left]
theorem lev_leb : ∀ (n : Nat) (x : Int), 0 ≤ x → x < 2 ^ (8 * n) → lev (leb n x) = x
  | 0, x, h0, h1 => by simp at h1; have : x = 0 := by omega
                       subst this; rfl
  | n + 1, x, h0, h1 => by
    have hp : (0 : Int) < 2 ^ (8 * n) := Int.pow_pos (by decide)
    have hm0 : 0 ≤ x % 2 ^ (8 * n) := Int.emod_nonneg _ (by omega)
    have hml : x % 2 ^ (8 * n) < 2 ^ (8 * n) := Int.emod_lt_of_pos _ hp
    have key : ∀ (m : Nat), m ≤ n → leb m (x % 2 ^ (8 * n)) = leb m x := by
      intro m hm
      unfold leb
      apply List.map_congr_left
      intro i hi
      have hi' : i < n := by have := List.mem_range.1 hi; omega
      have e1 : (2 : Int) ^ (8 * n) = 2 ^ (8 * i) * (256 * 2 ^ (8 * (n - i - 1))) := by
        rw [show (256 : Int) = 2 ^ 8 by decide, ← Int.pow_add, ← Int.pow_add]
        congr 1; omega
      have hpi : (0 : Int) < 2 ^ (8 * i) := Int.pow_pos (by decide)
      rw [e1]
      exact mod_div x _ _ hpi
    have ih := lev_leb n (x % 2 ^ (8 * n)) hm0 hml
    rw [key n (Nat.le_refl _)] at ih
    rw [leb_succ, lev_snoc, ih, leb_length]
    have hq : x / 2 ^ (8 * n) < 256 := by
      apply Int.ediv_lt_of_lt_mul hp
      rw [show 8 * (n + 1) = 8 + 8 * n by omega, Int.pow_add] at h1
      exact h1
    have hq0 : 0 ≤ x / 2 ^ (8 * n) := Int.ediv_nonneg h0 (by omega)
    rw [Int.emod_eq_of_lt hq0 hq]
    have := Int.emod_add_mul_ediv x (2 ^ (8 * n))
    rw [Int.mul_comm (x / 2 ^ (8 * n))]
    omega
end Go.Proofs.YtohighedgdlflaaGreatDoor

/- Plain law: Decode of what Encode wrote; of one byte less; of another byte. -/
namespace Go.Proofs.YtohighedgdlflaaGreatDoor
open Go.Proofs.YtohighedgdlflaaGreatDoor.PR
set_option linter.unusedVariables false
set_option linter.unusedSimpArgs false
theorem enc_len (l : List S35) : (encBytes l).length = 12 + 22 * l.length := by
  unfold encBytes
  rw [List.length_append, encBody_len, leb_length]; omega
theorem enc_bytes (l : List S35) : Crc.Bytes (encBytes l) := by
  intro z hz
  unfold encBytes at hz
  rcases List.mem_append.1 hz with h | h
  · exact encBody_bytes l z h
  · exact leb_bytes _ _ z h
theorem magic_leb : leb 4 1381256259 = magicL := by decide
theorem enc_take (l : List S35) : (encBytes l).take (8 + 22 * l.length) = encBody l := by
  unfold encBytes
  rw [List.take_append_of_le_length (by rw [encBody_len]; exact Nat.le_refl _), List.take_of_length_le (by rw [encBody_len]; exact Nat.le_refl _)]
theorem enc_drop (l : List S35) : (encBytes l).drop (8 + 22 * l.length) = leb 4 (Crc.crc (encBody l)) := by
  unfold encBytes
  rw [List.drop_append_of_le_length (by rw [encBody_len]; exact Nat.le_refl _), List.drop_of_length_le (by rw [encBody_len]; exact Nat.le_refl _), List.nil_append]
theorem enc_head (l : List S35) : encBytes l = magicL ++ (leb 4 l.length ++ (l.flatMap rowB ++ leb 4 (Crc.crc (encBody l)))) := by
  unfold encBytes encBody
  rw [magic_leb]; simp [List.append_assoc]
theorem magicL_len : magicL.length = 4 := rfl
theorem enc_count (l : List S35) : ((encBytes l).drop 4).take 4 = leb 4 l.length := by
  rw [enc_head, List.drop_append_of_le_length (by rw [magicL_len]; exact Nat.le_refl _), List.drop_of_length_le (by rw [magicL_len]; exact Nat.le_refl _), List.nil_append, List.take_append_of_le_length (by rw [leb_length]; exact Nat.le_refl _), List.take_of_length_le (by rw [leb_length]; exact Nat.le_refl _)]
theorem enc_magic (l : List S35) (i : Nat) (h : i < 4) : badMagic (encBytes l) i = false := by
  unfold badMagic
  rw [enc_head]
  match i, h with
  | 0, _ => rfl
  | 1, _ => rfl
  | 2, _ => rfl
  | 3, _ => rfl
theorem count_n (l : List S35) (hl : l.length ≤ 1000000) : lev (leb 4 l.length) = l.length := lev_leb 4 _ (by omega) (by
  have : (2 : Int) ^ (8 * 4) = 4294967296 := by decide
  omega)
theorem sum_n (l : List S35) : lev (leb 4 (Crc.crc (encBody l))) = Crc.crc (encBody l) := by
  have := crc_b (encBody_bytes l)
  have e : (2 : Int) ^ (8 * 4) = 4294967296 := by decide
  exact lev_leb 4 _ this.1 (by omega)
end Go.Proofs.YtohighedgdlflaaGreatDoor

/- Plain law: Decode of what Encode wrote is what was handed in. -/
namespace Go.Proofs.YtohighedgdlflaaGreatDoor
open Go.Proofs.YtohighedgdlflaaGreatDoor.PR
set_option linter.unusedVariables false
set_option linter.unusedSimpArgs false
theorem pow8 : (2 : Int) ^ (8 * 8) = 18446744073709551616 := by decide
theorem pow4 : (2 : Int) ^ (8 * 4) = 4294967296 := by decide
theorem pow1 : (2 : Int) ^ (8 * 1) = 256 := by decide
theorem cut1 {α : Type} (a b : List α) (n : Nat) (h : a.length = n) : (a ++ b).take n = a := by
  rw [List.take_append_of_le_length (by omega), List.take_of_length_le (by omega)]
theorem cut2 {α : Type} (a b : List α) (n : Nat) (h : a.length = n) : (a ++ b).drop n = b := by
  rw [List.drop_append_of_le_length (by omega), List.drop_of_length_le (by omega), List.nil_append]
theorem rowAt_of {bs rest : List Int} {p : Nat} {o : S35} (h : bs.drop p = rowB o ++ rest) (hm : mayB o = true) (hF : FitsT o) : rowAt bs p = o := by
  obtain ⟨t, cl, q, pc, a, b, rfl, hG⟩ := good_of_may hm hF
  have h1 := hG.t63; have h2 := hG.cl8; have h3 := hG.q7; have h4 := hG.p32; have h5 := hG.a32; have h6 := hG.b32
  have hb : bs.drop p = leb 8 (t : Int) ++ (leb 1 ((cl : Int) % 256) ++ (leb 1 ((q : Int) % 256) ++ (leb 4 (pc : Int) ++ (leb 4 (a : Int) ++ (leb 4 (b : Int) ++ rest))))) := by
    rw [h]; simp [rowB, obN, List.append_assoc]
  have d8 : bs.drop (p + 8) = leb 1 ((cl : Int) % 256) ++ (leb 1 ((q : Int) % 256) ++ (leb 4 (pc : Int) ++ (leb 4 (a : Int) ++ (leb 4 (b : Int) ++ rest)))) := by
    rw [← List.drop_drop, hb, cut2 _ _ 8 (leb_length _ _)]
  have d9 : bs.drop (p + 9) = leb 1 ((q : Int) % 256) ++ (leb 4 (pc : Int) ++ (leb 4 (a : Int) ++ (leb 4 (b : Int) ++ rest))) := by
    rw [show p + 9 = p + 8 + 1 by omega, ← List.drop_drop, d8, cut2 _ _ 1 (leb_length _ _)]
  have d10 : bs.drop (p + 10) = leb 4 (pc : Int) ++ (leb 4 (a : Int) ++ (leb 4 (b : Int) ++ rest)) := by
    rw [show p + 10 = p + 9 + 1 by omega, ← List.drop_drop, d9, cut2 _ _ 1 (leb_length _ _)]
  have d14 : bs.drop (p + 14) = leb 4 (a : Int) ++ (leb 4 (b : Int) ++ rest) := by
    rw [show p + 14 = p + 10 + 4 by omega, ← List.drop_drop, d10, cut2 _ _ 4 (leb_length _ _)]
  have d18 : bs.drop (p + 18) = leb 4 (b : Int) ++ rest := by
    rw [show p + 18 = p + 14 + 4 by omega, ← List.drop_drop, d14, cut2 _ _ 4 (leb_length _ _)]
  unfold rowAt
  have e8 := pow8; have e4 := pow4; have e1 := pow1
  rw [hb, d8, d9, d10, d14, d18, cut1 _ _ 8 (leb_length _ _), cut1 _ _ 1 (leb_length _ _), cut1 _ _ 1 (leb_length _ _), cut1 _ _ 4 (leb_length _ _), cut1 _ _ 4 (leb_length _ _), cut1 _ _ 4 (leb_length _ _)]
  rw [lev_leb 8 t (by omega) (by omega), lev_leb 1 _ (by omega) (by omega), lev_leb 1 _ (by omega) (by omega), lev_leb 4 pc (by omega) (by omega), lev_leb 4 a (by omega) (by omega), lev_leb 4 b (by omega) (by omega)]
  unfold obN
  congr 1 <;> omega
theorem decRows_of (bs rest : List Int) : ∀ (s : List S35) (p : Nat) (acc : List S35), (∀ o ∈ s, mayB o = true) → (∀ o ∈ s, FitsT o) → bs.drop p = s.flatMap rowB ++ rest → decRows bs s.length p acc = (acc ++ s, -1)
  | [], p, acc, _, _, _ => by simp [decRows]
  | o :: s, p, acc, hm, hF, h => by
    have ho : bs.drop p = rowB o ++ (s.flatMap rowB ++ rest) := by rw [h]; simp [List.append_assoc]
    have hr := rowAt_of ho (hm o (by simp)) (hF o (by simp))
    have hd : bs.drop (p + 22) = s.flatMap rowB ++ rest := by rw [← List.drop_drop, ho, cut2 _ _ 22 (rowB_length o)]
    rw [List.length_cons, decRows, hr, if_pos (hm o (by simp)), decRows_of bs rest s (p + 22) (acc ++ [o]) (fun x hx => hm x (by simp [hx])) (fun x hx => hF x (by simp [hx])) hd]
    simp
/-- There and back. -/
theorem decode_enc (l : List S35) (hl : l.length ≤ 1000000) (hm : ∀ o ∈ l, mayB o = true) (hF : ∀ o ∈ l, FitsT o) : decode (encBytes l) = (l, -1) := by
  have hN := enc_len l
  rw [decode_good (fun i hi => enc_magic l i hi)]
  unfold decBody
  rw [hN, if_neg (by omega), enc_count, count_n l hl, if_neg (by omega), if_neg]
  · rw [Int.toNat_natCast]
    have hd : (encBytes l).drop 8 = l.flatMap rowB ++ leb 4 (Crc.crc (encBody l)) := by
      rw [show 8 = 4 + 4 from rfl, ← List.drop_drop, enc_head, cut2 _ _ 4 magicL_len, cut2 _ _ 4 (leb_length _ _)]
    rw [decRows_of (encBytes l) _ l 8 [] hm hF hd]
    rfl
  · rw [show 12 + 22 * l.length - 4 = 8 + 22 * l.length by omega, enc_drop, enc_take, List.take_of_length_le (by rw [leb_length]; exact Nat.le_refl _), sum_n]
    exact fun h => h rfl
end Go.Proofs.YtohighedgdlflaaGreatDoor

/- The document's writer of a number behind a literal whose row is frozen beyond its cells: the first append copies. -/
namespace Go.Proofs.YtohighedgdlflaaGreatDoor
open Go.RowKit Go.Proofs.YtohighedgdlflaaGreatDoorW.PrintWords Go.Proofs.YtohighedgdlflaaGreatDoor.PR
set_option linter.unusedVariables false
set_option linter.unusedSimpArgs false
theorem w64_one : wrap64 1 = 1 := by unfold wrap64; omega
theorem reps_u8 : ∀ xs : List Int, Reps (fun (x : Int) cs => cs = [Value.int .u8 x]) 1 xs (xs.map (Value.int .u8))
  | [] => Reps.none _ _
  | x :: xs => Reps.one rfl (reps_u8 xs)
theorem append_full {ops : Array Oper} {rest : List Oper} {o : Oper} {a : Act} {Q : Exit → Act → World → Prop} {w0 W : World} (base : Nat) (hgd : o.guard = none) (s x : Operand)
    (ho : o.op = .call { callee := .builtin .append, args := #[s, x], argTypes := #[37, 37] })
    (b : Addr) (xs : List Int) (p : Int) (hs : a.eval s = .slice (some b) xs.length xs.length) (hx : a.eval x = .slice (some ⟨W.heap.size, 0, none⟩) 1 1)
    (holds : ∀ j v, (xs.map (Value.int .u8))[j]? = some v → W.cell? (b.add j) = some v) (HB : Below base w0 W) (hbase : base ≤ W.heap.size) (hl : xs.length + 1 ≤ 140737488355328)
    (h : ∀ v1 w1, Kd.R (Kd.int .u8) 5 w1 base (fun k => W.heap.size ≤ k) v1 (xs ++ [p]) → Below base w0 w1 → W.heap.size ≤ w1.heap.size → wpList Tryz.prog ops Q rest (a.put o.dst v1) w1) :
    wpList Tryz.prog ops Q (o :: rest) a (W.alloc (.cells #[.int .u8 p] 5)) := by
  refine wpList_plain hgd fun K hK => ?_
  obtain ⟨i, hi, hz⟩ := Option.map_eq_some_iff.1 info5
  simp only [Prod.mk.injEq] at hz
  obtain ⟨hz0, hz1, hz2⟩ := hz
  have hlen : (xs.map (Value.int .u8)).length = xs.length * i.size := by rw [hz1, List.length_map]; omega
  have hold2 : ∀ j v, (xs.map (Value.int .u8))[j]? = some v → (W.alloc (.cells #[.int .u8 p] 5)).cell? (b.add j) = some v := fun j v hj => by
    have h1 := holds j v hj
    exact (World.cell?_of_block (heap_alloc_old W _ (World.block_lt_of_cell? W _ h1))).trans h1
  have hr := run_append_grow (P := Tryz.prog) (W.alloc (.cells #[.int .u8 p] 5)) 37 o.type 5 i _ Tryz.underlying37 hi hz0 b xs.length xs.length (xs.map (Value.int .u8)) hlen hold2 ⟨W.heap.size, 0, none⟩ 1 1 [.int .u8 p] (by rw [hz1]; rfl) (cell_one_new _ _ _) (by omega) (by omega) (growslice_fits (by omega) (by rw [hz2]; omega))
  unfold Oper.wp execOp
  simp only [ho, resolve, invoke, builtin, Sem.run_bind, Sem.run_pure, Result.andThen_ok, List.map_toArray, List.map_cons, List.map_nil, hs, hx, hr]
  have hge := grownCap_ge (W.alloc (.cells #[.int .u8 p] 5)) (xs.length + 1) xs.length 5
  have hcm := grownCap_le_maxLen (W.alloc (.cells #[.int .u8 p] 5)) (xs.length + 1) xs.length 5 (by simp only [maxLen]; omega)
  refine hK _ _ (h _ _ ?_ ?_ (by simp; omega))
  · have e1 : ((W.alloc (.cells #[.int .u8 p] 5)).drew.alloc (.cells ((xs.map (Value.int .u8)).toArray ++ [Value.int .u8 p].toArray ++ Builtin.zeroCells (Value.cells (.int .u8 0)) (grownCap (W.alloc (.cells #[.int .u8 p] 5)) (xs.length + 1) xs.length 5 - (xs.length + 1))) 5)).ownsRow base 5 1 (.slice (some ⟨(W.alloc (.cells #[.int .u8 p] 5)).heap.size, 0, none⟩) (xs.length + 1) (grownCap (W.alloc (.cells #[.int .u8 p] 5)) (xs.length + 1) xs.length 5)) (xs.length + 1) (xs.map (Value.int .u8) ++ [.int .u8 p]) := by
      refine ⟨by simp, .inr ⟨_, _, _, rfl, by simp; omega, heap_alloc_new _ _, hge, hcm, ?_, ?_⟩⟩
      · simp only [Array.size_append, List.size_toArray, size_zeroCells, List.length_map, List.length_singleton]
        simp only [Value.cells, List.size_toArray, List.length_singleton]
        simp
        omega
      · simp only [Array.toList_append, List.append_assoc]
        rw [← List.append_assoc]
        exact List.take_left' (by simp)
    refine ⟨fun k hk => ?_, xs.map (Value.int .u8) ++ [.int .u8 p], ?_, ?_⟩
    · simp [Value.ownBlock] at hk
      omega
    · rw [List.length_append]
      exact e1
    · have := reps_u8 (xs ++ [p])
      rw [List.map_append] at this
      exact this
  · exact ((HB.alloc hbase _).drew).alloc (by simp; omega) _
set_option maxHeartbeats 8000000 in
set_option maxRecDepth 100000 in
theorem putF_ok (k : Nat) (b : Addr) (l0 : List Int) (a1 : Int) (a2 : Int) (r : List Int) (w0 w : World) (hB : Below w0.heap.size w0 w) (h2 : 0 < a2) (holds : ∀ j v, (l0.map (Value.int .u8))[j]? = some v → w.cell? (b.add j) = some v) (h : cloisterref22_put.f k l0 a1 a2 = some r) :
    Calls Tryz.prog 51 #[.slice (some b) l0.length l0.length, .int .u64 a1, .int .i64 a2] w fun e w' => ∃ v0_ : Value, e = .returned (v0_) ∧ Kd.R (Kd.int .u8) 5 w' w0.heap.size (fun k_ => w.heap.size ≤ k_) v0_ r ∧ Below w0.heap.size w0 w' := by
  have HC0 := Aside0.mk holds
  have HB := Aside0.mk hB
  have HW0 := Aside0.mk hB.size
  have H2 := Aside0.mk h2
  clear hB holds h2
  have H : (cloisterref22_put.l0 k l0 a1 a2 0) = some r := h
  clear h
  have H' := Aside0.mk H
  clear H
  go_enter Tryz.func51, Tryz.ntmps51
  go_wp2
  go_loopg [0, 1, 7] k (fun kq v0 v1 v7 w' => ∃ (x0_1 : List Int) (x1_1 : Int) (x7_1 : Int), v1 = .int .u64 x1_1 ∧ v7 = .int .i64 x7_1 ∧ Aside0 (cloisterref22_put.l0 kq x0_1 x1_1 a2 x7_1 = some r) ∧ Aside0 (kq ≤ k) ∧ Aside0 ((x7_1 = 0 ∧ w' = w ∧ x0_1 = l0 ∧ v0 = .slice (some b) l0.length l0.length) ∨ Kd.R (Kd.int .u8) 5 w' w0.heap.size (fun k_ => w.heap.size ≤ k_) v0 x0_1) ∧ Aside0 (w.heap.size ≤ w'.heap.size) ∧ Aside0 (Below w0.heap.size w0 w'))
  case atStart => exact ⟨(l0), (a1), (0), (by first | rfl | (simp; done) | (simp [*]; done)), (by first | rfl | (simp; done) | (simp [*]; done)), H', ⟨Nat.le_refl _⟩, ⟨.inl ⟨rfl, rfl, rfl, rfl⟩⟩, ⟨Nat.le_refl _⟩, HB⟩
  case round =>
    clear H'
    try clear p2
    obtain ⟨x0_1, x1_1, x7_1, rfl, rfl, HA, HK1, HO_0, HS, HB⟩ := hrel
    cases gk with
    | zero => exact absurd HA.out (by simp [cloisterref22_put.l0])
    | succ k1 =>
      have H := HA.out
      clear HA
      simp only [cloisterref22_put.l0] at H
      by_cases c4 : x7_1 < a2
      · rw [if_pos c4] at H
        have c4b0 : decide (x7_1 < a2) = true := decide_eq_true c4
        clear c4
        by_cases c5 : x0_1.length < 140737488355328
        · rw [if_pos c5] at H
          have LMc5 := Aside0.mk c5
          clear c5
          obtain ⟨y120, hy120⟩ : ∃ y_ : List Int, y_ = (x0_1 ++ [(Int.tmod x1_1 256) % 256]) := ⟨_, rfl⟩
          replace H : (cloisterref22_put.l0 k1 y120 (IntKind.u64.wrap (Int.tdiv x1_1 256)) a2 (wrap64 (x7_1 + 1))) = some r := by rw [hy120]; with_reducible exact H
          have Ny120 := Aside0.mk hy120
          clear hy120
          have H' := Aside0.mk H
          clear H
          rcases HO_0.out with ⟨rfl, rfl, rfl, rfl⟩ | HR
          · clear HO_0
            go_wp2_with (first | ((with_reducible refine gate_builtin (b := .append) (xs := #[.tmp 13, .tmp 17]) rfl ?_); at_builtin; refine append_full (w0 := w0) w0.heap.size rfl (.tmp 13) (.tmp 17) rfl b x0_1 ((Int.tmod x1_1 256) % 256) rfl rfl HC0.out HB.out HW0.out (by have := LMc5.out; omega) ?_; intro v121 w6 ho hb hs6; rw [← Ny120.out] at ho; have n0_ := Aside0.mk (hb); have n2_ := Aside0.mk (ho); have n3_ := Aside0.mk hs6; clear HB; clear HS; have HB := n0_; have HS := n3_; have HO122 := n2_; clear n0_ n2_ n3_; clear ho hb hs6))
            go_roundg k1
            case measure => have := HK1.out; omega
            case rel => exact ⟨(y120), (IntKind.u64.wrap (Int.tdiv x1_1 256)), (wrap64 (0 + 1)), (by first | rfl | (simp; done) | (simp [*]; done)), (by first | rfl | (simp; done) | (simp; exact (w64_one).symm)), H', ⟨by have := HK1.out; omega⟩, ⟨.inr HO122.out⟩, HS, HB⟩
          · clear HO_0
            have HO_0 := Aside0.mk HR
            clear HR
            go_wp2_with (first | ((with_reducible refine gate_builtin (b := .append) (xs := #[.tmp 13, .tmp 17]) rfl ?_); at_builtin; refine Kd.R_append (Kd.int .u8) (w0 := w0) w0.heap.size rfl (.tmp 13) (.tmp 17) 37 5 (.int .u8 0) 1 rfl Tryz.underlying37 info5 rfl (by decide) (by omega) u0 x0_1 ((Int.tmod x1_1 256) % 256) [.int .u8 ((Int.tmod x1_1 256) % 256)] (fun k_ => (w.heap.size ≤ k_)) (fun _ => False) rfl rfl ?aP (fun _ hk => hk.elim) ?aF ?aO ?aB ?aS ?aL ?_; (case aP => exact rfl); (case aB => exact HB.out); (case aF => exact (fun k_ hk => Nat.le_trans HS.out hk)); (case aO => exact HO_0.out); (case aS => exact (below_size HB.out)); (case aL => have := LMc5.out; omega); intro v121 w6 ho hb hg hat; rw [← Ny120.out] at ho; have n0_ := Aside0.mk (hb); have n2_ := Aside0.mk (ho); have n3_ := Aside0.mk (Nat.le_trans HS.out hg.size); clear HB; clear HS; clear HO_0; have HB := n0_; have HS := n3_; have HO122 := n2_; clear n0_ n2_ n3_; clear ho hb hg hat))
            go_roundg k1
            case measure => have := HK1.out; omega
            case rel => exact ⟨(y120), (IntKind.u64.wrap (Int.tdiv x1_1 256)), (wrap64 (x7_1 + 1)), (by first | rfl | (simp; done) | (simp [*]; done)), (by first | rfl | (simp; done) | (simp [*]; done)), H', ⟨by have := HK1.out; omega⟩, ⟨.inr HO122.out⟩, HS, HB⟩
        · rw [if_neg c5] at H
          exact absurd H (by simp)
      · rw [if_neg c4] at H
        have c4b0 : decide (x7_1 < a2) = false := decide_eq_false c4
        obtain rfl := Option.some.inj H
        have HR : Aside0 (Kd.R (Kd.int .u8) 5 wr w0.heap.size (fun k_ => w.heap.size ≤ k_) u0 x0_1) := by
          rcases HO_0.out with ⟨rfl, _⟩ | HR
          · exact absurd H2.out c4
          · exact ⟨HR⟩
        clear c4 HO_0
        go_wp2
        go_ret
        exact ⟨_, by first | rfl | (simp [errW_none, errW_some] <;> rfl) | (simp [*, errW_none, errW_some] <;> rfl), HR.out, HB.out⟩
end Go.Proofs.YtohighedgdlflaaGreatDoor
