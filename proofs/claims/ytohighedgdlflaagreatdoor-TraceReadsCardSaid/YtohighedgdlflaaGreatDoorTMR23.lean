/- Texts of a proof that TraceReads holds, for every row of bytes, merged in order. -/
import Derived.Test.YtohighedgdlflaaGreatDoorTMR11
import Derived.Test.YtohighedgdlflaaGreatDoorTMR13
import Derived.Test.YtohighedgdlflaaGreatDoorTMR14
import Derived.Test.YtohighedgdlflaaGreatDoorTMR19
import Derived.Test.YtohighedgdlflaaGreatDoorTMR22
/- What the walk of TraceReads needs: rows of bytes of the call's own, both Decodes as the law calls them. -/
namespace Go.Proofs.YtohighedgdlflaaGreatDoor
open Go.RowKit Go.Proofs.YtohighedgdlflaaGreatDoorW.PrintWords Go.Proofs.YtohighedgdlflaaGreatDoor.PR
set_option linter.unusedVariables false
set_option linter.unusedSimpArgs false
/-- A row of bytes in a block of its own. -/
def BRow (W : World) (g : Nat) (xs : List Int) : Prop := ∃ cur : Array Value, W.heap[g]? = some (.cells cur 5 (0, 0)) ∧ ∀ (i : Nat) x, xs[i]? = some x → cur[i]? = some (.int .u8 x)
theorem BRow.lt {W : World} {g : Nat} {xs : List Int} (h : BRow W g xs) : g < W.heap.size := by
  obtain ⟨cur, h1, _⟩ := h
  exact heap_lt' h1
theorem BRow.below {W W' : World} {g : Nat} {xs : List Int} (h : BRow W g xs) (hb : Below W.heap.size W W') : BRow W' g xs := by
  obtain ⟨cur, h1, h2⟩ := h
  exact ⟨cur, (hb.block _ (heap_lt' h1)).trans h1, h2⟩
theorem BRow.cell {W : World} {g : Nat} {xs : List Int} (h : BRow W g xs) {i : Nat} {x : Int} (hx : xs[i]? = some x) : W.cell? ⟨g, i, none⟩ = some (.int .u8 x) ∧ W.frozen? ⟨g, i, none⟩ = false := by
  obtain ⟨cur, h1, h2⟩ := h
  refine ⟨by rw [cell_in h1]; exact h2 i x hx, ?_⟩
  simp only [World.frozen?, h1]
  simp
theorem BRow.C {W : World} {g : Nat} {xs : List Int} (h : BRow W g xs) {n : Nat} (hn : n ≤ xs.length) (hm : n ≤ 9223372036854775807) : Kd.C (Kd.int .u8) W (some ⟨g, 0, none⟩) n (xs.take n) := by
  refine Kd.C_of_reads (d := (0 : Int)) ⟨by rw [List.length_take]; omega, hm, fun _ => ⟨_, rfl, fun j hj => ?_⟩⟩
  have hx : xs[j]? = some ((xs.take n).getD j 0) := by
    rw [List.getD_eq_getElem?_getD, List.getElem?_take_of_lt hj, List.getElem?_eq_getElem (show j < xs.length by omega)]; rfl
  have := (h.cell hx).1
  rwa [show ((⟨g, 0, none⟩ : Addr).add j) = ⟨g, j, none⟩ from by rw [Lib.add_plain, Nat.zero_add]]
theorem BRow.set {W : World} {g : Nat} {xs : List Int} (h : BRow W g xs) {i : Nat} (hi : i < xs.length) (y : Int) : BRow (W.setCell ⟨g, i, none⟩ (.int .u8 y)) g (xs.set i y) := by
  obtain ⟨cur, h1, h2⟩ := h
  refine ⟨cur.setIfInBounds i (.int .u8 y), heap_setCell_same _ _ _ _ _ _ h1, fun j x hx => ?_⟩
  have hsz : i < cur.size := by
    have h4 := h2 i _ (List.getElem?_eq_getElem hi)
    rcases Nat.lt_or_ge i cur.size with h' | h'
    · exact h'
    · rw [Array.getElem?_eq_none h'] at h4; simp at h4
  rw [List.getElem?_set] at hx
  by_cases hij : i = j
  · subst hij
    rw [if_pos rfl, if_pos hi] at hx
    obtain rfl := Option.some.inj hx
    simp [hsz]
  · rw [if_neg hij] at hx
    rw [Array.getElem?_setIfInBounds_ne (by omega)]
    exact h2 j x hx
theorem brow_of_own {W : World} {B n : Nat} {v : Value} {xs : List Int} (h : W.ownsRow B 5 1 v n (nums .u8 xs)) (hp : 0 < n) : ∃ g c, v = .slice (some ⟨g, 0, none⟩) n c ∧ B ≤ g ∧ n ≤ c ∧ BRow W g xs := by
  rcases h.2 with ⟨_, h0⟩ | ⟨g, c, cur, rfl, hb, hg, hnc, _, hsz, htk⟩
  · omega
  · refine ⟨g, c, rfl, hb, hnc, cur, hg, fun i x hx => ?_⟩
    have hl := h.1
    have hi : i < xs.length := by
      rcases Nat.lt_or_ge i xs.length with h' | h'
      · exact h'
      · rw [List.getElem?_eq_none h'] at hx; simp at hx
    rw [nums_length] at hl
    have h1 : (cur.toList.take (n * 1))[i]? = some (.int .u8 x) := by
      rw [htk]; unfold nums; rw [List.getElem?_map, hx]; rfl
    rw [List.getElem?_take_of_lt (by omega)] at h1
    rwa [Array.getElem?_toList] at h1
theorem C_of_own {W : World} {B : Nat} {v : Value} {xs : List Int} (h : W.ownsRow B 5 1 v xs.length (nums .u8 xs)) (hm : xs.length ≤ 9223372036854775807) : ∃ A c, v = .slice A xs.length c ∧ xs.length ≤ c ∧ Kd.C (Kd.int .u8) W A xs.length xs := by
  by_cases h0 : 0 < xs.length
  · obtain ⟨g, c, rfl, _, hc, hB⟩ := brow_of_own h h0
    have := hB.C (n := xs.length) (Nat.le_refl _) hm
    rw [List.take_length] at this
    exact ⟨_, c, rfl, hc, this⟩
  · have hx : xs = [] := List.eq_nil_of_length_eq_zero (by omega)
    subst hx
    rcases h.2 with ⟨rfl, _⟩ | ⟨g, c, cur, rfl, hb, hg, hnc, _, hsz, htk⟩
    · exact ⟨none, 0, rfl, Nat.le_refl _, ⟨rfl, Nat.zero_le _, fun h => absurd h (by simp)⟩⟩
    · exact ⟨_, c, rfl, hnc, ⟨rfl, Nat.zero_le _, fun h => absurd h (by simp)⟩⟩
theorem own_empty (W : World) : (W.alloc (.cells #[] 5)).ownsRow W.heap.size 5 1 (.slice (some ⟨W.heap.size, 0, none⟩) 0 0) 0 [] :=
  ⟨rfl, .inr ⟨W.heap.size, 0, #[], rfl, Nat.le_refl _, heap_alloc_new _ _, Nat.le_refl _, Nat.zero_le _, rfl, rfl⟩⟩
def t8 : List Int := [49, 50, 51, 52, 53, 54, 55, 56]
theorem strOf_app (xs : List Int) : strOf xs ++ ⟨#[49, 50, 51, 52, 53, 54, 55, 56]⟩ = strOf (xs ++ t8) := by
  unfold strOf
  apply ByteArray.ext
  rw [ByteArray.data_append]
  simp [t8]
theorem strOf_size (xs : List Int) : (strOf xs).size = xs.length := by
  simp [strOf, ByteArray.size]
theorem t8_bytes : Crc.Bytes t8 := by
  intro x hx
  simp only [t8, List.mem_cons, List.not_mem_nil, or_false] at hx
  rcases hx with rfl | rfl | rfl | rfl | rfl | rfl | rfl | rfl <;> decide
theorem bytes_app {xs ys : List Int} (h1 : Crc.Bytes xs) (h2 : Crc.Bytes ys) : Crc.Bytes (xs ++ ys) := fun x hx => by
  rcases List.mem_append.1 hx with h | h
  · exact h1 x h
  · exact h2 x h
theorem xor1 (b : Int) (h0 : 0 ≤ b) (h1 : b < 256) : ∃ y : Int, bits .xor .u8 b 1 = y ∧ 0 ≤ y ∧ y < 256 := by
  refine ⟨_, rfl, ?_⟩
  simp only [bits, IntKind.wrap, IntKind.bits, IntKind.signed, Bool.false_eq_true, if_false]
  exact ⟨Int.emod_nonneg _ (by decide), Int.emod_lt_of_pos _ (by decide)⟩
theorem bytes_set' {l : List Int} {k : Nat} {y : Int} (h : Crc.Bytes l) (hy : 0 ≤ y ∧ y < 256) : Crc.Bytes (l.set k y) := fun x hx => by
  rcases List.mem_or_eq_of_mem_set hx with h1 | rfl
  · exact h x h1
  · exact hy
theorem decode_len (bs : List Int) (h : bs.length ≤ 10000) : (decode bs).1.length ≤ 1000 := by
  have rows : ∀ (m p : Nat) (acc : List S35), (decRows bs m p acc).1.length ≤ acc.length + m := by
    intro m
    induction m with
    | zero => intro p acc; simp [decRows]
    | succ m ih =>
      intro p acc
      rw [decRows]
      split
      · have := ih (p + 22) (acc ++ [rowAt bs p])
        rw [List.length_append, List.length_singleton] at this
        omega
      · simp
  have body : (decBody bs).1.length ≤ 1000 := by
    unfold decBody
    split
    · simp
    · split
      · simp
      · rename_i hne
        split
        · simp
        · have h2 := rows (lev ((bs.drop 4).take 4)).toNat 8 []
          have : ¬ ((bs.length : Int) ≠ 12 + 22 * lev ((bs.drop 4).take 4)) := fun hh => hne (.inl hh)
          rw [List.length_nil] at h2
          omega
  unfold decode
  split
  · simp
  · split
    · simp
    · split
      · simp
      · split
        · simp
        · exact body
/-- trace.Decode as the law calls it. -/
theorem dec_call (B : Nat) (bs : List Int) (N : Nat) (hn : bs.length = N) (D1 : List S35) (D2 : Int) (hD : decode bs = (D1, D2)) (A : Option Addr) (c : Nat) (w : World) (hB : B ≤ w.heap.size) (hT : WTab w) (hR : Kd.C (Kd.int .u8) w A N bs) (hc : N ≤ c) (hl : N ≤ 10000) (hb : Crc.Bytes bs) :
    Calls Tryz.prog 16 #[.slice A N c] w fun e w' => ∃ A5 c5, e = .returned (.tuple #[.slice A5 D1.length c5, .int .i64 (if D2 < 0 then 0 else 221), .int .i64 (if D2 < 0 then 0 else D2)]) ∧ D1.length ≤ c5 ∧ Kd.R k35 35 w' B (fun k => w.heap.size ≤ k ∧ k < w'.heap.size) (.slice A5 D1.length c5) D1 ∧ Below w.heap.size w w' := by
  subst hn
  refine (decode_ok bs A c w hT hR hc (by omega) hb).mono ?_
  rintro e w' ⟨v, rfl, hr, hb⟩
  rw [hD] at hr ⊢
  obtain ⟨A5, c5, rfl, hc5, hC⟩ := Kd.R_reads hr
  exact ⟨A5, c5, rfl, hc5, Kd.R_lower (Kd.R_mono (Kd.R_bound hr) (fun k hk => ⟨hk.2.1, hk.2.2.1⟩)) hB, hb⟩
/-- cloisterref22.Decode as the law calls it. -/
theorem refDec_call (B : Nat) (bs : List Int) (N : Nat) (hn : bs.length = N) (D1 : List S35) (D2 : Int) (hD : decode bs = (D1, D2)) (A : Option Addr) (c : Nat) (w : World) (hB : B ≤ w.heap.size) (hR : Kd.C (Kd.int .u8) w A N bs) (hc : N ≤ c) (hl : N ≤ 10000) (hb : Crc.Bytes bs) :
    Calls Tryz.prog 17 #[.slice A N c] w fun e w' => ∃ A5 c5, e = .returned (.tuple #[.slice A5 D1.length c5, .int .i64 D2]) ∧ D1.length ≤ c5 ∧ Kd.R k35 35 w' B (fun k => w.heap.size ≤ k ∧ k < w'.heap.size) (.slice A5 D1.length c5) D1 ∧ Below w.heap.size w w' := by
  refine (refDecode_n bs N hn A c w hR hc (by omega) hb).mono ?_
  rintro e w' ⟨v, rfl, hr, hb⟩
  rw [hD] at hr ⊢
  obtain ⟨A5, c5, rfl, hc5, hC⟩ := Kd.R_reads hr
  exact ⟨A5, c5, rfl, hc5, Kd.R_lower (Kd.R_mono (Kd.R_bound hr) (fun k hk => ⟨hk.2.1, hk.2.2.1⟩)) hB, hb⟩
def btw : List S35 := [⟨9, 3, 7, 0, 5, 0⟩, ⟨10, 3, 6, 0, 0, 0⟩]
/-- Two observations in a row of their own. -/
theorem two_C (w : World) : Kd.C k35 (w.alloc (.cells #[.int .u64 9, .int .i64 3, .int .i64 7, .int .u32 0, .int .u32 5, .int .u32 0, .int .u64 10, .int .i64 3, .int .i64 6, .int .u32 0, .int .u32 0, .int .u32 0] 35)) (some ⟨w.heap.size, 0, none⟩) btw.length btw := by
  refine ⟨rfl, by decide, fun _ => ⟨_, rfl, fun j p hj => ?_⟩⟩
  have hb := blk_new w (.cells #[.int .u64 9, .int .i64 3, .int .i64 7, .int .u32 0, .int .u32 5, .int .u32 0, .int .u64 10, .int .i64 3, .int .i64 6, .int .u32 0, .int .u32 0, .int .u32 0] 35)
  match j with
  | 0 =>
    obtain rfl : _ = p := Option.some.inj hj
    refine ⟨_, rfl, k35_mk _ _, fun i u hu => ?_⟩
    rw [Nat.zero_mul, Nat.zero_add, addr_add, Nat.zero_add, cell_in hb]
    match i with
    | 0 => exact hu
    | 1 => exact hu
    | 2 => exact hu
    | 3 => exact hu
    | 4 => exact hu
    | 5 => exact hu
    | i + 6 => simp at hu
  | 1 =>
    obtain rfl : _ = p := Option.some.inj hj
    refine ⟨_, rfl, k35_mk _ _, fun i u hu => ?_⟩
    rw [addr_add, Nat.zero_add, cell_in hb]
    match i with
    | 0 => exact hu
    | 1 => exact hu
    | 2 => exact hu
    | 3 => exact hu
    | 4 => exact hu
    | 5 => exact hu
    | i + 6 => simp at hu
  | j + 2 => simp [btw] at hj
theorem btw_may : ∀ o ∈ btw, mayB o = true := by decide
theorem btw_fits : ∀ o ∈ btw, FitsT o := by
  intro o ho
  simp only [btw, List.mem_cons, List.not_mem_nil, or_false] at ho
  rcases ho with rfl | rfl <;> exact ⟨⟨by decide, by decide, by decide, by decide, by decide, by decide⟩, by decide, by decide⟩
theorem btw_ref (w : World) :
    Calls Tryz.prog 19 #[.slice (some ⟨w.heap.size, 0, none⟩) 2 2] (w.alloc (.cells #[.int .u64 9, .int .i64 3, .int .i64 7, .int .u32 0, .int .u32 5, .int .u32 0, .int .u64 10, .int .i64 3, .int .i64 6, .int .u32 0, .int .u32 0, .int .u32 0] 35)) fun e w' => ∃ A5 c5, e = .returned (.tuple #[.slice A5 56 c5, .bool true]) ∧ 56 ≤ c5 ∧ Kd.C (Kd.int .u8) w' A5 56 (encBytes btw) ∧ Below w.heap.size w w' := by
  have hba : Below w.heap.size w (w.alloc (.cells #[.int .u64 9, .int .i64 3, .int .i64 7, .int .u32 0, .int .u32 5, .int .u32 0, .int .u64 10, .int .i64 3, .int .i64 6, .int .u32 0, .int .u32 0, .int .u32 0] 35)) := below_alloc (Below.refl _ _) _
  have hall : btw.all mayB = true := List.all_eq_true.2 btw_may
  have e1 : encX btw = encBytes btw := by unfold encX; rw [if_pos hall]
  have e2 : (encBytes btw).length = 56 := enc_len btw
  have h := refEnc_call btw (some ⟨w.heap.size, 0, none⟩) 2 _ (two_C w) (by decide) btw_fits (by decide)
  refine Calls.mono h ?_
  rintro e w' ⟨A5, c5, rfl, hc5, hr, hb⟩
  rw [e1, e2] at hc5 hr ⊢
  rw [hall]
  exact ⟨A5, c5, rfl, hc5, hr, hba.trans (hb.mono hba.size)⟩
theorem btw_dec : decode (encBytes btw) = (btw, -1) := decode_enc btw (by decide) btw_may btw_fits
theorem say_dec {t cl a : Int} (h0 : 0 ≤ t) (h1 : t ≤ 9223372036854775807) (c1 : 1 ≤ cl) (c8 : cl ≤ 8) (a0 : 0 ≤ a) (a1 : a < 4294967296) : decode (encBytes [sayO t cl a]) = ([sayO t cl a], -1) :=
  decode_enc _ (by rw [List.length_singleton]; decide) (fun o ho => by rw [List.mem_singleton] at ho; subst ho; exact sayO_may h1 c1 c8) (fun o ho => by rw [List.mem_singleton] at ho; subst ho; exact sayO_fits h0 h1 a0 a1)
theorem whole_of {W : World} {B N : Nat} {v : Value} {bs ys : List Int} (hn : bs.length = N) (hy : ys = bs ++ t8) (h : W.ownsRow B 5 1 v ys.length (nums .u8 ys)) : ∃ g c, v = .slice (some ⟨g, 0, none⟩) (N + 8) c ∧ B ≤ g ∧ N + 8 ≤ c ∧ BRow W g (bs ++ t8) := by
  subst hy
  have e : (bs ++ t8).length = N + 8 := by rw [List.length_append, hn]; rfl
  obtain ⟨g, c, h1, h2, h3, h4⟩ := brow_of_own h (by omega)
  rw [e] at h1 h3
  exact ⟨g, c, h1, h2, h3, h4⟩
theorem copy_of {W : World} {B N : Nat} {v : Value} {bs ys : List Int} (hn : bs.length = N) (hN : N ≤ 10000) (hy : ys = bs) (h : W.ownsRow B 5 1 v ys.length (nums .u8 ys)) : ∃ A c, v = .slice A N c ∧ N ≤ c ∧ Kd.C (Kd.int .u8) W A N bs := by
  subst hy hn
  exact C_of_own h (by omega)
theorem whole_C {W : World} {g N : Nat} {bs : List Int} (h : BRow W g (bs ++ t8)) (hn : bs.length = N) (hN : N ≤ 10000) : Kd.C (Kd.int .u8) W (some ⟨g, 0, none⟩) N bs := by
  have := h.C (n := N) (by rw [List.length_append]; omega) (by omega)
  subst hn
  rwa [List.take_left] at this
theorem whole_str {W : World} {g N cw : Nat} {bs : List Int} (h : BRow W g (bs ++ t8)) (hn : bs.length = N) (hN : N ≤ 10000) (hb : Crc.Bytes bs) : (convert 37 9 (.slice (some ⟨g, 0, none⟩) (N + 8) cw)).run Tryz.prog W = .ok (.string (strOf (bs ++ t8))) W := by
  have e : (bs ++ t8).length = N + 8 := by rw [List.length_append, hn]; rfl
  have h1 := h.C (n := (bs ++ t8).length) (Nat.le_refl _) (by omega)
  rw [List.take_length] at h1
  have h2 := str_conv (c := cw) h1 (bytes_app hb t8_bytes)
  rwa [e] at h2
theorem str_n {W : World} {A : Option Addr} {N c : Nat} {bs : List Int} (h : Kd.C (Kd.int .u8) W A N bs) (hn : bs.length = N) (hb : Crc.Bytes bs) : (convert 37 9 (.slice A N c)).run Tryz.prog W = .ok (.string (strOf bs)) W := by
  subst hn
  exact str_conv h hb
theorem btw_call (B : Nat) (A : Option Addr) (c : Nat) (w : World) (hB : B ≤ w.heap.size) (hT : WTab w) (hR : Kd.C (Kd.int .u8) w A 56 (encBytes btw)) (hc : 56 ≤ c) :
    Calls Tryz.prog 16 #[.slice A 56 c] w fun e w' => ∃ A5 c5, e = .returned (.tuple #[.slice A5 2 c5, .int .i64 0, .int .i64 0]) ∧ 2 ≤ c5 ∧ Kd.R k35 35 w' B (fun k => w.heap.size ≤ k ∧ k < w'.heap.size) (.slice A5 2 c5) btw ∧ Below w.heap.size w w' := by
  refine Calls.mono (dec_call B (encBytes btw) 56 (enc_len btw) btw (-1) btw_dec A c w hB hT hR hc (by decide) (enc_bytes btw)) ?_
  rintro e w' ⟨A5, c5, rfl, h1, h2, h3⟩
  exact ⟨A5, c5, rfl, h1, h2, h3⟩
theorem say_call (B : Nat) (t : Nat) (ht : t < 1000) (A : Option Addr) (c : Nat) (w : World) (hB : B ≤ w.heap.size) (hT : WTab w) (hR : Kd.C (Kd.int .u8) w A 34 (encBytes [sayO (t : Int) 3 5])) (hc : 34 ≤ c) :
    Calls Tryz.prog 16 #[.slice A 34 c] w fun e w' => ∃ A5 c5, e = .returned (.tuple #[.slice A5 1 c5, .int .i64 0, .int .i64 0]) ∧ 1 ≤ c5 ∧ Kd.R k35 35 w' B (fun k => w.heap.size ≤ k ∧ k < w'.heap.size) (.slice A5 1 c5) [sayO (t : Int) 3 5] ∧ Below w.heap.size w w' := by
  have hl := (sayO_enc (t := (t : Int)) (cl := 3) (a := 5) (by omega) (by decide) (by decide)).2.1
  refine Calls.mono (dec_call B (encBytes [sayO (t : Int) 3 5]) 34 hl [sayO (t : Int) 3 5] (-1) (say_dec (by omega) (by omega) (by decide) (by decide) (by decide) (by decide)) A c w hB hT hR hc (by decide) (enc_bytes _)) ?_
  rintro e w' ⟨A5, c5, rfl, h1, h2, h3⟩
  exact ⟨A5, c5, rfl, h1, h2, h3⟩
def heldR (k : Nat) : List (List S35) := (List.range k).map (fun i : Nat => [sayO ((i : Nat) : Int) 3 5])
theorem heldR_len (k : Nat) : (heldR k).length = k := by simp [heldR]
theorem heldR_succ (k : Nat) : heldR (k + 1) = heldR k ++ [[sayO ((k : Nat) : Int) 3 5]] := by simp [heldR, List.range_succ]
theorem heldR_get (k n : Nat) (h : k < n) : (heldR n)[k]? = some [sayO ((k : Nat) : Int) 3 5] := by
  unfold heldR
  rw [List.getElem?_map, List.getElem?_range h]
  rfl
/-- One of the lists held. -/
theorem heldR_at {W : World} {g n : Nat} (h : Kd.C (Kd.slice 35 k35) W (some ⟨g, 0, none⟩) n (heldR n)) {k : Nat} (hk : k < n) : ∃ ad cc, W.cell? ⟨g, k, none⟩ = some (.slice (some ad) 1 cc) ∧ W.cell? ad = some (.int .u64 ((k : Nat) : Int)) := by
  obtain ⟨ad, had, cs⟩ := h.2.2 (by omega)
  obtain rfl := Option.some.inj had
  obtain ⟨c, _, hK, hcell⟩ := cs k _ (heldR_get k n hk)
  obtain ⟨A, cc, rfl, hle, hC⟩ := hK
  have h1 := hcell 0 _ rfl
  rw [show k * (Kd.slice 35 k35).sz + 0 = k from Nat.mul_one k, addr_add, Nat.zero_add] at h1
  obtain ⟨ad, rfl, cs2⟩ := hC.2.2 (by rw [List.length_singleton]; decide)
  obtain ⟨c2, _, hK2, hcell2⟩ := cs2 0 _ rfl
  obtain rfl := k35_open hK2
  have h2 := hcell2 0 _ rfl
  rw [Nat.zero_mul, add_zero'] at h2
  exact ⟨ad, cc, h1, h2⟩
theorem set_t8 {bs : List Int} {i : Nat} (hi : i < bs.length) (y : Int) : (bs ++ t8).set i y = bs.set i y ++ t8 := by
  rw [List.set_append_left _ _ hi]
theorem get_t8 {bs : List Int} {i : Nat} (hi : i < bs.length) : (bs ++ t8)[i]? = some bs[i] := by
  rw [List.getElem?_append_left hi, List.getElem?_eq_getElem hi]
end Go.Proofs.YtohighedgdlflaaGreatDoor
