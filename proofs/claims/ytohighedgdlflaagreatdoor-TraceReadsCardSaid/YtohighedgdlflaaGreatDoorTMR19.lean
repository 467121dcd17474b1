/- Texts of a proof that TraceReads holds, for every row of bytes, merged in order. -/
import Derived.Test.YtohighedgdlflaaGreatDoorTMR16
import Derived.Test.YtohighedgdlflaaGreatDoorTMR9
import Derived.Test.YtohighedgdlflaaGreatDoorTMR18
import Derived.Laws.IdiomStrings
import Derived.Lib.BufferRead
import Derived.Test.YtohighedgdlflaaGreatDoorTPRx2
import Derived.Test.YtohighedgdlflaaGreatDoorTPRx8
/- Both Encodes as the laws call them; bytes as a string. -/
namespace Go.Proofs.YtohighedgdlflaaGreatDoor
open Go.RowKit Go.Proofs.YtohighedgdlflaaGreatDoorW.PrintWords Go.Proofs.YtohighedgdlflaaGreatDoor.PR
set_option linter.unusedVariables false
set_option linter.unusedSimpArgs false
def encX (l : List S35) : List Int := if l.all mayB = true then encBytes l else []
def strOf (xs : List Int) : ByteArray := ⟨(xs.map fun x => UInt8.ofNat x.toNat).toArray⟩
/-- Bytes as a string. -/
theorem str_conv {W : World} {A : Option Addr} {xs : List Int} {c : Nat} (h : Kd.C (Kd.int .u8) W A xs.length xs) (hb : Crc.Bytes xs) : (convert 37 9 (.slice A xs.length c)).run Tryz.prog W = .ok (.string (strOf xs)) W := by
  by_cases h0 : xs.length = 0
  · have hx : xs = [] := List.eq_nil_of_length_eq_zero h0
    subst hx
    cases A with
    | none => exact Lib.run_convert_nil_bytes (P := Tryz.prog) W 37 9 5 c Tryz.underlying37 Tryz.underlying5 Tryz.underlying9
    | some a =>
      have := run_convert_bytes_back (P := Tryz.prog) W 37 9 5 a c [] Tryz.underlying37 Tryz.underlying5 Tryz.underlying9 (fun j hj => by simp at hj)
      exact this
  · obtain ⟨ad, rfl, hc⟩ := h.2.2 (by omega)
    have hl : (xs.map fun x => UInt8.ofNat x.toNat).length = xs.length := List.length_map _
    have := run_convert_bytes_back (P := Tryz.prog) W 37 9 5 ad c (xs.map fun x => UInt8.ofNat x.toNat) Tryz.underlying37 Tryz.underlying5 Tryz.underlying9 (fun j hj => by
      have hj' : j < xs.length := by omega
      obtain ⟨cs, _, hK, hcell⟩ := hc j xs[j] (List.getElem?_eq_getElem hj')
      have hcs : cs = [Value.int .u8 xs[j]] := hK
      subst hcs
      have h1 := hcell 0 _ rfl
      rw [show j * (Kd.int .u8).sz + 0 = j from Nat.mul_one j] at h1
      have h2 := hb _ (List.getElem_mem hj')
      rw [h1, List.getElem_map]
      congr 2
      rw [UInt8.toNat_ofNat']
      omega)
    rw [hl] at this
    exact this
/-- cloisterref22.Encode as the laws call it. -/
theorem refEnc_call (l : List S35) (A : Option Addr) (c : Nat) (w : World) (hr : Kd.C k35 w A l.length l) (hc : l.length ≤ c) (hF : ∀ o ∈ l, FitsT o) (hl : l.length ≤ 1000000) :
    Calls Tryz.prog 19 #[.slice A l.length c] w fun e w' => ∃ A5 c5, e = .returned (.tuple #[.slice A5 (encX l).length c5, .bool (l.all mayB)]) ∧ (encX l).length ≤ c5 ∧ Kd.C (Kd.int .u8) w' A5 (encX l).length (encX l) ∧ Below w.heap.size w w' := by
  refine (refEncode_ok l A c w hr hc hF hl).mono ?_
  rintro e w' ⟨v, rfl, hr, hb⟩
  obtain ⟨A5, c5, rfl, hc5, hC⟩ := Kd.R_reads hr
  exact ⟨A5, c5, rfl, hc5, hC, hb⟩
/-- One observation in a row of its own. -/
theorem one_C (w : World) (x : S35) : Kd.C k35 (w.alloc (.cells #[.int .u64 x.f0, .int .i64 x.f1, .int .i64 x.f2, .int .u32 x.f3, .int .u32 x.f4, .int .u32 x.f5] 35)) (some ⟨w.heap.size, 0, none⟩) [x].length [x] := by
  refine ⟨rfl, by rw [List.length_singleton]; decide, fun _ => ⟨_, rfl, fun j p hj => ?_⟩⟩
  match j with
  | 0 =>
    obtain rfl : x = p := Option.some.inj hj
    refine ⟨_, rfl, k35_mk _ _, fun i u hu => ?_⟩
    have hb := blk_new w (.cells #[.int .u64 x.f0, .int .i64 x.f1, .int .i64 x.f2, .int .u32 x.f3, .int .u32 x.f4, .int .u32 x.f5] 35)
    rw [Nat.zero_mul, Nat.zero_add, addr_add, Nat.zero_add, cell_in hb]
    simpa using hu
  | j + 1 => simp at hj
def sayO (t cl a : Int) : S35 := ⟨t, cl, 7, 0, a, 0⟩
theorem sayO_fits {t cl a : Int} (h0 : 0 ≤ t) (h1 : t ≤ 9223372036854775807) (a0 : 0 ≤ a) (a1 : a < 4294967296) : FitsT (sayO t cl a) := by
  refine ⟨⟨?_, ?_, ?_, ?_, ?_, ?_⟩, ?_, ?_⟩ <;> simp only [sayO] <;> omega
theorem sayO_may {t cl a : Int} (h1 : t ≤ 9223372036854775807) (c1 : 1 ≤ cl) (c8 : cl ≤ 8) : mayB (sayO t cl a) = true := by
  unfold mayB sayO
  simp only [Bool.and_eq_true, decide_eq_true_eq]
  refine ⟨⟨⟨c1, c8⟩, h1⟩, ?_⟩
  simp [kindB]
theorem sayO_enc {t cl a : Int} (h1 : t ≤ 9223372036854775807) (c1 : 1 ≤ cl) (c8 : cl ≤ 8) : encX [sayO t cl a] = encBytes [sayO t cl a] ∧ (encBytes [sayO t cl a]).length = 34 ∧ [sayO t cl a].all mayB = true := by
  have hm : [sayO t cl a].all mayB = true := by simp [sayO_may h1 c1 c8]
  refine ⟨by unfold encX; rw [if_pos hm], ?_, hm⟩
  unfold encBytes
  rw [List.length_append, encBody_len, leb_length]
  rfl
theorem say_ref (t cl a : Int) (h0 : 0 ≤ t) (h1 : t ≤ 9223372036854775807) (c1 : 1 ≤ cl) (c8 : cl ≤ 8) (a0 : 0 ≤ a) (a1 : a < 4294967296) (w : World) :
    Calls Tryz.prog 19 #[.slice (some ⟨w.heap.size, 0, none⟩) 1 1] (w.alloc (.cells #[.int .u64 t, .int .i64 cl, .int .i64 7, .int .u32 0, .int .u32 a, .int .u32 0] 35)) fun e w' => ∃ A5 c5, e = .returned (.tuple #[.slice A5 34 c5, .bool true]) ∧ 34 ≤ c5 ∧ Kd.C (Kd.int .u8) w' A5 34 (encBytes [sayO t cl a]) ∧ Below w.heap.size w w' := by
  have hba : Below w.heap.size w (w.alloc (.cells #[.int .u64 t, .int .i64 cl, .int .i64 7, .int .u32 0, .int .u32 a, .int .u32 0] 35)) := below_alloc (Below.refl _ _) _
  obtain ⟨e1, e2, e3⟩ := sayO_enc (t := t) (cl := cl) (a := a) h1 c1 c8
  have h := refEnc_call [sayO t cl a] (some ⟨w.heap.size, 0, none⟩) 1 _ (one_C w (sayO t cl a)) (Nat.le_refl _) (fun o ho => by
    rw [List.mem_singleton] at ho; subst ho; exact sayO_fits h0 h1 a0 a1) (by rw [List.length_singleton]; decide)
  refine Calls.mono h ?_
  rintro e w' ⟨A5, c5, rfl, hc5, hr, hb⟩
  rw [e1, e2] at hc5 hr ⊢
  rw [e3]
  exact ⟨A5, c5, rfl, hc5, hr, hba.trans (hb.mono hba.size)⟩
end Go.Proofs.YtohighedgdlflaaGreatDoor

/- What the laws' own helpers give. -/
namespace Go.Proofs.YtohighedgdlflaaGreatDoor
open Go.Shelf Go.RowKit Go.Sort Go.Lib Go.Proofs.YtohighedgdlflaaGreatDoorW.PrintWords Go.Proofs.YtohighedgdlflaaGreatDoor.PR
set_option linter.unusedVariables false
set_option linter.unusedSimpArgs false
theorem same_l (l : List S35) (hl : l.length < 1000000000) : ∀ j : Nat, j ≤ l.length → cloisterlaw22_same.l0 (j + 1) l l ((l.length - j : Nat) : Int) = some true
  | 0, _ => by
    rw [cloisterlaw22_same.l0, if_neg (by omega)]
  | j + 1, hj => by
    have ih := same_l l hl j (by omega)
    obtain ⟨i, hi⟩ : ∃ i, i = l.length - (j + 1) := ⟨_, rfl⟩
    have e8 : l.length - j = i + 1 := by omega
    rw [e8] at ih
    rw [← hi, cloisterlaw22_same.l0, if_pos (by omega), if_pos (by omega), if_pos (by omega), if_neg (by simp), w64_succ i (by omega)]
    exact ih
theorem same_f (l : List S35) (hl : l.length < 1000000000) : ∃ k, cloisterlaw22_same.f k l l = some true := by
  have h := same_l l hl l.length (Nat.le_refl _)
  rw [Nat.sub_self] at h
  exact ⟨l.length + 1, by unfold cloisterlaw22_same.f; rw [if_pos rfl]; exact h⟩
/-- same (18) at one row in two places. -/
theorem same_ok (A B : Option Addr) (c d : Nat) (l : List S35) (w : World) (hr : Kd.C k35 w A l.length l) (hc : l.length ≤ c) (hs : Kd.C k35 w B l.length l) (hd : l.length ≤ d) (hl : l.length < 1000000000) :
    Calls Tryz.prog 18 #[.slice A l.length c, .slice B l.length d] w fun e w' => e = .returned (.bool true) ∧ Drawn0 w w' := by
  obtain ⟨k, hk⟩ := same_f l hl
  exact cloisterlaw22_same.calls k A c l B d l true w hr hc hs hd hk
end Go.Proofs.YtohighedgdlflaaGreatDoor

/- kept (14) at lent ones that nobody wrote. -/
namespace Go.Proofs.YtohighedgdlflaaGreatDoor
open Go.Shelf Go.RowKit Go.Sort Go.Lib Go.Proofs.YtohighedgdlflaaGreatDoorW.PrintWords Go.Proofs.YtohighedgdlflaaGreatDoor.PR
set_option linter.unusedVariables false
set_option linter.unusedSimpArgs false
end Go.Proofs.YtohighedgdlflaaGreatDoor

/- A row of observations in a block of its own, written in place. -/
namespace Go.Proofs.YtohighedgdlflaaGreatDoor
open Go.Shelf Go.RowKit Go.Sort Go.Lib Go.Proofs.YtohighedgdlflaaGreatDoorW.PrintWords Go.Proofs.YtohighedgdlflaaGreatDoor.PR
set_option linter.unusedVariables false
set_option linter.unusedSimpArgs false
def cells6 (x : S35) : List Value := [.int .u64 x.f0, .int .i64 x.f1, .int .i64 x.f2, .int .u32 x.f3, .int .u32 x.f4, .int .u32 x.f5]
def ORow (W : World) (g : Nat) (xs : List S35) : Prop := ∃ cur : Array Value, W.heap[g]? = some (.cells cur 35 (0, 0)) ∧ ∀ (i : Nat) x, xs[i]? = some x → ∀ (j : Nat) u, (cells6 x)[j]? = some u → cur[i * 6 + j]? = some u
theorem ORow.lt {W : World} {g : Nat} {xs : List S35} (h : ORow W g xs) : g < W.heap.size := by
  obtain ⟨cur, h1, _⟩ := h
  exact heap_lt' h1
theorem ORow.below {W W' : World} {g : Nat} {xs : List S35} (h : ORow W g xs) (hb : Below W.heap.size W W') : ORow W' g xs := by
  obtain ⟨cur, h1, h2⟩ := h
  exact ⟨cur, (hb.block _ (heap_lt' h1)).trans h1, h2⟩
theorem ORow.cell {W : World} {g : Nat} {xs : List S35} (h : ORow W g xs) {i : Nat} {x : S35} (hx : xs[i]? = some x) {j : Nat} {u : Value} (hu : (cells6 x)[j]? = some u) : W.cell? ⟨g, i * 6 + j, none⟩ = some u ∧ W.frozen? ⟨g, i * 6 + j, none⟩ = false := by
  obtain ⟨cur, h1, h2⟩ := h
  refine ⟨by rw [cell_in h1]; exact h2 i x hx j u hu, ?_⟩
  simp only [World.frozen?, h1]
  simp
theorem ORow.C {W : World} {g : Nat} {xs : List S35} (h : ORow W g xs) (hn : xs.length ≤ 9223372036854775807) : Kd.C k35 W (some ⟨g, 0, none⟩) xs.length xs := by
  refine ⟨rfl, hn, fun _ => ⟨_, rfl, fun j p hj => ⟨_, ?_, k35_mk _ p, fun i u hu => ?_⟩⟩⟩
  · rfl
  · rw [addr_add, Nat.zero_add]
    exact (h.cell hj hu).1
/-- One field of one element is written. -/
theorem ORow.set {W : World} {g : Nat} {xs : List S35} (h : ORow W g xs) {i j : Nat} {x y : S35} {v : Value} (hx : xs[i]? = some x) (hj : j < 6) (hy : ∀ k, (cells6 y)[k]? = if k = j then some v else (cells6 x)[k]?) : ORow (W.setCell ⟨g, i * 6 + j, none⟩ v) g (xs.set i y) := by
  obtain ⟨cur, h1, h2⟩ := h
  refine ⟨cur.setIfInBounds (i * 6 + j) v, heap_setCell_same _ _ _ _ _ _ h1, fun i' x' hx' k u hu => ?_⟩
  have hk6 : k < 6 := by
    rcases Nat.lt_or_ge k 6 with h' | h'
    · exact h'
    · rw [List.getElem?_eq_none (by simpa [cells6] using h')] at hu; simp at hu
  have hsz : i * 6 + j < cur.size := by
    have h3 : ∃ u, (cells6 x)[j]? = some u := ⟨_, List.getElem?_eq_getElem (by simpa [cells6] using hj)⟩
    obtain ⟨u3, hu3⟩ := h3
    have h4 := h2 i x hx j u3 hu3
    rcases Nat.lt_or_ge (i * 6 + j) cur.size with h' | h'
    · exact h'
    · rw [Array.getElem?_eq_none h'] at h4; simp at h4
  rw [List.getElem?_set] at hx'
  by_cases hii : i = i'
  · subst hii
    rw [if_pos rfl] at hx'
    split at hx'
    · obtain rfl := Option.some.inj hx'
      rw [hy k] at hu
      by_cases hkj : k = j
      · subst hkj
        rw [if_pos rfl] at hu
        rw [Array.getElem?_setIfInBounds_self_of_lt hsz]
        exact hu
      · rw [if_neg hkj] at hu
        rw [Array.getElem?_setIfInBounds_ne (by omega)]
        exact h2 i x hx k u hu
    · simp at hx'
  · rw [if_neg hii] at hx'
    rw [Array.getElem?_setIfInBounds_ne (by omega)]
    exact h2 i' x' hx' k u hu
end Go.Proofs.YtohighedgdlflaaGreatDoor
