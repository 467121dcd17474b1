/- Texts of a proof that TraceReads holds, for every row of bytes, merged in order. -/
import Derived.Test.YtohighedgdlflaaGreatDoorTPRx4
import Derived.Test.YtohighedgdlflaaGreatDoorTMR7
import Derived.Test.YtohighedgdlflaaGreatDoorTMR9
import Derived.Test.YtohighedgdlflaaGreatDoorTMR2
import Derived.Test.YtohighedgdlflaaGreatDoorTMR4
/- What the document's own writers of bytes give: leb, rowB, crc. -/
namespace Go.Proofs.YtohighedgdlflaaGreatDoor
open Go.Shelf Go.RowKit Go.Sort Go.Lib Go.Proofs.YtohighedgdlflaaGreatDoorW.PrintWords Go.Proofs.YtohighedgdlflaaGreatDoor.PR
set_option linter.unusedVariables false
set_option linter.unusedSimpArgs false
theorem put_mod (q : Int) (h0 : 0 ≤ q) : (Int.tmod q 256) % 256 = q % 256 := by
  rw [Int.tmod_eq_emod_of_nonneg h0]; omega
theorem put_div (q : Int) (h0 : 0 ≤ q) (h1 : q < 18446744073709551616) : IntKind.u64.wrap (Int.tdiv q 256) = q / 256 := by
  rw [Int.tdiv_eq_ediv_of_nonneg h0]
  show (q / 256) % 18446744073709551616 = _
  omega
theorem put_l (l : List Int) (x : Int) (n e : Nat) (h0 : 0 ≤ x) (h1 : x < 18446744073709551616) (hn : n ≤ 8) (hl : l.length < 100000000000000) : ∀ j : Nat, j ≤ n → cloisterref22_put.l0 (j + e + 1) (l ++ leb (n - j) x) (x / 2 ^ (8 * (n - j))) (n : Int) ((n - j : Nat) : Int) = some (l ++ leb n x)
  | 0, _ => by
    rw [cloisterref22_put.l0, Nat.sub_zero, if_neg (by omega)]
  | j + 1, hj => by
    have ih := put_l l x n e h0 h1 hn hl j (by omega)
    obtain ⟨i, hi⟩ : ∃ i, i = n - (j + 1) := ⟨_, rfl⟩
    have e8 : n - j = i + 1 := by omega
    rw [e8] at ih
    have hin : i < n := by omega
    rw [← hi, show j + 1 + e + 1 = (j + e + 1) + 1 by omega, cloisterref22_put.l0, if_pos (by omega), if_pos (by rw [List.length_append, leb_length]; omega)]
    have hp : (0 : Int) < 2 ^ (8 * i) := Int.pow_pos (by decide)
    have hq0 : 0 ≤ x / 2 ^ (8 * i) := Int.ediv_nonneg h0 (Int.le_of_lt hp)
    have hq1 : x / 2 ^ (8 * i) < 18446744073709551616 := Int.lt_of_le_of_lt (Int.ediv_le_self _ h0) h1
    have hd : x / 2 ^ (8 * i) / 256 = x / 2 ^ (8 * (i + 1)) := by
      rw [Int.ediv_ediv_of_nonneg (Int.le_of_lt hp), show 8 * (i + 1) = 8 * i + 8 by omega, Int.pow_add]
      rfl
    rw [put_mod _ hq0, put_div _ hq0 hq1, hd, w64_succ i (by omega), List.append_assoc, ← leb_succ]
    exact ih
theorem put_f (l : List Int) (x : Int) (n k : Nat) (h0 : 0 ≤ x) (h1 : x < 18446744073709551616) (hn : n ≤ 8) (hk : 9 ≤ k) (hl : l.length < 100000000000000) : cloisterref22_put.f k l x (n : Int) = some (l ++ leb n x) := by
  have h := put_l l x n (k - n - 1) h0 h1 hn hl n (Nat.le_refl _)
  rw [Nat.sub_self, show n + (k - n - 1) + 1 = k by omega] at h
  have e1 : x / 2 ^ (8 * 0) = x := by simp
  have e2 : leb 0 x = [] := rfl
  rw [e1, e2, List.append_nil] at h
  exact h
theorem row_f (k : Nat) (hk : 9 ≤ k) {t cl q p a b : Nat} (hG : GoodN t cl q p a b) : cloisterref22_Row.f k (t : Int) (cl : Int) (q : Int) (p : Int) (a : Int) (b : Int) = some (rowB (obN t cl q p a b)) := by
  have g1 := hG.t63; have g2 := hG.cl8; have g3 := hG.q7; have g4 := hG.p32; have g5 := hG.a32; have g6 := hG.b32
  have wr : ∀ n : Nat, n < 18446744073709551616 → IntKind.u64.wrap (n : Int) = (n : Int) := fun n h => by
    show (n : Int) % 18446744073709551616 = _
    omega
  have c1 : ((cl : Int)) % 256 = (cl : Int) := by omega
  have c2 : ((q : Int)) % 256 = (q : Int) := by omega
  unfold cloisterref22_Row.f
  have p8 : ∀ l : List Int, ∀ x : Int, 0 ≤ x → x < 18446744073709551616 → l.length < 100000000000000 → cloisterref22_put.f k l x 8 = some (l ++ leb 8 x) := fun l x a b c => put_f l x 8 k a b (by decide) hk c
  have p1 : ∀ l : List Int, ∀ x : Int, 0 ≤ x → x < 18446744073709551616 → l.length < 100000000000000 → cloisterref22_put.f k l x 1 = some (l ++ leb 1 x) := fun l x a b c => put_f l x 1 k a b (by decide) hk c
  have p4 : ∀ l : List Int, ∀ x : Int, 0 ≤ x → x < 18446744073709551616 → l.length < 100000000000000 → cloisterref22_put.f k l x 4 = some (l ++ leb 4 x) := fun l x a b c => put_f l x 4 k a b (by decide) hk c
  rw [p8 [] (t : Int) (by omega) (by omega) (by simp), Option.bind_some, wr cl (by omega), p1 _ (cl : Int) (by omega) (by omega) (by simp [leb_length]), Option.bind_some, wr q (by omega), p1 _ (q : Int) (by omega) (by omega) (by simp [leb_length]), Option.bind_some, wr p (by omega), p4 _ (p : Int) (by omega) (by omega) (by simp [leb_length]), Option.bind_some, wr a (by omega), p4 _ (a : Int) (by omega) (by omega) (by simp [leb_length]), Option.bind_some, wr b (by omega), p4 _ (b : Int) (by omega) (by omega) (by simp [leb_length])]
  unfold rowB obN
  simp only [c1, c2]
  rfl
theorem sum_step (k : Nat) (xs : List Int) (s : Nat) (i : Int) (x5 : Nat) (hs : s < 4294967296) (h5 : x5 < 8) : cloisterref22_Sum.l1 (k + 1) xs (s : Int) i (x5 : Int) = cloisterref22_Sum.l1 k xs ((Crc.bitN s : Nat) : Int) i ((x5 + 1 : Nat) : Int) := by
  have hm : Int.tmod (s : Int) 2 = ((s % 2 : Nat) : Int) := by rw [Int.tmod_eq_emod_of_nonneg (Int.natCast_nonneg s)]; omega
  have hd : (Int.tdiv (s : Int) 2) % 4294967296 = ((s / 2 : Nat) : Int) := by
    rw [Int.tdiv_eq_ediv_of_nonneg (Int.natCast_nonneg s)]; omega
  rw [cloisterref22_Sum.l1, if_pos (by omega), hm, hd, w64_succ x5 (by omega)]
  unfold Crc.bitN
  by_cases h : s % 2 = 1
  · rw [if_pos (by omega), if_pos h]
    have := Crc.xor_u32 (s / 2) 3988292384 (by show s / 2 < 4294967296; omega) (by decide)
    rw [show ((3988292384 : Nat) : Int) = 3988292384 from rfl] at this
    rw [this]
  · rw [if_neg (by omega), if_neg h, Nat.xor_zero]
theorem bl (s : Nat) (h : s < 4294967296) : Crc.bitN s < 4294967296 := Crc.bitN_lt h
theorem sum_byte (k : Nat) (xs : List Int) (s : Nat) (i : Nat) (hs : s < 4294967296) (hi : i < 1000000000000) : cloisterref22_Sum.l1 (k + 9) xs (s : Int) (i : Int) 0 = cloisterref22_Sum.l0 k xs ((Crc.bitN (Crc.bitN (Crc.bitN (Crc.bitN (Crc.bitN (Crc.bitN (Crc.bitN (Crc.bitN s))))))) : Nat) : Int) ((i + 1 : Nat) : Int) := by
  have h1 := bl _ hs; have h2 := bl _ h1; have h3 := bl _ h2; have h4 := bl _ h3; have h5 := bl _ h4; have h6 := bl _ h5; have h7 := bl _ h6
  have e0 := sum_step (k + 8) xs s i 0 hs (by decide)
  rw [show ((0 : Nat) : Int) = 0 from rfl] at e0
  rw [show k + 9 = k + 8 + 1 from rfl, e0, sum_step (k + 7) xs _ i _ h1 (by decide), sum_step (k + 6) xs _ i _ h2 (by decide), sum_step (k + 5) xs _ i _ h3 (by decide), sum_step (k + 4) xs _ i _ h4 (by decide), sum_step (k + 3) xs _ i _ h5 (by decide), sum_step (k + 2) xs _ i _ h6 (by decide), sum_step (k + 1) xs _ i _ h7 (by decide)]
  rw [cloisterref22_Sum.l1, if_neg (by decide), w64_succ i (by omega)]
theorem sum_l (xs : List Int) (hb : Crc.Bytes xs) (hl : xs.length < 1000000000) : ∀ (j : Nat) (s : Nat), j ≤ xs.length → s < 4294967296 → cloisterref22_Sum.l0 (10 * j + 1) xs (s : Int) ((xs.length - j : Nat) : Int) = some ((Crc.stN (xs.drop (xs.length - j)) s ^^^ 4294967295 : Nat) : Int)
  | 0, s, _, hs => by
    rw [cloisterref22_Sum.l0, if_neg (by omega), Nat.sub_zero, List.drop_length]
    have := Crc.xor_u32 s 4294967295 hs (by decide)
    rw [show ((4294967295 : Nat) : Int) = 4294967295 from rfl] at this
    rw [this]; rfl
  | j + 1, s, hj, hs => by
    obtain ⟨i, hi⟩ : ∃ i, i = xs.length - (j + 1) := ⟨_, rfl⟩
    have e8 : xs.length - j = i + 1 := by omega
    have hil : i < xs.length := by omega
    have hx := hb _ (List.getElem_mem hil)
    obtain ⟨n, hn⟩ : ∃ n : Nat, xs[i] = (n : Int) := ⟨xs[i].toNat, by omega⟩
    have hn256 : n < 256 := by omega
    have hrd : rd xs (i : Int) = (n : Int) := by
      rw [← hn]; simp [rd, List.getD_eq_getElem?_getD, List.getElem?_eq_getElem hil]
    have hxr : Go.bits .xor .u32 (s : Int) ((n : Int) % 4294967296) = ((s ^^^ n : Nat) : Int) := by
      rw [show (n : Int) % 4294967296 = (n : Int) by omega]
      exact Crc.xor_u32 s n hs (by show n < 4294967296; omega)
    have hsx : s ^^^ n < 4294967296 := Nat.xor_lt_two_pow (n := 32) hs (by omega)
    have hby : Crc.byteN s n < 4294967296 := Crc.byteN_lt hs hn256
    have ih := sum_l xs hb hl j (Crc.byteN s n) (by omega) hby
    rw [e8] at ih
    rw [← hi, show 10 * (j + 1) + 1 = (10 * j + 1 + 9) + 1 by omega, cloisterref22_Sum.l0, if_pos (by omega), if_pos (by omega), hrd, hxr, sum_byte (10 * j + 1) xs _ i hsx (by omega), List.drop_eq_getElem_cons hil, hn]
    exact ih
theorem sum_f (xs : List Int) (hb : Crc.Bytes xs) (hl : xs.length < 1000000000) : cloisterref22_Sum.f (10 * xs.length + 1) xs = some (Crc.crc xs) := by
  have h := sum_l xs hb hl xs.length 4294967295 (Nat.le_refl _) (by decide)
  rw [Nat.sub_self, List.drop_zero] at h
  exact h
end Go.Proofs.YtohighedgdlflaaGreatDoor

/- Numbers of the lowest byte first: read and written. -/
namespace Go.Proofs.YtohighedgdlflaaGreatDoor
set_option linter.unusedVariables false
set_option linter.unusedSimpArgs false
/-- The number that some bytes are, the lowest first. -/
def lev : List Int → Int
  | [] => 0
  | b :: bs => b + 256 * lev bs
theorem lev_snoc : ∀ (bs : List Int) (b : Int), lev (bs ++ [b]) = lev bs + b * 2 ^ (8 * bs.length)
  | [], b => by simp [lev]
  | a :: bs, b => by
    have ih := lev_snoc bs b
    simp only [List.cons_append, lev, List.length_cons, ih]
    rw [show 8 * (bs.length + 1) = 8 * bs.length + 8 by omega, Int.pow_add]
    have : (2 : Int) ^ 8 = 256 := by decide
    rw [this, Int.mul_add]
    have h2 : (256 : Int) * (b * 2 ^ (8 * bs.length)) = b * (2 ^ (8 * bs.length) * 256) := by
      rw [Int.mul_comm, Int.mul_assoc]
    omega
theorem lev_bounds : ∀ {bs : List Int}, Crc.Bytes bs → 0 ≤ lev bs ∧ lev bs < 2 ^ (8 * bs.length)
  | [], _ => by simp [lev]
  | a :: bs, h => by
    have ih := lev_bounds (bs := bs) (fun x hx => h x (List.mem_cons_of_mem _ hx))
    have ha := h a List.mem_cons_self
    simp only [lev, List.length_cons]
    rw [show 8 * (bs.length + 1) = 8 * bs.length + 8 by omega, Int.pow_add]
    have : (2 : Int) ^ 8 = 256 := by decide
    rw [this]
    omega
theorem or_u64 (a b k : Nat) (ha : a < 2 ^ (8 * k)) (hb : b < 256) (hk : k < 8) : bits .or .u64 (a : Int) ((b * 2 ^ (8 * k) : Nat) : Int) = ((a + b * 2 ^ (8 * k) : Nat) : Int) := by
  have hp : 2 ^ (8 * k) * 256 ≤ 2 ^ 64 := by
    rw [show (256 : Nat) = 2 ^ 8 by decide, ← Nat.pow_add]
    exact Nat.pow_le_pow_right (by omega) (by omega)
  have hpos : 0 < 2 ^ (8 * k) := Nat.two_pow_pos _
  have hbm : b * 2 ^ (8 * k) + 2 ^ (8 * k) ≤ 2 ^ 64 := by
    have : (b + 1) * 2 ^ (8 * k) ≤ 256 * 2 ^ (8 * k) := Nat.mul_le_mul_right _ (by omega)
    rw [Nat.add_mul, Nat.one_mul] at this
    rw [Nat.mul_comm 256] at this
    omega
  have ha64 : a % 2 ^ IntKind.u64.bits = a := Nat.mod_eq_of_lt (by simp only [IntKind.bits]; omega)
  have hb64 : (b * 2 ^ (8 * k)) % 2 ^ IntKind.u64.bits = b * 2 ^ (8 * k) := Nat.mod_eq_of_lt (by simp only [IntKind.bits]; omega)
  simp only [bits, BitVec.ofInt_natCast, BitVec.toNat_or, BitVec.toNat_ofNat, ha64, hb64]
  have e : a ||| b * 2 ^ (8 * k) = a + b * 2 ^ (8 * k) := by
    rw [Nat.or_comm, Nat.mul_comm, ← Nat.two_pow_add_eq_or_of_lt ha, Nat.add_comm]
  rw [e]
  have h64 : (((a + b * 2 ^ (8 * k) : Nat) : Int)) < 2 ^ 64 := by exact_mod_cast (by omega : a + b * 2 ^ (8 * k) < 2 ^ 64)
  simp only [IntKind.wrap, IntKind.bits, IntKind.signed, Bool.false_eq_true, if_false]
  exact Int.emod_eq_of_lt (by omega) h64
theorem shl_u64 (b k : Nat) (hb : b < 256) (hk : k < 8) : IntKind.u64.wrap ((b : Int) * 2 ^ (8 * (k : Int)).toNat) = ((b * 2 ^ (8 * k) : Nat) : Int) := by
  have e : (8 * (k : Int)).toNat = 8 * k := by omega
  rw [e]
  have hp : 2 ^ (8 * k) * 256 ≤ 2 ^ 64 := by
    rw [show (256 : Nat) = 2 ^ 8 by decide, ← Nat.pow_add]
    exact Nat.pow_le_pow_right (by omega) (by omega)
  have hbm : b * 2 ^ (8 * k) < 2 ^ 64 := by
    have : (b + 1) * 2 ^ (8 * k) ≤ 256 * 2 ^ (8 * k) := Nat.mul_le_mul_right _ (by omega)
    rw [Nat.add_mul, Nat.one_mul, Nat.mul_comm 256] at this
    have hpos : 0 < 2 ^ (8 * k) := Nat.two_pow_pos _
    omega
  have h64 : (((b * 2 ^ (8 * k) : Nat) : Int)) < 2 ^ 64 := by exact_mod_cast hbm
  have e2 : ((b : Int) * 2 ^ (8 * k)) = ((b * 2 ^ (8 * k) : Nat) : Int) := by simp
  rw [e2]
  simp only [IntKind.wrap, IntKind.bits, IntKind.signed, Bool.false_eq_true, if_false]
  exact Int.emod_eq_of_lt (by omega) h64
end Go.Proofs.YtohighedgdlflaaGreatDoor

/- What Decode answers, in plain Lean. -/
namespace Go.Proofs.YtohighedgdlflaaGreatDoor
open Go.Proofs.YtohighedgdlflaaGreatDoor.PR
set_option linter.unusedVariables false
set_option linter.unusedSimpArgs false
/-- The row at a place. -/
def rowAt (bs : List Int) (p : Nat) : S35 := ⟨lev ((bs.drop p).take 8), lev ((bs.drop (p + 8)).take 1), lev ((bs.drop (p + 9)).take 1), lev ((bs.drop (p + 10)).take 4), lev ((bs.drop (p + 14)).take 4), lev ((bs.drop (p + 18)).take 4)⟩
/-- m rows from place p on, behind those that have been read; the place of the first that may not be, -1: there is none. -/
def decRows (bs : List Int) : Nat → Nat → List S35 → List S35 × Int
  | 0, _, acc => (acc, -1)
  | m + 1, p, acc => if mayB (rowAt bs p) = true then decRows bs m (p + 22) (acc ++ [rowAt bs p]) else ([], p)
def magicL : List Int := [67, 76, 84, 82]
/-- Of a text that begins as it must. -/
def decBody (bs : List Int) : List S35 × Int :=
  if bs.length < 12 then ([], 4)
  else if (bs.length : Int) ≠ 12 + 22 * lev ((bs.drop 4).take 4) ∨ lev ((bs.drop 4).take 4) > 1000000 then ([], 4)
  else if lev ((bs.drop (bs.length - 4)).take 4) ≠ Crc.crc (bs.take (bs.length - 4)) then ([], ((bs.length - 4 : Nat) : Int))
  else decRows bs (lev ((bs.drop 4).take 4)).toNat 8 []
/-- The first of the four first bytes that is another one: 4: there is none. -/
def badMagic (bs : List Int) (k : Nat) : Bool := bs.getD k (-1) != magicL.getD k 0
def decode (bs : List Int) : List S35 × Int :=
  if badMagic bs 0 = true then ([], 0) else if badMagic bs 1 = true then ([], 1) else if badMagic bs 2 = true then ([], 2) else if badMagic bs 3 = true then ([], 3) else decBody bs
theorem decode_bad {bs : List Int} {k : Nat} (h : ∀ i, i < k → badMagic bs i = false) (hk : badMagic bs k = true) (h4 : k < 4) : decode bs = ([], (k : Int)) := by
  unfold decode
  match k, h4 with
  | 0, _ => rw [if_pos hk]; rfl
  | 1, _ => rw [if_neg (by simp [h 0 (by omega)]), if_pos hk]; rfl
  | 2, _ => rw [if_neg (by simp [h 0 (by omega)]), if_neg (by simp [h 1 (by omega)]), if_pos hk]; rfl
  | 3, _ => rw [if_neg (by simp [h 0 (by omega)]), if_neg (by simp [h 1 (by omega)]), if_neg (by simp [h 2 (by omega)]), if_pos hk]; rfl
theorem decode_good {bs : List Int} (h : ∀ i, i < 4 → badMagic bs i = false) : decode bs = decBody bs := by
  unfold decode
  rw [if_neg (by simp [h 0 (by omega)]), if_neg (by simp [h 1 (by omega)]), if_neg (by simp [h 2 (by omega)]), if_neg (by simp [h 3 (by omega)])]
theorem badMagic_len {bs : List Int} {k : Nat} (h4 : k < 4) (h : bs.length ≤ k) : badMagic bs k = true := by
  unfold badMagic
  rw [List.getD_eq_getElem?_getD, List.getElem?_eq_none h]
  match k, h4 with
  | 0, _ => rfl
  | 1, _ => rfl
  | 2, _ => rfl
  | 3, _ => rfl
theorem badMagic_at {bs : List Int} {k : Nat} (h : k < bs.length) : badMagic bs k = (bs.getD k 0 != magicL.getD k 0) := by
  unfold badMagic
  simp [List.getD_eq_getElem?_getD, List.getElem?_eq_getElem h]
end Go.Proofs.YtohighedgdlflaaGreatDoor

/- The document's get is the number that some bytes are, the lowest first. -/
namespace Go.Proofs.YtohighedgdlflaaGreatDoor
open Go.RowKit Go.Proofs.YtohighedgdlflaaGreatDoorW.PrintWords Go.Proofs.YtohighedgdlflaaGreatDoor.PR
set_option linter.unusedVariables false
set_option linter.unusedSimpArgs false
theorem cut_bytes {bs : List Int} (h : Crc.Bytes bs) (p n : Nat) : Crc.Bytes ((bs.drop p).take n) := fun x hx => h x (List.mem_of_mem_drop (List.mem_of_mem_take hx))
theorem lev_small {bs : List Int} (h : Crc.Bytes bs) (p n : Nat) (hn : n ≤ 7) : 0 ≤ lev ((bs.drop p).take n) ∧ lev ((bs.drop p).take n) < 72057594037927936 := by
  have := lev_bounds (cut_bytes h p n)
  have hl : ((bs.drop p).take n).length ≤ n := List.length_take_le _ _
  refine ⟨this.1, Int.lt_of_lt_of_le this.2 ?_⟩
  have : (2 : Nat) ^ (8 * ((bs.drop p).take n).length) ≤ 2 ^ 56 := Nat.pow_le_pow_right (by omega) (by omega)
  calc (2 : Int) ^ (8 * ((bs.drop p).take n).length) ≤ 2 ^ 56 := by exact_mod_cast this
    _ = 72057594037927936 := by decide
theorem lev_front {bs : List Int} {p n : Nat} (hp : p < bs.length) : lev ((bs.drop p).take (n + 1)) = bs.getD p 0 + 256 * lev ((bs.drop (p + 1)).take n) := by
  rw [List.drop_eq_getElem_cons hp, List.take_succ_cons, lev]
  simp [List.getD_eq_getElem?_getD, List.getElem?_eq_getElem hp]
set_option maxHeartbeats 400000 in
theorem get_ok (bs : List Int) (A : Option Addr) (c p n : Nat) (w : World) (hR : Kd.C (Kd.int .u8) w A bs.length bs) (hb : Crc.Bytes bs) (hp : p + n ≤ bs.length) (hn : n ≤ 8) :
    Calls Tryz.prog 49 #[.slice A bs.length c, .int .i64 p, .int .i64 n] w fun e w' => e = .returned (.int .u64 (lev ((bs.drop p).take n))) ∧ w = w' := by
  have HR := Lib.hid (C_reads hR)
  have HX := Lib.hid hb
  have hm : bs.length ≤ 9223372036854775807 := HR.out.2.1
  clear hR hb
  go_enter Tryz.func49, Tryz.ntmps49
  go_wp2
  go_loop [7, 8] (fun v7 v8 => ∃ k : Nat, k ≤ n ∧ v8 = .int .i64 ((k : Int) - 1) ∧ v7 = .int .u64 (lev ((bs.drop (p + k)).take (n - k)))) (fun _ i => (RowKit.intOf i + 1).toNat)
  case atStart =>
    refine ⟨n, by omega, rfl, ?_⟩
    rw [Nat.sub_self, List.take_zero]; rfl
  case round =>
    obtain ⟨k, hk, rfl, rfl⟩ := hrel
    by_cases hlt : 0 < k
    · obtain ⟨j, rfl⟩ : ∃ j, k = j + 1 := ⟨k - 1, by omega⟩
      obtain ⟨N, hN⟩ : ∃ N, N = lev ((bs.drop (p + (j + 1))).take (n - (j + 1))) := ⟨_, rfl⟩
      have hNb := lev_small HX.out (p + (j + 1)) (n - (j + 1)) (by omega)
      rw [← hN] at hNb ⊢
      obtain ⟨hN0, hN1⟩ := hNb
      obtain ⟨b, hb⟩ : ∃ b, b = bs.getD (p + j) 0 := ⟨_, rfl⟩
      have hbb : 0 ≤ b ∧ b < 256 := by
        rw [hb]
        exact HX.out _ (by rw [List.getD_eq_getElem?_getD, List.getElem?_eq_getElem (show p + j < bs.length by omega)]; exact List.getElem_mem _)
      obtain ⟨hb0, hb1⟩ := hbb
      obtain ⟨ad, rfl, hcs⟩ := HR.out.2.2 (by omega)
      have hc0 : w.cell? (ad.add (p + j)) = some (.int .u8 b) := by rw [hb]; exact hcs (p + j) (by omega)
      clear hcs
      have hfin : Hid (256 * N + b = lev ((bs.drop (p + j)).take (n - j))) := by
        show 256 * N + b = _
        rw [show n - j = (n - (j + 1)) + 1 by omega, lev_front (by omega), hN, hb, Nat.add_assoc]; omega
      have ek : (((j + 1 : Nat) : Int) - 1) = (j : Int) := by omega
      rw [ek]
      clear hN hb ek
      go_wp2
      go_round
      case rel => exact ⟨j, by omega, by go_num, by rw [hfin.out]⟩
      case measure => simp [RowKit.intOf]
    · obtain rfl : k = 0 := by omega
      go_wp2
      go_ret
      exact ⟨by simp, rfl⟩
end Go.Proofs.YtohighedgdlflaaGreatDoor
