/- The law TraceBack answers true for every rows of raw numbers; proved from the walks of package trace and plain laws on its bytes and lines. -/
import Derived.Test.YtohighedgdlflaaGreatDoorMB2
import Derived.Test.YtohighedgdlflaaGreatDoorMB1
import Derived.Lib.SlBytesConst
import Derived.Laws.Strings3
import Derived.Defers
import Derived.Recover
/- The Reader's numbers, where there are bytes enough. -/
namespace Go.Proofs.YtohighedgdlflaaGreatDoor
open Go.RowKit Go.Proofs.YtohighedgdlflaaGreatDoorW.PrintWords Go.Proofs.YtohighedgdlflaaGreatDoor.PR
set_option linter.unusedVariables false
set_option linter.unusedSimpArgs false
theorem bytes_cut {bs : List Int} (h : Crc.Bytes bs) (a n : Nat) : Crc.Bytes ((bs.drop a).take n) := fun x hx => h x (List.mem_of_mem_drop (List.mem_of_mem_take hx))
set_option maxHeartbeats 400000 in
theorem get32 (base g gb cap at_ : Nat) (bs : List Int) (w : World) (hr : Rd w base g gb cap bs at_) (hn : at_ + 4 ≤ bs.length) (hb : Crc.Bytes bs) :
    Calls Tryz.prog 96 #[.pointer (some ⟨g, 0, none⟩)] w fun e w' => e = .returned (.int .u32 (lev ((bs.drop at_).take 4))) ∧ Rk w w' base g gb cap bs (at_ + 4) := by
  have HR := Lib.hid hr
  have HB := Lib.hid hb
  obtain ⟨ys, hys⟩ : ∃ ys, ys = (bs.drop at_).take 4 := ⟨_, rfl⟩
  have HY : Hid (ys = (bs.drop at_).take 4) := hys
  have hyl : ys.length = 4 := by rw [hys, List.length_take, List.length_drop]; omega
  have HYB : Hid (Crc.Bytes ys) := by rw [hys]; exact bytes_cut hb _ _
  have HYL := Lib.hid hyl
  have hcells : ∀ i, i < 4 → w.cell? ⟨gb, at_ + i, none⟩ = some (.int .u8 (ys.getD i 0)) := by
    intro i hi
    rw [hr.byte (at_ + i) (by omega), hys]
    simp [List.getD_eq_getElem?_getD, List.getElem?_take, hi, List.getElem?_drop]
  have hgb : gb ≠ g := by
    rintro rfl
    exact own_ne_cells hr.own hr.cells (by decide) rfl
  have HC : Hid (∀ i, i < 4 → w.cell? ⟨gb, at_ + i, none⟩ = some (.int .u8 (ys.getD i 0))) := hcells
  have HT := Lib.hid (hr.step (m := 0) hn)
  rw [← hys]
  clear hr hb hys hyl hcells
  go_enter Tryz.func96, Tryz.ntmps96
  go_wp2_with fail
  refine (size32 _).mono ?_
  rintro e w' ⟨rfl, rfl⟩
  go_wp2_with fail
  refine (next_ok base g gb cap at_ 4 bs w HR.out hn (by omega)).mono ?_
  rintro e w1 ⟨rfl, m, hw1⟩
  have hk : Hid (Rk w w1 base g gb cap bs (at_ + 4)) := by rw [hw1]; exact HR.out.step hn
  have HC1 : Hid (∀ i, i < 4 → w1.cell? ⟨gb, at_ + i, none⟩ = some (.int .u8 (ys.getD i 0))) := by
    intro i hi
    have := HC.out i hi
    exact keep_cell hk.out.keep this hgb
  clear hw1 HC
  go_wp2_with fail
  go_loop [3, 4, 5, 10] (fun v3 v4 v5 v10 => ∃ (k s : Nat), k ≤ 4 ∧ v10 = .int .i64 k ∧ v3 = .int .u64 s ∧ Hid ((s : Int) = lev (ys.take k))) (fun _ _ _ i => 4 - (intOf i).toNat)
  case atStart => exact ⟨0, 0, by omega, rfl, rfl, rfl⟩
  case round =>
    obtain ⟨k, s, hk, rfl, rfl, hs⟩ := hrel
    by_cases hlt : k < 4
    · have hky : k < ys.length := by rw [HYL.out]; exact hlt
      have hsl : (s : Int) < 2 ^ (8 * k) := by
        rw [hs.out]
        have := (lev_bounds (bs := ys.take k) (fun x hx => HYB.out x (List.mem_of_mem_take hx))).2
        rwa [List.length_take, Nat.min_eq_left (by omega)] at this
      have hsN : s < 2 ^ (8 * k) := by exact_mod_cast hsl
      obtain ⟨b, hb0, hb⟩ : ∃ b : Nat, b < 256 ∧ Hid ((b : Int) = ys.getD k 0) := by
        have h := HYB.out (ys.getD k 0) (by rw [List.getD_eq_getElem?_getD, List.getElem?_eq_getElem hky]; exact List.getElem_mem hky)
        exact ⟨(ys.getD k 0).toNat, by omega, by show (((ys.getD k 0).toNat : Nat) : Int) = _; omega⟩
      have hc0 : w1.cell? ⟨gb, at_ + k, none⟩ = some (.int .u8 b) := by rw [hb.out]; exact HC1.out k hlt
      have h8 : IntKind.i64.wrap (8 * (k : Int)) = 8 * k := IntWalk.i64_in _ (by omega)
      obtain ⟨hi, hhi⟩ : ∃ hi : Nat, hi = b * 2 ^ (8 * k) := ⟨_, rfl⟩
      have e1 : IntKind.u64.wrap ((b : Int) * 2 ^ (8 * (k : Int)).toNat) = hi := by rw [hhi]; exact shl_u64 b k hb0 (by omega)
      obtain ⟨s2, hs2⟩ : ∃ s2 : Nat, s2 = s + hi := ⟨_, rfl⟩
      have e2 : bits .or .u64 (s : Int) (hi : Int) = s2 := by rw [hs2, hhi]; exact or_u64 s b k hsN hb0 (by omega)
      have hfin : Hid ((s2 : Int) = lev (ys.take (k + 1))) := by
        show (s2 : Int) = _
        rw [List.take_succ_eq_append_getElem hky, lev_snoc, ← hs.out, List.length_take, Nat.min_eq_left (by omega), hs2, hhi]
        have : (b : Int) = ys[k] := by
          have := hb.out
          rw [List.getD_eq_getElem?_getD, List.getElem?_eq_getElem hky] at this
          simpa using this
        rw [← this]; simp
      clear hhi hs2 hsl hsN hky
      go_wp2
      go_round
      case rel => exact ⟨k + 1, s2, by omega, by go_num, rfl, hfin⟩
      case measure => simp [intOf]; omega
    · obtain rfl : k = 4 := by omega
      have hlev := lev_bounds HYB.out
      have e6 : IntKind.u32.wrap (s : Int) = lev ys := by
        rw [IntKind.wrap_u32, hs.out, List.take_of_length_le (by rw [HYL.out]; omega)]
        rw [HYL.out] at hlev
        omega
      clear hlev
      go_wp2
      go_ret
      exact ⟨rfl, ‹Hid (Rk _ _ _ _ _ _ _ _)›.out⟩
set_option maxHeartbeats 400000 in
theorem get64 (base g gb cap at_ : Nat) (bs : List Int) (w : World) (hr : Rd w base g gb cap bs at_) (hn : at_ + 8 ≤ bs.length) (hb : Crc.Bytes bs) :
    Calls Tryz.prog 97 #[.pointer (some ⟨g, 0, none⟩)] w fun e w' => e = .returned (.int .u64 (lev ((bs.drop at_).take 8))) ∧ Rk w w' base g gb cap bs (at_ + 8) := by
  have HR := Lib.hid hr
  have HB := Lib.hid hb
  obtain ⟨ys, hys⟩ : ∃ ys, ys = (bs.drop at_).take 8 := ⟨_, rfl⟩
  have HY : Hid (ys = (bs.drop at_).take 8) := hys
  have hyl : ys.length = 8 := by rw [hys, List.length_take, List.length_drop]; omega
  have HYB : Hid (Crc.Bytes ys) := by rw [hys]; exact bytes_cut hb _ _
  have HYL := Lib.hid hyl
  have hcells : ∀ i, i < 8 → w.cell? ⟨gb, at_ + i, none⟩ = some (.int .u8 (ys.getD i 0)) := by
    intro i hi
    rw [hr.byte (at_ + i) (by omega), hys]
    simp [List.getD_eq_getElem?_getD, List.getElem?_take, hi, List.getElem?_drop]
  have hgb : gb ≠ g := by
    rintro rfl
    exact own_ne_cells hr.own hr.cells (by decide) rfl
  have HC : Hid (∀ i, i < 8 → w.cell? ⟨gb, at_ + i, none⟩ = some (.int .u8 (ys.getD i 0))) := hcells
  have HT := Lib.hid (hr.step (m := 0) hn)
  rw [← hys]
  clear hr hb hys hyl hcells
  go_enter Tryz.func97, Tryz.ntmps97
  go_wp2_with fail
  refine (size64 _).mono ?_
  rintro e w' ⟨rfl, rfl⟩
  go_wp2_with fail
  refine (next_ok base g gb cap at_ 8 bs w HR.out hn (by omega)).mono ?_
  rintro e w1 ⟨rfl, m, hw1⟩
  have hk : Hid (Rk w w1 base g gb cap bs (at_ + 8)) := by rw [hw1]; exact HR.out.step hn
  have HC1 : Hid (∀ i, i < 8 → w1.cell? ⟨gb, at_ + i, none⟩ = some (.int .u8 (ys.getD i 0))) := by
    intro i hi
    have := HC.out i hi
    exact keep_cell hk.out.keep this hgb
  clear hw1 HC
  go_wp2_with fail
  go_loop [3, 4, 5, 10] (fun v3 v4 v5 v10 => ∃ (k s : Nat), k ≤ 8 ∧ v10 = .int .i64 k ∧ v3 = .int .u64 s ∧ Hid ((s : Int) = lev (ys.take k))) (fun _ _ _ i => 8 - (intOf i).toNat)
  case atStart => exact ⟨0, 0, by omega, rfl, rfl, rfl⟩
  case round =>
    obtain ⟨k, s, hk, rfl, rfl, hs⟩ := hrel
    by_cases hlt : k < 8
    · have hky : k < ys.length := by rw [HYL.out]; exact hlt
      have hsl : (s : Int) < 2 ^ (8 * k) := by
        rw [hs.out]
        have := (lev_bounds (bs := ys.take k) (fun x hx => HYB.out x (List.mem_of_mem_take hx))).2
        rwa [List.length_take, Nat.min_eq_left (by omega)] at this
      have hsN : s < 2 ^ (8 * k) := by exact_mod_cast hsl
      obtain ⟨b, hb0, hb⟩ : ∃ b : Nat, b < 256 ∧ Hid ((b : Int) = ys.getD k 0) := by
        have h := HYB.out (ys.getD k 0) (by rw [List.getD_eq_getElem?_getD, List.getElem?_eq_getElem hky]; exact List.getElem_mem hky)
        exact ⟨(ys.getD k 0).toNat, by omega, by show (((ys.getD k 0).toNat : Nat) : Int) = _; omega⟩
      have hc0 : w1.cell? ⟨gb, at_ + k, none⟩ = some (.int .u8 b) := by rw [hb.out]; exact HC1.out k hlt
      have h8 : IntKind.i64.wrap (8 * (k : Int)) = 8 * k := IntWalk.i64_in _ (by omega)
      obtain ⟨hi, hhi⟩ : ∃ hi : Nat, hi = b * 2 ^ (8 * k) := ⟨_, rfl⟩
      have e1 : IntKind.u64.wrap ((b : Int) * 2 ^ (8 * (k : Int)).toNat) = hi := by rw [hhi]; exact shl_u64 b k hb0 (by omega)
      obtain ⟨s2, hs2⟩ : ∃ s2 : Nat, s2 = s + hi := ⟨_, rfl⟩
      have e2 : bits .or .u64 (s : Int) (hi : Int) = s2 := by rw [hs2, hhi]; exact or_u64 s b k hsN hb0 (by omega)
      have hfin : Hid ((s2 : Int) = lev (ys.take (k + 1))) := by
        show (s2 : Int) = _
        rw [List.take_succ_eq_append_getElem hky, lev_snoc, ← hs.out, List.length_take, Nat.min_eq_left (by omega), hs2, hhi]
        have : (b : Int) = ys[k] := by
          have := hb.out
          rw [List.getD_eq_getElem?_getD, List.getElem?_eq_getElem hky] at this
          simpa using this
        rw [← this]; simp
      clear hhi hs2 hsl hsN hky
      go_wp2
      go_round
      case rel => exact ⟨k + 1, s2, by omega, by go_num, rfl, hfin⟩
      case measure => simp [intOf]; omega
    · obtain rfl : k = 8 := by omega
      have e6 : Hid ((s : Int) = lev ys) := by
        show (s : Int) = _
        rw [hs.out, List.take_of_length_le (by rw [HYL.out]; omega)]
      go_wp2
      go_ret
      rw [← e6.out]
      exact ⟨rfl, ‹Hid (Rk _ _ _ _ _ _ _ _)›.out⟩
set_option maxHeartbeats 400000 in
theorem get8 (base g gb cap at_ : Nat) (bs : List Int) (w : World) (hr : Rd w base g gb cap bs at_) (hn : at_ + 1 ≤ bs.length) (hb : Crc.Bytes bs) :
    Calls Tryz.prog 98 #[.pointer (some ⟨g, 0, none⟩)] w fun e w' => e = .returned (.int .u8 (lev ((bs.drop at_).take 1))) ∧ Rk w w' base g gb cap bs (at_ + 1) := by
  have HR := Lib.hid hr
  have HB := Lib.hid hb
  obtain ⟨ys, hys⟩ : ∃ ys, ys = (bs.drop at_).take 1 := ⟨_, rfl⟩
  have HY : Hid (ys = (bs.drop at_).take 1) := hys
  have hyl : ys.length = 1 := by rw [hys, List.length_take, List.length_drop]; omega
  have HYB : Hid (Crc.Bytes ys) := by rw [hys]; exact bytes_cut hb _ _
  have HYL := Lib.hid hyl
  have hcells : ∀ i, i < 1 → w.cell? ⟨gb, at_ + i, none⟩ = some (.int .u8 (ys.getD i 0)) := by
    intro i hi
    rw [hr.byte (at_ + i) (by omega), hys]
    simp [List.getD_eq_getElem?_getD, List.getElem?_take, hi, List.getElem?_drop]
  have hgb : gb ≠ g := by
    rintro rfl
    exact own_ne_cells hr.own hr.cells (by decide) rfl
  have HC : Hid (∀ i, i < 1 → w.cell? ⟨gb, at_ + i, none⟩ = some (.int .u8 (ys.getD i 0))) := hcells
  have HT := Lib.hid (hr.step (m := 0) hn)
  rw [← hys]
  clear hr hb hys hyl hcells
  go_enter Tryz.func98, Tryz.ntmps98
  go_wp2_with fail
  refine (size8 _).mono ?_
  rintro e w' ⟨rfl, rfl⟩
  go_wp2_with fail
  refine (next_ok base g gb cap at_ 1 bs w HR.out hn (by omega)).mono ?_
  rintro e w1 ⟨rfl, m, hw1⟩
  have hk : Hid (Rk w w1 base g gb cap bs (at_ + 1)) := by rw [hw1]; exact HR.out.step hn
  have HC1 : Hid (∀ i, i < 1 → w1.cell? ⟨gb, at_ + i, none⟩ = some (.int .u8 (ys.getD i 0))) := by
    intro i hi
    have := HC.out i hi
    exact keep_cell hk.out.keep this hgb
  clear hw1 HC
  go_wp2_with fail
  go_loop [3, 4, 5, 10] (fun v3 v4 v5 v10 => ∃ (k s : Nat), k ≤ 1 ∧ v10 = .int .i64 k ∧ v3 = .int .u64 s ∧ Hid ((s : Int) = lev (ys.take k))) (fun _ _ _ i => 1 - (intOf i).toNat)
  case atStart => exact ⟨0, 0, by omega, rfl, rfl, rfl⟩
  case round =>
    obtain ⟨k, s, hk, rfl, rfl, hs⟩ := hrel
    by_cases hlt : k < 1
    · have hky : k < ys.length := by rw [HYL.out]; exact hlt
      have hsl : (s : Int) < 2 ^ (8 * k) := by
        rw [hs.out]
        have := (lev_bounds (bs := ys.take k) (fun x hx => HYB.out x (List.mem_of_mem_take hx))).2
        rwa [List.length_take, Nat.min_eq_left (by omega)] at this
      have hsN : s < 2 ^ (8 * k) := by exact_mod_cast hsl
      obtain ⟨b, hb0, hb⟩ : ∃ b : Nat, b < 256 ∧ Hid ((b : Int) = ys.getD k 0) := by
        have h := HYB.out (ys.getD k 0) (by rw [List.getD_eq_getElem?_getD, List.getElem?_eq_getElem hky]; exact List.getElem_mem hky)
        exact ⟨(ys.getD k 0).toNat, by omega, by show (((ys.getD k 0).toNat : Nat) : Int) = _; omega⟩
      have hc0 : w1.cell? ⟨gb, at_ + k, none⟩ = some (.int .u8 b) := by rw [hb.out]; exact HC1.out k hlt
      have h8 : IntKind.i64.wrap (8 * (k : Int)) = 8 * k := IntWalk.i64_in _ (by omega)
      obtain ⟨hi, hhi⟩ : ∃ hi : Nat, hi = b * 2 ^ (8 * k) := ⟨_, rfl⟩
      have e1 : IntKind.u64.wrap ((b : Int) * 2 ^ (8 * (k : Int)).toNat) = hi := by rw [hhi]; exact shl_u64 b k hb0 (by omega)
      obtain ⟨s2, hs2⟩ : ∃ s2 : Nat, s2 = s + hi := ⟨_, rfl⟩
      have e2 : bits .or .u64 (s : Int) (hi : Int) = s2 := by rw [hs2, hhi]; exact or_u64 s b k hsN hb0 (by omega)
      have hfin : Hid ((s2 : Int) = lev (ys.take (k + 1))) := by
        show (s2 : Int) = _
        rw [List.take_succ_eq_append_getElem hky, lev_snoc, ← hs.out, List.length_take, Nat.min_eq_left (by omega), hs2, hhi]
        have : (b : Int) = ys[k] := by
          have := hb.out
          rw [List.getD_eq_getElem?_getD, List.getElem?_eq_getElem hky] at this
          simpa using this
        rw [← this]; simp
      clear hhi hs2 hsl hsN hky
      go_wp2
      go_round
      case rel => exact ⟨k + 1, s2, by omega, by go_num, rfl, hfin⟩
      case measure => simp [intOf]; omega
    · obtain rfl : k = 1 := by omega
      have hlev := lev_bounds HYB.out
      have e6 : IntKind.u8.wrap (s : Int) = lev ys := by
        rw [IntKind.wrap_u8, hs.out, List.take_of_length_le (by rw [HYL.out]; omega)]
        rw [HYL.out] at hlev
        omega
      clear hlev
      go_wp2
      go_ret
      exact ⟨rfl, ‹Hid (Rk _ _ _ _ _ _ _ _)›.out⟩
end Go.Proofs.YtohighedgdlflaaGreatDoor

/- NewReader and the Reader's methods that a trace uses. -/
namespace Go.Proofs.YtohighedgdlflaaGreatDoor
open Go.RowKit Go.Proofs.YtohighedgdlflaaGreatDoorW.PrintWords Go.Proofs.YtohighedgdlflaaGreatDoor.PR
set_option linter.unusedVariables false
set_option linter.unusedSimpArgs false
theorem word_r (base g gb cap at_ : Nat) (bs : List Int) (w : World) (hr : Rd w base g gb cap bs at_) (hn : at_ + 4 ≤ bs.length) (hb : Crc.Bytes bs) :
    Calls Tryz.prog 44 #[.pointer (some ⟨g, 0, none⟩)] w fun e w' => e = .returned (.int .u32 (lev ((bs.drop at_).take 4))) ∧ Rk w w' base g gb cap bs (at_ + 4) := by
  go_enter Tryz.func44, Tryz.ntmps44
  go_wp2_with fail
  refine (get32 base g gb cap at_ bs w hr hn hb).mono ?_
  rintro e w' ⟨rfl, h⟩
  go_wp2_with fail
  go_ret
  exact ⟨rfl, h⟩
theorem long_r (base g gb cap at_ : Nat) (bs : List Int) (w : World) (hr : Rd w base g gb cap bs at_) (hn : at_ + 8 ≤ bs.length) (hb : Crc.Bytes bs) :
    Calls Tryz.prog 47 #[.pointer (some ⟨g, 0, none⟩)] w fun e w' => e = .returned (.int .u64 (lev ((bs.drop at_).take 8))) ∧ Rk w w' base g gb cap bs (at_ + 8) := by
  go_enter Tryz.func47, Tryz.ntmps47
  go_wp2_with fail
  refine (get64 base g gb cap at_ bs w hr hn hb).mono ?_
  rintro e w' ⟨rfl, h⟩
  go_wp2_with fail
  go_ret
  exact ⟨rfl, h⟩
theorem byte_r (base g gb cap at_ : Nat) (bs : List Int) (w : World) (hr : Rd w base g gb cap bs at_) (hn : at_ + 1 ≤ bs.length) (hb : Crc.Bytes bs) :
    Calls Tryz.prog 48 #[.pointer (some ⟨g, 0, none⟩)] w fun e w' => e = .returned (.int .u8 (lev ((bs.drop at_).take 1))) ∧ Rk w w' base g gb cap bs (at_ + 1) := by
  go_enter Tryz.func48, Tryz.ntmps48
  go_wp2_with fail
  refine (get8 base g gb cap at_ bs w hr hn hb).mono ?_
  rintro e w' ⟨rfl, h⟩
  go_wp2_with fail
  go_ret
  exact ⟨rfl, h⟩
theorem at_r (base g gb cap at_ : Nat) (bs : List Int) (w : World) (hr : Rd w base g gb cap bs at_) :
    Calls Tryz.prog 46 #[.pointer (some ⟨g, 0, none⟩)] w fun e w' => e = .returned (.int .i64 at_) ∧ w = w' := by
  have h1 : w.cell? ⟨g, 1, none⟩ = some (.int .i64 at_) := by simp [World.cell?, hr.cells]
  clear hr
  go_enter Tryz.func46, Tryz.ntmps46
  go_wp2
  go_ret
  exact ⟨rfl, rfl⟩
set_option maxHeartbeats 400000 in
theorem newReader_ok (bs : List Int) (A : Option Addr) (c : Nat) (w : World) (hR : Kd.C (Kd.int .u8) w A bs.length bs) (h0 : 0 < bs.length) (hl : bs.length ≤ 67108864) :
    Calls Tryz.prog 42 #[.slice A bs.length c] w fun e w' => ∃ g gb cap, e = .returned (.pointer (some ⟨g, 0, none⟩)) ∧ Rd w' w.heap.size g gb cap bs 0 ∧ Below w.heap.size w w' := by
  have HR := Lib.hid hR
  have HL := Lib.hid hl
  clear hR
  go_enter Tryz.func42, Tryz.ntmps42
  go_wp2_with (at_builtin; refine print_append_row (w0 := w) w.heap.size rfl (.const (.slice none 0 0)) (.tmp 3) 37 5 .u8 1 rfl Tryz.underlying37 info5 (by decide) (.slice none 0 0) [] bs A bs.length c rfl rfl (own_nil _ _ _ _) (C_reads HR.out) (Below.refl _ _) (Nat.le_refl _) (by simp; omega) ?_; intro v1 w1 hown hb1 hg1 hat; have Hown := Lib.hid hown; have Hb1 := Lib.hid hb1; clear hown hb1 hg1 hat; obtain ⟨gb, cap, hv, hgb⟩ : ∃ gb cap, v1 = .slice (some ⟨gb, 0, none⟩) bs.length cap ∧ w.heap.size ≤ gb := (by obtain ⟨g1, cap1, h, h2, _⟩ := Hown.out.form (by simpa using h0); exact ⟨g1, cap1, by simpa using h, h2⟩); subst hv)
  go_ret
  refine ⟨w1.heap.size, gb, cap, rfl, ⟨Hb1.out.size, hgb, Nat.zero_le _, HL.out, heap_alloc_new w1 _, ?_⟩, Hb1.out.alloc Hb1.out.size _⟩
  exact pw_own_below (by simpa using Hown.out) (below_alloc (Below.refl _ _) _)
set_option maxHeartbeats 400000 in
theorem rawr_ok (base g gb cap at_ n : Nat) (bs : List Int) (w : World) (hr : Rd w base g gb cap bs at_) (hn : at_ + n ≤ bs.length) (h0 : 0 < n) :
    Calls Tryz.prog 43 #[.pointer (some ⟨g, 0, none⟩), .int .i64 n] w fun e w' => ∃ v, e = .returned v ∧ Rk w w' base g gb cap bs (at_ + n) := by
  have HR := Lib.hid hr
  have hs := hr.small
  obtain ⟨hc1, hc2⟩ := hr.cap_le
  clear hr
  go_enter Tryz.func43, Tryz.ntmps43
  go_wp2_with fail
  refine (next_ok base g gb cap at_ n bs w HR.out hn h0).mono ?_
  rintro e w1 ⟨rfl, m, hw1⟩
  have hk : Hid (Rk w w1 base g gb cap bs (at_ + n)) := by rw [hw1]; exact HR.out.step hn
  clear hw1
  have HC : Hid (ReadsInt w1 .u8 (some ⟨gb, at_, none⟩) n ((bs.drop at_).take n)) := by
    refine ⟨by rw [List.length_take, List.length_drop]; omega, by omega, fun _ => ⟨_, rfl, fun j hj => ?_⟩⟩
    have := hk.out.rd.byte (at_ + j) (by omega)
    have e : (⟨gb, at_, none⟩ : Addr).add j = ⟨gb, at_ + j, none⟩ := by unfold Addr.add; split <;> simp_all
    rw [e, this]
    simp [List.getD_eq_getElem?_getD, List.getElem?_take, hj, List.getElem?_drop]
  go_wp2_with (at_builtin; refine print_append_row (w0 := w1) w1.heap.size rfl (.const (.slice none 0 0)) (.tmp 15) 37 5 .u8 1 rfl Tryz.underlying37 info5 (by decide) (.slice none 0 0) [] ((bs.drop at_).take n) (some ⟨gb, at_, none⟩) n (cap - at_) rfl rfl (own_nil _ _ _ _) HC.out (Below.refl _ _) (Nat.le_refl _) (by simp; omega) ?_; intro v1 w2 hown hb1 hg1 hat; have Hb1 := Lib.hid hb1; clear hown hb1 hg1 hat)
  go_ret
  refine ⟨v1, rfl, ?_⟩
  have hb := Hb1.out
  have hk := hk.out
  obtain ⟨⟨a1, a2, a3, a4, a5, a6⟩, k2, k3⟩ := hk
  exact ⟨⟨a1, a2, a3, a4, (hb.block g (heap_lt a5)).trans a5, pw_own_below a6 hb⟩, ⟨Nat.le_trans k2.1 hb.size, fun i hi hg hr => (hb.block i (Nat.lt_of_lt_of_le hi k2.1)).trans (k2.2 i hi hg hr)⟩, fun B w0 hB hb0 => (k3 B w0 hB hb0).trans (hb.mono (by have := heap_lt a5; omega))⟩
end Go.Proofs.YtohighedgdlflaaGreatDoor

/- A Reader that has too few bytes for a number gives 0. -/
namespace Go.Proofs.YtohighedgdlflaaGreatDoor
open Go.RowKit Go.Proofs.YtohighedgdlflaaGreatDoorW.PrintWords Go.Proofs.YtohighedgdlflaaGreatDoor.PR
set_option linter.unusedVariables false
set_option linter.unusedSimpArgs false
def LowKept (w w' : World) (g : Nat) : Prop := ∀ (B : Nat) (w0 : World), B ≤ g → Below B w0 w → Below B w0 w'
theorem failr (g : Nat) (e0 wh : Int) (w : World) (h2 : ∃ v, w.cell? ⟨g, 2, none⟩ = some v) (h3 : w.cell? ⟨g, 3, none⟩ = some (.int .i64 0)) (f2 : w.frozen? ⟨g, 2, none⟩ = false) (f3 : w.frozen? ⟨g, 3, none⟩ = false) :
    Calls Tryz.prog 94 #[.pointer (some ⟨g, 0, none⟩), .int .i64 e0, .int .i64 wh] w fun e w' => e = .returned (.tuple #[]) ∧ w' = (w.setCell ⟨g, 3, none⟩ (.int .i64 e0)).setCell ⟨g, 2, none⟩ (.int .i64 wh) := by
  obtain ⟨v, h2⟩ := h2
  have h2' : (w.setCell ⟨g, 3, none⟩ (.int .i64 e0)).cell? ⟨g, 2, none⟩ = some v := by rw [World.cell?_setCell_other _ _ _ _ (by simp)]; exact h2
  go_enter Tryz.func94, Tryz.ntmps94
  go_wp2
  go_end0
  exact ⟨rfl, rfl⟩
set_option maxHeartbeats 400000 in
theorem next_short (base g gb cap at_ n : Nat) (bs : List Int) (w : World) (hr : Rd w base g gb cap bs at_) (hn : bs.length < at_ + n) (hn2 : n ≤ 8) :
    Calls Tryz.prog 95 #[.pointer (some ⟨g, 0, none⟩), .int .i64 n] w fun e w' => e = .returned (.slice none 0 0) ∧ LowKept w w' g := by
  have h0 : w.cell? ⟨g, 0, none⟩ = some (.slice (some ⟨gb, 0, none⟩) bs.length cap) := by simp [World.cell?, hr.cells]
  have h1 : w.cell? ⟨g, 1, none⟩ = some (.int .i64 at_) := by simp [World.cell?, hr.cells]
  have h2 : w.cell? ⟨g, 2, none⟩ = some (.int .i64 0) := by simp [World.cell?, hr.cells]
  have h3 : w.cell? ⟨g, 3, none⟩ = some (.int .i64 0) := by simp [World.cell?, hr.cells]
  have f2 : w.frozen? ⟨g, 2, none⟩ = false := by simp [World.frozen?, hr.cells]
  have f3 : w.frozen? ⟨g, 3, none⟩ = false := by simp [World.frozen?, hr.cells]
  have hs := hr.small
  have hle := hr.le
  clear hr
  go_enter Tryz.func95, Tryz.ntmps95
  go_wp2_with fail
  go_quiet (fail)
  go_wp2_with fail
  refine (failr g 11 at_ (w.drewN nq) ⟨_, by exact h2⟩ (by exact h3) (by exact f2) (by exact f3)).mono ?_
  rintro e w1 ⟨rfl, hw1⟩
  have h3' : w1.cell? ⟨g, 3, none⟩ = some (.int .i64 11) := by
    rw [hw1, World.cell?_setCell_other _ _ _ _ (by simp)]
    exact World.cell?_setCell_same' _ _ _ (by show (w.cell? ⟨g, 3, none⟩).isSome = true; rw [h3]; rfl)
  have hb : Hid (LowKept w w1 g) := by
    intro B w0 hB hb
    rw [hw1]
    exact ((pw_below_drewN hb _).setCell (p := ⟨g, 3, none⟩) hB _).setCell (p := ⟨g, 2, none⟩) hB _
  clear hw1
  go_wp2_with fail
  go_ret
  exact ⟨rfl, hb.out⟩
set_option maxHeartbeats 400000 in
theorem word_short (base g gb cap at_ : Nat) (bs : List Int) (w : World) (hr : Rd w base g gb cap bs at_) (hn : bs.length < at_ + 4) :
    Calls Tryz.prog 44 #[.pointer (some ⟨g, 0, none⟩)] w fun e w' => e = .returned (.int .u32 0) ∧ LowKept w w' g := by
  go_enter Tryz.func44, Tryz.ntmps44
  go_wp2_with fail
  go_in
  go_wp2_with fail
  refine (size32 _).mono ?_
  rintro e w' ⟨rfl, rfl⟩
  go_wp2_with fail
  refine (next_short base g gb cap at_ 4 bs w hr hn (by omega)).mono ?_
  rintro e w1 ⟨rfl, hb⟩
  have Hb := Lib.hid hb
  clear hb
  go_wp2_with fail
  refine wp_loop_rounds 1 ?_
  rw [rounds_succ]
  go_wp2_with fail
  go_ret
  exact ⟨rfl, Hb.out⟩
end Go.Proofs.YtohighedgdlflaaGreatDoor

/- trace.Decode answers as decode says. -/
namespace Go.Proofs.YtohighedgdlflaaGreatDoor
open Go.RowKit Go.Proofs.YtohighedgdlflaaGreatDoorW.PrintWords Go.Proofs.YtohighedgdlflaaGreatDoor.PR
set_option linter.unusedVariables false
set_option linter.unusedSimpArgs false
/-- The three results for an answer. -/
def DecR (w : World) (r : List S35 × Int) (e : Ending) (w' : World) : Prop :=
  ∃ v, e = .returned (.tuple #[v, .int .i64 (if r.2 < 0 then 0 else 221), .int .i64 (if r.2 < 0 then 0 else r.2)]) ∧ Kd.R k35 35 w' w.heap.size (fun _ => True) v r.1 ∧ Below w.heap.size w w'
theorem DecR.bad {w W : World} {p : Int} (hp : 0 ≤ p) (h : Below w.heap.size w W) : DecR w ([], p) (.returned (.tuple #[.slice none 0 0, .int .i64 221, .int .i64 p])) W :=
  ⟨.slice none 0 0, by simp [show ¬ p < 0 by omega], Kd.R_nil _ _ _ _ _, h⟩
theorem Rd.below {w W : World} {base g gb cap at_ : Nat} {bs : List Int} (h : Rd w base g gb cap bs at_) (hb : Below w.heap.size w W) : Rd W base g gb cap bs at_ :=
  ⟨h.base_g, h.base_gb, h.le, h.small, (hb.block g (heap_lt h.cells)).trans h.cells, pw_own_below h.own hb⟩
theorem Rd.gb_lt {w : World} {base g gb cap at_ : Nat} {bs : List Int} (h : Rd w base g gb cap bs at_) : gb < w.heap.size := own_lt h.own gb rfl
theorem Rd.keep {w W : World} {base g gb cap at_ g2 : Nat} {bs : List Int} (h : Rd w base g gb cap bs at_) (hk : KeepBut w W g2 none) (h1 : g ≠ g2) (h2 : gb ≠ g2) : Rd W base g gb cap bs at_ :=
  ⟨h.base_g, h.base_gb, h.le, h.small, (hk.2 g (heap_lt h.cells) h1 (by simp)).trans h.cells, own_move h.own (fun k hkk => by
    have : gb = k := by simpa [Value.ownBlock] using hkk
    subst this
    exact hk.2 gb h.gb_lt h2 (by simp))⟩
theorem Rd.grown {w W : World} {base g gb cap at_ b2 : Nat} {bs : List Int} {ok : Nat → Prop} {v : Value} {xs : List S35} (h : Rd w base g gb cap bs at_) (ho : Kd.R k35 35 w b2 ok v xs) (hg : w.grownBy W v.ownBlock) : Rd W base g gb cap bs at_ := by
  have n1 : some g ≠ v.ownBlock := Kd.R_ne ho h.cells (by decide)
  have n2 : some gb ≠ v.ownBlock := by
    obtain ⟨cs, hc⟩ := own_typed h.own gb rfl
    exact Kd.R_ne ho hc (by decide)
  exact ⟨h.base_g, h.base_gb, h.le, h.small, (hg.block g (heap_lt h.cells) n1).trans h.cells, own_move h.own (fun k hkk => by
    have : gb = k := by simpa [Value.ownBlock] using hkk
    subst this
    exact hg.block gb h.gb_lt n2)⟩
/-- A row of the call's own beside a reader that is read from. -/
theorem R_rk {w W : World} {base g gb cap at_ b2 : Nat} {bs : List Int} {ok : Nat → Prop} {v : Value} {xs : List S35} {bs2 : List Int} {at2 : Nat} (ho : Kd.R k35 35 w b2 ok v xs) (h : Rd w base g gb cap bs at_) (hk : Rk w W base g gb cap bs2 at2) : Kd.R k35 35 W b2 ok v xs := by
  have h1 := Kd.R_types ho h.cells (by intro q hq; have : q = 35 := by simpa [k35, Kd.iso, Kd.pair, Kd.int, Kd.scalar] using hq
                                       omega)
  exact Kd.R_mono (Kd.R_keep h1 hk.keep (fun k hk => hk.2)) (fun _ hk => hk.1)
theorem lev1_b {bs : List Int} (h : Crc.Bytes bs) (p : Nat) : 0 ≤ lev ((bs.drop p).take 1) ∧ lev ((bs.drop p).take 1) < 256 := by
  have := lev_bounds (bytes_cut h p 1)
  have hl : ((bs.drop p).take 1).length ≤ 1 := List.length_take_le _ _
  refine ⟨this.1, Int.lt_of_lt_of_le this.2 ?_⟩
  calc (2 : Int) ^ (8 * ((bs.drop p).take 1).length) ≤ 2 ^ 8 := by
        have : (2 : Nat) ^ (8 * ((bs.drop p).take 1).length) ≤ 2 ^ 8 := Nat.pow_le_pow_right (by omega) (by omega)
        exact_mod_cast this
    _ = 256 := by decide
theorem lev4_b {bs : List Int} (h : Crc.Bytes bs) (p : Nat) : 0 ≤ lev ((bs.drop p).take 4) ∧ lev ((bs.drop p).take 4) < 4294967296 := by
  have := lev_bounds (bytes_cut h p 4)
  have hl : ((bs.drop p).take 4).length ≤ 4 := List.length_take_le _ _
  refine ⟨this.1, Int.lt_of_lt_of_le this.2 ?_⟩
  calc (2 : Int) ^ (8 * ((bs.drop p).take 4).length) ≤ 2 ^ 32 := by
        have : (2 : Nat) ^ (8 * ((bs.drop p).take 4).length) ≤ 2 ^ 32 := Nat.pow_le_pow_right (by omega) (by omega)
        exact_mod_cast this
    _ = 4294967296 := by decide
set_option maxRecDepth 100000 in
set_option maxHeartbeats 2000000 in
theorem decode_ok (bs : List Int) (A : Option Addr) (c : Nat) (w : World) (hT : WTab w) (hR : Kd.C (Kd.int .u8) w A bs.length bs) (hc : bs.length ≤ c) (hl : bs.length ≤ 67108864) (hb : Crc.Bytes bs) :
    Calls Tryz.prog 16 #[.slice A bs.length c] w (DecR w (decode bs)) := by
  have HR := Lib.hid hR
  have HT := Lib.hid hT
  have HB := Lib.hid hb
  clear hR hT hb
  have kc := fun (w : World) (C : Array Value) (n c : Nat) => Lib.run_convert_bytes_const (P := Tryz.prog) w 37 5 C n c Tryz.underlying37 Tryz.underlying5
  go_enter Tryz.func16, Tryz.ntmps16
  go_wp2_with fail
  have hbW : Hid (Below w.heap.size w (w.alloc (.cells #[.int .u8 67, .int .u8 76, .int .u8 84, .int .u8 82] 5 (4, 5)))) := below_alloc (Below.refl _ _) _
  have hmag : Hid (∀ k, k < 4 → (w.alloc (.cells #[.int .u8 67, .int .u8 76, .int .u8 84, .int .u8 82] 5 (4, 5))).cell? ⟨w.heap.size, k, none⟩ = some (.int .u8 (magicL.getD k 0))) := by
    intro k hk
    simp only [World.cell?, heap_alloc_new]
    match k, hk with
    | 0, _ => rfl
    | 1, _ => rfl
    | 2, _ => rfl
    | 3, _ => rfl
  generalize w.alloc (.cells #[.int .u8 67, .int .u8 76, .int .u8 84, .int .u8 82] 5 (4, 5)) = W at *
  go_loop [5, 6, 16] (fun v5 v6 v16 => ∃ k : Nat, k ≤ 4 ∧ v16 = .int .i64 k ∧ Hid (∀ i, i < k → badMagic bs i = false)) (fun _ _ i => 4 - (intOf i).toNat)
  case atStart => exact ⟨0, by omega, rfl, fun i hi => by omega⟩
  case round =>
    obtain ⟨k, hk, rfl, hg⟩ := hrel
    by_cases hlt : k < 4
    · obtain ⟨m, hm⟩ : ∃ m, m = magicL.getD k 0 := ⟨_, rfl⟩
      have hm0 : W.cell? ⟨w.heap.size, k, none⟩ = some (.int .u8 m) := by rw [hm]; exact hmag.out k hlt
      by_cases hin : bs.length ≤ k
      · have hbad : Hid (decode bs = ([], (k : Int))) := decode_bad hg.out (badMagic_len hlt hin) hlt
        have hin' : ¬ (k : Int) < bs.length := by omega
        clear hm
        go_wp2
        refine bodyPost_ret (results_tmp3 rfl _ _ _) rfl ?_
        rw [hbad.out]
        exact DecR.bad (by omega) hbW.out
      · have hin2 : k < bs.length := by omega
        obtain ⟨b, hb⟩ : ∃ b, b = bs.getD k 0 := ⟨_, rfl⟩
        obtain ⟨ad, rfl, hcs⟩ := (C_reads (Kd.C_below HR.out hbW.out)).2.2 (by omega)
        have hc0 : W.cell? (ad.add k) = some (.int .u8 b) := by rw [hb]; exact hcs k hin2
        clear hcs
        by_cases hne : b = m
        · have hgood : Hid (∀ i, i < k + 1 → badMagic bs i = false) := by
            intro i hi
            by_cases e : i = k
            · subst e; rw [badMagic_at hin2, ← hb, ← hm, hne]; simp
            · exact hg.out i (by omega)
          subst hne
          clear hb hm
          go_wp2
          go_round
          case rel => exact ⟨k + 1, by omega, by go_num, hgood⟩
          case measure => simp [intOf]; omega
        · have hbad : Hid (decode bs = ([], (k : Int))) := decode_bad hg.out (by rw [badMagic_at hin2, ← hb, ← hm]; simpa using hne) hlt
          have hne' : (b != m) = true := by simpa using hne
          clear hb hm
          go_wp2
          refine bodyPost_ret (results_tmp3 rfl _ _ _) rfl ?_
          rw [hbad.out]
          exact DecR.bad (by omega) hbW.out
    · obtain rfl : k = 4 := by omega
      have hlen : 4 ≤ bs.length := by
        rcases Nat.lt_or_ge 3 bs.length with h | h
        · exact h
        · have := hg.out 3 (by omega); rw [badMagic_len (by omega) h] at this; cases this
      have hd : Hid (decode bs = decBody bs) := decode_good hg.out
      clear hmag hg kc
      go_wp2_with fail
      refine (newReader_ok bs A c W (Kd.C_below HR.out hbW.out) (by omega) hl).mono ?_
      rintro e w1 ⟨g, gb, cap, rfl, hr1, hb1⟩
      have hws := hbW.out.size
      have HG : w.heap.size ≤ g := Nat.le_trans hws hr1.base_g
      have HB1 : Hid (Below w.heap.size w w1) := hbW.out.trans (hb1.mono hws)
      have HR1 := Lib.hid hr1
      clear hr1 hb1 hbW
      go_wp2_with fail
      refine (rawr_ok _ g gb cap 0 4 bs w1 HR1.out (by omega) (by omega)).mono ?_
      rintro e w2 ⟨v2, rfl, hk2⟩
      have HR2 := Lib.hid hk2.rd
      have HB2 : Hid (Below w.heap.size w w2) := hk2.below _ _ HG HB1.out
      clear hk2 HR1 HB1
      go_wp2_with fail
      by_cases h8 : bs.length < 8
      · refine (word_short _ g gb cap _ bs w2 HR2.out (by omega)).mono ?_
        rintro e w3 ⟨rfl, hk3⟩
        have HB3 : Hid (Below w.heap.size w w3) := hk3 _ _ HG HB2.out
        clear hk3
        have h12 : (bs.length : Int) < 12 := by omega
        have hbad : Hid (decode bs = ([], 4)) := by
          show decode bs = _
          rw [hd.out]; unfold decBody; rw [if_pos (by omega)]
        go_wp2_with fail
        refine bodyPost_ret (results_tmp3 rfl _ _ _) rfl ?_
        rw [hbad.out]
        exact DecR.bad (by omega) HB3.out
      · refine (word_r _ g gb cap _ bs w2 HR2.out (by omega) HB.out).mono ?_
        rintro e w3 ⟨rfl, hk3⟩
        have HR3 := Lib.hid hk3.rd
        have HB3 : Hid (Below w.heap.size w w3) := hk3.below _ _ HG HB2.out
        clear hk3 HR2 HB2
        obtain ⟨n, hn⟩ : ∃ n, n = lev ((bs.drop 4).take 4) := ⟨_, rfl⟩
        have hnb : 0 ≤ n ∧ n < 4294967296 := by
          have := lev_bounds (bytes_cut HB.out 4 4)
          rw [hn]
          rw [List.length_take, List.length_drop, show min 4 (bs.length - 4) = 4 by omega] at this
          omega
        obtain ⟨hn0, hn1⟩ := hnb
        have Hn := Lib.hid hn
        rw [show 0 + 4 = 4 from rfl, ← hn]
        clear hn
        by_cases h12 : bs.length < 12
        · have hbad : Hid (decode bs = ([], 4)) := by
            show decode bs = _
            rw [hd.out]; unfold decBody; rw [if_pos h12]
          have h12' : (bs.length : Int) < 12 := by omega
          go_wp2_with fail
          refine bodyPost_ret (results_tmp3 rfl _ _ _) rfl ?_
          rw [hbad.out]
          exact DecR.bad (by omega) HB3.out
        · have h12' : ¬ (bs.length : Int) < 12 := by omega
          by_cases heq : (bs.length : Int) = 12 + 22 * n
          · have heq' : ((bs.length : Int) != 12 + 22 * n) = false := by simpa using heq
            have Heq := Lib.hid heq
            clear heq
            by_cases hbig : 1000000 < n
            · have hbad : Hid (decode bs = ([], 4)) := by
                show decode bs = _
                rw [hd.out]; unfold decBody; rw [if_neg h12, if_pos (by rw [← Hn.out]; exact .inr hbig)]
              go_wp2_with fail
              refine bodyPost_ret (results_tmp3 rfl _ _ _) rfl ?_
              rw [hbad.out]
              exact DecR.bad (by omega) HB3.out
            · have hbig' : n ≤ 1000000 := by omega
              go_wp2_with fail
              obtain ⟨m, hm⟩ : ∃ m, m = bs.length - 4 := ⟨_, rfl⟩
              have hm4 : bs.length = m + 4 := by omega
              obtain ⟨ys, hys⟩ : ∃ ys, ys = bs.drop m := ⟨_, rfl⟩
              have hyl : ys.length = bs.length - m := by rw [hys, List.length_drop]
              have hCy := Kd.C_drop (Kd.C_below HR.out HB3.out) (m := m) (by omega) hc
              rw [if_neg (by omega), ← hys] at hCy
              have HYB : Hid (Crc.Bytes ys) := by rw [hys]; exact fun x hx => HB.out x (List.mem_of_mem_drop hx)
              have hnr := newReader_ok ys (A.map (·.add (m * 1))) (c - m) w3 hCy (by omega) (by omega)
              rw [hyl] at hnr
              simp only [Nat.mul_one] at hnr
              rw [← hm]
              refine hnr.mono ?_
              clear hnr hCy
              rintro e w4 ⟨g2, gb2, cap2, rfl, hr4, hb4⟩
              have HR4 := Lib.hid hr4
              have HRm := Lib.hid (HR3.out.below hb4)
              have hws3 := HB3.out.size
              have HB4 : Hid (Below w.heap.size w w4) := HB3.out.trans (hb4.mono hws3)
              have HN : Hid (g ≠ g2 ∧ gb ≠ g2 ∧ w.heap.size ≤ g2) := by
                have h1 := hr4.base_g; have h2 := heap_lt HR3.out.cells; have h3 := HR3.out.gb_lt
                exact ⟨by omega, by omega, by omega⟩
              clear hr4 hb4 HR3
              have Hys := Lib.hid hys
              have Hyl := Lib.hid hyl
              have Hm := Lib.hid hm
              have Hm4 := Lib.hid hm4
              have hw4 : IntKind.i64.wrap ((bs.length : Int) - 4) = (bs.length : Int) - 4 := IntWalk.i64_in _ (by omega)
              have hsl37 : ∀ W : World, (Instr.slice 37 (.slice A bs.length c) none (some (.int .i64 ((bs.length : Int) - 4))) none).run Tryz.prog W = .ok (.slice A m c) W := by
                obtain ⟨i0, hi, _⟩ := Option.map_eq_some_iff.1 info5
                intro W
                have := cut_to (P := Tryz.prog) 37 5 .i64 Tryz.underlying37 hi A bs.length c ((bs.length : Int) - 4) (by omega) (by omega) hc W
                rw [this]; congr 2; omega
              clear hys hyl hm hm4
              have HTL : Hid ((bs.take m).length = m) := by show (bs.take m).length = m; rw [List.length_take]; have := Hm4.out; omega
              have HTB : Hid (Crc.Bytes (bs.take m)) := fun x hx => HB.out x (List.mem_of_mem_take hx)
              have HCT : Hid (∀ X, Below w.heap.size w X → Kd.C (Kd.int .u8) X A m (bs.take m)) := by
                intro X hX
                have := Kd.C_take (Kd.C_below HR.out hX) (m := m) (by have := Hm4.out; omega)
                rwa [HTL.out] at this
              go_upto_region 13 with (fail)
              go_cut [72] (fun v72 wc => ∃ b : Bool, v72 = .bool b ∧ Hid (b = (lev (ys.take 4) != Crc.crc (bs.take m))) ∧ Hid (Rd wc W.heap.size g gb cap bs 8) ∧ Hid (Below w.heap.size w wc))
              case first =>
                go_region_with (first | (go_at_call 44; refine (word_r _ g2 gb2 cap2 0 ys _ (HR4.out.below (by first | exact below_drew (Below.refl _ _) | exact below_drew (below_alloc (Below.refl _ _) _))) (by have := Hyl.out; have := Hm4.out; omega) HYB.out).mono ?_; rintro e w5 ⟨rfl, hk5⟩; have HK5 := Lib.hid hk5; have HB5 : Hid (Below w.heap.size w w5) := hk5.below _ _ HN.out.2.2 (by first | exact below_drew HB4.out | exact below_drew (HB4.out.alloc HB4.out.size _)); clear hk5) | (go_at_call 45; refine (sum_okn (bs.take m) m HTL.out A c _ _ _ (HT.out.below (by first | exact HB5.out | exact HB5.out.alloc HB5.out.size _)) (by first | (simp; done) | exact keep_cell HK5.out.keep (by simp) (by have := heap_lt HR4.out.cells; simp; omega)) (HCT.out _ (by first | exact HB5.out | exact HB5.out.alloc HB5.out.size _)) HTB.out).mono ?_; rintro e w6 ⟨rfl, rfl⟩))
                all_goals
                  go_wp2_with fail
                  go_meet
                  case rel =>
                    refine ⟨_, rfl, rfl, ?_, ?_⟩
                    · first
                      | exact ((HRm.out.below (below_drew (Below.refl _ _))).keep HK5.out.keep HN.out.1 HN.out.2.1).below (below_alloc (Below.refl _ _) _)
                      | exact (HRm.out.below (below_drew (below_alloc (Below.refl _ _) _))).keep HK5.out.keep HN.out.1 HN.out.2.1
                    · first
                      | exact HB5.out.alloc HB5.out.size _
                      | exact HB5.out
              case rest =>
                clear hsl37 hw4 HTL HTB HCT HRm HR4 HB4 HB3 hk hlt hws hws3 HN HYB
                obtain ⟨b, rfl, hb, HRc, HBc⟩ := hcut
                have hlt4 : ys.take 4 = (bs.drop (bs.length - 4)).take 4 := by rw [Hys.out, ← Hm.out]
                cases b with
                | true =>
                  have hbad : Hid (decode bs = ([], ((bs.length - 4 : Nat) : Int))) := by
                    show decode bs = _
                    rw [hd.out]; unfold decBody
                    rw [if_neg h12, if_neg (by rw [← Hn.out]; intro h; rcases h with h | h; exact h Heq.out; omega), if_pos (by rw [← hlt4, ← Hm.out]; have := hb.out.symm; simpa using this)]
                  have hcast : ((bs.length - 4 : Nat) : Int) = (bs.length : Int) - 4 := by omega
                  have Hc := Lib.hid hcast
                  clear hcast hlt4 hb
                  go_wp2_with fail
                  refine bodyPost_ret (results_tmp3 rfl _ _ _) rfl ?_
                  rw [hbad.out]
                  have := DecR.bad (w := w) (W := wc) (p := ((bs.length - 4 : Nat) : Int)) (by omega) HBc.out
                  rw [Hc.out] at this ⊢
                  exact this
                | false =>
                  have hgood : Hid (decode bs = decRows bs n.toNat 8 []) := by
                    show decode bs = _
                    rw [hd.out]; unfold decBody
                    rw [if_neg h12, if_neg (by rw [← Hn.out]; intro h; rcases h with h | h; exact h Heq.out; omega), if_neg (by rw [← hlt4, ← Hm.out]; have := hb.out.symm; simpa using this), ← Hn.out]
                  clear hlt4 hb Hys Hyl Hm Hm4 hd Hn
                  go_wp2_with fail
                  obtain ⟨N, rfl⟩ := Int.eq_ofNat_of_zero_le hn0
                  rw [Int.toNat_natCast] at hgood
                  have hbl : bs.length = 12 + 22 * N := by have := Heq.out; omega
                  have Hbl := Lib.hid hbl
                  have hN : N ≤ 1000000 := by omega
                  clear hbl heq' Heq hn0 hn1 h12 h12' hbig' hbig h8 hlen
                  go_loopw [10, 11, 12, 77] (fun v10 v11 v12 v77 wr => ∃ (k : Nat) (acc : List S35), k ≤ N ∧ v77 = .int .i64 k ∧ Hid (acc.length = k) ∧ Hid (Rd wr W.heap.size g gb cap bs (8 + 22 * k)) ∧ Hid (Kd.R k35 35 wr w.heap.size (fun _ => True) v10 acc) ∧ Hid (decode bs = decRows bs (N - k) (8 + 22 * k) acc) ∧ Hid (Below w.heap.size w wr)) (fun _ _ _ i _ => N - (intOf i).toNat)
                  case atStart => exact ⟨0, [], by omega, rfl, rfl, HRc, Kd.R_nil _ _ _ _ _, hgood, HBc⟩
                  case round =>
                    clear hgood HRc HBc
                    obtain ⟨k, acc, hk, rfl, hal, HR1, HA, hdec, HB1⟩ := hrel
                    by_cases hlt : k < N
                    · have hp : 8 + 22 * k + 22 ≤ bs.length := by have := Hbl.out; omega
                      have Hp := Lib.hid hp; clear hp
                      go_wp2_with fail
                      refine (at_r _ g gb cap _ bs wr HR1.out).mono ?_
                      rintro e w2 ⟨rfl, rfl⟩
                      go_wp2_with fail
                      refine (long_r _ g gb cap _ bs _ HR1.out (by have := Hp.out; omega) HB.out).mono ?_
                      rintro e w2 ⟨rfl, hk2⟩
                      have HR2 := Lib.hid hk2.rd
                      have HA2 := Lib.hid (R_rk HA.out HR1.out hk2)
                      have HB2 := Lib.hid (hk2.below _ _ HG HB1.out)
                      clear hk2 HR1 HA HB1
                      obtain ⟨t, ht⟩ : ∃ x, x = lev ((bs.drop (8 + 22 * k)).take 8) := ⟨_, rfl⟩
                      try simp only [Nat.add_assoc, Nat.reduceAdd]
                      try simp only [Nat.add_assoc, Nat.reduceAdd] at ht HR2
                      rw [← ht]
                      have Ht := Lib.hid ht; clear ht
                      go_wp2_with fail
                      refine (byte_r _ g gb cap _ bs _ HR2.out (by have := Hp.out; omega) HB.out).mono ?_
                      rintro e w3 ⟨rfl, hk3⟩
                      have HR3 := Lib.hid hk3.rd
                      have HA3 := Lib.hid (R_rk HA2.out HR2.out hk3)
                      have HB3 := Lib.hid (hk3.below _ _ HG HB2.out)
                      clear hk3 HR2 HA2 HB2
                      obtain ⟨q1, hq1⟩ : ∃ x, x = lev ((bs.drop (8 + 22 * k + 8)).take 1) := ⟨_, rfl⟩
                      obtain ⟨q1l, q1r⟩ : 0 ≤ q1 ∧ q1 < 256 := by rw [hq1]; exact lev1_b HB.out _
                      try simp only [Nat.add_assoc, Nat.reduceAdd]
                      try simp only [Nat.add_assoc, Nat.reduceAdd] at hq1 HR3
                      rw [← hq1]
                      have Hq1 := Lib.hid hq1; clear hq1
                      go_wp2_with fail
                      refine (byte_r _ g gb cap _ bs _ HR3.out (by have := Hp.out; omega) HB.out).mono ?_
                      rintro e w4 ⟨rfl, hk4⟩
                      have HR4 := Lib.hid hk4.rd
                      have HA4 := Lib.hid (R_rk HA3.out HR3.out hk4)
                      have HB4 := Lib.hid (hk4.below _ _ HG HB3.out)
                      clear hk4 HR3 HA3 HB3
                      obtain ⟨q2, hq2⟩ : ∃ x, x = lev ((bs.drop (8 + 22 * k + 9)).take 1) := ⟨_, rfl⟩
                      obtain ⟨q2l, q2r⟩ : 0 ≤ q2 ∧ q2 < 256 := by rw [hq2]; exact lev1_b HB.out _
                      try simp only [Nat.add_assoc, Nat.reduceAdd]
                      try simp only [Nat.add_assoc, Nat.reduceAdd] at hq2 HR4
                      rw [← hq2]
                      have Hq2 := Lib.hid hq2; clear hq2
                      go_wp2_with fail
                      refine (word_r _ g gb cap _ bs _ HR4.out (by have := Hp.out; omega) HB.out).mono ?_
                      rintro e w5 ⟨rfl, hk5⟩
                      have HR5 := Lib.hid hk5.rd
                      have HA5 := Lib.hid (R_rk HA4.out HR4.out hk5)
                      have HB5 := Lib.hid (hk5.below _ _ HG HB4.out)
                      clear hk5 HR4 HA4 HB4
                      obtain ⟨pc, hpc⟩ : ∃ x, x = lev ((bs.drop (8 + 22 * k + 10)).take 4) := ⟨_, rfl⟩
                      obtain ⟨pcl, pcr⟩ : 0 ≤ pc ∧ pc < 4294967296 := by rw [hpc]; exact lev4_b HB.out _
                      try simp only [Nat.add_assoc, Nat.reduceAdd]
                      try simp only [Nat.add_assoc, Nat.reduceAdd] at hpc HR5
                      rw [← hpc]
                      have Hpc := Lib.hid hpc; clear hpc
                      go_wp2_with fail
                      refine (word_r _ g gb cap _ bs _ HR5.out (by have := Hp.out; omega) HB.out).mono ?_
                      rintro e w6 ⟨rfl, hk6⟩
                      have HR6 := Lib.hid hk6.rd
                      have HA6 := Lib.hid (R_rk HA5.out HR5.out hk6)
                      have HB6 := Lib.hid (hk6.below _ _ HG HB5.out)
                      clear hk6 HR5 HA5 HB5
                      obtain ⟨fa, hfa⟩ : ∃ x, x = lev ((bs.drop (8 + 22 * k + 14)).take 4) := ⟨_, rfl⟩
                      obtain ⟨fal, far⟩ : 0 ≤ fa ∧ fa < 4294967296 := by rw [hfa]; exact lev4_b HB.out _
                      try simp only [Nat.add_assoc, Nat.reduceAdd]
                      try simp only [Nat.add_assoc, Nat.reduceAdd] at hfa HR6
                      rw [← hfa]
                      have Hfa := Lib.hid hfa; clear hfa
                      go_wp2_with fail
                      refine (word_r _ g gb cap _ bs _ HR6.out (by have := Hp.out; omega) HB.out).mono ?_
                      rintro e w7 ⟨rfl, hk7⟩
                      have HR7 := Lib.hid hk7.rd
                      have HA7 := Lib.hid (R_rk HA6.out HR6.out hk7)
                      have HB7 := Lib.hid (hk7.below _ _ HG HB6.out)
                      clear hk7 HR6 HA6 HB6
                      obtain ⟨fb, hfb⟩ : ∃ x, x = lev ((bs.drop (8 + 22 * k + 18)).take 4) := ⟨_, rfl⟩
                      obtain ⟨fbl, fbr⟩ : 0 ≤ fb ∧ fb < 4294967296 := by rw [hfb]; exact lev4_b HB.out _
                      try simp only [Nat.add_assoc, Nat.reduceAdd]
                      try simp only [Nat.add_assoc, Nat.reduceAdd] at hfb HR7
                      rw [← hfb]
                      have Hfb := Lib.hid hfb; clear hfb
                      go_wp2_with fail
                      obtain ⟨o, ho⟩ : ∃ o : S35, o = ⟨t, q1, q2, pc, fa, fb⟩ := ⟨_, rfl⟩
                      have hrow : Hid (rowAt bs (8 + 22 * k) = o) := by
                        show rowAt bs (8 + 22 * k) = o
                        rw [ho]; unfold rowAt
                        simp only [Nat.add_assoc]
                        rw [← Ht.out, ← Hq1.out, ← Hq2.out, ← Hpc.out, ← Hfa.out, ← Hfb.out]
                      have hbl7 : Hid (Below w7.heap.size w7 (w7.alloc (.cells #[.int .u64 o.f0, .int .i64 o.f1, .int .i64 o.f2, .int .u32 o.f3, .int .u32 o.f4, .int .u32 o.f5] 35))) := below_alloc (Below.refl _ _) _
                      have hob : Hid (Ob6 (w7.alloc (.cells #[.int .u64 o.f0, .int .i64 o.f1, .int .i64 o.f2, .int .u32 o.f3, .int .u32 o.f4, .int .u32 o.f5] 35)) w7.heap.size o) := heap_alloc_new w7 _
                      have e0 : t = o.f0 := by rw [ho]
                      have e1 : q1 = o.f1 := by rw [ho]
                      have e2 : q2 = o.f2 := by rw [ho]
                      have e3 : pc = o.f3 := by rw [ho]
                      have e4 : fa = o.f4 := by rw [ho]
                      have e5 : fb = o.f5 := by rw [ho]
                      clear Ht Hq1 Hq2 Hpc Hfa Hfb ho q1l q1r q2l q2r pcl pcr fal far fbl fbr
                      rw [e0, e1, e2, e3, e4, e5]
                      clear e0 e1 e2 e3 e4 e5
                      refine (may_ok o _).mono ?_
                      rintro e w8 ⟨rfl, hb8⟩
                      have HB78 : Hid (Below w7.heap.size w7 w8) := hbl7.out.trans (hb8.mono hbl7.out.size)
                      have hob8 : Ob6 w8 w7.heap.size o := (hb8.block _ (heap_lt hob.out)).trans hob.out
                      obtain ⟨c0, c1, c2, c3, c4, c5⟩ := hob8.cells
                      have HR8 := Lib.hid (HR7.out.below HB78.out)
                      have HA8 := Lib.hid (Kd.R_below HA7.out HB78.out)
                      have HB8 := Lib.hid (HB7.out.trans (HB78.out.mono HB7.out.size))
                      clear hob8 hb8 hbl7 hob HB78 HR7 HA7 HB7
                      obtain ⟨mb, hmb⟩ : ∃ mb, mb = mayB o := ⟨_, rfl⟩
                      rw [← hmb]
                      have hdec2 : Hid (decode bs = if mb = true then decRows bs (N - (k + 1)) (8 + 22 * (k + 1)) (acc ++ [o]) else ([], ((8 + 22 * k : Nat) : Int))) := by
                        show decode bs = _
                        rw [hdec.out, show N - k = (N - (k + 1)) + 1 by omega]
                        simp only [decRows]
                        rw [hrow.out, ← hmb]
                        rfl
                      clear hmb hdec hrow
                      cases mb with
                      | false =>
                        have hbad : Hid (decode bs = ([], ((8 + 22 * k : Nat) : Int))) := by
                          show decode bs = _
                          rw [hdec2.out]; rfl
                        clear hdec2
                        have hcast : Hid (((8 + 22 * k : Nat) : Int) = 8 + 22 * (k : Int)) := by show ((8 + 22 * k : Nat) : Int) = _; omega
                        go_wp2_with fail
                        refine bodyPost_ret (results_tmp3 rfl _ _ _) rfl ?_
                        rw [hbad.out]
                        have := DecR.bad (w := w) (W := w8) (p := ((8 + 22 * k : Nat) : Int)) (by omega) HB8.out
                        rw [hcast.out] at this ⊢
                        exact this
                      | true =>
                        have hdec3 : Hid (decode bs = decRows bs (N - (k + 1)) (8 + 22 * (k + 1)) (acc ++ [o])) := by
                          show decode bs = _
                          rw [hdec2.out]; rfl
                        clear hdec2
                        go_wp2_with (at_builtin; refine Kd.R_append k35 (w0 := w) w.heap.size rfl (.tmp 100) (.tmp 102) 22 35 (.agg #[(.int .u64 0), (.int .i64 0), (.int .i64 0), (.int .u32 0), (.int .u32 0), (.int .u32 0)]) 40 rfl Tryz.underlying22 info35 rfl (by decide) (by omega) _ acc o [.int .u64 o.f0, .int .i64 o.f1, .int .i64 o.f2, .int .u32 o.f3, .int .u32 o.f4, .int .u32 o.f5] (fun _ => True) (fun _ => False) rfl rfl (k35_mkM _ _ _ o) (fun _ hk => hk.elim) (fun _ _ => trivial) HA8.out HB8.out HB8.out.size (by have := hal.out; omega) ?_; intro v9 w9 ho9 hb9 hg9 hat9; have HR9 := Lib.hid (HR8.out.grown HA8.out hg9); have HA9 := Lib.hid ho9; have HB9 := Lib.hid hb9; clear ho9 hb9 hg9 hat9)
                        go_roundw
                        case rel => exact ⟨k + 1, acc ++ [o], by omega, by go_num, by show (acc ++ [o]).length = k + 1; rw [List.length_append, hal.out]; rfl, HR9, HA9, hdec3, HB9⟩
                        case measure => simp [intOf]; omega
                    · obtain rfl : k = N := by omega
                      have hfin : Hid (decode bs = (acc, -1)) := by
                        show decode bs = _
                        rw [hdec.out, Nat.sub_self]; rfl
                      clear hdec
                      go_wp2_with fail
                      refine bodyPost_ret (results_tmp3 rfl _ _ _) rfl ?_
                      rw [hfin.out]
                      exact ⟨_, rfl, HA.out, HB1.out⟩
          · have heq' : ((bs.length : Int) != 12 + 22 * n) = true := by simpa using heq
            have hbad : Hid (decode bs = ([], 4)) := by
              show decode bs = _
              rw [hd.out]; unfold decBody; rw [if_neg h12, if_pos (by rw [← Hn.out]; exact .inl heq)]
            clear heq
            go_wp2_with fail
            refine bodyPost_ret (results_tmp3 rfl _ _ _) rfl ?_
            rw [hbad.out]
            exact DecR.bad (by omega) HB3.out
end Go.Proofs.YtohighedgdlflaaGreatDoor

/- The read functions of trace.forms. -/
namespace Go.Proofs.YtohighedgdlflaaGreatDoor
open Go.Shelf Go.RowKit Go.Sort Go.Lib Go.Proofs.YtohighedgdlflaaGreatDoorW.PrintWords Go.Proofs.YtohighedgdlflaaGreatDoor.PR
set_option linter.unusedVariables false
set_option linter.unusedSimpArgs false
/-- The observation's block. -/
def ObN (W : World) (O t cl q p a b : Nat) : Prop := W.heap[O]? = some (.cells #[.int .u64 t, .int .i64 cl, .int .i64 q, .int .u32 p, .int .u32 a, .int .u32 b] 35 (0, 0))
theorem ObN.below {W W' : World} {O t cl q p a b : Nat} (h : ObN W O t cl q p a b) (hb : Below W.heap.size W W') : ObN W' O t cl q p a b := (hb.block O (heap_lt' h)).trans h
theorem ObN.cells {W : World} {O t cl q p a b : Nat} (h : ObN W O t cl q p a b) : W.cell? ⟨O, 0, none⟩ = some (.int .u64 t) ∧ W.cell? ⟨O, 1, none⟩ = some (.int .i64 cl) ∧ W.cell? ⟨O, 2, none⟩ = some (.int .i64 q) ∧ W.cell? ⟨O, 3, none⟩ = some (.int .u32 p) ∧ W.cell? ⟨O, 4, none⟩ = some (.int .u32 a) ∧ W.cell? ⟨O, 5, none⟩ = some (.int .u32 b) := by
  unfold ObN at h
  refine ⟨?_, ?_, ?_, ?_, ?_, ?_⟩ <;> simp [World.cell?, h]
theorem ObN.frozen {W : World} {O t cl q p a b : Nat} (h : ObN W O t cl q p a b) (j : Nat) : W.frozen? ⟨O, j, none⟩ = false := by
  unfold ObN at h
  simp [World.frozen?, h]
theorem ObN.set4 {W : World} {O t cl q p a b : Nat} (h : ObN W O t cl q p a b) (x : Nat) : ObN (W.setCell ⟨O, 4, none⟩ (.int .u32 x)) O t cl q p x b := by
  unfold ObN at *
  rw [heap_setCell_same _ _ _ _ _ _ h]; rfl
theorem ObN.set5 {W : World} {O t cl q p a b : Nat} (h : ObN W O t cl q p a b) (x : Nat) : ObN (W.setCell ⟨O, 5, none⟩ (.int .u32 x)) O t cl q p a x := by
  unfold ObN at *
  rw [heap_setCell_same _ _ _ _ _ _ h]; rfl
def RdR (W : World) (O t cl q p a b : Nat) (e : Ending) (w' : World) : Prop := e = .returned (.tuple #[]) ∧ ObN w' O t cl q p a b ∧ Below O W w'
theorem r83_ok (O t cl q p : Nat) (v : Value) (w : World) (hO : ObN w O t cl q p 0 0) : Calls Tryz.prog 83 #[.pointer (some ⟨O, 0, none⟩), v] w (RdR w O t cl q p 0 0) := by
  go_enter Tryz.func83, Tryz.ntmps83
  go_wp2_with fail
  go_end0
  exact ⟨rfl, hO, Below.refl _ _⟩
set_option maxRecDepth 100000 in
set_option maxHeartbeats 2000000 in
theorem r85_ok (O t cl q p a g c : Nat) (w : World) (ha : a < 4294967296) (hO : ObN w O t cl q p 0 0) (h0 : w.cell? ⟨g, 4, none⟩ = some (.string (hexS a))) :
    Calls Tryz.prog 85 #[.pointer (some ⟨O, 0, none⟩), .slice (some ⟨g, 4, none⟩) 1 c] w (RdR w O t cl q p a 0) := by
  have HO := Lib.hid hO
  go_enter Tryz.func85, Tryz.ntmps85
  go_wp2_with fail
  refine (unhex_ok a ha _).mono ?_
  rintro e w1 ⟨rfl, hb⟩
  have HB := Lib.hid hb
  have HO1 := Lib.hid (hO.below hb)
  obtain ⟨c0, c1, c2, c3, c4, c5⟩ := HO1.out.cells
  have f4 := HO1.out.frozen 4
  have hOlt := heap_lt' hO
  clear hb h0 hO
  go_wp2_with fail
  go_end0
  exact ⟨rfl, HO1.out.set4 a, (HB.out.mono (Nat.le_of_lt hOlt)).setCell (Nat.le_refl _) _⟩
set_option maxRecDepth 100000 in
set_option maxHeartbeats 2000000 in
theorem r78_ok (O t cl q p a g c : Nat) (w : World) (ha : a ≤ 31) (hO : ObN w O t cl q p 0 0) (h0 : w.cell? ⟨g, 4, none⟩ = some (.string (decS a))) :
    Calls Tryz.prog 78 #[.pointer (some ⟨O, 0, none⟩), .slice (some ⟨g, 4, none⟩) 1 c] w (RdR w O t cl q p a 0) := by
  have HO := Lib.hid hO
  go_enter Tryz.func78, Tryz.ntmps78
  go_wp2_with fail
  refine (decimal_ok a 31 (by omega) ha _).mono ?_
  rintro e w1 ⟨rfl, hb⟩
  have HB := Lib.hid hb
  have HO1 := Lib.hid (hO.below hb)
  obtain ⟨c0, c1, c2, c3, c4, c5⟩ := HO1.out.cells
  have f4 := HO1.out.frozen 4
  have hOlt := heap_lt' hO
  have ha2 : (a : Int) ≤ 31 := by omega
  clear hb h0 hO
  go_wp2_with fail
  go_end0
  exact ⟨rfl, HO1.out.set4 a, (HB.out.mono (Nat.le_of_lt hOlt)).setCell (Nat.le_refl _) _⟩
set_option maxRecDepth 100000 in
set_option maxHeartbeats 8000000 in
theorem r71_ok (O t cl q p a b g c : Nat) (w : World) (ha : a < 4294967296) (hb : b < 4294967296) (hO : ObN w O t cl q p 0 0) (h0 : w.cell? ⟨g, 4, none⟩ = some (.string (hexS a))) (h1 : w.cell? ⟨g, 5, none⟩ = some (.string (hexS b))) :
    Calls Tryz.prog 71 #[.pointer (some ⟨O, 0, none⟩), .slice (some ⟨g, 4, none⟩) 2 c] w (RdR w O t cl q p a b) := by
  have hOlt := heap_lt' hO
  have HF : Hid (∀ W, Below w.heap.size w W → W.cell? ⟨g, 4, none⟩ = some (.string (hexS a)) ∧ W.cell? ⟨g, 5, none⟩ = some (.string (hexS b)) ∧ ObN W O t cl q p 0 0) := fun W hW => ⟨cell_later hW h0, cell_later hW h1, hO.below hW⟩
  clear h0 h1 hO
  go_enter Tryz.func71, Tryz.ntmps71
  go_wp2_with fail
  obtain ⟨i0, i1, _⟩ := HF.out _ (Below.refl _ _)
  go_region_with (first
    | (go_at_call 76; with_reducible refine (unhex_ok a ha _).mono ?_; rintro e w5 ⟨rfl, hb5⟩; have HB5 := Lib.hid ((below_drew (Below.refl w.heap.size w)).trans (hb5.mono (by simp))); obtain ⟨d0, d1, d2⟩ := HF.out _ HB5.out; have HD2 := Lib.hid d2; clear hb5 d2)
    | (go_at_call 76; with_reducible refine (unhex_ok b hb _).mono ?_; rintro e w6 ⟨rfl, hb6⟩; have HB6 := Lib.hid (HB5.out.trans (hb6.mono HB5.out.size)); have HD3 := Lib.hid (HD2.out.below hb6); obtain ⟨x0, x1, x2, x3, x4, x5⟩ := HD3.out.cells; have f4 := HD3.out.frozen 4; have f5 := HD3.out.frozen 5; have y5 := (HD3.out.set4 a).cells.2.2.2.2.2; have z5 := (HD3.out.set4 a).frozen 5; clear hb6))
  all_goals
    go_wp2_with fail
    go_end0
    exact ⟨rfl, (HD3.out.set4 a).set5 b, ((HB6.out.mono (Nat.le_of_lt hOlt)).setCell (Nat.le_refl _) _).setCell (Nat.le_refl _) _⟩
end Go.Proofs.YtohighedgdlflaaGreatDoor

/- Two more read functions of trace.forms. -/
namespace Go.Proofs.YtohighedgdlflaaGreatDoor
open Go.Shelf Go.RowKit Go.Sort Go.Lib Go.Proofs.YtohighedgdlflaaGreatDoorW.PrintWords Go.Proofs.YtohighedgdlflaaGreatDoor.PR
set_option linter.unusedVariables false
set_option linter.unusedSimpArgs false
theorem cat_fst (a b : Nat) : (hexS a ++ hexS b).extract 0 8 = hexS a := by
  apply ByteArray.ext
  simp [hexS, hexL]
theorem cat_snd (a b : Nat) : (hexS a ++ hexS b).extract 8 16 = hexS b := by
  apply ByteArray.ext
  simp [hexS, hexL]
  exact List.take_of_length_le (by simp)
set_option maxRecDepth 100000 in
set_option maxHeartbeats 8000000 in
theorem r81_ok (O t cl q p a b g c : Nat) (w : World) (ha : a < 4294967296) (hb : b < 4294967296) (hO : ObN w O t cl q p 0 0) (h0 : w.cell? ⟨g, 4, none⟩ = some (.string (hexS b ++ hexS a))) :
    Calls Tryz.prog 81 #[.pointer (some ⟨O, 0, none⟩), .slice (some ⟨g, 4, none⟩) 1 c] w (RdR w O t cl q p a b) := by
  have hOlt := heap_lt' hO
  obtain ⟨x, hx⟩ : ∃ x, x = hexS b ++ hexS a := ⟨_, rfl⟩
  have hsz : x.size = 16 := by rw [hx, ByteArray.size_append, hexS_size, hexS_size]
  have hs1 : ∀ W : World, (Instr.slice 9 (.string x) none (some (.int .i64 8)) none).run Tryz.prog W = .ok (.string (hexS b)) W := fun W => by
    rw [run_slice_string_to_if W 9 x .i64 8 Tryz.underlying9, if_pos (by rw [hsz]; omega), hx, show (8 : Int).toNat = 8 from rfl, cat_fst]
  have hs2 : ∀ W : World, (Instr.slice 9 (.string x) (some (.int .i64 8)) none none).run Tryz.prog W = .ok (.string (hexS a)) W := fun W => by
    rw [run_slice_string_from_if W 9 x .i64 8 Tryz.underlying9, if_pos (by rw [hsz]; omega), hsz, hx, show (8 : Int).toNat = 8 from rfl, cat_snd]
  rw [← hx] at h0
  have HF : Hid (∀ W, Below w.heap.size w W → W.cell? ⟨g, 4, none⟩ = some (.string x) ∧ ObN W O t cl q p 0 0) := fun W hW => ⟨cell_later hW h0, hO.below hW⟩
  clear h0 hO hx
  go_enter Tryz.func81, Tryz.ntmps81
  obtain ⟨i0, _⟩ := HF.out _ (Below.refl _ _)
  go_wp2_with fail
  refine (must_ok _).mono ?_
  rintro e w1 ⟨rfl, rfl⟩
  go_wp2_with fail
  go_region_with (first
    | (go_at_call 76; with_reducible refine (unhex_ok b hb _).mono ?_; rintro e w5 ⟨rfl, hb5⟩; have HB5 := Lib.hid ((below_drew (Below.refl w1.heap.size w1)).trans (hb5.mono (by simp))); obtain ⟨d0, d2⟩ := HF.out _ HB5.out; have HD2 := Lib.hid d2; clear hb5 d2)
    | (go_at_call 76; with_reducible refine (unhex_ok a ha _).mono ?_; rintro e w6 ⟨rfl, hb6⟩; have HB6 := Lib.hid (HB5.out.trans (hb6.mono HB5.out.size)); have HD3 := Lib.hid (HD2.out.below hb6); obtain ⟨x0, x1, x2, x3, x4, x5⟩ := HD3.out.cells; have f4 := HD3.out.frozen 4; have f5 := HD3.out.frozen 5; have y5 := (HD3.out.set5 b).cells.2.2.2.2.1; have z5 := (HD3.out.set5 b).frozen 4; clear hb6))
  all_goals
    go_wp2_with fail
    go_end0
    exact ⟨rfl, (HD3.out.set5 b).set4 a, ((HB6.out.mono (Nat.le_of_lt hOlt)).setCell (Nat.le_refl _) _).setCell (Nat.le_refl _) _⟩
end Go.Proofs.YtohighedgdlflaaGreatDoor

/- The read function of a fault. -/
namespace Go.Proofs.YtohighedgdlflaaGreatDoor
open Go.Shelf Go.RowKit Go.Sort Go.Lib Go.Proofs.YtohighedgdlflaaGreatDoorW.PrintWords Go.Proofs.YtohighedgdlflaaGreatDoor.PR
set_option linter.unusedVariables false
set_option linter.unusedSimpArgs false
theorem idx_fault (a : Nat) (h1 : 1 ≤ a) (h6 : a ≤ 6) : Lib.idxOfS (faultS.take 7) (faultS.getD a ByteArray.empty) = a := by
  rcases (show a = 1 ∨ a = 2 ∨ a = 3 ∨ a = 4 ∨ a = 5 ∨ a = 6 by omega) with h | h | h | h | h | h <;> subst h <;> decide
set_option maxRecDepth 100000 in
set_option maxHeartbeats 8000000 in
theorem r73_ok (O t cl q p a b g c n : Nat) (w : World) (ha1 : 1 ≤ a) (ha6 : a ≤ 6) (hb : b < 4294967296) (hF : Frm w n) (hO : ObN w O t cl q p 0 0) (h0 : w.cell? ⟨g, 4, none⟩ = some (.string (faultS.getD a ByteArray.empty))) (h1 : w.cell? ⟨g, 5, none⟩ = some (.string (hexS b))) :
    Calls Tryz.prog 73 #[.pointer (some ⟨O, 0, none⟩), .slice (some ⟨g, 4, none⟩) 2 c, .pointer (some ⟨n + 1, 0, none⟩)] w (RdR w O t cl q p a b) := by
  have hOlt := heap_lt' hO
  obtain ⟨x, hx⟩ : ∃ x, x = faultS.getD a ByteArray.empty := ⟨_, rfl⟩
  have hidx : ∀ m, Calls Tryz.prog 74 #[.slice (some ⟨n, 0, none⟩) 7 7, .string x] (w.drewN m) fun e w' => e = .returned (.int .i64 a) ∧ w' = w.drewN m := fun m => by
    have h := Tryz.slices_Index_string n 0 7 7 faultS x (w.drewN m) (by decide) (by decide) (fun j hj => by
      have hj7 : j < 7 := hj
      rw [World.cell?_drewN, Nat.zero_add]
      simp only [World.cell?, hF.names]
      rcases (show j = 0 ∨ j = 1 ∨ j = 2 ∨ j = 3 ∨ j = 4 ∨ j = 5 ∨ j = 6 by omega) with h | h | h | h | h | h | h <;> subst h <;> rfl)
    rwa [hx, idx_fault a ha1 ha6, ← hx] at h
  have hptr : w.cell? ⟨n + 1, 0, none⟩ = some (.slice (some ⟨n, 0, none⟩) 7 7) := by simp [World.cell?, hF.ptr]
  rw [← hx] at h0
  have HF : Hid (∀ W, Below w.heap.size w W → W.cell? ⟨g, 5, none⟩ = some (.string (hexS b)) ∧ ObN W O t cl q p 0 0) := fun W hW => ⟨cell_later hW h1, hO.below hW⟩
  have hap : (0 : Int) < a := by omega
  have haw : (a : Int) < 4294967296 := by omega
  clear hx hF hO
  go_enter Tryz.func73, Tryz.ntmps73
  go_wp2_with fail
  go_quiet ((go_at_call 74; with_reducible exact Calls.quiet_of_same (hidx _)))
  clear hidx hptr h0
  go_wp2_with fail
  rw [show decide (0 < a) = true from decide_eq_true (by omega)]
  refine (must_ok _).mono ?_
  rintro e w1 ⟨rfl, rfl⟩
  go_wp2_with fail
  refine (unhex_ok b hb _).mono ?_
  rintro e w5 ⟨rfl, hb5⟩
  have HB5 := Lib.hid ((pw_below_drewN (Below.refl w.heap.size w) nq).trans (hb5.mono (by simp)))
  obtain ⟨d0, d2⟩ := HF.out _ HB5.out
  have HD2 := Lib.hid d2
  obtain ⟨x0, x1, x2, x3, x4, x5⟩ := HD2.out.cells
  have f4 := HD2.out.frozen 4
  have f5 := HD2.out.frozen 5
  have y5 := (HD2.out.set4 a).cells.2.2.2.2.2
  have z5 := (HD2.out.set4 a).frozen 5
  clear hb5 d2
  go_wp2_with fail
  go_end0
  exact ⟨rfl, (HD2.out.set4 a).set5 b, ((HB5.out.mono (Nat.le_of_lt hOlt)).setCell (Nat.le_refl _) _).setCell (Nat.le_refl _) _⟩
end Go.Proofs.YtohighedgdlflaaGreatDoor

/- slices.IndexFunc over trace.forms: the row of a kind's word. -/
namespace Go.Proofs.YtohighedgdlflaaGreatDoor
open Go.Shelf Go.RowKit Go.Sort Go.Lib Go.Proofs.YtohighedgdlflaaGreatDoorW.PrintWords Go.Proofs.YtohighedgdlflaaGreatDoor.PR
set_option linter.unusedVariables false
set_option linter.unusedSimpArgs false
set_option maxRecDepth 100000 in
set_option maxHeartbeats 2000000 in
theorem p108_0 (Wb g m c : Nat) (w : World) (hs : w.cell? ⟨Wb, 0, none⟩ = some (.slice (some ⟨g, 0, none⟩) m c)) :
    Calls Tryz.prog 108 #[.agg #[.string ⟨#[]⟩, .nilFunc, .int .i64 0, .nilFunc], .pointer (some ⟨Wb, 0, none⟩)] w fun e w' => e = .returned (.bool false) ∧ Below w.heap.size w w' := by
  have hbl := Lib.hid (below_alloc (Below.refl w.heap.size w) (.cells #[.string ⟨#[]⟩, .nilFunc, .int .i64 0, .nilFunc] 74 (0, 0)))
  go_enter Tryz.func108, Tryz.ntmps108
  go_wp2_with fail
  go_quiet (fail)
  go_wp2_with fail
  go_ret
  exact ⟨rfl, pw_below_drewN hbl.out _⟩
set_option maxRecDepth 100000 in
set_option maxHeartbeats 2000000 in
theorem p108_ok (wd x : ByteArray) (mw : Nat) (fvw : Array Value) (nw : Int) (mr : Nat) (fvr : Array Value) (Wb g m c : Nat) (r : Bool) (w : World) (hne : wd.toList.isEmpty = false) (hr : (wd.toList == x.toList) = r) (hm : 2 < m) (hs : w.cell? ⟨Wb, 0, none⟩ = some (.slice (some ⟨g, 0, none⟩) m c)) (hx : w.cell? ⟨g, 2, none⟩ = some (.string x)) :
    Calls Tryz.prog 108 #[.agg #[.string wd, .func (.func mw) #[] fvw, .int .i64 nw, .func (.func mr) #[] fvr], .pointer (some ⟨Wb, 0, none⟩)] w fun e w' => e = .returned (.bool r) ∧ Below w.heap.size w w' := by
  have hbl := Lib.hid (below_alloc (Below.refl w.heap.size w) (.cells #[.string wd, .func (.func mw) #[] fvw, .int .i64 nw, .func (.func mr) #[] fvr] 74 (0, 0)))
  have hm2 : (2 : Int) < m := by omega
  have l1 := block_lt_of_cell hs
  have l2 := block_lt_of_cell hx
  have hs' : (w.alloc (.cells #[.string wd, .func (.func mw) #[] fvw, .int .i64 nw, .func (.func mr) #[] fvr] 74)).cell? ⟨Wb, 0, none⟩ = some (.slice (some ⟨g, 0, none⟩) m c) := cell_later hbl.out hs
  have hx' : (w.alloc (.cells #[.string wd, .func (.func mw) #[] fvw, .int .i64 nw, .func (.func mr) #[] fvr] 74)).cell? ⟨g, 2, none⟩ = some (.string x) := cell_later hbl.out hx
  go_enter Tryz.func108, Tryz.ntmps108
  go_wp2_with fail
  go_quiet (fail)
  go_wp2_with fail
  go_ret
  exact ⟨by rw [← hr]; rfl, pw_below_drewN hbl.out _⟩
theorem kind_ne (k : Nat) (h1 : 1 ≤ k) (h7 : k ≤ 7) : (kindS.getD k ByteArray.empty).toList.isEmpty = false := by
  rcases (show k = 1 ∨ k = 2 ∨ k = 3 ∨ k = 4 ∨ k = 5 ∨ k = 6 ∨ k = 7 by omega) with h | h | h | h | h | h | h <;> subst h <;> kernel_rfl
theorem kind_lt (k q : Nat) (h1 : 1 ≤ k) (hkq : k < q) (h7 : q ≤ 7) : ((kindS.getD k ByteArray.empty).toList == (kindS.getD q ByteArray.empty).toList) = false := by
  rcases (show q = 2 ∨ q = 3 ∨ q = 4 ∨ q = 5 ∨ q = 6 ∨ q = 7 by omega) with h | h | h | h | h | h <;> subst h <;>
    rcases (show k = 1 ∨ k = 2 ∨ k = 3 ∨ k = 4 ∨ k = 5 ∨ k = 6 by omega) with h | h | h | h | h | h <;> subst h <;> first | omega | kernel_rfl
set_option maxRecDepth 100000 in
set_option maxHeartbeats 2000000 in
theorem idxForm_ok (n q Wb g m c : Nat) (w : World) (hF : Frm w n) (hq1 : 1 ≤ q) (hq7 : q ≤ 7) (hm : 2 < m) (hs : w.cell? ⟨Wb, 0, none⟩ = some (.slice (some ⟨g, 0, none⟩) m c)) (hx : w.cell? ⟨g, 2, none⟩ = some (.string (kindS.getD q ByteArray.empty))) :
    Calls Tryz.prog 107 #[.slice (some ⟨n + 2, 0, none⟩) 8 8, .func (.func 108) #[] #[.pointer (some ⟨Wb, 0, none⟩)]] w fun e w' => e = .returned (.int .i64 q) ∧ Below w.heap.size w w' := by
  have HF := Lib.hid hF
  have HS := Lib.hid hs
  have HX := Lib.hid hx
  clear hF hs hx
  go_enter Tryz.func107, Tryz.ntmps107
  go_wp2_with fail
  go_loopw [5, 8] (fun v5 v8 wr => ∃ k : Nat, k ≤ q ∧ v8 = .int .i64 k ∧ Hid (Below w.heap.size w wr)) (fun _ i _ => 8 - (RowKit.intOf i).toNat)
  case atStart => exact ⟨0, by omega, rfl, Below.refl _ _⟩
  case round =>
    obtain ⟨k, hk, rfl, HB⟩ := hrel
    have hk8 : (k : Int) < 8 := by omega
    have HS1 := Lib.hid (cell_later HB.out HS.out)
    have HX1 := Lib.hid (cell_later HB.out HX.out)
    by_cases hk0 : k = 0
    · subst hk0
      have hF := HF.out.below HB.out
      have g0 : wr.cell? ⟨n + 2, 0, none⟩ = some (.string ⟨#[]⟩) := by simp only [World.cell?, hF.tab]; rfl
      have g1 : wr.cell? ⟨n + 2, 1, none⟩ = some .nilFunc := by simp only [World.cell?, hF.tab]; rfl
      have g2 : wr.cell? ⟨n + 2, 2, none⟩ = some (.int .i64 0) := by simp only [World.cell?, hF.tab]; rfl
      have g3 : wr.cell? ⟨n + 2, 3, none⟩ = some .nilFunc := by simp only [World.cell?, hF.tab]; rfl
      clear hF
      go_wp2_with fail
      refine (p108_0 Wb g m c _ HS1.out).mono ?_
      rintro e w1 ⟨rfl, hb⟩
      have HB1 := Lib.hid (HB.out.trans (hb.mono HB.out.size))
      clear hb g0 g1 g2 g3
      go_wp2_with fail
      go_roundw
      case rel => exact ⟨1, by omega, rfl, HB1⟩
      case measure => simp [RowKit.intOf]
    · obtain ⟨mw, fvw, nw, mr, fvr, g0, g1, g2, g3, _⟩ := frm_row (HF.out.below HB.out) k (by omega) (by omega)
      by_cases hkq : k = q
      · subst hkq
        go_wp2_with fail
        refine (p108_ok _ _ mw fvw nw mr fvr Wb g m c true _ (kind_ne k hq1 hq7) (by simp) hm HS1.out HX1.out).mono ?_
        rintro e w1 ⟨rfl, hb⟩
        have HB1 := Lib.hid (HB.out.trans (hb.mono HB.out.size))
        clear hb g0 g1 g2 g3
        go_wp2_with fail
        go_ret
        exact ⟨rfl, HB1.out⟩
      · go_wp2_with fail
        refine (p108_ok _ _ mw fvw nw mr fvr Wb g m c false _ (kind_ne k (by omega) (by omega)) (kind_lt k q (by omega) (by omega) hq7) hm HS1.out HX1.out).mono ?_
        rintro e w1 ⟨rfl, hb⟩
        have HB1 := Lib.hid (HB.out.trans (hb.mono HB.out.size))
        clear hb g0 g1 g2 g3
        go_wp2_with fail
        go_roundw
        case rel => exact ⟨k + 1, by omega, by go_num, HB1⟩
        case measure => simp [RowKit.intOf]; omega
end Go.Proofs.YtohighedgdlflaaGreatDoor

/- trace.line reads the words of an observation that may be. -/
namespace Go.Proofs.YtohighedgdlflaaGreatDoor
open Go.Proofs.YtohighedgdlflaaGreatDoorW.PrintLast Go.Shelf Go.RowKit Go.Sort Go.Lib Go.Proofs.YtohighedgdlflaaGreatDoorW.PrintWords Go.Proofs.YtohighedgdlflaaGreatDoor.PR
set_option linter.unusedVariables false
set_option linter.unusedSimpArgs false
theorem step_below {B : Nat} {w1 X Y : World} {P1 P2 P3 P4 P5 : Prop} (hS : P1 ∧ P2 ∧ P3 ∧ P4 ∧ P5 ∧ Hid (Below B w1 X)) (hB : B ≤ w1.heap.size) (hb : Below X.heap.size X Y) : Hid (Below B w1 Y) :=
  hS.2.2.2.2.2.out.trans (hb.mono (Nat.le_trans hB hS.2.2.2.2.2.out.size))
theorem step_b {B : Nat} {w1 X Y : World} (hS : Hid (Below B w1 X)) (hB : B ≤ w1.heap.size) (hb : Below X.heap.size X Y) : Hid (Below B w1 Y) :=
  hS.out.trans (hb.mono (Nat.le_trans hB hS.out.size))
theorem alloc_below {B : Nat} {w1 X : World} {P1 P2 P3 P4 P5 : Prop} {o : Obj} (hS : P1 ∧ P2 ∧ P3 ∧ P4 ∧ P5 ∧ Hid (Below B w1 X)) (hB : B ≤ w1.heap.size) : Below B w1 (X.alloc o) :=
  hS.2.2.2.2.2.out.alloc (Nat.le_trans hB hS.2.2.2.2.2.out.size) _
theorem set6_below {B O : Nat} {w1 X : World} {P1 P2 P3 P4 P5 : Prop} {v0 v1 v2 v3 v4 v5 : Value} (hS : P1 ∧ P2 ∧ P3 ∧ P4 ∧ P5 ∧ Hid (Below B w1 X)) (hO : B ≤ O) : Below B w1 ((((((X.setCell ⟨O, 0, none⟩ v0).setCell ⟨O, 1, none⟩ v1).setCell ⟨O, 2, none⟩ v2).setCell ⟨O, 3, none⟩ v3).setCell ⟨O, 4, none⟩ v4).setCell ⟨O, 5, none⟩ v5) :=
  (((((hS.2.2.2.2.2.out.setCell hO _).setCell hO _).setCell hO _).setCell hO _).setCell hO _).setCell hO _
theorem set6b {B O : Nat} {w1 X : World} {v0 v1 v2 v3 v4 v5 : Value} (hS : Below B w1 X) (hO : B ≤ O) : Below B w1 ((((((X.setCell ⟨O, 0, none⟩ v0).setCell ⟨O, 1, none⟩ v1).setCell ⟨O, 2, none⟩ v2).setCell ⟨O, 3, none⟩ v3).setCell ⟨O, 4, none⟩ v4).setCell ⟨O, 5, none⟩ v5) :=
  (((((hS.setCell hO _).setCell hO _).setCell hO _).setCell hO _).setCell hO _).setCell hO _
theorem new_block {Y W : World} (hb : Below (Y.alloc (.cells #[.int .u64 0, .int .i64 0, .int .i64 0, .int .u32 0, .int .u32 0, .int .u32 0] 35 (0, 0))).heap.size (Y.alloc (.cells #[.int .u64 0, .int .i64 0, .int .i64 0, .int .u32 0, .int .u32 0, .int .u32 0] 35 (0, 0))) W) : W.heap[Y.heap.size]? = some (.cells #[.int .u64 0, .int .i64 0, .int .i64 0, .int .u32 0, .int .u32 0, .int .u32 0] 35 (0, 0)) :=
  (hb.block _ (by simp)).trans (blk_new _ _)
theorem zero_cells {W : World} {O : Nat} (h : W.heap[O]? = some (.cells #[.int .u64 0, .int .i64 0, .int .i64 0, .int .u32 0, .int .u32 0, .int .u32 0] 35 (0, 0))) : W.cell? ⟨O, 0, none⟩ = some (.int .u64 0) ∧ W.cell? ⟨O, 1, none⟩ = some (.int .i64 0) ∧ W.cell? ⟨O, 2, none⟩ = some (.int .i64 0) ∧ W.cell? ⟨O, 3, none⟩ = some (.int .u32 0) ∧ W.cell? ⟨O, 4, none⟩ = some (.int .u32 0) ∧ W.cell? ⟨O, 5, none⟩ = some (.int .u32 0) := by
  refine ⟨?_, ?_, ?_, ?_, ?_, ?_⟩ <;> simp [World.cell?, h]
theorem zero_frozen {W : World} {O : Nat} (h : W.heap[O]? = some (.cells #[.int .u64 0, .int .i64 0, .int .i64 0, .int .u32 0, .int .u32 0, .int .u32 0] 35 (0, 0))) (j : Nat) : W.frozen? ⟨O, j, none⟩ = false := by
  simp [World.frozen?, h]
theorem zero_sets {W : World} {O : Nat} (h : W.heap[O]? = some (.cells #[.int .u64 0, .int .i64 0, .int .i64 0, .int .u32 0, .int .u32 0, .int .u32 0] 35 (0, 0))) (v0 v1 v2 v3 v4 : Value) :
    (W.setCell ⟨O, 0, none⟩ v0).cell? ⟨O, 1, none⟩ = some (.int .i64 0) ∧
    ((W.setCell ⟨O, 0, none⟩ v0).setCell ⟨O, 1, none⟩ v1).cell? ⟨O, 2, none⟩ = some (.int .i64 0) ∧
    (((W.setCell ⟨O, 0, none⟩ v0).setCell ⟨O, 1, none⟩ v1).setCell ⟨O, 2, none⟩ v2).cell? ⟨O, 3, none⟩ = some (.int .u32 0) ∧
    ((((W.setCell ⟨O, 0, none⟩ v0).setCell ⟨O, 1, none⟩ v1).setCell ⟨O, 2, none⟩ v2).setCell ⟨O, 3, none⟩ v3).cell? ⟨O, 4, none⟩ = some (.int .u32 0) ∧
    (((((W.setCell ⟨O, 0, none⟩ v0).setCell ⟨O, 1, none⟩ v1).setCell ⟨O, 2, none⟩ v2).setCell ⟨O, 3, none⟩ v3).setCell ⟨O, 4, none⟩ v4).cell? ⟨O, 5, none⟩ = some (.int .u32 0) := by
  obtain ⟨z0, z1, z2, z3, z4, z5⟩ := zero_cells h
  refine ⟨?_, ?_, ?_, ?_, ?_⟩
  · rw [World.cell?_setCell_other _ _ _ _ (by simp)]; exact z1
  · rw [World.cell?_setCell_other _ _ _ _ (by simp), World.cell?_setCell_other _ _ _ _ (by simp)]; exact z2
  · rw [World.cell?_setCell_other _ _ _ _ (by simp), World.cell?_setCell_other _ _ _ _ (by simp), World.cell?_setCell_other _ _ _ _ (by simp)]; exact z3
  · rw [World.cell?_setCell_other _ _ _ _ (by simp), World.cell?_setCell_other _ _ _ _ (by simp), World.cell?_setCell_other _ _ _ _ (by simp), World.cell?_setCell_other _ _ _ _ (by simp)]; exact z4
  · rw [World.cell?_setCell_other _ _ _ _ (by simp), World.cell?_setCell_other _ _ _ _ (by simp), World.cell?_setCell_other _ _ _ _ (by simp), World.cell?_setCell_other _ _ _ _ (by simp), World.cell?_setCell_other _ _ _ _ (by simp)]; exact z5
theorem zero_setsf {W : World} {O : Nat} (h : W.heap[O]? = some (.cells #[.int .u64 0, .int .i64 0, .int .i64 0, .int .u32 0, .int .u32 0, .int .u32 0] 35 (0, 0))) (v0 v1 v2 v3 v4 : Value) :
    (W.setCell ⟨O, 0, none⟩ v0).frozen? ⟨O, 1, none⟩ = false ∧
    ((W.setCell ⟨O, 0, none⟩ v0).setCell ⟨O, 1, none⟩ v1).frozen? ⟨O, 2, none⟩ = false ∧
    (((W.setCell ⟨O, 0, none⟩ v0).setCell ⟨O, 1, none⟩ v1).setCell ⟨O, 2, none⟩ v2).frozen? ⟨O, 3, none⟩ = false ∧
    ((((W.setCell ⟨O, 0, none⟩ v0).setCell ⟨O, 1, none⟩ v1).setCell ⟨O, 2, none⟩ v2).setCell ⟨O, 3, none⟩ v3).frozen? ⟨O, 4, none⟩ = false ∧
    (((((W.setCell ⟨O, 0, none⟩ v0).setCell ⟨O, 1, none⟩ v1).setCell ⟨O, 2, none⟩ v2).setCell ⟨O, 3, none⟩ v3).setCell ⟨O, 4, none⟩ v4).frozen? ⟨O, 5, none⟩ = false := by
  refine ⟨?_, ?_, ?_, ?_, ?_⟩ <;> simp only [World.frozen?_setCell] <;> exact zero_frozen h _
theorem frm_words {w : World} {n : Nat} (h : Frm w n) (q : Nat) (hq1 : 1 ≤ q) (hq : q ≤ 7) : w.cell? ⟨n + 2, q * 4 + 2, none⟩ = some (.int .i64 (nWords q)) := by
  rcases (show q = 1 ∨ q = 2 ∨ q = 3 ∨ q = 4 ∨ q = 5 ∨ q = 6 ∨ q = 7 by omega) with h1 | h1 | h1 | h1 | h1 | h1 | h1 <;> subst h1 <;> simp only [World.cell?, h.tab] <;> rfl
theorem set6_ob {W : World} {O : Nat} {o0 o1 o2 o3 o4 o5 : Value} (h : W.heap[O]? = some (.cells #[o0, o1, o2, o3, o4, o5] 35 (0, 0))) (v0 v1 v2 v3 v4 v5 : Value) :
    ((((((W.setCell ⟨O, 0, none⟩ v0).setCell ⟨O, 1, none⟩ v1).setCell ⟨O, 2, none⟩ v2).setCell ⟨O, 3, none⟩ v3).setCell ⟨O, 4, none⟩ v4).setCell ⟨O, 5, none⟩ v5).heap[O]? = some (.cells #[v0, v1, v2, v3, v4, v5] 35 (0, 0)) := by
  have step : ∀ (X : World) (cs : Array Value) (j : Nat) (v : Value), X.heap[O]? = some (.cells cs 35 (0, 0)) → (X.setCell ⟨O, j, none⟩ v).heap[O]? = some (.cells (cs.setIfInBounds j v) 35 (0, 0)) := by
    intro X cs j v hx
    exact heap_setCell_same _ _ _ _ _ _ hx
  have h0 := step _ _ 0 v0 h
  have h1 := step _ _ 1 v1 h0
  have h2 := step _ _ 2 v2 h1
  have h3 := step _ _ 3 v3 h2
  have h4 := step _ _ 4 v4 h3
  exact step _ _ 5 v5 h4
theorem frm_row2 {w : World} {n : Nat} (h : Frm w n) (q : Nat) (hq1 : 1 ≤ q) (hq : q ≤ 7) : ∃ (mr : Nat) (fvr : Array Value), w.cell? ⟨n + 2, q * 4 + 3, none⟩ = some (.func (.func mr) #[] fvr) ∧ (formCells (n + 1))[q * 4 + 3]? = some (.func (.func mr) #[] fvr) := by
  rcases (show q = 1 ∨ q = 2 ∨ q = 3 ∨ q = 4 ∨ q = 5 ∨ q = 6 ∨ q = 7 by omega) with h1 | h1 | h1 | h1 | h1 | h1 | h1 <;> subst h1 <;> exact ⟨_, _, by simp only [World.cell?, h.tab]; rfl, rfl⟩
theorem renter_any {n q mw : Nat} {fvw : Array Value} (hq1 : 1 ≤ q) (hq7 : q ≤ 7) (h : (formCells (n + 1))[q * 4 + 3]? = some (.func (.func mw) #[] fvw)) : ∀ args w, (callFunc mw args).run Tryz.prog w = .ok (.enter mw args) w := by
  rcases (show q = 1 ∨ q = 2 ∨ q = 3 ∨ q = 4 ∨ q = 5 ∨ q = 6 ∨ q = 7 by omega) with h1 | h1 | h1 | h1 | h1 | h1 | h1 <;> subst h1
  · obtain ⟨rfl, rfl⟩ := fn_inv (m := 71) (f := #[]) h; exact enters_of Tryz.func71 (by kernel_rfl) rfl
  · obtain ⟨rfl, rfl⟩ := fn_inv (m := 71) (f := #[]) h; exact enters_of Tryz.func71 (by kernel_rfl) rfl
  · obtain ⟨rfl, rfl⟩ := fn_inv (m := 73) (f := #[.pointer (some ⟨n + 1, 0, none⟩)]) h; exact enters_of Tryz.func73 (by kernel_rfl) rfl
  · obtain ⟨rfl, rfl⟩ := fn_inv (m := 78) (f := #[]) h; exact enters_of Tryz.func78 (by kernel_rfl) rfl
  · obtain ⟨rfl, rfl⟩ := fn_inv (m := 81) (f := #[]) h; exact enters_of Tryz.func81 (by kernel_rfl) rfl
  · obtain ⟨rfl, rfl⟩ := fn_inv (m := 83) (f := #[]) h; exact enters_of Tryz.func83 (by kernel_rfl) rfl
  · obtain ⟨rfl, rfl⟩ := fn_inv (m := 85) (f := #[]) h; exact enters_of Tryz.func85 (by kernel_rfl) rfl
/-- What the table's reader gives. -/
theorem read_any {W : World} {n q mr : Nat} {fvr : Array Value} (hF : Frm W n) {O t cl p a b g c : Nat} {A : Option Addr} (hG : GoodN t cl q p a b) (h : (formCells (n + 1))[q * 4 + 3]? = some (.func (.func mr) #[] fvr)) (hA : nWords q ≠ 0 → A = some ⟨g, 4, none⟩) (hO : ObN W O t cl q p 0 0) (hw : ∀ (j : Nat) x, (wordsN t cl q p a b)[j]? = some x → W.cell? ⟨g, j, none⟩ = some (.string x)) :
    Calls Tryz.prog mr (#[.pointer (some ⟨O, 0, none⟩), .slice A (nWords q) c] ++ fvr) W (RdR W O t cl q p a b) := by
  have h4 := hw 4
  have h5 := hw 5
  obtain ⟨g1, g2, g3, hq1, hq7, g6, g7, g8, k3, k4, k6, k7, k5⟩ := hG
  rcases (show q = 1 ∨ q = 2 ∨ q = 3 ∨ q = 4 ∨ q = 5 ∨ q = 6 ∨ q = 7 by omega) with h1 | h1 | h1 | h1 | h1 | h1 | h1 <;> subst h1
  · obtain ⟨rfl, rfl⟩ := fn_inv (m := 71) (f := #[]) h
    rw [hA (by decide)]
    exact r71_ok O t cl 1 p a b g c W g7 g8 hO (h4 _ rfl) (h5 _ rfl)
  · obtain ⟨rfl, rfl⟩ := fn_inv (m := 71) (f := #[]) h
    rw [hA (by decide)]
    exact r71_ok O t cl 2 p a b g c W g7 g8 hO (h4 _ rfl) (h5 _ rfl)
  · obtain ⟨rfl, rfl⟩ := fn_inv (m := 73) (f := #[.pointer (some ⟨n + 1, 0, none⟩)]) h
    rw [hA (by decide)]
    exact r73_ok O t cl 3 p a b g c n W (k3 rfl).1 (k3 rfl).2 g8 hF hO (h4 _ rfl) (h5 _ rfl)
  · obtain ⟨rfl, rfl⟩ := fn_inv (m := 78) (f := #[]) h
    obtain ⟨ka, rfl⟩ := k4 rfl
    rw [hA (by decide)]
    exact r78_ok O t cl 4 p a g c W ka hO (h4 _ rfl)
  · obtain ⟨rfl, rfl⟩ := fn_inv (m := 81) (f := #[]) h
    rw [hA (by decide)]
    exact r81_ok O t cl 5 p a b g c W g7 g8 hO (h4 _ rfl)
  · obtain ⟨rfl, rfl⟩ := fn_inv (m := 83) (f := #[]) h
    obtain ⟨rfl, rfl⟩ := k6 rfl
    exact r83_ok O t cl 6 p _ W hO
  · obtain ⟨rfl, rfl⟩ := fn_inv (m := 85) (f := #[]) h
    obtain rfl := k7 rfl
    rw [hA (by decide)]
    exact r85_ok O t cl 7 p a g c W g7 hO (h4 _ rfl)
set_option maxRecDepth 100000 in
set_option maxHeartbeats 8000000 in
theorem line_ok (n g c t cl q p a b : Nat) (w : World) (hG : GoodN t cl q p a b) (hF : Frm w n) (hg : g < w.heap.size) (hc : 4 + nWords q ≤ c) (hw : ∀ (j : Nat) x, (wordsN t cl q p a b)[j]? = some x → w.cell? ⟨g, j, none⟩ = some (.string x)) :
    Calls Tryz.prog 68 #[.slice (some ⟨n + 2, 0, none⟩) 8 8, .slice (some ⟨g, 0, none⟩) (4 + nWords q) c] w fun e w' => e = .returned (.agg #[.int .u64 t, .int .i64 cl, .int .i64 q, .int .u32 p, .int .u32 a, .int .u32 b]) ∧ Below w.heap.size w w' := by
  have HF := Lib.hid hF
  have HW := Lib.hid hw
  have HG := Lib.hid hG
  clear hF hw
  obtain ⟨m, hm⟩ : ∃ m, m = nWords q := ⟨_, rfl⟩
  rw [← hm] at hc ⊢
  have hm2 : m ≤ 2 := by rw [hm]; unfold nWords; split <;> (try split) <;> omega
  have Hm := Lib.hid hm
  clear hm
  have hm4 : (4 : Int) ≤ 4 + (m : Int) := by omega
  go_enter Tryz.func68, Tryz.ntmps68
  go_wp2_with fail
  obtain ⟨hq1, hq7⟩ := And.intro hG.q1 hG.q7
  have hcell : Hid (∀ W, Below (w.heap.size + 2) ((w.alloc (.cells #[.slice (some ⟨g, 0, none⟩) (4 + m) c] 78)).alloc (.cells #[.int .u64 0, .int .i64 0, .int .i64 0, .int .u32 0, .int .u32 0, .int .u32 0] 35)) W → (W.cell? ⟨w.heap.size, 0, none⟩ = some (.slice (some ⟨g, 0, none⟩) (4 + m) c) ∧ W.cell? ⟨g, 0, none⟩ = some (.string (decS t)) ∧ W.cell? ⟨g, 1, none⟩ = some (.string (decS cl)) ∧ W.cell? ⟨g, 2, none⟩ = some (.string (kindS.getD q ByteArray.empty)) ∧ W.cell? ⟨g, 3, none⟩ = some (.string (hexS p))) ∧ Frm W n ∧ Below w.heap.size w W) := by
    intro W hW
    have hA : Below w.heap.size w ((w.alloc (.cells #[.slice (some ⟨g, 0, none⟩) (4 + m) c] 78)).alloc (.cells #[.int .u64 0, .int .i64 0, .int .i64 0, .int .u32 0, .int .u32 0, .int .u32 0] 35)) := below_alloc (below_alloc (Below.refl _ _) _) _
    have hB : Below w.heap.size w W := hA.trans (hW.mono (by omega))
    refine ⟨⟨?_, ?_, ?_, ?_, ?_⟩, HF.out.below hB, hB⟩
    · rw [hW.cell (by simp)]
      rw [World.cell?_alloc_old _ _ _ (by simp)]
      simp [World.cell?_alloc_new]
    · rw [hB.cell hg]; exact HW.out 0 _ rfl
    · rw [hB.cell hg]; exact HW.out 1 _ rfl
    · rw [hB.cell hg]; exact HW.out 2 _ rfl
    · rw [hB.cell hg]; exact HW.out 3 _ rfl
  have hR0 : Hid (((w.alloc (.cells #[.slice (some ⟨g, 0, none⟩) (4 + m) c] 78)).alloc (.cells #[.int .u64 0, .int .i64 0, .int .i64 0, .int .u32 0, .int .u32 0, .int .u32 0] 35)).heap[w.heap.size + 1]? = some (.cells #[.int .u64 0, .int .i64 0, .int .i64 0, .int .u32 0, .int .u32 0, .int .u32 0] 35 (0, 0))) := by
    have := blk_new (w.alloc (.cells #[.slice (some ⟨g, 0, none⟩) (4 + m) c] 78)) (.cells #[.int .u64 0, .int .i64 0, .int .i64 0, .int .u32 0, .int .u32 0, .int .u32 0] 35 (0, 0))
    rwa [World.size_alloc] at this
  obtain ⟨W0, hW0⟩ : ∃ W0, W0 = ((w.alloc (.cells #[.slice (some ⟨g, 0, none⟩) (4 + m) c] 78)).alloc (.cells #[.int .u64 0, .int .i64 0, .int .i64 0, .int .u32 0, .int .u32 0, .int .u32 0] 35)) := ⟨_, rfl⟩
  have hz0 : W0.heap.size = w.heap.size + 2 := by rw [hW0]; simp
  rw [← hW0] at hcell hR0 ⊢
  clear hW0
  refine (must_ok _).mono ?_
  rintro e w1 ⟨rfl, rfl⟩
  go_wp2_with fail
  obtain ⟨⟨cw, c0, c1, c2, c3⟩, hfr, _⟩ := hcell.out _ (Below.refl _ _)
  refine (idxForm_ok n q w.heap.size g (4 + m) c _ hfr hq1 hq7 (by omega) cw c2).mono ?_
  clear cw c0 c1 c2 c3 hfr
  rintro e w2 ⟨rfl, hb2⟩
  have HB2 := Lib.hid hb2
  clear hb2
  obtain ⟨⟨cw, c0, c1, c2, c3⟩, hfr, _⟩ := hcell.out _ (HB2.out.mono (Nat.le_of_eq hz0.symm))
  have cn := frm_words hfr q hq1 hq7
  rw [← Hm.out] at cn
  have hqI : (0 : Int) < q ∧ (q : Int) < 8 := by omega
  have hdq : decide ((0 : Int) < q) = true := decide_eq_true hqI.1
  have hdq' : decide (0 < q) = true := decide_eq_true hq1
  clear hfr
  go_wp2_with fail
  go_quiet ((go_at_call 75; with_reducible exact Calls.quiet_of_same (must_ok _)))
  clear cn hdq hdq'
  go_wp2_with fail
  have HS : Hid (∀ W, Below (w.heap.size + 2) w1 W → (W.cell? ⟨w.heap.size, 0, none⟩ = some (.slice (some ⟨g, 0, none⟩) (4 + m) c) ∧ W.cell? ⟨g, 0, none⟩ = some (.string (decS t)) ∧ W.cell? ⟨g, 1, none⟩ = some (.string (decS cl)) ∧ W.cell? ⟨g, 2, none⟩ = some (.string (kindS.getD q ByteArray.empty)) ∧ W.cell? ⟨g, 3, none⟩ = some (.string (hexS p)) ∧ Hid (Below (w.heap.size + 2) w1 W))) := fun W hW => by
    obtain ⟨⟨cw, c0, c1, c2, c3⟩, _⟩ := hcell.out _ hW
    exact ⟨cw, c0, c1, c2, c3, hW⟩
  have HB0 : Hid (Below (w.heap.size + 2) w1 (w2.drewN nq)) := pw_below_drewN (HB2.out.mono (Nat.le_of_eq hz0.symm)) nq
  have hz2 : w.heap.size + 2 ≤ (w2.drewN nq).heap.size := by have := HB0.out.size; omega
  obtain ⟨W2, hW2⟩ : ∃ W2, W2 = w2.drewN nq := ⟨_, rfl⟩
  rw [← hW2] at HB0 hz2 ⊢
  clear hW2 cw c0 c1 c2 c3 HB2
  have u1 : t < 18446744073709551616 := by have := hG.t63; omega
  have u2 : cl < 18446744073709551616 := by have := hG.cl8; omega
  have u3 : t ≤ 9223372036854775807 := hG.t63
  have u4 : cl ≤ 8 := hG.cl8
  have u5 : p < 4294967296 := hG.p32
  have clI : (0 : Int) ≤ cl ∧ (cl : Int) ≤ 8 := by omega
  have b0 : (0 : Int) < 4 + (m : Int) := by omega
  have b1 : (1 : Int) < 4 + (m : Int) := by omega
  have b3 : (3 : Int) < 4 + (m : Int) := by omega
  have hd1 : ∀ W, Calls Tryz.prog 79 #[.string (decS t), .int .u64 9223372036854775807] W fun e w' => e = .returned (.int .u64 t) ∧ Below W.heap.size W w' := fun W => decimal_ok t 9223372036854775807 u1 u3 W
  have hd2 : ∀ W, Calls Tryz.prog 79 #[.string (decS cl), .int .u64 8] W fun e w' => e = .returned (.int .u64 cl) ∧ Below W.heap.size W w' := fun W => decimal_ok cl 8 u2 u4 W
  have hz1 : w.heap.size + 2 ≤ w1.heap.size := Nat.le_of_eq hz0.symm
  have HBc : Hid (Below (w.heap.size + 2) w1 W2.drew) := below_drew HB0.out
  clear HB0
  refine start_ (n := 17) (S := fun w' => w'.cell? ⟨w.heap.size, 0, none⟩ = some (.slice (some ⟨g, 0, none⟩) (4 + m) c) ∧ w'.cell? ⟨g, 0, none⟩ = some (.string (decS t)) ∧ w'.cell? ⟨g, 1, none⟩ = some (.string (decS cl)) ∧ w'.cell? ⟨g, 3, none⟩ = some (.string (hexS p))) (ds := [16]) #[false, false, false, false, false, false, false, false, false, false, false, false, false, false, false, false, false] (by kernel_rfl) rfl rfl ⟨(HS.out _ HBc.out).1, (HS.out _ HBc.out).2.1, (HS.out _ HBc.out).2.2.1, (HS.out _ HBc.out).2.2.2.2.1⟩ (fun hHeld => ?_)
  generalize W2.drew = W3 at HBc hHeld ⊢
  refine pure_ (i := 9) (N := some 37) (v := ?_) (a' := ?_) #[false, false, false, false, false, false, false, false, false, true, false, false, false, false, false, false, false] rfl rfl (by kernel_rfl) (fun _ _ _ h => h) (Or.inl ⟨by rfl, ?_⟩) ?_ ?_
  rotate_left
  · intro w'
    go_simp
    with_reducible rfl
  rotate_left
  · simp only [Act.put, List.setIfInBounds_toArray, List.set_cons_zero, List.set_cons_succ, i64_w, i32_w]
    rfl
  refine take_ (i := 0) (N := some 28) (v := ?_) (a' := ?_) #[true, false, false, false, false, false, false, false, false, true, false, false, false, false, false, false, false] rfl rfl (by kernel_rfl) (fun _ _ _ h => h) (Or.inl ⟨by rfl, ?_⟩) hHeld ?_ ?_
  rotate_left
  · rintro w' ⟨s0, s1, s2, s3⟩
    go_simp
    with_reducible rfl
  rotate_left
  · simp only [Act.put, List.setIfInBounds_toArray, List.set_cons_zero, List.set_cons_succ, i64_w, i32_w]
    rfl
  refine pure_ (i := 1) (N := some 29) (v := ?_) (a' := ?_) #[true, true, false, false, false, false, false, false, false, true, false, false, false, false, false, false, false] rfl rfl (by kernel_rfl) (fun _ _ _ h => h) (Or.inl ⟨by rfl, ?_⟩) ?_ ?_
  rotate_left
  · intro w'
    go_simp
    with_reducible rfl
  rotate_left
  · simp only [Act.put, List.setIfInBounds_toArray, List.set_cons_zero, List.set_cons_succ, i64_w, i32_w]
    rfl
  refine take_ (i := 2) (N := some 30) (v := ?_) (a' := ?_) #[true, true, true, false, false, false, false, false, false, true, false, false, false, false, false, false, false] rfl rfl (by kernel_rfl) (fun _ _ _ h => h) (Or.inl ⟨by rfl, ?_⟩) hHeld ?_ ?_
  rotate_left
  · rintro w' ⟨s0, s1, s2, s3⟩
    go_simp
    with_reducible rfl
  rotate_left
  · simp only [Act.put, List.setIfInBounds_toArray, List.set_cons_zero, List.set_cons_succ, i64_w, i32_w]
    rfl
  refine take_ (i := 4) (N := some 32) (v := ?_) (a' := ?_) #[true, true, true, false, true, false, false, false, false, true, false, false, false, false, false, false, false] rfl rfl (by kernel_rfl) (fun _ _ _ h => h) (Or.inl ⟨by rfl, ?_⟩) hHeld ?_ ?_
  rotate_left
  · rintro w' ⟨s0, s1, s2, s3⟩
    go_simp
    with_reducible rfl
  rotate_left
  · simp only [Act.put, List.setIfInBounds_toArray, List.set_cons_zero, List.set_cons_succ, i64_w, i32_w]
    rfl
  refine pure_ (i := 5) (N := some 33) (v := ?_) (a' := ?_) #[true, true, true, false, true, true, false, false, false, true, false, false, false, false, false, false, false] rfl rfl (by kernel_rfl) (fun _ _ _ h => h) (Or.inl ⟨by rfl, ?_⟩) ?_ ?_
  rotate_left
  · intro w'
    go_simp
    with_reducible rfl
  rotate_left
  · simp only [Act.put, List.setIfInBounds_toArray, List.set_cons_zero, List.set_cons_succ, i64_w, i32_w]
    rfl
  refine take_ (i := 6) (N := some 34) (v := ?_) (a' := ?_) #[true, true, true, false, true, true, true, false, false, true, false, false, false, false, false, false, false] rfl rfl (by kernel_rfl) (fun _ _ _ h => h) (Or.inl ⟨by rfl, ?_⟩) hHeld ?_ ?_
  rotate_left
  · rintro w' ⟨s0, s1, s2, s3⟩
    go_simp
    with_reducible rfl
  rotate_left
  · simp only [Act.put, List.setIfInBounds_toArray, List.set_cons_zero, List.set_cons_succ, i64_w, i32_w]
    rfl
  refine take_ (i := 10) (N := some 38) (v := ?_) (a' := ?_) #[true, true, true, false, true, true, true, false, false, true, true, false, false, false, false, false, false] rfl rfl (by kernel_rfl) (fun _ _ _ h => h) (Or.inl ⟨by rfl, ?_⟩) hHeld ?_ ?_
  rotate_left
  · rintro w' ⟨s0, s1, s2, s3⟩
    go_simp
    with_reducible rfl
  rotate_left
  · simp only [Act.put, List.setIfInBounds_toArray, List.set_cons_zero, List.set_cons_succ, i64_w, i32_w]
    rfl
  refine pure_ (i := 11) (N := some 39) (v := ?_) (a' := ?_) #[true, true, true, false, true, true, true, false, false, true, true, true, false, false, false, false, false] rfl rfl (by kernel_rfl) (fun _ _ _ h => h) (Or.inl ⟨by rfl, ?_⟩) ?_ ?_
  rotate_left
  · intro w'
    go_simp
    with_reducible rfl
  rotate_left
  · simp only [Act.put, List.setIfInBounds_toArray, List.set_cons_zero, List.set_cons_succ, i64_w, i32_w]
    rfl
  refine take_ (i := 12) (N := some 40) (v := ?_) (a' := ?_) #[true, true, true, false, true, true, true, false, false, true, true, true, true, false, false, false, false] rfl rfl (by kernel_rfl) (fun _ _ _ h => h) (Or.inl ⟨by rfl, ?_⟩) hHeld ?_ ?_
  rotate_left
  · rintro w' ⟨s0, s1, s2, s3⟩
    go_simp
    with_reducible rfl
  rotate_left
  · simp only [Act.put, List.setIfInBounds_toArray, List.set_cons_zero, List.set_cons_succ, i64_w, i32_w]
    rfl
  refine join_ (σ := Nat) 1 #[true, true, true, true, true, true, true, true, true, true, true, true, true, true, true, true, false] (fun O => [(31, .int .u64 t), (35, .int .u64 cl), (36, .int .i64 (wrap64 cl)), (41, .int .u32 p), (42, .agg #[.int .u64 t, .int .i64 (wrap64 cl), .int .i64 q, .int .u32 p, .int .u32 0, .int .u32 0]), (6, .pointer (some ⟨O, 0, none⟩))]) (fun O w' => w.heap.size + 2 ≤ O ∧ w'.heap[O]? = some (.cells #[.int .u64 0, .int .i64 0, .int .i64 0, .int .u32 0, .int .u32 0, .int .u32 0] 35 (0, 0)) ∧ Below (w.heap.size + 2) w1 w') ?_ ?_
  rotate_left
  · intro hCont
    refine two_ (i := 3) (j := 15) (Ni := some 31) (Nj := some 6) #[true, true, true, true, true, true, true, false, false, true, true, true, true, false, false, false, false] #[true, true, true, false, true, true, true, false, false, true, true, true, true, false, false, true, false] rfl rfl rfl rfl (by kernel_rfl) (by decide) (by decide) (fun K hK => ?_) (fun K hK => ?_)
    · skip
      refine goes_ Tryz.func79 (by kernel_rfl) rfl #[.string (decS t), .int .u64 9223372036854775807] (by rfl) rfl rfl (by simp only [List.map_toArray, List.map_cons, List.map_nil]; rfl) ?_
      with_reducible refine (hd1 _).mono ?_
      rintro e w5 ⟨rfl, hb⟩
      refine ⟨_, rfl, ?_⟩
      replace HBc := step_b HBc hz1 hb
      clear hb
      refine hK.out _ _ ⟨(HS.out _ HBc.out).1, (HS.out _ HBc.out).2.1, (HS.out _ HBc.out).2.2.1, (HS.out _ HBc.out).2.2.2.2.1⟩ (fun hHeld => ?_)
      clear hK K
      refine norm_ (a' := ?_) ?_ ?_
      rotate_left
      · show Act.put _ (some 31) _ = _
        simp only [Act.put, List.setIfInBounds_toArray, List.set_cons_zero, List.set_cons_succ, i64_w, i32_w]
        rfl
      refine two_ (i := 7) (j := 15) (Ni := some 35) (Nj := some 6) #[true, true, true, true, true, true, true, true, false, true, true, true, true, false, false, false, false] #[true, true, true, true, true, true, true, false, false, true, true, true, true, false, false, true, false] rfl rfl rfl rfl (by kernel_rfl) (by decide) (by decide) (fun K hK => ?_) (fun K hK => ?_)
      · skip
        refine goes_ Tryz.func79 (by kernel_rfl) rfl #[.string (decS cl), .int .u64 8] (by rfl) rfl rfl (by simp only [List.map_toArray, List.map_cons, List.map_nil]; rfl) ?_
        with_reducible refine (hd2 _).mono ?_
        rintro e w6 ⟨rfl, hb⟩
        refine ⟨_, rfl, ?_⟩
        replace HBc := step_b HBc hz1 hb
        clear hb
        refine hK.out _ _ ⟨(HS.out _ HBc.out).1, (HS.out _ HBc.out).2.1, (HS.out _ HBc.out).2.2.1, (HS.out _ HBc.out).2.2.2.2.1⟩ (fun hHeld => ?_)
        clear hK K
        refine norm_ (a' := ?_) ?_ ?_
        rotate_left
        · show Act.put _ (some 35) _ = _
          simp only [Act.put, List.setIfInBounds_toArray, List.set_cons_zero, List.set_cons_succ, i64_w, i32_w]
          rfl
        refine pure_ (i := 8) (N := some 36) (v := ?_) (a' := ?_) #[true, true, true, true, true, true, true, true, true, true, true, true, true, false, false, false, false] rfl rfl (by kernel_rfl) (fun _ _ _ h => h) (Or.inl ⟨by rfl, ?_⟩) ?_ ?_
        rotate_left
        · intro w'
          go_simp
          with_reducible rfl
        rotate_left
        · simp only [Act.put, List.setIfInBounds_toArray, List.set_cons_zero, List.set_cons_succ, i64_w, i32_w]
          rfl
        refine two_ (i := 13) (j := 15) (Ni := some 41) (Nj := some 6) #[true, true, true, true, true, true, true, true, true, true, true, true, true, true, false, false, false] #[true, true, true, true, true, true, true, true, true, true, true, true, true, false, false, true, false] rfl rfl rfl rfl (by kernel_rfl) (by decide) (by decide) (fun K hK => ?_) (fun K hK => ?_)
        · skip
          refine goes_ Tryz.func76 (by kernel_rfl) rfl #[.string (hexS p)] (by rfl) rfl rfl (by simp only [List.map_toArray, List.map_cons, List.map_nil]; rfl) ?_
          with_reducible refine (unhex_ok p u5 _).mono ?_
          rintro e w7 ⟨rfl, hb⟩
          refine ⟨_, rfl, ?_⟩
          replace HBc := step_b HBc hz1 hb
          clear hb
          refine hK.out _ _ ⟨(HS.out _ HBc.out).1, (HS.out _ HBc.out).2.1, (HS.out _ HBc.out).2.2.1, (HS.out _ HBc.out).2.2.2.2.1⟩ (fun hHeld => ?_)
          clear hK K
          refine norm_ (a' := ?_) ?_ ?_
          rotate_left
          · show Act.put _ (some 41) _ = _
            simp only [Act.put, List.setIfInBounds_toArray, List.set_cons_zero, List.set_cons_succ, i64_w, i32_w]
            rfl
          refine pure_ (i := 14) (N := some 42) (v := ?_) (a' := ?_) #[true, true, true, true, true, true, true, true, true, true, true, true, true, true, true, false, false] rfl rfl (by kernel_rfl) (fun _ _ _ h => h) (Or.inl ⟨by rfl, ?_⟩) ?_ ?_
          rotate_left
          · intro w'
            go_simp
            with_reducible rfl
          rotate_left
          · simp only [Act.put, List.setIfInBounds_toArray, List.set_cons_zero, List.set_cons_succ, i64_w, i32_w]
            rfl
          refine one_ (i := 15) (N := some 6) #[true, true, true, true, true, true, true, true, true, true, true, true, true, true, true, true, false] rfl rfl (by kernel_rfl) (by decide) (fun K hK => ?_)
          refine value_ (w1 := ?_) (v := ?_) (by rfl) rfl ?_ ?_
          rotate_left 2
          · go_simp
            constructor
            · rfl
            · rfl
          have hO : w.heap.size + 2 ≤ w7.heap.size := Nat.le_trans hz1 HBc.out.size
          have HZ := Lib.hid (blk_new w7 (.cells #[.int .u64 0, .int .i64 0, .int .i64 0, .int .u32 0, .int .u32 0, .int .u32 0] 35 (0, 0)))
          replace HBc := Lib.hid (HBc.out.alloc hO (.cells #[.int .u64 0, .int .i64 0, .int .i64 0, .int .u32 0, .int .u32 0, .int .u32 0] 35))
          refine hK.out _ _ ⟨(HS.out _ HBc.out).1, (HS.out _ HBc.out).2.1, (HS.out _ HBc.out).2.2.1, (HS.out _ HBc.out).2.2.2.2.1⟩ (fun hHeld => ?_)
          clear hK K
          refine norm_ (a' := ?_) ?_ ?_
          rotate_left
          · show Act.put _ (some 6) _ = _
            simp only [Act.put, List.setIfInBounds_toArray, List.set_cons_zero, List.set_cons_succ, i64_w, i32_w]
            rfl
          exact norm_ (by simp only [putAll, Act.put, List.setIfInBounds_toArray, List.set_cons_zero, List.set_cons_succ]) (hCont w7.heap.size _ ⟨hO, HZ.out, HBc.out⟩)
        · skip
          refine value_ (w1 := ?_) (v := ?_) (by rfl) rfl ?_ ?_
          rotate_left 2
          · go_simp
            constructor
            · rfl
            · rfl
          have hO : w.heap.size + 2 ≤ w6.heap.size := Nat.le_trans hz1 HBc.out.size
          have HZ := Lib.hid (blk_new w6 (.cells #[.int .u64 0, .int .i64 0, .int .i64 0, .int .u32 0, .int .u32 0, .int .u32 0] 35 (0, 0)))
          replace HBc := Lib.hid (HBc.out.alloc hO (.cells #[.int .u64 0, .int .i64 0, .int .i64 0, .int .u32 0, .int .u32 0, .int .u32 0] 35))
          refine hK.out _ _ ⟨(HS.out _ HBc.out).1, (HS.out _ HBc.out).2.1, (HS.out _ HBc.out).2.2.1, (HS.out _ HBc.out).2.2.2.2.1⟩ (fun hHeld => ?_)
          clear hK K
          refine norm_ (a' := ?_) ?_ ?_
          rotate_left
          · show Act.put _ (some 6) _ = _
            simp only [Act.put, List.setIfInBounds_toArray, List.set_cons_zero, List.set_cons_succ, i64_w, i32_w]
            rfl
          refine one_ (i := 13) (N := some 41) #[true, true, true, true, true, true, true, true, true, true, true, true, true, true, false, true, false] rfl rfl (by kernel_rfl) (by decide) (fun K hK => ?_)
          refine goes_ Tryz.func76 (by kernel_rfl) rfl #[.string (hexS p)] (by rfl) rfl rfl (by simp only [List.map_toArray, List.map_cons, List.map_nil]; rfl) ?_
          with_reducible refine (unhex_ok p u5 _).mono ?_
          rintro e w7 ⟨rfl, hb⟩
          refine ⟨_, rfl, ?_⟩
          replace HZ := Lib.hid ((hb.block _ (heap_lt' HZ.out)).trans HZ.out)
          replace HBc := step_b HBc hz1 hb
          clear hb
          refine hK.out _ _ ⟨(HS.out _ HBc.out).1, (HS.out _ HBc.out).2.1, (HS.out _ HBc.out).2.2.1, (HS.out _ HBc.out).2.2.2.2.1⟩ (fun hHeld => ?_)
          clear hK K
          refine norm_ (a' := ?_) ?_ ?_
          rotate_left
          · show Act.put _ (some 41) _ = _
            simp only [Act.put, List.setIfInBounds_toArray, List.set_cons_zero, List.set_cons_succ, i64_w, i32_w]
            rfl
          refine pure_ (i := 14) (N := some 42) (v := ?_) (a' := ?_) #[true, true, true, true, true, true, true, true, true, true, true, true, true, true, true, true, false] rfl rfl (by kernel_rfl) (fun _ _ _ h => h) (Or.inl ⟨by rfl, ?_⟩) ?_ ?_
          rotate_left
          · intro w'
            go_simp
            with_reducible rfl
          rotate_left
          · simp only [Act.put, List.setIfInBounds_toArray, List.set_cons_zero, List.set_cons_succ, i64_w, i32_w]
            rfl
          exact norm_ (by simp only [putAll, Act.put, List.setIfInBounds_toArray, List.set_cons_zero, List.set_cons_succ]) (hCont w6.heap.size _ ⟨hO, HZ.out, HBc.out⟩)
      · skip
        refine value_ (w1 := ?_) (v := ?_) (by rfl) rfl ?_ ?_
        rotate_left 2
        · go_simp
          constructor
          · rfl
          · rfl
        have hO : w.heap.size + 2 ≤ w5.heap.size := Nat.le_trans hz1 HBc.out.size
        have HZ := Lib.hid (blk_new w5 (.cells #[.int .u64 0, .int .i64 0, .int .i64 0, .int .u32 0, .int .u32 0, .int .u32 0] 35 (0, 0)))
        replace HBc := Lib.hid (HBc.out.alloc hO (.cells #[.int .u64 0, .int .i64 0, .int .i64 0, .int .u32 0, .int .u32 0, .int .u32 0] 35))
        refine hK.out _ _ ⟨(HS.out _ HBc.out).1, (HS.out _ HBc.out).2.1, (HS.out _ HBc.out).2.2.1, (HS.out _ HBc.out).2.2.2.2.1⟩ (fun hHeld => ?_)
        clear hK K
        refine norm_ (a' := ?_) ?_ ?_
        rotate_left
        · show Act.put _ (some 6) _ = _
          simp only [Act.put, List.setIfInBounds_toArray, List.set_cons_zero, List.set_cons_succ, i64_w, i32_w]
          rfl
        refine one_ (i := 7) (N := some 35) #[true, true, true, true, true, true, true, true, false, true, true, true, true, false, false, true, false] rfl rfl (by kernel_rfl) (by decide) (fun K hK => ?_)
        refine goes_ Tryz.func79 (by kernel_rfl) rfl #[.string (decS cl), .int .u64 8] (by rfl) rfl rfl (by simp only [List.map_toArray, List.map_cons, List.map_nil]; rfl) ?_
        with_reducible refine (hd2 _).mono ?_
        rintro e w6 ⟨rfl, hb⟩
        refine ⟨_, rfl, ?_⟩
        replace HZ := Lib.hid ((hb.block _ (heap_lt' HZ.out)).trans HZ.out)
        replace HBc := step_b HBc hz1 hb
        clear hb
        refine hK.out _ _ ⟨(HS.out _ HBc.out).1, (HS.out _ HBc.out).2.1, (HS.out _ HBc.out).2.2.1, (HS.out _ HBc.out).2.2.2.2.1⟩ (fun hHeld => ?_)
        clear hK K
        refine norm_ (a' := ?_) ?_ ?_
        rotate_left
        · show Act.put _ (some 35) _ = _
          simp only [Act.put, List.setIfInBounds_toArray, List.set_cons_zero, List.set_cons_succ, i64_w, i32_w]
          rfl
        refine pure_ (i := 8) (N := some 36) (v := ?_) (a' := ?_) #[true, true, true, true, true, true, true, true, true, true, true, true, true, false, false, true, false] rfl rfl (by kernel_rfl) (fun _ _ _ h => h) (Or.inl ⟨by rfl, ?_⟩) ?_ ?_
        rotate_left
        · intro w'
          go_simp
          with_reducible rfl
        rotate_left
        · simp only [Act.put, List.setIfInBounds_toArray, List.set_cons_zero, List.set_cons_succ, i64_w, i32_w]
          rfl
        refine one_ (i := 13) (N := some 41) #[true, true, true, true, true, true, true, true, true, true, true, true, true, true, false, true, false] rfl rfl (by kernel_rfl) (by decide) (fun K hK => ?_)
        refine goes_ Tryz.func76 (by kernel_rfl) rfl #[.string (hexS p)] (by rfl) rfl rfl (by simp only [List.map_toArray, List.map_cons, List.map_nil]; rfl) ?_
        with_reducible refine (unhex_ok p u5 _).mono ?_
        rintro e w7 ⟨rfl, hb⟩
        refine ⟨_, rfl, ?_⟩
        replace HZ := Lib.hid ((hb.block _ (heap_lt' HZ.out)).trans HZ.out)
        replace HBc := step_b HBc hz1 hb
        clear hb
        refine hK.out _ _ ⟨(HS.out _ HBc.out).1, (HS.out _ HBc.out).2.1, (HS.out _ HBc.out).2.2.1, (HS.out _ HBc.out).2.2.2.2.1⟩ (fun hHeld => ?_)
        clear hK K
        refine norm_ (a' := ?_) ?_ ?_
        rotate_left
        · show Act.put _ (some 41) _ = _
          simp only [Act.put, List.setIfInBounds_toArray, List.set_cons_zero, List.set_cons_succ, i64_w, i32_w]
          rfl
        refine pure_ (i := 14) (N := some 42) (v := ?_) (a' := ?_) #[true, true, true, true, true, true, true, true, true, true, true, true, true, true, true, true, false] rfl rfl (by kernel_rfl) (fun _ _ _ h => h) (Or.inl ⟨by rfl, ?_⟩) ?_ ?_
        rotate_left
        · intro w'
          go_simp
          with_reducible rfl
        rotate_left
        · simp only [Act.put, List.setIfInBounds_toArray, List.set_cons_zero, List.set_cons_succ, i64_w, i32_w]
          rfl
        exact norm_ (by simp only [putAll, Act.put, List.setIfInBounds_toArray, List.set_cons_zero, List.set_cons_succ]) (hCont w5.heap.size _ ⟨hO, HZ.out, HBc.out⟩)
    · skip
      refine value_ (w1 := ?_) (v := ?_) (by rfl) rfl ?_ ?_
      rotate_left 2
      · go_simp
        constructor
        · rfl
        · rfl
      have hO : w.heap.size + 2 ≤ W3.heap.size := Nat.le_trans hz1 HBc.out.size
      have HZ := Lib.hid (blk_new W3 (.cells #[.int .u64 0, .int .i64 0, .int .i64 0, .int .u32 0, .int .u32 0, .int .u32 0] 35 (0, 0)))
      replace HBc := Lib.hid (HBc.out.alloc hO (.cells #[.int .u64 0, .int .i64 0, .int .i64 0, .int .u32 0, .int .u32 0, .int .u32 0] 35))
      refine hK.out _ _ ⟨(HS.out _ HBc.out).1, (HS.out _ HBc.out).2.1, (HS.out _ HBc.out).2.2.1, (HS.out _ HBc.out).2.2.2.2.1⟩ (fun hHeld => ?_)
      clear hK K
      refine norm_ (a' := ?_) ?_ ?_
      rotate_left
      · show Act.put _ (some 6) _ = _
        simp only [Act.put, List.setIfInBounds_toArray, List.set_cons_zero, List.set_cons_succ, i64_w, i32_w]
        rfl
      refine one_ (i := 3) (N := some 31) #[true, true, true, true, true, true, true, false, false, true, true, true, true, false, false, true, false] rfl rfl (by kernel_rfl) (by decide) (fun K hK => ?_)
      refine goes_ Tryz.func79 (by kernel_rfl) rfl #[.string (decS t), .int .u64 9223372036854775807] (by rfl) rfl rfl (by simp only [List.map_toArray, List.map_cons, List.map_nil]; rfl) ?_
      with_reducible refine (hd1 _).mono ?_
      rintro e w5 ⟨rfl, hb⟩
      refine ⟨_, rfl, ?_⟩
      replace HZ := Lib.hid ((hb.block _ (heap_lt' HZ.out)).trans HZ.out)
      replace HBc := step_b HBc hz1 hb
      clear hb
      refine hK.out _ _ ⟨(HS.out _ HBc.out).1, (HS.out _ HBc.out).2.1, (HS.out _ HBc.out).2.2.1, (HS.out _ HBc.out).2.2.2.2.1⟩ (fun hHeld => ?_)
      clear hK K
      refine norm_ (a' := ?_) ?_ ?_
      rotate_left
      · show Act.put _ (some 31) _ = _
        simp only [Act.put, List.setIfInBounds_toArray, List.set_cons_zero, List.set_cons_succ, i64_w, i32_w]
        rfl
      refine one_ (i := 7) (N := some 35) #[true, true, true, true, true, true, true, true, false, true, true, true, true, false, false, true, false] rfl rfl (by kernel_rfl) (by decide) (fun K hK => ?_)
      refine goes_ Tryz.func79 (by kernel_rfl) rfl #[.string (decS cl), .int .u64 8] (by rfl) rfl rfl (by simp only [List.map_toArray, List.map_cons, List.map_nil]; rfl) ?_
      with_reducible refine (hd2 _).mono ?_
      rintro e w6 ⟨rfl, hb⟩
      refine ⟨_, rfl, ?_⟩
      replace HZ := Lib.hid ((hb.block _ (heap_lt' HZ.out)).trans HZ.out)
      replace HBc := step_b HBc hz1 hb
      clear hb
      refine hK.out _ _ ⟨(HS.out _ HBc.out).1, (HS.out _ HBc.out).2.1, (HS.out _ HBc.out).2.2.1, (HS.out _ HBc.out).2.2.2.2.1⟩ (fun hHeld => ?_)
      clear hK K
      refine norm_ (a' := ?_) ?_ ?_
      rotate_left
      · show Act.put _ (some 35) _ = _
        simp only [Act.put, List.setIfInBounds_toArray, List.set_cons_zero, List.set_cons_succ, i64_w, i32_w]
        rfl
      refine pure_ (i := 8) (N := some 36) (v := ?_) (a' := ?_) #[true, true, true, true, true, true, true, true, true, true, true, true, true, false, false, true, false] rfl rfl (by kernel_rfl) (fun _ _ _ h => h) (Or.inl ⟨by rfl, ?_⟩) ?_ ?_
      rotate_left
      · intro w'
        go_simp
        with_reducible rfl
      rotate_left
      · simp only [Act.put, List.setIfInBounds_toArray, List.set_cons_zero, List.set_cons_succ, i64_w, i32_w]
        rfl
      refine one_ (i := 13) (N := some 41) #[true, true, true, true, true, true, true, true, true, true, true, true, true, true, false, true, false] rfl rfl (by kernel_rfl) (by decide) (fun K hK => ?_)
      refine goes_ Tryz.func76 (by kernel_rfl) rfl #[.string (hexS p)] (by rfl) rfl rfl (by simp only [List.map_toArray, List.map_cons, List.map_nil]; rfl) ?_
      with_reducible refine (unhex_ok p u5 _).mono ?_
      rintro e w7 ⟨rfl, hb⟩
      refine ⟨_, rfl, ?_⟩
      replace HZ := Lib.hid ((hb.block _ (heap_lt' HZ.out)).trans HZ.out)
      replace HBc := step_b HBc hz1 hb
      clear hb
      refine hK.out _ _ ⟨(HS.out _ HBc.out).1, (HS.out _ HBc.out).2.1, (HS.out _ HBc.out).2.2.1, (HS.out _ HBc.out).2.2.2.2.1⟩ (fun hHeld => ?_)
      clear hK K
      refine norm_ (a' := ?_) ?_ ?_
      rotate_left
      · show Act.put _ (some 41) _ = _
        simp only [Act.put, List.setIfInBounds_toArray, List.set_cons_zero, List.set_cons_succ, i64_w, i32_w]
        rfl
      refine pure_ (i := 14) (N := some 42) (v := ?_) (a' := ?_) #[true, true, true, true, true, true, true, true, true, true, true, true, true, true, true, true, false] rfl rfl (by kernel_rfl) (fun _ _ _ h => h) (Or.inl ⟨by rfl, ?_⟩) ?_ ?_
      rotate_left
      · intro w'
        go_simp
        with_reducible rfl
      rotate_left
      · simp only [Act.put, List.setIfInBounds_toArray, List.set_cons_zero, List.set_cons_succ, i64_w, i32_w]
        rfl
      exact norm_ (by simp only [putAll, Act.put, List.setIfInBounds_toArray, List.set_cons_zero, List.set_cons_succ]) (hCont W3.heap.size _ ⟨hO, HZ.out, HBc.out⟩)
  rintro O w8 ⟨hO, hZ, hBc⟩
  clear HBc
  have HZ := Lib.hid hZ
  have HBc := Lib.hid hBc
  have hHeld := And.intro (HS.out _ HBc.out).1 (And.intro (HS.out _ HBc.out).2.1 (And.intro (HS.out _ HBc.out).2.2.1 (HS.out _ HBc.out).2.2.2.2.1))
  obtain ⟨z0, z1, z2, z3, z4, z5⟩ := zero_cells HZ.out; obtain ⟨y1, y2, y3, y4, y5⟩ := zero_sets HZ.out (.int .u64 t) (.int .i64 (wrap64 cl)) (.int .i64 q) (.int .u32 p) (.int .u32 0); obtain ⟨x1, x2, x3, x4, x5⟩ := zero_setsf HZ.out (.int .u64 t) (.int .i64 (wrap64 cl)) (.int .i64 q) (.int .u32 p) (.int .u32 0); have zf0 := zero_frozen HZ.out 0; have zf1 := zero_frozen HZ.out 1; have zf2 := zero_frozen HZ.out 2; have zf3 := zero_frozen HZ.out 3; have zf4 := zero_frozen HZ.out 4; have zf5 := zero_frozen HZ.out 5
  refine norm_ (a' := ?_) ?_ ?_
  rotate_left
  · simp only [putAll, Act.put, List.setIfInBounds_toArray, List.set_cons_zero, List.set_cons_succ]
    rfl
  refine last_ (i := 16) (N := none) #[true, true, true, true, true, true, true, true, true, true, true, true, true, true, true, true, true] rfl rfl (by kernel_rfl) (by decide) (fun K hK => ?_)
  refine skip_ (w1 := ?_) (by rfl) rfl ?_ ?_
  rotate_left
  · go_simp
    rfl
  refine hK.out _ _ ?_
  clear hK K
  refine done_ (by kernel_rfl) ?_
  have hwc64 : wrap64 (cl : Int) = (cl : Int) := by unfold wrap64; omega
  obtain ⟨wc, hwc⟩ : ∃ wc, wc = ((((((w8.setCell ⟨O, 0, none⟩ (.int .u64 t)).setCell ⟨O, 1, none⟩ (.int .i64 (wrap64 cl))).setCell ⟨O, 2, none⟩ (.int .i64 q)).setCell ⟨O, 3, none⟩ (.int .u32 p)).setCell ⟨O, 4, none⟩ (.int .u32 0)).setCell ⟨O, 5, none⟩ (.int .u32 0)) := ⟨_, rfl⟩
  have HBd : Hid (Below (w.heap.size + 2) w1 wc) := by
    show Below (w.heap.size + 2) w1 wc
    rw [hwc]; exact set6b HBc.out hO
  have HOd : Hid (ObN wc O t cl q p 0 0) := by
    show ObN wc O t cl q p 0 0
    rw [hwc, hwc64]; exact set6_ob HZ.out _ _ _ _ _ _
  rw [← hwc]
  clear hwc z0 z1 z2 z3 z4 z5 y1 y2 y3 y4 y5 x1 x2 x3 x4 x5 zf0 zf1 zf2 zf3 zf4 zf5 HZ hHeld HBc hd1 hd2
  obtain ⟨_, hfrd, hBw⟩ := hcell.out _ HBd.out
  obtain ⟨mr, fvr, hmr, hmr2⟩ := frm_row2 hfrd q hq1 hq7
  have hent : ∀ args w, (callFunc mr args).run Tryz.prog w = .ok (.enter mr args) w := renter_any hq1 hq7 hmr2
  have HBd5 : Hid (wc.drew.cell? ⟨n + 2, q * 4 + 3, none⟩ = some (.func (.func mr) #[] fvr) ∧ wc.drew.cell? ⟨w.heap.size, 0, none⟩ = some (.slice (some ⟨g, 0, none⟩) (4 + m) c)) := ⟨hmr, (HS.out _ HBd.out).1⟩
  have hrd : Hid (∀ W, Below (w.heap.size + 2) w1 W → ObN W O t cl q p 0 0 → Calls Tryz.prog mr (#[.pointer (some ⟨O, 0, none⟩), .slice (if c = 4 then some ⟨g, 0, none⟩ else some ⟨g, 4, none⟩) m (c - 4)] ++ fvr) W (RdR W O t cl q p a b)) := by
    intro W hW hO'
    obtain ⟨_, hf, hBw'⟩ := hcell.out _ hW
    rw [Hm.out]
    exact read_any hf HG.out hmr2 (fun h => by rw [if_neg]; have := Hm.out; omega) hO' (fun j x hx => by rw [hBw'.cell hg]; exact HW.out j x hx)
  replace HBd : Hid (Below (w.heap.size + 2) w1 wc.drew) := below_drew HBd.out
  replace HOd : Hid (ObN wc.drew O t cl q p 0 0) := HOd.out
  go_wp2_with fail
  refine start_ (n := 8) (S := fun w' => w'.cell? ⟨n + 2, q * 4 + 3, none⟩ = some (.func (.func mr) #[] fvr) ∧ w'.cell? ⟨w.heap.size, 0, none⟩ = some (.slice (some ⟨g, 0, none⟩) (4 + m) c)) (ds := [7]) #[false, false, false, false, false, false, false, false] (by kernel_rfl) rfl rfl ⟨HBd5.out.1, HBd5.out.2⟩ (fun hHeld => ?_)
  generalize wc.drew = W5 at HBd HOd hHeld ⊢
  refine pure_ (i := 0) (N := some 43) (v := ?_) (a' := ?_) #[true, false, false, false, false, false, false, false] rfl rfl (by kernel_rfl) (fun _ _ _ h => h) (Or.inl ⟨by rfl, ?_⟩) ?_ ?_
  rotate_left
  · intro w'
    go_simp
    with_reducible rfl
  rotate_left
  · simp only [Act.put, List.setIfInBounds_toArray, List.set_cons_zero, List.set_cons_succ, i64_w, i32_w]
    rfl
  refine pure_ (i := 1) (N := some 44) (v := ?_) (a' := ?_) #[true, true, false, false, false, false, false, false] rfl rfl (by kernel_rfl) (fun _ _ _ h => h) (Or.inl ⟨by rfl, ?_⟩) ?_ ?_
  rotate_left
  · intro w'
    go_simp
    with_reducible rfl
  rotate_left
  · simp only [Act.put, List.setIfInBounds_toArray, List.set_cons_zero, List.set_cons_succ, i64_w, i32_w]
    rfl
  refine pure_ (i := 2) (N := some 45) (v := ?_) (a' := ?_) #[true, true, true, false, false, false, false, false] rfl rfl (by kernel_rfl) (fun _ _ _ h => h) (Or.inl ⟨by rfl, ?_⟩) ?_ ?_
  rotate_left
  · intro w'
    go_simp
    with_reducible rfl
  rotate_left
  · simp only [Act.put, List.setIfInBounds_toArray, List.set_cons_zero, List.set_cons_succ, i64_w, i32_w]
    rfl
  refine pure_ (i := 3) (N := some 46) (v := ?_) (a' := ?_) #[true, true, true, true, false, false, false, false] rfl rfl (by kernel_rfl) (fun _ _ _ h => h) (Or.inl ⟨by rfl, ?_⟩) ?_ ?_
  rotate_left
  · intro w'
    go_simp
    with_reducible rfl
  rotate_left
  · simp only [Act.put, List.setIfInBounds_toArray, List.set_cons_zero, List.set_cons_succ, i64_w, i32_w]
    rfl
  refine take_ (i := 4) (N := some 47) (v := ?_) (a' := ?_) #[true, true, true, true, true, false, false, false] rfl rfl (by kernel_rfl) (fun _ _ _ h => h) (Or.inl ⟨by rfl, ?_⟩) hHeld ?_ ?_
  rotate_left
  · rintro w' ⟨s0, s1⟩
    go_simp
    with_reducible rfl
  rotate_left
  · simp only [Act.put, List.setIfInBounds_toArray, List.set_cons_zero, List.set_cons_succ, i64_w, i32_w]
    rfl
  refine take_ (i := 5) (N := some 48) (v := ?_) (a' := ?_) #[true, true, true, true, true, true, false, false] rfl rfl (by kernel_rfl) (fun _ _ _ h => h) (Or.inl ⟨by rfl, ?_⟩) hHeld ?_ ?_
  rotate_left
  · rintro w' ⟨s0, s1⟩
    go_simp
    with_reducible rfl
  rotate_left
  · simp only [Act.put, List.setIfInBounds_toArray, List.set_cons_zero, List.set_cons_succ, i64_w, i32_w]
    rfl
  refine pure_ (i := 6) (N := some 49) (v := ?_) (a' := ?_) #[true, true, true, true, true, true, true, false] rfl rfl (by kernel_rfl) (fun _ _ _ h => h) (Or.inl ⟨by rfl, ?_⟩) ?_ ?_
  rotate_left
  · intro w'
    go_simp
    with_reducible rfl
  rotate_left
  · simp only [Act.put, List.setIfInBounds_toArray, List.set_cons_zero, List.set_cons_succ, i64_w, i32_w]
    rfl
  refine last_ (i := 7) (N := some 50) #[true, true, true, true, true, true, true, true] rfl rfl (by kernel_rfl) (by decide) (fun K hK => ?_)
  refine call_ mr (#[.pointer (some ⟨O, 0, none⟩), .slice (if c = 4 then some ⟨g, 0, none⟩ else some ⟨g, 4, none⟩) m (c - 4)] ++ fvr) (by rfl) rfl ?_ ?_
  · go_simp
  refine (hrd.out _ HBd.out HOd.out).mono ?_
  rintro e w10 ⟨rfl, ho, hb⟩
  refine ⟨_, rfl, ?_⟩
  refine hK.out _ _ ?_
  clear hK K
  refine norm_ (a' := ?_) ?_ ?_
  rotate_left
  · show Act.put _ (some 50) _ = _
    simp only [Act.put, List.setIfInBounds_toArray, List.set_cons_zero, List.set_cons_succ, i64_w, i32_w]
    rfl
  refine done_ (by kernel_rfl) ?_
  have HB10 : Hid (Below (w.heap.size + 2) w1 w10) := HBd.out.trans (hb.mono hO)
  have HO10 := Lib.hid ho
  clear hb ho HOd HBd hHeld HBd5 hrd hent hmr hmr2 hBw hfrd HS
  obtain ⟨c0, c1, c2, c3, c4, c5⟩ := HO10.out.cells
  generalize (if c = 4 then (some ⟨g, 0, none⟩ : Option Addr) else some ⟨g, 4, none⟩) = AA
  go_wp2_with fail
  refine (may_ok (obN t cl q p a b) _).mono ?_
  rintro e w11 ⟨rfl, hb⟩
  rw [HG.out.may]
  clear c0 c1 c2 c3 c4 c5
  have HO11 := Lib.hid (HO10.out.below hb)
  have HB11 := step_b HB10 hz1 hb
  clear hb HO10 HB10
  go_wp2_with fail
  refine (must_ok _).mono ?_
  rintro e w12 ⟨rfl, rfl⟩
  obtain ⟨c0, c1, c2, c3, c4, c5⟩ := HO11.out.cells
  have hR12 : w12.heap[w.heap.size + 1]? = some (.cells #[.int .u64 0, .int .i64 0, .int .i64 0, .int .u32 0, .int .u32 0, .int .u32 0] 35 (0, 0)) := (HB11.out.block _ (by omega)).trans hR0.out
  have HR12 := Lib.hid hR12
  obtain ⟨z0, z1, z2, z3, z4, z5⟩ := zero_cells hR12
  obtain ⟨y1, y2, y3, y4, y5⟩ := zero_sets hR12 (.int .u64 t) (.int .i64 cl) (.int .i64 q) (.int .u32 p) (.int .u32 a)
  obtain ⟨x1, x2, x3, x4, x5⟩ := zero_setsf hR12 (.int .u64 t) (.int .i64 cl) (.int .i64 q) (.int .u32 p) (.int .u32 a)
  have zf0 := zero_frozen hR12 0
  clear hR12
  go_wp2_with fail
  have hfin := set6_ob HR12.out (.int .u64 t) (.int .i64 cl) (.int .i64 q) (.int .u32 p) (.int .u32 a) (.int .u32 b)
  obtain ⟨e0, e1, e2, e3, e4, e5⟩ := ObN.cells (O := w.heap.size + 1) (t := t) (cl := cl) (q := q) (p := p) (a := a) (b := b) hfin
  obtain ⟨_, _, hBw12⟩ := hcell.out _ HB11.out
  have HBf := set6b (v0 := .int .u64 t) (v1 := .int .i64 cl) (v2 := .int .i64 q) (v3 := .int .u32 p) (v4 := .int .u32 a) (v5 := .int .u32 b) (O := w.heap.size + 1) hBw12 (by omega)
  generalize ((((((w12.setCell ⟨w.heap.size + 1, 0, none⟩ (.int .u64 t)).setCell ⟨w.heap.size + 1, 1, none⟩ (.int .i64 cl)).setCell ⟨w.heap.size + 1, 2, none⟩ (.int .i64 q)).setCell ⟨w.heap.size + 1, 3, none⟩ (.int .u32 p)).setCell ⟨w.heap.size + 1, 4, none⟩ (.int .u32 a)).setCell ⟨w.heap.size + 1, 5, none⟩ (.int .u32 b)) = WF at e0 e1 e2 e3 e4 e5 HBf ⊢
  clear c0 c1 c2 c3 c4 c5 z0 z1 z2 z3 z4 z5 y1 y2 y3 y4 y5 x1 x2 x3 x4 x5 zf0 hfin
  refine bodyPost_ret (v := .agg #[.int .u64 t, .int .i64 cl, .int .i64 q, .int .u32 p, .int .u32 a, .int .u32 b]) ?_ rfl ⟨rfl, HBf⟩
  simp [results, show Tryz.f68.results = #[.cell 4 35] from rfl, go_sem, e0, e1, e2, e3, e4, e5]
end Go.Proofs.YtohighedgdlflaaGreatDoor

/- Parse's deferred function, where nothing panicked. -/
namespace Go.Proofs.YtohighedgdlflaaGreatDoor
open Go.Shelf Go.RowKit Go.Sort Go.Lib Go.Proofs.YtohighedgdlflaaGreatDoorW.PrintWords Go.Proofs.YtohighedgdlflaaGreatDoor.PR
set_option linter.unusedVariables false
set_option linter.unusedSimpArgs false
set_option maxRecDepth 100000 in
theorem p64_idle (A B : Addr) (w : World) :
    CallsD Tryz.prog 64 #[.pointer (some A), .pointer (some B)] .returning w fun e u' w' => e = .returned (.tuple #[]) ∧ u' = .returning ∧ w' = w := by
  refine callsD_of_wpS Tryz.func64 rfl fun c₀ cs hu => ?_
  apply wpS_seq
  apply wpS_region
  simp [wpOpsS, go_sem, recoverD, hu, Tryz.ntmps64, Exit.thenS]
  apply wpS_seq
  apply wpS_region
  simp [wpOpsS, go_sem, recoverD, hu, Tryz.ntmps64, Exit.thenS]
  refine wpS_cond (t := false) (by simp [Act.eval, Array.replicate]) ?_
  simp only [Bool.false_eq_true, if_false]
  refine wpS_of_wp (wp_skip ?_)
  cases c₀
  simp_all [bodyPostS, results]
end Go.Proofs.YtohighedgdlflaaGreatDoor
