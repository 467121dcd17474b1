/- The law TraceLong of package trace answers true, for every two numbers. -/
import Derived.Test.YtohighedgdlflaaGreatDoorLML6
import Derived.Test.YtohighedgdlflaaGreatDoorLML3
import Derived.Test.YtohighedgdlflaaGreatDoorLML5
/- The Reader's numbers, where there are bytes enough. -/
namespace Go.Proofs.YtohighedgdlflaaGreatDoor
open Go.RowKit Go.Proofs.YtohighedgdlflaaGreatDoorW.PrintWords Go.Proofs.YtohighedgdlflaaGreatDoor.PR
set_option linter.unusedVariables false
set_option linter.unusedSimpArgs false
theorem bytes_cut {bs : List Int} (h : Crc.Bytes bs) (a n : Nat) : Crc.Bytes ((bs.drop a).take n) := fun x hx => h x (List.mem_of_mem_drop (List.mem_of_mem_take hx))
set_option maxHeartbeats 400000 in
theorem get32 (base g gb cap at_ : Nat) (bs : List Int) (w : World) (hr : Rd w base g gb cap bs at_) (hn : at_ + 4 ≤ bs.length) (hb : Crc.Bytes bs) :
    Calls Tryz.prog 96 #[.pointer (some ⟨g, 0, none⟩)] w fun e w' => e = .returned (.int .u32 (lev ((bs.drop at_).take 4))) ∧ Rk w w' base g gb cap bs (at_ + 4) := by
  have HR := Lib.hid hr
  have HB := Lib.hid hb
  obtain ⟨ys, hys⟩ : ∃ ys, ys = (bs.drop at_).take 4 := ⟨_, rfl⟩
  have HY : Hid (ys = (bs.drop at_).take 4) := hys
  have hyl : ys.length = 4 := by rw [hys, List.length_take, List.length_drop]; omega
  have HYB : Hid (Crc.Bytes ys) := by rw [hys]; exact bytes_cut hb _ _
  have HYL := Lib.hid hyl
  have hcells : ∀ i, i < 4 → w.cell? ⟨gb, at_ + i, none⟩ = some (.int .u8 (ys.getD i 0)) := by
    intro i hi
    rw [hr.byte (at_ + i) (by omega), hys]
    simp [List.getD_eq_getElem?_getD, List.getElem?_take, hi, List.getElem?_drop]
  have hgb : gb ≠ g := by
    rintro rfl
    exact own_ne_cells hr.own hr.cells (by decide) rfl
  have HC : Hid (∀ i, i < 4 → w.cell? ⟨gb, at_ + i, none⟩ = some (.int .u8 (ys.getD i 0))) := hcells
  have HT := Lib.hid (hr.step (m := 0) hn)
  rw [← hys]
  clear hr hb hys hyl hcells
  go_enter Tryz.func96, Tryz.ntmps96
  go_wp2_with fail
  refine (size32 _).mono ?_
  rintro e w' ⟨rfl, rfl⟩
  go_wp2_with fail
  refine (next_ok base g gb cap at_ 4 bs w HR.out hn (by omega)).mono ?_
  rintro e w1 ⟨rfl, m, hw1⟩
  have hk : Hid (Rk w w1 base g gb cap bs (at_ + 4)) := by rw [hw1]; exact HR.out.step hn
  have HC1 : Hid (∀ i, i < 4 → w1.cell? ⟨gb, at_ + i, none⟩ = some (.int .u8 (ys.getD i 0))) := by
    intro i hi
    have := HC.out i hi
    exact keep_cell hk.out.keep this hgb
  clear hw1 HC
  go_wp2_with fail
  go_loop [3, 4, 5, 10] (fun v3 v4 v5 v10 => ∃ (k s : Nat), k ≤ 4 ∧ v10 = .int .i64 k ∧ v3 = .int .u64 s ∧ Hid ((s : Int) = lev (ys.take k))) (fun _ _ _ i => 4 - (intOf i).toNat)
  case atStart => exact ⟨0, 0, by omega, rfl, rfl, rfl⟩
  case round =>
    obtain ⟨k, s, hk, rfl, rfl, hs⟩ := hrel
    by_cases hlt : k < 4
    · have hky : k < ys.length := by rw [HYL.out]; exact hlt
      have hsl : (s : Int) < 2 ^ (8 * k) := by
        rw [hs.out]
        have := (lev_bounds (bs := ys.take k) (fun x hx => HYB.out x (List.mem_of_mem_take hx))).2
        rwa [List.length_take, Nat.min_eq_left (by omega)] at this
      have hsN : s < 2 ^ (8 * k) := by exact_mod_cast hsl
      obtain ⟨b, hb0, hb⟩ : ∃ b : Nat, b < 256 ∧ Hid ((b : Int) = ys.getD k 0) := by
        have h := HYB.out (ys.getD k 0) (by rw [List.getD_eq_getElem?_getD, List.getElem?_eq_getElem hky]; exact List.getElem_mem hky)
        exact ⟨(ys.getD k 0).toNat, by omega, by show (((ys.getD k 0).toNat : Nat) : Int) = _; omega⟩
      have hc0 : w1.cell? ⟨gb, at_ + k, none⟩ = some (.int .u8 b) := by rw [hb.out]; exact HC1.out k hlt
      have h8 : IntKind.i64.wrap (8 * (k : Int)) = 8 * k := IntWalk.i64_in _ (by omega)
      obtain ⟨hi, hhi⟩ : ∃ hi : Nat, hi = b * 2 ^ (8 * k) := ⟨_, rfl⟩
      have e1 : IntKind.u64.wrap ((b : Int) * 2 ^ (8 * (k : Int)).toNat) = hi := by rw [hhi]; exact shl_u64 b k hb0 (by omega)
      obtain ⟨s2, hs2⟩ : ∃ s2 : Nat, s2 = s + hi := ⟨_, rfl⟩
      have e2 : bits .or .u64 (s : Int) (hi : Int) = s2 := by rw [hs2, hhi]; exact or_u64 s b k hsN hb0 (by omega)
      have hfin : Hid ((s2 : Int) = lev (ys.take (k + 1))) := by
        show (s2 : Int) = _
        rw [List.take_succ_eq_append_getElem hky, lev_snoc, ← hs.out, List.length_take, Nat.min_eq_left (by omega), hs2, hhi]
        have : (b : Int) = ys[k] := by
          have := hb.out
          rw [List.getD_eq_getElem?_getD, List.getElem?_eq_getElem hky] at this
          simpa using this
        rw [← this]; simp
      clear hhi hs2 hsl hsN hky
      go_wp2
      go_round
      case rel => exact ⟨k + 1, s2, by omega, by go_num, rfl, hfin⟩
      case measure => simp [intOf]; omega
    · obtain rfl : k = 4 := by omega
      have hlev := lev_bounds HYB.out
      have e6 : IntKind.u32.wrap (s : Int) = lev ys := by
        rw [IntKind.wrap_u32, hs.out, List.take_of_length_le (by rw [HYL.out]; omega)]
        rw [HYL.out] at hlev
        omega
      clear hlev
      go_wp2
      go_ret
      exact ⟨rfl, ‹Hid (Rk _ _ _ _ _ _ _ _)›.out⟩
set_option maxHeartbeats 400000 in
theorem get64 (base g gb cap at_ : Nat) (bs : List Int) (w : World) (hr : Rd w base g gb cap bs at_) (hn : at_ + 8 ≤ bs.length) (hb : Crc.Bytes bs) :
    Calls Tryz.prog 97 #[.pointer (some ⟨g, 0, none⟩)] w fun e w' => e = .returned (.int .u64 (lev ((bs.drop at_).take 8))) ∧ Rk w w' base g gb cap bs (at_ + 8) := by
  have HR := Lib.hid hr
  have HB := Lib.hid hb
  obtain ⟨ys, hys⟩ : ∃ ys, ys = (bs.drop at_).take 8 := ⟨_, rfl⟩
  have HY : Hid (ys = (bs.drop at_).take 8) := hys
  have hyl : ys.length = 8 := by rw [hys, List.length_take, List.length_drop]; omega
  have HYB : Hid (Crc.Bytes ys) := by rw [hys]; exact bytes_cut hb _ _
  have HYL := Lib.hid hyl
  have hcells : ∀ i, i < 8 → w.cell? ⟨gb, at_ + i, none⟩ = some (.int .u8 (ys.getD i 0)) := by
    intro i hi
    rw [hr.byte (at_ + i) (by omega), hys]
    simp [List.getD_eq_getElem?_getD, List.getElem?_take, hi, List.getElem?_drop]
  have hgb : gb ≠ g := by
    rintro rfl
    exact own_ne_cells hr.own hr.cells (by decide) rfl
  have HC : Hid (∀ i, i < 8 → w.cell? ⟨gb, at_ + i, none⟩ = some (.int .u8 (ys.getD i 0))) := hcells
  have HT := Lib.hid (hr.step (m := 0) hn)
  rw [← hys]
  clear hr hb hys hyl hcells
  go_enter Tryz.func97, Tryz.ntmps97
  go_wp2_with fail
  refine (size64 _).mono ?_
  rintro e w' ⟨rfl, rfl⟩
  go_wp2_with fail
  refine (next_ok base g gb cap at_ 8 bs w HR.out hn (by omega)).mono ?_
  rintro e w1 ⟨rfl, m, hw1⟩
  have hk : Hid (Rk w w1 base g gb cap bs (at_ + 8)) := by rw [hw1]; exact HR.out.step hn
  have HC1 : Hid (∀ i, i < 8 → w1.cell? ⟨gb, at_ + i, none⟩ = some (.int .u8 (ys.getD i 0))) := by
    intro i hi
    have := HC.out i hi
    exact keep_cell hk.out.keep this hgb
  clear hw1 HC
  go_wp2_with fail
  go_loop [3, 4, 5, 10] (fun v3 v4 v5 v10 => ∃ (k s : Nat), k ≤ 8 ∧ v10 = .int .i64 k ∧ v3 = .int .u64 s ∧ Hid ((s : Int) = lev (ys.take k))) (fun _ _ _ i => 8 - (intOf i).toNat)
  case atStart => exact ⟨0, 0, by omega, rfl, rfl, rfl⟩
  case round =>
    obtain ⟨k, s, hk, rfl, rfl, hs⟩ := hrel
    by_cases hlt : k < 8
    · have hky : k < ys.length := by rw [HYL.out]; exact hlt
      have hsl : (s : Int) < 2 ^ (8 * k) := by
        rw [hs.out]
        have := (lev_bounds (bs := ys.take k) (fun x hx => HYB.out x (List.mem_of_mem_take hx))).2
        rwa [List.length_take, Nat.min_eq_left (by omega)] at this
      have hsN : s < 2 ^ (8 * k) := by exact_mod_cast hsl
      obtain ⟨b, hb0, hb⟩ : ∃ b : Nat, b < 256 ∧ Hid ((b : Int) = ys.getD k 0) := by
        have h := HYB.out (ys.getD k 0) (by rw [List.getD_eq_getElem?_getD, List.getElem?_eq_getElem hky]; exact List.getElem_mem hky)
        exact ⟨(ys.getD k 0).toNat, by omega, by show (((ys.getD k 0).toNat : Nat) : Int) = _; omega⟩
      have hc0 : w1.cell? ⟨gb, at_ + k, none⟩ = some (.int .u8 b) := by rw [hb.out]; exact HC1.out k hlt
      have h8 : IntKind.i64.wrap (8 * (k : Int)) = 8 * k := IntWalk.i64_in _ (by omega)
      obtain ⟨hi, hhi⟩ : ∃ hi : Nat, hi = b * 2 ^ (8 * k) := ⟨_, rfl⟩
      have e1 : IntKind.u64.wrap ((b : Int) * 2 ^ (8 * (k : Int)).toNat) = hi := by rw [hhi]; exact shl_u64 b k hb0 (by omega)
      obtain ⟨s2, hs2⟩ : ∃ s2 : Nat, s2 = s + hi := ⟨_, rfl⟩
      have e2 : bits .or .u64 (s : Int) (hi : Int) = s2 := by rw [hs2, hhi]; exact or_u64 s b k hsN hb0 (by omega)
      have hfin : Hid ((s2 : Int) = lev (ys.take (k + 1))) := by
        show (s2 : Int) = _
        rw [List.take_succ_eq_append_getElem hky, lev_snoc, ← hs.out, List.length_take, Nat.min_eq_left (by omega), hs2, hhi]
        have : (b : Int) = ys[k] := by
          have := hb.out
          rw [List.getD_eq_getElem?_getD, List.getElem?_eq_getElem hky] at this
          simpa using this
        rw [← this]; simp
      clear hhi hs2 hsl hsN hky
      go_wp2
      go_round
      case rel => exact ⟨k + 1, s2, by omega, by go_num, rfl, hfin⟩
      case measure => simp [intOf]; omega
    · obtain rfl : k = 8 := by omega
      have e6 : Hid ((s : Int) = lev ys) := by
        show (s : Int) = _
        rw [hs.out, List.take_of_length_le (by rw [HYL.out]; omega)]
      go_wp2
      go_ret
      rw [← e6.out]
      exact ⟨rfl, ‹Hid (Rk _ _ _ _ _ _ _ _)›.out⟩
set_option maxHeartbeats 400000 in
theorem get8 (base g gb cap at_ : Nat) (bs : List Int) (w : World) (hr : Rd w base g gb cap bs at_) (hn : at_ + 1 ≤ bs.length) (hb : Crc.Bytes bs) :
    Calls Tryz.prog 98 #[.pointer (some ⟨g, 0, none⟩)] w fun e w' => e = .returned (.int .u8 (lev ((bs.drop at_).take 1))) ∧ Rk w w' base g gb cap bs (at_ + 1) := by
  have HR := Lib.hid hr
  have HB := Lib.hid hb
  obtain ⟨ys, hys⟩ : ∃ ys, ys = (bs.drop at_).take 1 := ⟨_, rfl⟩
  have HY : Hid (ys = (bs.drop at_).take 1) := hys
  have hyl : ys.length = 1 := by rw [hys, List.length_take, List.length_drop]; omega
  have HYB : Hid (Crc.Bytes ys) := by rw [hys]; exact bytes_cut hb _ _
  have HYL := Lib.hid hyl
  have hcells : ∀ i, i < 1 → w.cell? ⟨gb, at_ + i, none⟩ = some (.int .u8 (ys.getD i 0)) := by
    intro i hi
    rw [hr.byte (at_ + i) (by omega), hys]
    simp [List.getD_eq_getElem?_getD, List.getElem?_take, hi, List.getElem?_drop]
  have hgb : gb ≠ g := by
    rintro rfl
    exact own_ne_cells hr.own hr.cells (by decide) rfl
  have HC : Hid (∀ i, i < 1 → w.cell? ⟨gb, at_ + i, none⟩ = some (.int .u8 (ys.getD i 0))) := hcells
  have HT := Lib.hid (hr.step (m := 0) hn)
  rw [← hys]
  clear hr hb hys hyl hcells
  go_enter Tryz.func98, Tryz.ntmps98
  go_wp2_with fail
  refine (size8 _).mono ?_
  rintro e w' ⟨rfl, rfl⟩
  go_wp2_with fail
  refine (next_ok base g gb cap at_ 1 bs w HR.out hn (by omega)).mono ?_
  rintro e w1 ⟨rfl, m, hw1⟩
  have hk : Hid (Rk w w1 base g gb cap bs (at_ + 1)) := by rw [hw1]; exact HR.out.step hn
  have HC1 : Hid (∀ i, i < 1 → w1.cell? ⟨gb, at_ + i, none⟩ = some (.int .u8 (ys.getD i 0))) := by
    intro i hi
    have := HC.out i hi
    exact keep_cell hk.out.keep this hgb
  clear hw1 HC
  go_wp2_with fail
  go_loop [3, 4, 5, 10] (fun v3 v4 v5 v10 => ∃ (k s : Nat), k ≤ 1 ∧ v10 = .int .i64 k ∧ v3 = .int .u64 s ∧ Hid ((s : Int) = lev (ys.take k))) (fun _ _ _ i => 1 - (intOf i).toNat)
  case atStart => exact ⟨0, 0, by omega, rfl, rfl, rfl⟩
  case round =>
    obtain ⟨k, s, hk, rfl, rfl, hs⟩ := hrel
    by_cases hlt : k < 1
    · have hky : k < ys.length := by rw [HYL.out]; exact hlt
      have hsl : (s : Int) < 2 ^ (8 * k) := by
        rw [hs.out]
        have := (lev_bounds (bs := ys.take k) (fun x hx => HYB.out x (List.mem_of_mem_take hx))).2
        rwa [List.length_take, Nat.min_eq_left (by omega)] at this
      have hsN : s < 2 ^ (8 * k) := by exact_mod_cast hsl
      obtain ⟨b, hb0, hb⟩ : ∃ b : Nat, b < 256 ∧ Hid ((b : Int) = ys.getD k 0) := by
        have h := HYB.out (ys.getD k 0) (by rw [List.getD_eq_getElem?_getD, List.getElem?_eq_getElem hky]; exact List.getElem_mem hky)
        exact ⟨(ys.getD k 0).toNat, by omega, by show (((ys.getD k 0).toNat : Nat) : Int) = _; omega⟩
      have hc0 : w1.cell? ⟨gb, at_ + k, none⟩ = some (.int .u8 b) := by rw [hb.out]; exact HC1.out k hlt
      have h8 : IntKind.i64.wrap (8 * (k : Int)) = 8 * k := IntWalk.i64_in _ (by omega)
      obtain ⟨hi, hhi⟩ : ∃ hi : Nat, hi = b * 2 ^ (8 * k) := ⟨_, rfl⟩
      have e1 : IntKind.u64.wrap ((b : Int) * 2 ^ (8 * (k : Int)).toNat) = hi := by rw [hhi]; exact shl_u64 b k hb0 (by omega)
      obtain ⟨s2, hs2⟩ : ∃ s2 : Nat, s2 = s + hi := ⟨_, rfl⟩
      have e2 : bits .or .u64 (s : Int) (hi : Int) = s2 := by rw [hs2, hhi]; exact or_u64 s b k hsN hb0 (by omega)
      have hfin : Hid ((s2 : Int) = lev (ys.take (k + 1))) := by
        show (s2 : Int) = _
        rw [List.take_succ_eq_append_getElem hky, lev_snoc, ← hs.out, List.length_take, Nat.min_eq_left (by omega), hs2, hhi]
        have : (b : Int) = ys[k] := by
          have := hb.out
          rw [List.getD_eq_getElem?_getD, List.getElem?_eq_getElem hky] at this
          simpa using this
        rw [← this]; simp
      clear hhi hs2 hsl hsN hky
      go_wp2
      go_round
      case rel => exact ⟨k + 1, s2, by omega, by go_num, rfl, hfin⟩
      case measure => simp [intOf]; omega
    · obtain rfl : k = 1 := by omega
      have hlev := lev_bounds HYB.out
      have e6 : IntKind.u8.wrap (s : Int) = lev ys := by
        rw [IntKind.wrap_u8, hs.out, List.take_of_length_le (by rw [HYL.out]; omega)]
        rw [HYL.out] at hlev
        omega
      clear hlev
      go_wp2
      go_ret
      exact ⟨rfl, ‹Hid (Rk _ _ _ _ _ _ _ _)›.out⟩
end Go.Proofs.YtohighedgdlflaaGreatDoor

/- NewReader and the Reader's methods that a trace uses. -/
namespace Go.Proofs.YtohighedgdlflaaGreatDoor
open Go.RowKit Go.Proofs.YtohighedgdlflaaGreatDoorW.PrintWords Go.Proofs.YtohighedgdlflaaGreatDoor.PR
set_option linter.unusedVariables false
set_option linter.unusedSimpArgs false
theorem word_r (base g gb cap at_ : Nat) (bs : List Int) (w : World) (hr : Rd w base g gb cap bs at_) (hn : at_ + 4 ≤ bs.length) (hb : Crc.Bytes bs) :
    Calls Tryz.prog 44 #[.pointer (some ⟨g, 0, none⟩)] w fun e w' => e = .returned (.int .u32 (lev ((bs.drop at_).take 4))) ∧ Rk w w' base g gb cap bs (at_ + 4) := by
  go_enter Tryz.func44, Tryz.ntmps44
  go_wp2_with fail
  refine (get32 base g gb cap at_ bs w hr hn hb).mono ?_
  rintro e w' ⟨rfl, h⟩
  go_wp2_with fail
  go_ret
  exact ⟨rfl, h⟩
theorem long_r (base g gb cap at_ : Nat) (bs : List Int) (w : World) (hr : Rd w base g gb cap bs at_) (hn : at_ + 8 ≤ bs.length) (hb : Crc.Bytes bs) :
    Calls Tryz.prog 47 #[.pointer (some ⟨g, 0, none⟩)] w fun e w' => e = .returned (.int .u64 (lev ((bs.drop at_).take 8))) ∧ Rk w w' base g gb cap bs (at_ + 8) := by
  go_enter Tryz.func47, Tryz.ntmps47
  go_wp2_with fail
  refine (get64 base g gb cap at_ bs w hr hn hb).mono ?_
  rintro e w' ⟨rfl, h⟩
  go_wp2_with fail
  go_ret
  exact ⟨rfl, h⟩
theorem byte_r (base g gb cap at_ : Nat) (bs : List Int) (w : World) (hr : Rd w base g gb cap bs at_) (hn : at_ + 1 ≤ bs.length) (hb : Crc.Bytes bs) :
    Calls Tryz.prog 48 #[.pointer (some ⟨g, 0, none⟩)] w fun e w' => e = .returned (.int .u8 (lev ((bs.drop at_).take 1))) ∧ Rk w w' base g gb cap bs (at_ + 1) := by
  go_enter Tryz.func48, Tryz.ntmps48
  go_wp2_with fail
  refine (get8 base g gb cap at_ bs w hr hn hb).mono ?_
  rintro e w' ⟨rfl, h⟩
  go_wp2_with fail
  go_ret
  exact ⟨rfl, h⟩
theorem at_r (base g gb cap at_ : Nat) (bs : List Int) (w : World) (hr : Rd w base g gb cap bs at_) :
    Calls Tryz.prog 46 #[.pointer (some ⟨g, 0, none⟩)] w fun e w' => e = .returned (.int .i64 at_) ∧ w = w' := by
  have h1 : w.cell? ⟨g, 1, none⟩ = some (.int .i64 at_) := by simp [World.cell?, hr.cells]
  clear hr
  go_enter Tryz.func46, Tryz.ntmps46
  go_wp2
  go_ret
  exact ⟨rfl, rfl⟩
set_option maxHeartbeats 400000 in
theorem newReader_ok (bs : List Int) (A : Option Addr) (c : Nat) (w : World) (hR : Kd.C (Kd.int .u8) w A bs.length bs) (h0 : 0 < bs.length) (hl : bs.length ≤ 67108864) :
    Calls Tryz.prog 42 #[.slice A bs.length c] w fun e w' => ∃ g gb cap, e = .returned (.pointer (some ⟨g, 0, none⟩)) ∧ Rd w' w.heap.size g gb cap bs 0 ∧ Below w.heap.size w w' := by
  have HR := Lib.hid hR
  have HL := Lib.hid hl
  clear hR
  go_enter Tryz.func42, Tryz.ntmps42
  go_wp2_with (at_builtin; refine print_append_row (w0 := w) w.heap.size rfl (.const (.slice none 0 0)) (.tmp 3) 37 5 .u8 1 rfl Tryz.underlying37 info5 (by decide) (.slice none 0 0) [] bs A bs.length c rfl rfl (own_nil _ _ _ _) (C_reads HR.out) (Below.refl _ _) (Nat.le_refl _) (by simp; omega) ?_; intro v1 w1 hown hb1 hg1 hat; have Hown := Lib.hid hown; have Hb1 := Lib.hid hb1; clear hown hb1 hg1 hat; obtain ⟨gb, cap, hv, hgb⟩ : ∃ gb cap, v1 = .slice (some ⟨gb, 0, none⟩) bs.length cap ∧ w.heap.size ≤ gb := (by obtain ⟨g1, cap1, h, h2, _⟩ := Hown.out.form (by simpa using h0); exact ⟨g1, cap1, by simpa using h, h2⟩); subst hv)
  go_ret
  refine ⟨w1.heap.size, gb, cap, rfl, ⟨Hb1.out.size, hgb, Nat.zero_le _, HL.out, heap_alloc_new w1 _, ?_⟩, Hb1.out.alloc Hb1.out.size _⟩
  exact pw_own_below (by simpa using Hown.out) (below_alloc (Below.refl _ _) _)
set_option maxHeartbeats 400000 in
theorem rawr_ok (base g gb cap at_ n : Nat) (bs : List Int) (w : World) (hr : Rd w base g gb cap bs at_) (hn : at_ + n ≤ bs.length) (h0 : 0 < n) :
    Calls Tryz.prog 43 #[.pointer (some ⟨g, 0, none⟩), .int .i64 n] w fun e w' => ∃ v, e = .returned v ∧ Rk w w' base g gb cap bs (at_ + n) := by
  have HR := Lib.hid hr
  have hs := hr.small
  obtain ⟨hc1, hc2⟩ := hr.cap_le
  clear hr
  go_enter Tryz.func43, Tryz.ntmps43
  go_wp2_with fail
  refine (next_ok base g gb cap at_ n bs w HR.out hn h0).mono ?_
  rintro e w1 ⟨rfl, m, hw1⟩
  have hk : Hid (Rk w w1 base g gb cap bs (at_ + n)) := by rw [hw1]; exact HR.out.step hn
  clear hw1
  have HC : Hid (ReadsInt w1 .u8 (some ⟨gb, at_, none⟩) n ((bs.drop at_).take n)) := by
    refine ⟨by rw [List.length_take, List.length_drop]; omega, by omega, fun _ => ⟨_, rfl, fun j hj => ?_⟩⟩
    have := hk.out.rd.byte (at_ + j) (by omega)
    have e : (⟨gb, at_, none⟩ : Addr).add j = ⟨gb, at_ + j, none⟩ := by unfold Addr.add; split <;> simp_all
    rw [e, this]
    simp [List.getD_eq_getElem?_getD, List.getElem?_take, hj, List.getElem?_drop]
  go_wp2_with (at_builtin; refine print_append_row (w0 := w1) w1.heap.size rfl (.const (.slice none 0 0)) (.tmp 15) 37 5 .u8 1 rfl Tryz.underlying37 info5 (by decide) (.slice none 0 0) [] ((bs.drop at_).take n) (some ⟨gb, at_, none⟩) n (cap - at_) rfl rfl (own_nil _ _ _ _) HC.out (Below.refl _ _) (Nat.le_refl _) (by simp; omega) ?_; intro v1 w2 hown hb1 hg1 hat; have Hb1 := Lib.hid hb1; clear hown hb1 hg1 hat)
  go_ret
  refine ⟨v1, rfl, ?_⟩
  have hb := Hb1.out
  have hk := hk.out
  obtain ⟨⟨a1, a2, a3, a4, a5, a6⟩, k2, k3⟩ := hk
  exact ⟨⟨a1, a2, a3, a4, (hb.block g (heap_lt a5)).trans a5, pw_own_below a6 hb⟩, ⟨Nat.le_trans k2.1 hb.size, fun i hi hg hr => (hb.block i (Nat.lt_of_lt_of_le hi k2.1)).trans (k2.2 i hi hg hr)⟩, fun B w0 hB hb0 => (k3 B w0 hB hb0).trans (hb.mono (by have := heap_lt a5; omega))⟩
end Go.Proofs.YtohighedgdlflaaGreatDoor

/- A Reader that has too few bytes for a number gives 0. -/
namespace Go.Proofs.YtohighedgdlflaaGreatDoor
open Go.RowKit Go.Proofs.YtohighedgdlflaaGreatDoorW.PrintWords Go.Proofs.YtohighedgdlflaaGreatDoor.PR
set_option linter.unusedVariables false
set_option linter.unusedSimpArgs false
def LowKept (w w' : World) (g : Nat) : Prop := ∀ (B : Nat) (w0 : World), B ≤ g → Below B w0 w → Below B w0 w'
theorem failr (g : Nat) (e0 wh : Int) (w : World) (h2 : ∃ v, w.cell? ⟨g, 2, none⟩ = some v) (h3 : w.cell? ⟨g, 3, none⟩ = some (.int .i64 0)) (f2 : w.frozen? ⟨g, 2, none⟩ = false) (f3 : w.frozen? ⟨g, 3, none⟩ = false) :
    Calls Tryz.prog 94 #[.pointer (some ⟨g, 0, none⟩), .int .i64 e0, .int .i64 wh] w fun e w' => e = .returned (.tuple #[]) ∧ w' = (w.setCell ⟨g, 3, none⟩ (.int .i64 e0)).setCell ⟨g, 2, none⟩ (.int .i64 wh) := by
  obtain ⟨v, h2⟩ := h2
  have h2' : (w.setCell ⟨g, 3, none⟩ (.int .i64 e0)).cell? ⟨g, 2, none⟩ = some v := by rw [World.cell?_setCell_other _ _ _ _ (by simp)]; exact h2
  go_enter Tryz.func94, Tryz.ntmps94
  go_wp2
  go_end0
  exact ⟨rfl, rfl⟩
set_option maxHeartbeats 400000 in
theorem next_short (base g gb cap at_ n : Nat) (bs : List Int) (w : World) (hr : Rd w base g gb cap bs at_) (hn : bs.length < at_ + n) (hn2 : n ≤ 8) :
    Calls Tryz.prog 95 #[.pointer (some ⟨g, 0, none⟩), .int .i64 n] w fun e w' => e = .returned (.slice none 0 0) ∧ LowKept w w' g := by
  have h0 : w.cell? ⟨g, 0, none⟩ = some (.slice (some ⟨gb, 0, none⟩) bs.length cap) := by simp [World.cell?, hr.cells]
  have h1 : w.cell? ⟨g, 1, none⟩ = some (.int .i64 at_) := by simp [World.cell?, hr.cells]
  have h2 : w.cell? ⟨g, 2, none⟩ = some (.int .i64 0) := by simp [World.cell?, hr.cells]
  have h3 : w.cell? ⟨g, 3, none⟩ = some (.int .i64 0) := by simp [World.cell?, hr.cells]
  have f2 : w.frozen? ⟨g, 2, none⟩ = false := by simp [World.frozen?, hr.cells]
  have f3 : w.frozen? ⟨g, 3, none⟩ = false := by simp [World.frozen?, hr.cells]
  have hs := hr.small
  have hle := hr.le
  clear hr
  go_enter Tryz.func95, Tryz.ntmps95
  go_wp2_with fail
  go_quiet (fail)
  go_wp2_with fail
  refine (failr g 11 at_ (w.drewN nq) ⟨_, by exact h2⟩ (by exact h3) (by exact f2) (by exact f3)).mono ?_
  rintro e w1 ⟨rfl, hw1⟩
  have h3' : w1.cell? ⟨g, 3, none⟩ = some (.int .i64 11) := by
    rw [hw1, World.cell?_setCell_other _ _ _ _ (by simp)]
    exact World.cell?_setCell_same' _ _ _ (by show (w.cell? ⟨g, 3, none⟩).isSome = true; rw [h3]; rfl)
  have hb : Hid (LowKept w w1 g) := by
    intro B w0 hB hb
    rw [hw1]
    exact ((pw_below_drewN hb _).setCell (p := ⟨g, 3, none⟩) hB _).setCell (p := ⟨g, 2, none⟩) hB _
  clear hw1
  go_wp2_with fail
  go_ret
  exact ⟨rfl, hb.out⟩
set_option maxHeartbeats 400000 in
theorem word_short (base g gb cap at_ : Nat) (bs : List Int) (w : World) (hr : Rd w base g gb cap bs at_) (hn : bs.length < at_ + 4) :
    Calls Tryz.prog 44 #[.pointer (some ⟨g, 0, none⟩)] w fun e w' => e = .returned (.int .u32 0) ∧ LowKept w w' g := by
  go_enter Tryz.func44, Tryz.ntmps44
  go_wp2_with fail
  go_in
  go_wp2_with fail
  refine (size32 _).mono ?_
  rintro e w' ⟨rfl, rfl⟩
  go_wp2_with fail
  refine (next_short base g gb cap at_ 4 bs w hr hn (by omega)).mono ?_
  rintro e w1 ⟨rfl, hb⟩
  have Hb := Lib.hid hb
  clear hb
  go_wp2_with fail
  refine wp_loop_rounds 1 ?_
  rw [rounds_succ]
  go_wp2_with fail
  go_ret
  exact ⟨rfl, Hb.out⟩
end Go.Proofs.YtohighedgdlflaaGreatDoor
