/- Texts of a proof that TraceReads holds, for every row of bytes, merged in order. -/
import Derived.Test.YtohighedgdlflaaGreatDoorTMR2
import Derived.Deep.AppendLies
import Derived.Test.YtohighedgdlflaaGreatDoorTMR19
/- Lists that came out are written full, made longer, and looked at: what holds of the memory meanwhile. -/
namespace Go.Proofs.YtohighedgdlflaaGreatDoor
open Go.RowKit Go.Proofs.YtohighedgdlflaaGreatDoorW.PrintWords
set_option linter.unusedVariables false
set_option linter.unusedSimpArgs false
/-- A row of the call's own, some of whose elements are known. -/
def RowIs (W : World) (B e s : Nat) (v : Value) (n : Nat) (E : Nat → Option (List Value)) : Prop :=
  ∃ xs, W.ownsRow B e s v n xs ∧ ∀ j, j < n → ∀ X, E j = some X → ∀ t u, t < s → X[t]? = some u → xs[j * s + t]? = some u
def RdIs (W : World) (v : Value) (n s : Nat) (X : List Value) : Prop :=
  ∀ g c, v = .slice (some ⟨g, 0, none⟩) n c → ∀ j, j < n → ∀ t u, t < s → X[t]? = some u → W.cell? ⟨g, j * s + t, none⟩ = some u
section
variable {W w1 : World} {B e s n : Nat} {v : Value} {E E' : Nat → Option (List Value)}
theorem RowIs.mono (h : RowIs W B e s v n E) (hE : ∀ j, j < n → ∀ X, E' j = some X → E j = some X) : RowIs W B e s v n E' := by
  obtain ⟨xs, h1, h2⟩ := h
  exact ⟨xs, h1, fun j hj X hX => h2 j hj X (hE j hj X hX)⟩
theorem RowIs.lt (h : RowIs W B e s v n E) {g : Nat} (hg : v.ownBlock = some g) : g < W.heap.size := by
  obtain ⟨xs, h1, _⟩ := h
  exact own_lt h1 g hg
theorem RowIs.base (h : RowIs W B e s v n E) {g : Nat} (hg : v.ownBlock = some g) : B ≤ g := by
  obtain ⟨xs, h1, _⟩ := h
  exact own_base h1 g hg
theorem RowIs.typed (h : RowIs W B e s v n E) {g : Nat} (hg : v.ownBlock = some g) : ∃ cur, W.heap[g]? = some (.cells cur e (0, 0)) := by
  obtain ⟨xs, h1, _⟩ := h
  exact own_typed h1 g hg
theorem RowIs.form (h : RowIs W B e s v n E) : (v = .slice none 0 0 ∧ n = 0) ∨ ∃ g c, v = .slice (some ⟨g, 0, none⟩) n c ∧ n ≤ c := by
  obtain ⟨xs, h1, _⟩ := h
  rcases h1.2 with h2 | ⟨g, c, cur, rfl, _, _, hc, _⟩
  · exact .inl h2
  · exact .inr ⟨g, c, rfl, hc⟩
theorem RowIs.kept (h : RowIs W B e s v n E) {row : Option Nat} (hg : W.grownBy w1 row) (hne : ∀ g, v.ownBlock = some g → row ≠ some g) : RowIs w1 B e s v n E := by
  obtain ⟨xs, h1, h2⟩ := h
  refine ⟨xs, h1.kept hg ?_, h2⟩
  cases hv : v.ownBlock with
  | none => exact .inl rfl
  | some g => exact .inr (fun he => hne g hv he.symm)
theorem RowIs.below (h : RowIs W B e s v n E) (hb : Below W.heap.size W w1) : RowIs w1 B e s v n E := by
  obtain ⟨xs, h1, h2⟩ := h
  exact ⟨xs, own_move h1 (fun k hk => hb.block k (own_lt h1 k hk)), h2⟩
theorem RowIs.cell {g c : Nat} (h : RowIs W B e s (.slice (some ⟨g, 0, none⟩) n c) n E) {j : Nat} (hj : j < n) {X : List Value} (hX : E j = some X) {t : Nat} {u : Value} (ht : t < s) (hu : X[t]? = some u) : W.cell? ⟨g, j * s + t, none⟩ = some u := by
  obtain ⟨xs, h1, h2⟩ := h
  have := h1.cells (g := g) rfl (j * s + t) u (h2 j hj X hX t u ht hu)
  rwa [show ((⟨g, 0, none⟩ : Addr).add (j * s + t)) = ⟨g, j * s + t, none⟩ from by rw [Lib.add_plain, Nat.zero_add]] at this
theorem RowIs.here {g c : Nat} (h : RowIs W B e s (.slice (some ⟨g, 0, none⟩) n c) n E) {j : Nat} (hj : j < n * s) : (∃ u, W.cell? ⟨g, j, none⟩ = some u) ∧ W.frozen? ⟨g, j, none⟩ = false := by
  obtain ⟨xs, h1, h2⟩ := h
  obtain ⟨cur, hc⟩ := own_typed h1 g rfl
  have hl := h1.1
  have := h1.cells (g := g) rfl j _ (List.getElem?_eq_getElem (show j < xs.length by omega))
  rw [show ((⟨g, 0, none⟩ : Addr).add j) = ⟨g, j, none⟩ from by rw [Lib.add_plain, Nat.zero_add]] at this
  exact ⟨⟨_, this⟩, blk_frozen hc _⟩
theorem RowIs.rd (h : RowIs W B e s v n E) {X : List Value} (hE : ∀ j, j < n → E j = some X) : RdIs W v n s X := by
  intro g c hv j hj t u ht hu
  subst hv
  exact h.cell hj (hE j hj) ht hu
/-- One element is written. -/
theorem RowIs.set (h : RowIs W B e s v n E) {g c : Nat} (hv : v = .slice (some ⟨g, 0, none⟩) n c) {k : Nat} (hk : k < n) {X : List Value} (hX : X.length = s) (hE : ∀ j, j < n → ∀ Z, E' j = some Z → (j = k ∧ Z = X) ∨ (j ≠ k ∧ E j = some Z)) : RowIs (W.setCells g (k * s) X) B e s v n E' := by
  subst hv
  obtain ⟨xs, h1, h2⟩ := h
  rcases h1.2 with ⟨hn, _⟩ | ⟨g', c', cur, he, hb, hg, hnc, hcm, hsz, htk⟩
  · cases hn
  · injection he with e1 e2 e3
    injection e1 with e1
    injection e1 with e1
    subst e1
    subst e3
    have hlen : (k + 1) * s ≤ n * s := Nat.mul_le_mul_right _ hk
    have hlen2 : n * s ≤ c * s := Nat.mul_le_mul_right _ hnc
    have hks : (k + 1) * s = k * s + s := by rw [Nat.add_mul, Nat.one_mul]
    obtain ⟨cur', hr, hsz', hl'⟩ := setCells_row (g := g) (e := e) X (k * s) W cur hg (by omega)
    have htl : (cur.toList.take (k * s)).length = k * s := by rw [List.length_take, Array.length_toList]; omega
    refine ⟨(xs.take (k * s) ++ X ++ xs.drop (k * s + s)), ⟨?_, .inr ⟨g, c, _, rfl, hb, hr, hnc, hcm, ?_, ?_⟩⟩, ?_⟩
    · have := h1.1
      simp only [List.length_append, List.length_take, List.length_drop]
      omega
    · omega
    · have hA : (cur.toList.take (k * s) ++ X).length = k * s + s := by rw [List.length_append, htl, hX]
      rw [hl', List.take_append, hA, List.take_of_length_le (by omega), hX, ← htk, List.take_take, List.drop_take, Nat.min_eq_left (by omega)]
    · intro j hj Z hZ t u ht hu
      have hl := h1.1
      have hxl : (xs.take (k * s)).length = k * s := by rw [List.length_take]; omega
      have hxl2 : (xs.take (k * s) ++ X).length = k * s + s := by rw [List.length_append, hxl, hX]
      rcases hE j hj Z hZ with ⟨rfl, rfl⟩ | ⟨hne, hZ⟩
      · rw [List.getElem?_append_left (by rw [hxl2]; omega), List.getElem?_append_right (by rw [hxl]; omega), hxl, Nat.add_sub_cancel_left]
        exact hu
      · have h3 := h2 j hj Z hZ t u ht hu
        rcases Nat.lt_or_gt_of_ne hne with hlt | hgt
        · have : (j + 1) * s ≤ k * s := Nat.mul_le_mul_right _ hlt
          have hjs : (j + 1) * s = j * s + s := by rw [Nat.add_mul, Nat.one_mul]
          rw [List.getElem?_append_left (by rw [hxl2]; omega), List.getElem?_append_left (by rw [hxl]; omega), List.getElem?_take_of_lt (by omega)]
          exact h3
        · have : (k + 1) * s ≤ j * s := Nat.mul_le_mul_right _ hgt
          rw [List.getElem?_append_right (by rw [hxl2]; omega), hxl2, List.getElem?_drop, show k * s + s + (j * s + t - (k * s + s)) = j * s + t by omega]
          exact h3
theorem RowIs.far (h : RowIs W B e s v n E) {g o : Nat} {X : List Value} (hne : v.ownBlock ≠ some g) : RowIs (W.setCells g o X) B e s v n E := by
  obtain ⟨xs, h1, h2⟩ := h
  exact ⟨xs, own_move h1 (fun k hk => setCells_far X o k (fun he => hne (by rw [← he]; exact hk))), h2⟩
end
end Go.Proofs.YtohighedgdlflaaGreatDoor

/- One element is appended to a row of the call's own: where the new slice lies, and that the old cells stay. -/
namespace Go.Proofs.YtohighedgdlflaaGreatDoor
open Go.RowKit Go.Proofs.YtohighedgdlflaaGreatDoorW.PrintWords
set_option linter.unusedVariables false
set_option linter.unusedSimpArgs false
theorem run_append_keep {P : Program} (w : World) (t ty : TypeId) (base : Nat) (e : TypeId) (i : TypeInfo) (z : Value) (size bytes : Nat) (ht : P.underlying t = some (.slice e)) (hi : P.info? e = some i) (hz : i.zero = some z)
    (hsize : i.size = size) (hby : i.bytes = bytes) (hzs : z.cells.size = size) (hsz : 0 < size)
    (v : Value) (n : Nat) (xs : List Value) (hown : w.ownsRow base e size v n xs)
    (ad : Addr) (c : Nat) (news : List Value) (hl : news.length = size) (hnews : ∀ j u, news[j]? = some u → w.cell? (ad.add j) = some u) (h1 : ∀ u ∈ news, u.oneCell' = true)
    (hbytes : (n + 1) * bytes ≤ 140737488355328) (hn1 : n + 1 ≤ 140737488355328) (hbase : base ≤ w.heap.size) :
    ∃ g cap w', (Builtin.append_ #[t, t] ty #[v, .slice (some ad) 1 c]).run P w = .ok (.slice (some ⟨g, 0, none⟩) (n + 1) cap) w' ∧
      w'.ownsRow base e size (.slice (some ⟨g, 0, none⟩) (n + 1) cap) (n + 1) (xs ++ news) ∧ w.grownBy w' v.ownBlock ∧ (v.ownBlock = some g ∨ g = w.heap.size) ∧ g < w'.heap.size ∧
      (∀ g0 j u, v.ownBlock = some g0 → j < n * size → w.cell? ⟨g0, j, none⟩ = some u → w'.cell? ⟨g0, j, none⟩ = some u) := by
  obtain ⟨g, cap, w', hr, h2, h3, h4, h5⟩ := run_append_lies (P := P) w t ty base e i z size bytes ht hi hz hsize hby hzs hsz v n xs hown ad 1 c news (by omega) hnews h1 (by omega) (by simp only [maxLen]; omega) hbytes hbase _ rfl
  refine ⟨g, cap, w', hr, h2, h3, h4, h5, ?_⟩
  intro g0 j u hg0 hj hc
  rcases hown.2 with ⟨rfl, rfl⟩ | ⟨g1, cap1, cur, rfl, hbg, hg, hnc, hcm, hcs, htake⟩
  · simp [Value.ownBlock] at hg0
  · have e0 : g1 = g0 := by simpa [Value.ownBlock] using hg0
    subst e0
    by_cases hroom : n + 1 ≤ cap1
    · have hfit : n * i.size + news.length ≤ cur.size := by
        have : (n + 1) * size ≤ cap1 * size := Nat.mul_le_mul_right _ hroom
        rw [Nat.add_mul, Nat.one_mul] at this
        rw [hl, hcs, hsize]; omega
      have hr2 := run_append_room (P := P) w t ty e i ht hi g1 n cap1 cur hg ad 1 c news (by rw [hsize]; omega) hnews h1 hroom hfit
      have hr3 := hr2.symm.trans hr
      injection hr3 with e1 e2
      injection e1 with e1 _ _
      injection e1 with e1
      injection e1 with e1
      subst e1
      have hx := hown.1
      have hu : xs[j]? = some u := by
        have h6 := hown.cells (g := g1) rfl j _ (List.getElem?_eq_getElem (show j < xs.length by omega))
        rw [show ((⟨g1, 0, none⟩ : Addr).add j) = ⟨g1, j, none⟩ from by rw [Lib.add_plain, Nat.zero_add], hc] at h6
        rw [List.getElem?_eq_getElem (show j < xs.length by omega)]
        exact h6.symm
      have h7 := h2.cells (g := g1) rfl j u (by rw [List.getElem?_append_left (by omega)]; exact hu)
      rwa [show ((⟨g1, 0, none⟩ : Addr).add j) = ⟨g1, j, none⟩ from by rw [Lib.add_plain, Nat.zero_add]] at h7
    · have holds : ∀ j u, xs[j]? = some u → w.cell? ((⟨g1, 0, none⟩ : Addr).add j) = some u := hown.cells (g := g1) rfl
      have hr2 := run_append_grow (P := P) w t ty e i z ht hi hz ⟨g1, 0, none⟩ n cap1 xs (by rw [hsize]; exact hown.1) holds ad 1 c news (by rw [hsize]; omega) hnews (by omega) (by omega) (growslice_fits (by omega) (by rw [hby]; exact hbytes))
      have hr3 := hr2.symm.trans hr
      injection hr3 with e1 e2
      rw [← e2]
      have hlt : g1 < w.heap.size := heap_lt hg
      exact (World.cell?_of_block (a := ⟨g1, j, none⟩) (heap_alloc_old w.drew _ hlt)).trans hc
section
variable {P : Program} {ops : Array Oper} {rest : List Oper} {o : Oper} {a : Act} {Q : Exit → Act → World → Prop}
theorem RowIs.app_step {W : World} (B : Nat) (hgd : o.guard = none) (s x : Operand) (t e : TypeId) (z : Value) (size bytes : Nat)
    (ho : o.op = .call { callee := .builtin .append, args := #[s, x], argTypes := #[t, t] })
    (ht : P.underlying t = some (.slice e)) (hinfo : (P.info? e).map (fun i => (i.zero, i.size, i.bytes)) = some (some z, size, bytes)) (hz : z.cells.size = size) (hs0 : 0 < size)
    (v : Value) (n : Nat) (E : Nat → Option (List Value)) (X : List Value) (G : Nat) (hs : a.eval s = v) (hx : a.eval x = .slice (some ⟨G, 0, none⟩) 1 1) (hX : X.length = size)
    (hnews : ∀ j u, X[j]? = some u → W.cell? ⟨G, j, none⟩ = some u) (h1 : ∀ u ∈ X, u.oneCell' = true)
    (HO : RowIs W B e size v n E) (hbase : B ≤ W.heap.size) (hl : (n + 1) * bytes ≤ 140737488355328) (hn1 : n + 1 ≤ 140737488355328)
    (h : ∀ g c w1, RowIs w1 B e size (.slice (some ⟨g, 0, none⟩) (n + 1) c) (n + 1) (fun j => if j = n then some X else E j) → W.grownBy w1 v.ownBlock → (v.ownBlock = some g ∨ g = W.heap.size) →
      (∀ g0 j u, (v.ownBlock = some g0 → j < n * size) → W.cell? ⟨g0, j, none⟩ = some u → w1.cell? ⟨g0, j, none⟩ = some u) → wpList P ops Q rest (a.put o.dst (.slice (some ⟨g, 0, none⟩) (n + 1) c)) w1) :
    wpList P ops Q (o :: rest) a W := by
  refine wpList_plain hgd fun K hK => ?_
  obtain ⟨i0, hi, hzz⟩ := Option.map_eq_some_iff.1 hinfo
  simp only [Prod.mk.injEq] at hzz
  obtain ⟨hz0, hz1, hz2⟩ := hzz
  obtain ⟨xs, hown, hE⟩ := HO
  obtain ⟨g, c, w1, hr, h2, h3, h4, h5, h6⟩ := run_append_keep (P := P) W t o.type B e i0 z size bytes ht hi hz0 hz1 hz2 hz hs0 v n xs hown ⟨G, 0, none⟩ 1 X hX (fun j u hj => by rw [Lib.add_plain, Nat.zero_add]; exact hnews j u hj) h1 hl hn1 hbase
  unfold Oper.wp execOp
  simp only [ho, resolve, invoke, builtin, Sem.run_bind, Sem.run_pure, Result.andThen_ok, List.map_toArray, List.map_cons, List.map_nil, hs, hx, hr]
  refine hK _ _ (h g c w1 ⟨xs ++ X, h2, ?_⟩ h3 h4 ?_)
  · intro j hj Z hZ t u ht hu
    have hxl := hown.1
    replace hZ : (if j = n then some X else E j) = some Z := hZ
    by_cases hjn : j = n
    · subst hjn
      rw [if_pos rfl] at hZ
      obtain rfl := Option.some.inj hZ
      rw [List.getElem?_append_right (by omega), show j * size + t - xs.length = t by omega]
      exact hu
    · rw [if_neg hjn] at hZ
      have hlt : j < n := by omega
      have : (j + 1) * size ≤ n * size := Nat.mul_le_mul_right _ hlt
      rw [Nat.add_mul, Nat.one_mul] at this
      rw [List.getElem?_append_left (by omega)]
      exact hE j hlt Z hZ t u ht hu
  · intro g0 j u hg0 hc
    by_cases hb : v.ownBlock = some g0
    · exact h6 g0 j u hb (hg0 hb) hc
    · have hlt := World.block_lt_of_cell? W _ hc
      exact (World.cell?_of_block (a := ⟨g0, j, none⟩) (h3.block g0 hlt (fun he => hb he.symm))).trans hc
end
end Go.Proofs.YtohighedgdlflaaGreatDoor

/- Lists written full (P1), made longer by 64 (In, P2): what holds of the memory at each step. -/
namespace Go.Proofs.YtohighedgdlflaaGreatDoor
open Go.RowKit Go.Proofs.YtohighedgdlflaaGreatDoorW.PrintWords
set_option linter.unusedVariables false
set_option linter.unusedSimpArgs false
/-- The lists that came out, in a row of their own: what does not change. -/
structure Came (B L N s e eo H : Nat) (vs : Nat → Value) (ns : Nat → Nat) (X Y : Nat → List Value) : Prop where
  dist : ∀ p q, p < N → q < N → p ≠ q → ∀ g, (vs p).ownBlock = some g → (vs q).ownBlock ≠ some g
  lt : ∀ q, q < N → ∀ g, (vs q).ownBlock = some g → g < H
  form : ∀ q, q < N → (vs q = .slice none 0 0 ∧ ns q = 0) ∨ ∃ g c, vs q = .slice (some ⟨g, 0, none⟩) (ns q) c ∧ ns q ≤ c
  small : ∀ q, q < N → ns q ≤ 1000000000
  ne : e ≠ eo
  BL : B ≤ L
  LH : L < H
  lenX : ∀ q, q < N → (X q).length = s
  lenY : ∀ q, q < N → (Y q).length = s
/-- The row of the lists. -/
def LBlk (W : World) (L N eo : Nat) (vs : Nat → Value) : Prop := ∃ cs : Array Value, W.heap[L]? = some (.cells cs eo (0, 0)) ∧ ∀ q, q < N → cs[q]? = some (vs q)
theorem LBlk.cell {W : World} {L N eo : Nat} {vs : Nat → Value} (h : LBlk W L N eo vs) {q : Nat} (hq : q < N) : W.cell? ⟨L, q, none⟩ = some (vs q) := by
  obtain ⟨cs, h1, h2⟩ := h
  rw [blk_cell h1]; exact h2 q hq
def E1 (X : Nat → List Value) (i j q k : Nat) : Option (List Value) := if q < i ∨ (q = i ∧ k < j) then some (X q) else none
def EY (ns : Nat → Nat) (X Y : Nat → List Value) (q k : Nat) : Option (List Value) := if k < ns q then some (X q) else some (Y q)
structure P1 (W : World) (B L N s e eo : Nat) (vs : Nat → Value) (ns : Nat → Nat) (X : Nat → List Value) (i j : Nat) : Prop where
  blk : LBlk W L N eo vs
  own : ∀ q, q < N → RowIs W B e s (vs q) (ns q) (E1 X i j q)
structure P2 (W : World) (B L N s e eo H : Nat) (vs : Nat → Value) (ns : Nat → Nat) (X Y : Nat → List Value) (i : Nat) (v : Value) (ys : List Value) : Prop where
  blk : LBlk W L N eo vs
  hH : H ≤ W.heap.size
  rd : ∀ q, q < N → RdIs W (vs q) (ns q) s (X q)
  own : ∀ q, i ≤ q → q < N → RowIs W B e s (vs q) (ns q) (fun _ => some (X q))
  lon : W.ownsRow H eo 1 v i ys
  ysO : ∀ q, q < i → ∃ g c, ys[q]? = some (.slice (some ⟨g, 0, none⟩) (ns q + 64) c) ∧ ns q + 64 ≤ c ∧ RowIs W B e s (.slice (some ⟨g, 0, none⟩) (ns q + 64) c) (ns q + 64) (EY ns X Y q) ∧ ∀ p, p < N → p ≠ q → (vs p).ownBlock ≠ some g
structure In (W : World) (B L N s e eo H : Nat) (vs : Nat → Value) (ns : Nat → Nat) (X Y : Nat → List Value) (i j : Nat) (y v : Value) (ys : List Value) : Prop where
  blk : LBlk W L N eo vs
  hH : H ≤ W.heap.size
  rd : ∀ q, q < N → RdIs W (vs q) (ns q) s (X q)
  own : ∀ q, i < q → q < N → RowIs W B e s (vs q) (ns q) (fun _ => some (X q))
  lon : W.ownsRow H eo 1 v i ys
  ysO : ∀ q, q < i → ∃ g c, ys[q]? = some (.slice (some ⟨g, 0, none⟩) (ns q + 64) c) ∧ ns q + 64 ≤ c ∧ RowIs W B e s (.slice (some ⟨g, 0, none⟩) (ns q + 64) c) (ns q + 64) (EY ns X Y q) ∧ (∀ p, p < N → p ≠ q → (vs p).ownBlock ≠ some g) ∧ y.ownBlock ≠ some g
  yR : RowIs W B e s y (ns i + j) (EY ns X Y i)
  yv : ∀ p, p < N → p ≠ i → ∀ g, y.ownBlock = some g → (vs p).ownBlock ≠ some g
section
variable {W w1 : World} {B L N s e eo H : Nat} {vs : Nat → Value} {ns : Nat → Nat} {X Y : Nat → List Value} {i j : Nat} {y v : Value} {ys : List Value}
theorem ne_block {b : Nat} {e1 e2 : Nat} {c1 c2 : Array Value} {g : Nat} (h1 : W.heap[b]? = some (.cells c1 e1 (0, 0))) (h2 : W.heap[g]? = some (.cells c2 e2 (0, 0))) (hne : e1 ≠ e2) : b ≠ g := by
  intro he
  subst he
  rw [h1] at h2
  injection h2 with h2
  injection h2 with _ h3 _
  exact hne h3
theorem LBlk.kept (h : LBlk W L N eo vs) {row : Option Nat} (hg : W.grownBy w1 row) (hne : some L ≠ row) : LBlk w1 L N eo vs := by
  obtain ⟨cs, h1, h2⟩ := h
  exact ⟨cs, (hg.block _ (heap_lt h1) hne).trans h1, h2⟩
theorem LBlk.below (h : LBlk W L N eo vs) (hb : Below W.heap.size W w1) : LBlk w1 L N eo vs := by
  obtain ⟨cs, h1, h2⟩ := h
  exact ⟨cs, (hb.block _ (heap_lt h1)).trans h1, h2⟩
theorem RdIs.below {v : Value} {n s : Nat} {X : List Value} (h : RdIs W v n s X) (hb : Below W.heap.size W w1) : RdIs w1 v n s X := fun g c hv j hj t u ht hu => (hb.cell (World.block_lt_of_cell? W _ (h g c hv j hj t u ht hu))).trans (h g c hv j hj t u ht hu)
theorem In.below (h : In W B L N s e eo H vs ns X Y i j y v ys) (hb : Below W.heap.size W w1) : In w1 B L N s e eo H vs ns X Y i j y v ys where
  blk := h.blk.below hb
  hH := Nat.le_trans h.hH hb.size
  rd := fun q hq => (h.rd q hq).below hb
  own := fun q h1 h2 => (h.own q h1 h2).below hb
  lon := own_move h.lon (fun k hk => hb.block k (own_lt h.lon k hk))
  ysO := fun q hq => by
    obtain ⟨g, c, h1, hc, h2, h3, h4⟩ := h.ysO q hq
    exact ⟨g, c, h1, hc, h2.below hb, h3, h4⟩
  yR := h.yR.below hb
  yv := h.yv
theorem P2.below (h : P2 W B L N s e eo H vs ns X Y i v ys) (hb : Below W.heap.size W w1) : P2 w1 B L N s e eo H vs ns X Y i v ys where
  blk := h.blk.below hb
  hH := Nat.le_trans h.hH hb.size
  rd := fun q hq => (h.rd q hq).below hb
  own := fun q h1 h2 => (h.own q h1 h2).below hb
  lon := own_move h.lon (fun k hk => hb.block k (own_lt h.lon k hk))
  ysO := fun q hq => by
    obtain ⟨g, c, h1, hc, h2, h3⟩ := h.ysO q hq
    exact ⟨g, c, h1, hc, h2.below hb, h3⟩
theorem P1.below (h : P1 W B L N s e eo vs ns X i j) (hb : Below W.heap.size W w1) : P1 w1 B L N s e eo vs ns X i j := ⟨h.blk.below hb, fun q hq => (h.own q hq).below hb⟩
/-- One element of a list is written. -/
theorem P1.step (hc : Came B L N s e eo H vs ns X Y) (h : P1 W B L N s e eo vs ns X i j) (hi : i < N) (hj : j < ns i) {g c : Nat} (hv : vs i = .slice (some ⟨g, 0, none⟩) (ns i) c) : P1 (W.setCells g (j * s) (X i)) B L N s e eo vs ns X i (j + 1) where
  blk := by
    obtain ⟨cs, h1, h2⟩ := h.blk
    obtain ⟨cur, h3⟩ := (h.own i hi).typed (g := g) (by rw [hv]; rfl)
    exact ⟨cs, (setCells_far _ _ L (ne_block h1 h3 (fun h => hc.ne h.symm))).trans h1, h2⟩
  own := fun q hq => by
    by_cases hqi : q = i
    · subst hqi
      refine (h.own q hq).set hv hj (hc.lenX q hq) ?_
      intro k hk Z hZ
      simp only [E1] at hZ ⊢
      by_cases hkj : k = j
      · subst hkj
        rw [if_pos (Or.inr ⟨by trivial, by omega⟩)] at hZ
        exact .inl ⟨by first | rfl | trivial, (Option.some.inj hZ).symm⟩
      · right
        refine ⟨hkj, ?_⟩
        rw [← hZ]
        congr 1
        simp
        omega
    · refine ((h.own q hq).far (hc.dist i q hi hq (Ne.symm hqi) g (by rw [hv]; rfl))).mono ?_
      intro k hk Z hZ
      simp only [E1] at hZ ⊢
      rw [← hZ]
      congr 1
      simp
      omega
theorem P1.next (h : P1 W B L N s e eo vs ns X i (ns i)) : P1 W B L N s e eo vs ns X (i + 1) 0 where
  blk := h.blk
  own := fun q hq => (h.own q hq).mono (fun k hk Z hZ => by
    simp only [E1] at hZ ⊢
    rw [← hZ]
    congr 1
    simp
    by_cases hqi : q = i
    · subst hqi; omega
    · omega)
theorem P1.done (h : P1 W B L N s e eo vs ns X N 0) (hH : H ≤ W.heap.size) : P2 W B L N s e eo H vs ns X Y 0 (.slice none 0 0) [] where
  blk := h.blk
  hH := hH
  rd := fun q hq => (h.own q hq).rd (fun j hj => by simp only [E1]; rw [if_pos (Or.inl hq)])
  own := fun q _ hq => (h.own q hq).mono (fun k hk Z hZ => by simp only [E1]; rw [if_pos (Or.inl hq)]; exact hZ)
  lon := World.ownsRow_nil _ _ _ _
  ysO := fun q hq => absurd hq (by omega)
theorem P2.enter (hc : Came B L N s e eo H vs ns X Y) (h : P2 W B L N s e eo H vs ns X Y i v ys) (hi : i < N) : In W B L N s e eo H vs ns X Y i 0 (vs i) v ys where
  blk := h.blk
  hH := h.hH
  rd := h.rd
  own := fun q h1 h2 => h.own q (by omega) h2
  lon := h.lon
  ysO := fun q hq => by
    obtain ⟨g, c, h1, hc, h2, h3⟩ := h.ysO q hq
    exact ⟨g, c, h1, hc, h2, h3, h3 i hi (by omega)⟩
  yR := (h.own i (Nat.le_refl _) hi).mono (fun k hk Z hZ => by simp only [EY] at hZ; rw [if_pos (by omega)] at hZ; exact hZ)
  yv := fun p hp hpi g hg => hc.dist i p hi hp (Ne.symm hpi) g hg
/-- One element is appended. -/
theorem In.step (hc : Came B L N s e eo H vs ns X Y) (h : In W B L N s e eo H vs ns X Y i j y v ys) (hi : i < N) {g c : Nat} (hR : RowIs w1 B e s (.slice (some ⟨g, 0, none⟩) (ns i + j + 1) c) (ns i + j + 1) (fun k => if k = ns i + j then some (Y i) else EY ns X Y i k))
    (hg : W.grownBy w1 y.ownBlock) (hat : y.ownBlock = some g ∨ g = W.heap.size) (hk : ∀ g0 k u, (y.ownBlock = some g0 → k < (ns i + j) * s) → W.cell? ⟨g0, k, none⟩ = some u → w1.cell? ⟨g0, k, none⟩ = some u) :
    In w1 B L N s e eo H vs ns X Y i (j + 1) (.slice (some ⟨g, 0, none⟩) (ns i + j + 1) c) v ys where
  blk := by
    refine h.blk.kept hg ?_
    intro he
    obtain ⟨cs, h1, _⟩ := h.blk
    obtain ⟨cur, h3⟩ := h.yR.typed he.symm
    exact ne_block h1 h3 (fun h => hc.ne h.symm) rfl
  hH := Nat.le_trans h.hH hg.size
  rd := fun q hq g0 c0 hv0 k hk0 t u ht hu => by
    refine hk g0 _ u ?_ (h.rd q hq g0 c0 hv0 k hk0 t u ht hu)
    intro hy
    by_cases hqi : q = i
    · subst hqi
      have : (k + 1) * s ≤ (ns q + j) * s := Nat.mul_le_mul_right _ (by omega)
      rw [Nat.add_mul, Nat.one_mul] at this
      omega
    · exact absurd (by rw [hv0]; rfl) (h.yv q hq hqi g0 hy)
  own := fun q h1 h2 => (h.own q h1 h2).kept hg (fun g0 hg0 hy => h.yv q h2 (by omega) g0 hy hg0)
  lon := by
    refine h.lon.kept hg ?_
    cases hv : v.ownBlock with
    | none => exact .inl rfl
    | some b =>
      right
      intro he
      obtain ⟨c1, h1⟩ := own_typed h.lon b hv
      obtain ⟨cur, h3⟩ := h.yR.typed he.symm
      exact ne_block h1 h3 (fun h => hc.ne h.symm) rfl
  ysO := fun q hq => by
    obtain ⟨g0, c0, h1, hc0, h2, h3, h4⟩ := h.ysO q hq
    refine ⟨g0, c0, h1, hc0, h2.kept hg (fun g1 hg1 hy => ?_), h3, ?_⟩
    · have : g0 = g1 := by simpa [Value.ownBlock] using hg1
      subst this
      exact h4 hy
    · intro he
      have : g = g0 := by simpa [Value.ownBlock] using he
      subst this
      rcases hat with hat | hat
      · exact h4 hat
      · have := h2.lt (g := g) rfl
        omega
  yR := hR.mono (fun k hk Z hZ => by
    show (if k = ns i + j then some (Y i) else EY ns X Y i k) = some Z
    by_cases hkn : k = ns i + j
    · rw [if_pos hkn]
      simp only [EY] at hZ
      rw [if_neg (by omega)] at hZ
      exact hZ
    · rw [if_neg hkn]; exact hZ)
  yv := fun p hp hpi g0 hg0 => by
    have : g = g0 := by simpa [Value.ownBlock] using hg0
    subst this
    rcases hat with hat | hat
    · exact h.yv p hp hpi g hat
    · intro he
      have := hc.lt p hp g he
      have := h.hH
      omega
/-- The longer list is put behind the others. -/
theorem In.leave (hc : Came B L N s e eo H vs ns X Y) {g c : Nat} (hy : y = .slice (some ⟨g, 0, none⟩) (ns i + 64) c) (hcc : ns i + 64 ≤ c) (h : In W B L N s e eo H vs ns X Y i 64 y v ys) (hi : i < N) {v1 : Value} (hl : w1.ownsRow H eo 1 v1 (i + 1) (ys ++ [y])) (hg : W.grownBy w1 v.ownBlock) :
    P2 w1 B L N s e eo H vs ns X Y (i + 1) v1 (ys ++ [y]) := by
  have far : ∀ g0 cur, W.heap[g0]? = some (.cells cur e (0, 0)) → v.ownBlock ≠ some g0 := by
    intro g0 cur h1 hv
    obtain ⟨c1, h2⟩ := own_typed h.lon g0 hv
    exact ne_block h1 h2 hc.ne rfl
  have hlen : ys.length = i := by have := h.lon.1; omega
  exact {
    blk := h.blk.kept hg (fun he => by
      have := own_base h.lon L he.symm
      have := hc.LH
      omega)
    hH := Nat.le_trans h.hH hg.size
    rd := fun q hq g0 c0 hv0 k hk0 t u ht hu => by
      have h1 := h.rd q hq g0 c0 hv0 k hk0 t u ht hu
      refine (World.cell?_of_block (hg.block g0 (World.block_lt_of_cell? W _ h1) (fun he => ?_))).trans h1
      have h2 := own_base h.lon g0 he.symm
      have h3 := hc.lt q hq g0 (by rw [hv0]; rfl)
      omega
    own := fun q h1 h2 => (h.own q (by omega) h2).kept hg (fun g0 hg0 => by
      obtain ⟨cur, h3⟩ := (h.own q (by omega) h2).typed hg0
      exact far g0 cur h3)
    lon := hl
    ysO := fun q hq => by
      by_cases hqi : q = i
      · subst hqi
        refine ⟨g, c, by rw [List.getElem?_append_right (by omega), hlen, Nat.sub_self, hy]; rfl, hcc, ?_, ?_⟩
        · rw [← hy]
          exact h.yR.kept hg (fun g0 hg0 => by
            obtain ⟨cur, h3⟩ := h.yR.typed hg0
            exact far g0 cur h3)
        · exact fun p hp hpi => h.yv p hp hpi g (by rw [hy]; rfl)
      · obtain ⟨g0, c0, h1, hc0, h2, h3, h4⟩ := h.ysO q (by omega)
        refine ⟨g0, c0, by rw [List.getElem?_append_left (by omega)]; exact h1, hc0, h2.kept hg (fun g1 hg1 => ?_), h3⟩
        obtain ⟨cur, h5⟩ := h2.typed hg1
        exact far g1 cur h5 }
end
end Go.Proofs.YtohighedgdlflaaGreatDoor
