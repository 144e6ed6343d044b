/- Words for pure laws: loops that count, wrapped numbers. Conditions: none. -/
import Derived.Test.YtnfjibcfnchkkaaEngP
namespace Go.Eng

theorem loop_seq {σ ω : Type} {body : σ → Option (Stp σ ω)} (F : Nat → σ) (N : Nat) {w : ω} {s0 : σ} (h0 : s0 = F 0) (h : ∀ n, n < N → body (F n) = some (.next (F (n + 1)))) (hN : body (F N) = some (.done w)) : loop body s0 = some w := by
  subst h0
  have key : ∀ m n, n + m = N → Runs body m (F n) w := by
    intro m
    induction m with
    | zero => intro n hn; obtain rfl : n = N := by omega
              exact .done _ _ hN
    | succ m ih => intro n hn; exact .next _ _ _ _ (h n (by omega)) (ih (n + 1) (by omega))
  exact loop_iff.2 ⟨N, key N 0 (by omega)⟩

/-- A loop with an invariant and a measure. -/
theorem loop_inv {σ ω : Type} {body : σ → Option (Stp σ ω)} (I : σ → Prop) (μ : σ → Nat) (Post : ω → Prop) {s0 : σ} (h0 : I s0)
    (step : ∀ s, I s → (∃ s', body s = some (.next s') ∧ I s' ∧ μ s' < μ s) ∨ (∃ w, body s = some (.done w) ∧ Post w)) : ∃ w, loop body s0 = some w ∧ Post w := by
  have key : ∀ n s, μ s = n → I s → ∃ w, (∃ m, Runs body m s w) ∧ Post w := by
    intro n
    induction n using Nat.strongRecOn with
    | _ n ih =>
      intro s hn hs
      rcases step s hs with ⟨s', h1, h2, h3⟩ | ⟨w, h1, h2⟩
      · obtain ⟨w, ⟨m, hm⟩, hp⟩ := ih (μ s') (hn ▸ h3) s' rfl h2
        exact ⟨w, ⟨m + 1, .next _ _ _ _ h1 hm⟩, hp⟩
      · exact ⟨w, ⟨0, .done _ _ h1⟩, h2⟩
  obtain ⟨w, hr, hp⟩ := key _ s0 rfl h0
  exact ⟨w, loop_iff.2 hr, hp⟩

/-- A loop that counts up to a bound, its state told by the count; it may end earlier. -/
theorem loop_count {σ ω : Type} {body : σ → Option (Stp σ ω)} (I : Nat → σ → Prop) (Post : ω → Prop) (N : Nat) {s0 : σ} (h0 : I 0 s0)
    (step : ∀ n s, n < N → I n s → (∃ s', body s = some (.next s') ∧ I (n + 1) s') ∨ (∃ w, body s = some (.done w) ∧ Post w)) (last : ∀ s, I N s → ∃ w, body s = some (.done w) ∧ Post w) : ∃ w, loop body s0 = some w ∧ Post w := by
  have key : ∀ m n s, n + m = N → I n s → ∃ w, (∃ m, Runs body m s w) ∧ Post w := by
    intro m
    induction m with
    | zero =>
      intro n s hn hs
      obtain rfl : n = N := by omega
      obtain ⟨w, h1, h2⟩ := last s hs
      exact ⟨w, ⟨0, .done _ _ h1⟩, h2⟩
    | succ m ih =>
      intro n s hn hs
      rcases step n s (by omega) hs with ⟨s', h1, h2⟩ | ⟨w, h1, h2⟩
      · obtain ⟨w, ⟨k, hk⟩, hp⟩ := ih (n + 1) s' (by omega) h2
        exact ⟨w, ⟨k + 1, .next _ _ _ _ h1 hk⟩, hp⟩
      · exact ⟨w, ⟨0, .done _ _ h1⟩, h2⟩
  obtain ⟨w, hr, hp⟩ := key N 0 s0 (by omega) h0
  exact ⟨w, loop_iff.2 hr, hp⟩

theorem loop_nx {σ ω : Type} {body : σ → Option (Stp σ ω)} {s s' : σ} (h : body s = some (.next s')) : loop body s = loop body s' := by rw [loop_eq, h]
theorem loop_dn {σ ω : Type} {body : σ → Option (Stp σ ω)} {s : σ} {w : ω} (h : body s = some (.done w)) : loop body s = some w := by rw [loop_eq, h]
theorem w64 {n : Int} (h1 : -9223372036854775808 ≤ n) (h2 : n ≤ 9223372036854775807) : IntKind.i64.wrap n = n := by
  simp [IntKind.wrap, IntKind.bits, IntKind.signed]
  split <;> omega
theorem w32 (n : Int) : IntKind.u32.wrap n = n % 4294967296 := by
  simp [IntKind.wrap, IntKind.bits, IntKind.signed]
theorem wu64 (n : Int) : IntKind.u64.wrap n = n % 18446744073709551616 := by
  simp [IntKind.wrap, IntKind.bits, IntKind.signed]
theorem wu8 (n : Int) : IntKind.u8.wrap n = n % 256 := by
  simp [IntKind.wrap, IntKind.bits, IntKind.signed]
theorem wf_u32 {n : Int} : (Lit.int .u32 n).wf = true ↔ 0 ≤ n ∧ n ≤ 4294967295 := by
  simp [Lit.wf, IntKind.min, IntKind.max, IntKind.signed, IntKind.bits]
theorem wf_i64 {n : Int} : (Lit.int .i64 n).wf = true ↔ -9223372036854775808 ≤ n ∧ n ≤ 9223372036854775807 := by
  simp [Lit.wf, IntKind.min, IntKind.max, IntKind.signed, IntKind.bits]
theorem wf_u64 {n : Int} : (Lit.int .u64 n).wf = true ↔ 0 ≤ n ∧ n ≤ 18446744073709551615 := by
  simp [Lit.wf, IntKind.min, IntKind.max, IntKind.signed, IntKind.bits]
theorem wf_u8 {n : Int} : (Lit.int .u8 n).wf = true ↔ 0 ≤ n ∧ n ≤ 255 := by
  simp [Lit.wf, IntKind.min, IntKind.max, IntKind.signed, IntKind.bits]

theorem ib_t {i : Int} {n : Nat} (h0 : 0 ≤ i) (h1 : i < n) : ib i n = some () := by simp [ib, h0, h1]
theorem ib_n {i n : Nat} (h1 : i < n) : ib (i : Int) n = some () := by simp [ib, h1]
theorem ibg_t {g : Bool} {i : Int} {n : Nat} (h : g = true → 0 ≤ i ∧ i < n) : ibg g i n = some () := by simp only [ibg, if_pos h]
theorem nz_t {i : Int} (h : i ≠ 0) : nz i = some () := by simp [nz, h]
theorem whn_t {α : Type} {g : Bool} {x : Option α} {a d : α} (h : x = some a) : ∃ b, whn g x d = some b ∧ (g = true → b = a) := by
  cases g with
  | true => exact ⟨a, by simp [whn, h], fun _ => rfl⟩
  | false => exact ⟨d, rfl, fun q => by cases q⟩
theorem scan {body : Int → Option (Stp Int (Fl Bool Unit))} (P : Nat → Bool) (N : Nat) (h : ∀ n, n < N → body (n : Int) = if P n = true then some (.done (.rt false)) else some (.next ((n + 1 : Nat) : Int))) (hl : body (N : Int) = some (.done (.nx ()))) :
    loop body 0 = some (if ((List.range N).all fun j => !P j) = true then .nx () else .rt false) := by
  obtain ⟨w, hw, hp⟩ := loop_count (body := body) (fun n s => s = (n : Int) ∧ ∀ j, j < n → P j = false) (fun w => w = (if ((List.range N).all fun j => !P j) = true then .nx () else .rt false)) N (s0 := 0) ⟨rfl, fun j hj => absurd hj (by omega)⟩
    (fun n s hn hs => by
      obtain ⟨rfl, hs⟩ := hs
      by_cases hP : P n = true
      · right
        refine ⟨.rt false, by rw [h n hn, if_pos hP], ?_⟩
        rw [if_neg]
        intro hall
        have := List.all_eq_true.1 hall n (List.mem_range.2 hn)
        simp [hP] at this
      · left
        refine ⟨_, by rw [h n hn, if_neg hP], rfl, fun j hj => ?_⟩
        by_cases hjn : j = n
        · subst hjn; simpa using hP
        · exact hs j (by omega))
    (fun s hs => by
      obtain ⟨rfl, hs⟩ := hs
      refine ⟨.nx (), hl, ?_⟩
      rw [if_pos]
      rw [List.all_eq_true]
      intro j hj
      rw [hs j (List.mem_range.1 hj)]; rfl)
  rw [hw, hp]
/-- What lies in a list first, as a loop finds it. -/
theorem seek {ρ : Type} {body : Int → Option (Stp Int (Fl ρ Unit))} (l : _root_.List Int) (P : Int → Bool) (g : Int → ρ)
    (h : ∀ n, n < l.length → body (n : Int) = if P (l.getD n 0) = true then some (.done (.rt (g (l.getD n 0)))) else some (.next ((n + 1 : Nat) : Int))) (hl : body ((l.length : Nat) : Int) = some (.done (.nx ()))) :
    loop body 0 = some (match l.find? P with | some x => .rt (g x) | none => .nx ()) := by
  obtain ⟨w, hw, hp⟩ := loop_count (body := body) (fun n s => s = (n : Int) ∧ l.find? P = (l.drop n).find? P) (fun w => w = (match l.find? P with | some x => .rt (g x) | none => .nx ())) l.length (s0 := 0) ⟨rfl, rfl⟩
    (fun n s hn hs => by
      obtain ⟨rfl, hs⟩ := hs
      have hd : l.drop n = l.getD n 0 :: l.drop (n + 1) := by
        rw [List.getD_eq_getElem?_getD, List.getElem?_eq_getElem hn]; exact List.drop_eq_getElem_cons hn
      by_cases hP : P (l.getD n 0) = true
      · right
        refine ⟨.rt (g (l.getD n 0)), by rw [h n hn, if_pos hP], ?_⟩
        rw [hs, hd, List.find?_cons_of_pos hP]
      · left
        refine ⟨_, by rw [h n hn, if_neg hP], rfl, ?_⟩
        rw [hs, hd, List.find?_cons_of_neg hP])
    (fun s hs => by
      obtain ⟨rfl, hs⟩ := hs
      refine ⟨.nx (), hl, ?_⟩
      rw [hs, List.drop_length]; rfl)
  rw [hw, hp]
theorem elim_find {ρ : Type} (o : Option Int) (g : Int → ρ) (d : ρ) : (match o with | some x => (Fl.rt (g x) : Fl ρ Unit) | none => .nx ()).elim (fun _ => some d) (fun r => some r) = some (match o with | some x => g x | none => d) := by
  cases o <;> rfl
theorem getD_in {α : Type} {l : _root_.List α} {d : α} {k : Nat} (h : k < l.length) : l.getD k d ∈ l := by
  rw [List.getD_eq_getElem?_getD, List.getElem?_eq_getElem h]; exact List.getElem_mem h
theorem take_s {α : Type} {l : _root_.List α} {d : α} {n : Nat} (hn : n < l.length) : l.take (n + 1) = l.take n ++ [l.getD n d] := by
  rw [List.take_add_one, List.getD_eq_getElem?_getD, List.getElem?_eq_getElem hn]; rfl
/-- All of a list, as a loop asks it. -/
theorem elim_all (l : _root_.List Int) (P : Int → Bool) : (match l.find? P with | some _ => (Fl.rt false : Fl Bool Unit) | none => .nx ()).elim (fun _ => some true) (fun r => some r) = some (l.all fun x => !P x) := by
  induction l with
  | nil => rfl
  | cons a l ih =>
    by_cases hP : P a = true
    · rw [List.find?_cons_of_pos hP]; simp [hP, Fl.elim]
    · rw [List.find?_cons_of_neg hP, ih]; simp only [Bool.not_eq_true] at hP; simp [hP]
end Go.Eng
