/- Words for pure laws: loops that count, wrapped numbers. Conditions: none. -/
import Derived.Test.YtgcnlfchpjbhkaaEngP
namespace Go.Eng

theorem loop_seq {σ ω : Type} {body : σ → Option (Stp σ ω)} (F : Nat → σ) (N : Nat) {w : ω} {s0 : σ} (h0 : s0 = F 0) (h : ∀ n, n < N → body (F n) = some (.next (F (n + 1)))) (hN : body (F N) = some (.done w)) : loop body s0 = some w := by
  subst h0
  have key : ∀ m n, n + m = N → Runs body m (F n) w := by
    intro m
    induction m with
    | zero => intro n hn; obtain rfl : n = N := by omega
              exact .done _ _ hN
    | succ m ih => intro n hn; exact .next _ _ _ _ (h n (by omega)) (ih (n + 1) (by omega))
  exact loop_iff.2 ⟨N, key N 0 (by omega)⟩

/-- A loop with an invariant and a measure. -/
theorem loop_inv {σ ω : Type} {body : σ → Option (Stp σ ω)} (I : σ → Prop) (μ : σ → Nat) (Post : ω → Prop) {s0 : σ} (h0 : I s0)
    (step : ∀ s, I s → (∃ s', body s = some (.next s') ∧ I s' ∧ μ s' < μ s) ∨ (∃ w, body s = some (.done w) ∧ Post w)) : ∃ w, loop body s0 = some w ∧ Post w := by
  have key : ∀ n s, μ s = n → I s → ∃ w, (∃ m, Runs body m s w) ∧ Post w := by
    intro n
    induction n using Nat.strongRecOn with
    | _ n ih =>
      intro s hn hs
      rcases step s hs with ⟨s', h1, h2, h3⟩ | ⟨w, h1, h2⟩
      · obtain ⟨w, ⟨m, hm⟩, hp⟩ := ih (μ s') (hn ▸ h3) s' rfl h2
        exact ⟨w, ⟨m + 1, .next _ _ _ _ h1 hm⟩, hp⟩
      · exact ⟨w, ⟨0, .done _ _ h1⟩, h2⟩
  obtain ⟨w, hr, hp⟩ := key _ s0 rfl h0
  exact ⟨w, loop_iff.2 hr, hp⟩

/-- A loop that counts up to a bound, its state told by the count; it may end earlier. -/
theorem loop_count {σ ω : Type} {body : σ → Option (Stp σ ω)} (I : Nat → σ → Prop) (Post : ω → Prop) (N : Nat) {s0 : σ} (h0 : I 0 s0)
    (step : ∀ n s, n < N → I n s → (∃ s', body s = some (.next s') ∧ I (n + 1) s') ∨ (∃ w, body s = some (.done w) ∧ Post w)) (last : ∀ s, I N s → ∃ w, body s = some (.done w) ∧ Post w) : ∃ w, loop body s0 = some w ∧ Post w := by
  have key : ∀ m n s, n + m = N → I n s → ∃ w, (∃ m, Runs body m s w) ∧ Post w := by
    intro m
    induction m with
    | zero =>
      intro n s hn hs
      obtain rfl : n = N := by omega
      obtain ⟨w, h1, h2⟩ := last s hs
      exact ⟨w, ⟨0, .done _ _ h1⟩, h2⟩
    | succ m ih =>
      intro n s hn hs
      rcases step n s (by omega) hs with ⟨s', h1, h2⟩ | ⟨w, h1, h2⟩
      · obtain ⟨w, ⟨k, hk⟩, hp⟩ := ih (n + 1) s' (by omega) h2
        exact ⟨w, ⟨k + 1, .next _ _ _ _ h1 hk⟩, hp⟩
      · exact ⟨w, ⟨0, .done _ _ h1⟩, h2⟩
  obtain ⟨w, hr, hp⟩ := key N 0 s0 (by omega) h0
  exact ⟨w, loop_iff.2 hr, hp⟩

theorem loop_nx {σ ω : Type} {body : σ → Option (Stp σ ω)} {s s' : σ} (h : body s = some (.next s')) : loop body s = loop body s' := by rw [loop_eq, h]
theorem loop_dn {σ ω : Type} {body : σ → Option (Stp σ ω)} {s : σ} {w : ω} (h : body s = some (.done w)) : loop body s = some w := by rw [loop_eq, h]
theorem w64 {n : Int} (h1 : -9223372036854775808 ≤ n) (h2 : n ≤ 9223372036854775807) : IntKind.i64.wrap n = n := by
  simp [IntKind.wrap, IntKind.bits, IntKind.signed]
  split <;> omega
theorem w32 (n : Int) : IntKind.u32.wrap n = n % 4294967296 := by
  simp [IntKind.wrap, IntKind.bits, IntKind.signed]
theorem wu64 (n : Int) : IntKind.u64.wrap n = n % 18446744073709551616 := by
  simp [IntKind.wrap, IntKind.bits, IntKind.signed]
theorem wu8 (n : Int) : IntKind.u8.wrap n = n % 256 := by
  simp [IntKind.wrap, IntKind.bits, IntKind.signed]
theorem wf_u32 {n : Int} : (Lit.int .u32 n).wf = true ↔ 0 ≤ n ∧ n ≤ 4294967295 := by
  simp [Lit.wf, IntKind.min, IntKind.max, IntKind.signed, IntKind.bits]
theorem wf_i64 {n : Int} : (Lit.int .i64 n).wf = true ↔ -9223372036854775808 ≤ n ∧ n ≤ 9223372036854775807 := by
  simp [Lit.wf, IntKind.min, IntKind.max, IntKind.signed, IntKind.bits]
theorem wf_u64 {n : Int} : (Lit.int .u64 n).wf = true ↔ 0 ≤ n ∧ n ≤ 18446744073709551615 := by
  simp [Lit.wf, IntKind.min, IntKind.max, IntKind.signed, IntKind.bits]
theorem wf_u8 {n : Int} : (Lit.int .u8 n).wf = true ↔ 0 ≤ n ∧ n ≤ 255 := by
  simp [Lit.wf, IntKind.min, IntKind.max, IntKind.signed, IntKind.bits]

theorem ib_t {i : Int} {n : Nat} (h0 : 0 ≤ i) (h1 : i < n) : ib i n = some () := by simp [ib, h0, h1]
theorem ib_n {i n : Nat} (h1 : i < n) : ib (i : Int) n = some () := by simp [ib, h1]
theorem ibg_t {g : Bool} {i : Int} {n : Nat} (h : g = true → 0 ≤ i ∧ i < n) : ibg g i n = some () := by simp only [ibg, if_pos h]
theorem nz_t {i : Int} (h : i ≠ 0) : nz i = some () := by simp [nz, h]
theorem whn_t {α : Type} {g : Bool} {x : Option α} {a d : α} (h : x = some a) : ∃ b, whn g x d = some b ∧ (g = true → b = a) := by
  cases g with
  | true => exact ⟨a, by simp [whn, h], fun _ => rfl⟩
  | false => exact ⟨d, rfl, fun q => by cases q⟩
end Go.Eng
