/- The law is proved here. Put together by a tool (shake.py) out of our own texts. Conditions: none. -/
import Derived.Test.YtcocahffigbmbaaCoreBlindE
import Derived.Test.YtcocahffigbmbaaRows
import Derived.WalkKit
import Derived.ProofKit
import Derived.ShutString
import Derived.Carry
set_option linter.unusedVariables false
set_option linter.unusedSimpArgs false
section
set_option linter.unusedVariables false
set_option maxRecDepth 100000
namespace Go.Proofs.Ytcocahffigbmbaa
open Go.Eng
def w_api_Beat (x : api_Beat) : Prop := ((Lit.int .u32 x.Now).wf = true) ∧ (∀ j, j < 8 → (Lit.int .u32 (x.Heard j)).wf = true) ∧ (∀ j, j < 8 → (Lit.int .u32 (x.Inc j)).wf = true)
def w_api_Id (x : api_Id) : Prop := ((Lit.int .u32 x.Epoch).wf = true) ∧ ((Lit.int .u32 x.Coord).wf = true) ∧ ((Lit.int .u32 x.Inc).wf = true)
def w_api_Entry (x : api_Entry) : Prop := ((Lit.int .i64 x.Kind).wf = true) ∧ ((Lit.int .i64 x.Service).wf = true) ∧ ((Lit.int .i64 x.Group).wf = true) ∧ ((Lit.int .u64 x.Session).wf = true) ∧ ((Lit.int .u64 x.Number).wf = true) ∧ (x.Text.size ≤ 140737488351232)
theorem in3 : InOk Try.prog 3 (fun z => V.int .i64 z) (fun x => (Lit.int .i64 x).wf = true) 1 := InOk.int _ (by kernel_rfl) (by kernel_rfl)
theorem in22 : InOk Try.prog 22 (fun z => V.int .u32 z) (fun x => (Lit.int .u32 x).wf = true) 1 := InOk.int _ (by kernel_rfl) (by kernel_rfl)
theorem sk27 : StOk Try.prog 27 [(22, 0), (22, 1), (22, 2)] 3 := StOk.of (by kernel_rfl)
theorem in27 : InOk Try.prog 27 e_api_Id w_api_Id 3 := InOk.st (szs := [1, 1, 1]) (c := c_api_Id) (l := [(22, 0), (22, 1), (22, 2)]) sk27 fun enc w spare held m cs h => by
  obtain ⟨x0, w0, r0⟩ := InOk.fld h 0 in22 rfl
  obtain ⟨x1, w1, r1⟩ := InOk.fld h 1 in22 rfl
  obtain ⟨x2, w2, r2⟩ := InOk.fld h 2 in22 rfl
  exact ⟨⟨x0, x1, x2⟩, ⟨w0, w1, w2⟩, fun j hj => match j, hj with | 0, _ => r0 | 1, _ => r1 | 2, _ => r2 | k + 3, hj => absurd (show k + 3 < 3 from hj) (by omega)⟩
theorem in28 : InOk Try.prog 28 e_a8_u32 (fun x => ∀ j, j < 8 → (Lit.int .u32 (x j)).wf = true) 8 := InOk.arr 0 (by kernel_rfl) (by kernel_rfl) in22
theorem in29 : InOk Try.prog 29 e_a8_u32 (fun x => ∀ j, j < 8 → (Lit.int .u32 (x j)).wf = true) 8 := InOk.arr 0 (by kernel_rfl) (by kernel_rfl) in22
theorem in36 : InOk Try.prog 36 (fun z => V.int .u64 z) (fun x => (Lit.int .u64 x).wf = true) 1 := InOk.int _ (by kernel_rfl) (by kernel_rfl)
theorem in9 : InOk Try.prog 9 (fun z => V.str z) (fun x => x.size ≤ 140737488351232) 1 := InOk.str (by kernel_rfl) (by kernel_rfl)
theorem sk38 : StOk Try.prog 38 [(3, 0), (3, 1), (3, 2), (36, 3), (36, 4), (9, 5)] 6 := StOk.of (by kernel_rfl)
theorem in38 : InOk Try.prog 38 e_api_Entry w_api_Entry 6 := InOk.st (szs := [1, 1, 1, 1, 1, 1]) (c := c_api_Entry) (l := [(3, 0), (3, 1), (3, 2), (36, 3), (36, 4), (9, 5)]) sk38 fun enc w spare held m cs h => by
  obtain ⟨x0, w0, r0⟩ := InOk.fld h 0 in3 rfl
  obtain ⟨x1, w1, r1⟩ := InOk.fld h 1 in3 rfl
  obtain ⟨x2, w2, r2⟩ := InOk.fld h 2 in3 rfl
  obtain ⟨x3, w3, r3⟩ := InOk.fld h 3 in36 rfl
  obtain ⟨x4, w4, r4⟩ := InOk.fld h 4 in36 rfl
  obtain ⟨x5, w5, r5⟩ := InOk.fld h 5 in9 rfl
  exact ⟨⟨x0, x1, x2, x3, x4, x5⟩, ⟨w0, w1, w2, w3, w4, w5⟩, fun j hj => match j, hj with | 0, _ => r0 | 1, _ => r1 | 2, _ => r2 | 3, _ => r3 | 4, _ => r4 | 5, _ => r5 | k + 6, hj => absurd (show k + 6 < 6 from hj) (by omega)⟩
theorem in39 : InOk Try.prog 39 e_a2_api_Entry (fun x => ∀ j, j < 2 → w_api_Entry (x j)) 12 := InOk.arr z_api_Entry (by kernel_rfl) (by kernel_rfl) in38
theorem in41 : InOk Try.prog 41 e_a3_a2_api_Entry (fun x => ∀ j, j < 3 → ∀ j1, j1 < 2 → w_api_Entry ((x j) j1)) 36 := InOk.arr (fun _ => z_api_Entry) (by kernel_rfl) (by kernel_rfl) in39
theorem in4 : InOk Try.prog 4 (fun z => V.bool z) (fun x => True) 1 := InOk.bool (by kernel_rfl) (by kernel_rfl)
def w_api_Packet (x : api_Packet) : Prop := ((Lit.int .u32 x.From).wf = true) ∧ ((Lit.int .u32 x.Inc).wf = true) ∧ (w_api_Id x.Conf) ∧ (∀ j, j < 8 → (Lit.int .u32 (x.Members j)).wf = true) ∧ (∀ j, j < 8 → (Lit.int .u32 (x.Count j)).wf = true) ∧ (w_api_Id x.Promise) ∧ (∀ j, j < 8 → (Lit.int .u32 (x.Wanted j)).wf = true) ∧ (True) ∧ ((Lit.int .u32 x.Epoch).wf = true) ∧ ((Lit.int .u32 x.Round).wf = true) ∧ (∀ j, j < 3 → ∀ j1, j1 < 2 → w_api_Entry ((x.Newest j) j1)) ∧ (∀ j, j < 3 → ∀ j1, j1 < 2 → w_api_Entry ((x.Older j) j1)) ∧ ((Lit.int .u32 x.RelayOf).wf = true) ∧ ((Lit.int .u32 x.RelayRound).wf = true) ∧ (∀ j, j < 3 → ∀ j1, j1 < 2 → w_api_Entry ((x.Relay j) j1))
theorem sk50 : StOk Try.prog 50 [(22, 0), (22, 1), (27, 2), (28, 5), (29, 13), (27, 21), (28, 24), (4, 32), (22, 33), (22, 34), (41, 35), (41, 71), (22, 107), (22, 108), (41, 109)] 145 := StOk.of (by kernel_rfl)
theorem in50 : InOk Try.prog 50 e_api_Packet w_api_Packet 145 := InOk.st (szs := [1, 1, 3, 8, 8, 3, 8, 1, 1, 1, 36, 36, 1, 1, 36]) (c := c_api_Packet) (l := [(22, 0), (22, 1), (27, 2), (28, 5), (29, 13), (27, 21), (28, 24), (4, 32), (22, 33), (22, 34), (41, 35), (41, 71), (22, 107), (22, 108), (41, 109)]) sk50 fun enc w spare held m cs h => by
  obtain ⟨x0, w0, r0⟩ := InOk.fld h 0 in22 rfl
  obtain ⟨x1, w1, r1⟩ := InOk.fld h 1 in22 rfl
  obtain ⟨x2, w2, r2⟩ := InOk.fld h 2 in27 rfl
  obtain ⟨x3, w3, r3⟩ := InOk.fld h 3 in28 rfl
  obtain ⟨x4, w4, r4⟩ := InOk.fld h 4 in29 rfl
  obtain ⟨x5, w5, r5⟩ := InOk.fld h 5 in27 rfl
  obtain ⟨x6, w6, r6⟩ := InOk.fld h 6 in28 rfl
  obtain ⟨x7, w7, r7⟩ := InOk.fld h 7 in4 rfl
  obtain ⟨x8, w8, r8⟩ := InOk.fld h 8 in22 rfl
  obtain ⟨x9, w9, r9⟩ := InOk.fld h 9 in22 rfl
  obtain ⟨x10, w10, r10⟩ := InOk.fld h 10 in41 rfl
  obtain ⟨x11, w11, r11⟩ := InOk.fld h 11 in41 rfl
  obtain ⟨x12, w12, r12⟩ := InOk.fld h 12 in22 rfl
  obtain ⟨x13, w13, r13⟩ := InOk.fld h 13 in22 rfl
  obtain ⟨x14, w14, r14⟩ := InOk.fld h 14 in41 rfl
  exact ⟨⟨x0, x1, x2, x3, x4, x5, x6, x7, x8, x9, x10, x11, x12, x13, x14⟩, ⟨w0, w1, w2, w3, w4, w5, w6, w7, w8, w9, w10, w11, w12, w13, w14⟩, fun j hj => match j, hj with | 0, _ => r0 | 1, _ => r1 | 2, _ => r2 | 3, _ => r3 | 4, _ => r4 | 5, _ => r5 | 6, _ => r6 | 7, _ => r7 | 8, _ => r8 | 9, _ => r9 | 10, _ => r10 | 11, _ => r11 | 12, _ => r12 | 13, _ => r13 | 14, _ => r14 | k + 15, hj => absurd (show k + 15 < 15 from hj) (by omega)⟩
def w_congresslaw13_Event (x : congresslaw13_Event) : Prop := (True) ∧ (∀ j, j < 3 → ∀ j1, j1 < 2 → w_api_Entry ((x.F j) j1)) ∧ (w_api_Packet x.P)
theorem sk61 : StOk Try.prog 61 [(4, 0), (41, 1), (50, 37)] 182 := StOk.of (by kernel_rfl)
theorem in61 : InOk Try.prog 61 e_congresslaw13_Event w_congresslaw13_Event 182 := InOk.st (szs := [1, 36, 145]) (c := c_congresslaw13_Event) (l := [(4, 0), (41, 1), (50, 37)]) sk61 fun enc w spare held m cs h => by
  obtain ⟨x0, w0, r0⟩ := InOk.fld h 0 in4 rfl
  obtain ⟨x1, w1, r1⟩ := InOk.fld h 1 in41 rfl
  obtain ⟨x2, w2, r2⟩ := InOk.fld h 2 in50 rfl
  exact ⟨⟨x0, x1, x2⟩, ⟨w0, w1, w2⟩, fun j hj => match j, hj with | 0, _ => r0 | 1, _ => r1 | 2, _ => r2 | k + 3, hj => absurd (show k + 3 < 3 from hj) (by omega)⟩
theorem in57 : InOk Try.prog 57 e_s_congresslaw13_Event (fun x => (x.length ≤ maxLen ∧ x.length * 1504 ≤ 140737488351232) ∧ ∀ j, j < x.length → w_congresslaw13_Event (x.getD j z_congresslaw13_Event)) 1 := InOk.sl z_congresslaw13_Event (by kernel_rfl) (by kernel_rfl) (by kernel_rfl) in61 (by decide)
theorem in68 : InOk Try.prog 68 e_s_a3_a2_api_Entry (fun x => (x.length ≤ maxLen ∧ x.length * 336 ≤ 140737488351232) ∧ ∀ j, j < x.length → ∀ j1, j1 < 3 → ∀ j2, j2 < 2 → w_api_Entry (((x.getD j (fun _ => (fun _ => z_api_Entry))) j1) j2)) 1 := InOk.sl (fun _ => (fun _ => z_api_Entry)) (by kernel_rfl) (by kernel_rfl) (by kernel_rfl) in41 (by decide)
end Go.Proofs.Ytcocahffigbmbaa
end

section
namespace Go.Eng
theorem loop_seq {σ ω : Type} {body : σ → Option (Stp σ ω)} (F : Nat → σ) (N : Nat) {w : ω} {s0 : σ} (h0 : s0 = F 0) (h : ∀ n, n < N → body (F n) = some (.next (F (n + 1)))) (hN : body (F N) = some (.done w)) : loop body s0 = some w := by
  subst h0
  have key : ∀ m n, n + m = N → Runs body m (F n) w := by
    intro m
    induction m with
    | zero => intro n hn; obtain rfl : n = N := by omega
              exact .done _ _ hN
    | succ m ih => intro n hn; exact .next _ _ _ _ (h n (by omega)) (ih (n + 1) (by omega))
  exact loop_iff.2 ⟨N, key N 0 (by omega)⟩
theorem loop_inv {σ ω : Type} {body : σ → Option (Stp σ ω)} (I : σ → Prop) (μ : σ → Nat) (Post : ω → Prop) {s0 : σ} (h0 : I s0)
    (step : ∀ s, I s → (∃ s', body s = some (.next s') ∧ I s' ∧ μ s' < μ s) ∨ (∃ w, body s = some (.done w) ∧ Post w)) : ∃ w, loop body s0 = some w ∧ Post w := by
  have key : ∀ n s, μ s = n → I s → ∃ w, (∃ m, Runs body m s w) ∧ Post w := by
    intro n
    induction n using Nat.strongRecOn with
    | _ n ih =>
      intro s hn hs
      rcases step s hs with ⟨s', h1, h2, h3⟩ | ⟨w, h1, h2⟩
      · obtain ⟨w, ⟨m, hm⟩, hp⟩ := ih (μ s') (hn ▸ h3) s' rfl h2
        exact ⟨w, ⟨m + 1, .next _ _ _ _ h1 hm⟩, hp⟩
      · exact ⟨w, ⟨0, .done _ _ h1⟩, h2⟩
  obtain ⟨w, hr, hp⟩ := key _ s0 rfl h0
  exact ⟨w, loop_iff.2 hr, hp⟩
theorem loop_count {σ ω : Type} {body : σ → Option (Stp σ ω)} (I : Nat → σ → Prop) (Post : ω → Prop) (N : Nat) {s0 : σ} (h0 : I 0 s0)
    (step : ∀ n s, n < N → I n s → (∃ s', body s = some (.next s') ∧ I (n + 1) s') ∨ (∃ w, body s = some (.done w) ∧ Post w)) (last : ∀ s, I N s → ∃ w, body s = some (.done w) ∧ Post w) : ∃ w, loop body s0 = some w ∧ Post w := by
  have key : ∀ m n s, n + m = N → I n s → ∃ w, (∃ m, Runs body m s w) ∧ Post w := by
    intro m
    induction m with
    | zero =>
      intro n s hn hs
      obtain rfl : n = N := by omega
      obtain ⟨w, h1, h2⟩ := last s hs
      exact ⟨w, ⟨0, .done _ _ h1⟩, h2⟩
    | succ m ih =>
      intro n s hn hs
      rcases step n s (by omega) hs with ⟨s', h1, h2⟩ | ⟨w, h1, h2⟩
      · obtain ⟨w, ⟨k, hk⟩, hp⟩ := ih (n + 1) s' (by omega) h2
        exact ⟨w, ⟨k + 1, .next _ _ _ _ h1 hk⟩, hp⟩
      · exact ⟨w, ⟨0, .done _ _ h1⟩, h2⟩
  obtain ⟨w, hr, hp⟩ := key N 0 s0 (by omega) h0
  exact ⟨w, loop_iff.2 hr, hp⟩
theorem loop_nx {σ ω : Type} {body : σ → Option (Stp σ ω)} {s s' : σ} (h : body s = some (.next s')) : loop body s = loop body s' := by rw [loop_eq, h]
theorem loop_dn {σ ω : Type} {body : σ → Option (Stp σ ω)} {s : σ} {w : ω} (h : body s = some (.done w)) : loop body s = some w := by rw [loop_eq, h]
theorem w64 {n : Int} (h1 : -9223372036854775808 ≤ n) (h2 : n ≤ 9223372036854775807) : IntKind.i64.wrap n = n := by
  simp [IntKind.wrap, IntKind.bits, IntKind.signed]
  split <;> omega
theorem w32 (n : Int) : IntKind.u32.wrap n = n % 4294967296 := by
  simp [IntKind.wrap, IntKind.bits, IntKind.signed]
theorem wu64 (n : Int) : IntKind.u64.wrap n = n % 18446744073709551616 := by
  simp [IntKind.wrap, IntKind.bits, IntKind.signed]
theorem wf_u32 {n : Int} : (Lit.int .u32 n).wf = true ↔ 0 ≤ n ∧ n ≤ 4294967295 := by
  simp [Lit.wf, IntKind.min, IntKind.max, IntKind.signed, IntKind.bits]
theorem ib_t {i : Int} {n : Nat} (h0 : 0 ≤ i) (h1 : i < n) : ib i n = some () := by simp [ib, h0, h1]
theorem ib_n {i n : Nat} (h1 : i < n) : ib (i : Int) n = some () := by simp [ib, h1]
theorem ibg_t {g : Bool} {i : Int} {n : Nat} (h : g = true → 0 ≤ i ∧ i < n) : ibg g i n = some () := by simp only [ibg, if_pos h]
theorem nz_t {i : Int} (h : i ≠ 0) : nz i = some () := by simp [nz, h]
theorem seek {ρ : Type} {body : Int → Option (Stp Int (Fl ρ Unit))} (l : _root_.List Int) (P : Int → Bool) (g : Int → ρ)
    (h : ∀ n, n < l.length → body (n : Int) = if P (l.getD n 0) = true then some (.done (.rt (g (l.getD n 0)))) else some (.next ((n + 1 : Nat) : Int))) (hl : body ((l.length : Nat) : Int) = some (.done (.nx ()))) :
    loop body 0 = some (match l.find? P with | some x => .rt (g x) | none => .nx ()) := by
  obtain ⟨w, hw, hp⟩ := loop_count (body := body) (fun n s => s = (n : Int) ∧ l.find? P = (l.drop n).find? P) (fun w => w = (match l.find? P with | some x => .rt (g x) | none => .nx ())) l.length (s0 := 0) ⟨rfl, rfl⟩
    (fun n s hn hs => by
      obtain ⟨rfl, hs⟩ := hs
      have hd : l.drop n = l.getD n 0 :: l.drop (n + 1) := by
        rw [List.getD_eq_getElem?_getD, List.getElem?_eq_getElem hn]; exact List.drop_eq_getElem_cons hn
      by_cases hP : P (l.getD n 0) = true
      · right
        refine ⟨.rt (g (l.getD n 0)), by rw [h n hn, if_pos hP], ?_⟩
        rw [hs, hd, List.find?_cons_of_pos hP]
      · left
        refine ⟨_, by rw [h n hn, if_neg hP], rfl, ?_⟩
        rw [hs, hd, List.find?_cons_of_neg hP])
    (fun s hs => by
      obtain ⟨rfl, hs⟩ := hs
      refine ⟨.nx (), hl, ?_⟩
      rw [hs, List.drop_length]; rfl)
  rw [hw, hp]
theorem getD_in {α : Type} {l : _root_.List α} {d : α} {k : Nat} (h : k < l.length) : l.getD k d ∈ l := by
  rw [List.getD_eq_getElem?_getD, List.getElem?_eq_getElem h]; exact List.getElem_mem h
theorem take_s {α : Type} {l : _root_.List α} {d : α} {n : Nat} (hn : n < l.length) : l.take (n + 1) = l.take n ++ [l.getD n d] := by
  rw [List.take_add_one, List.getD_eq_getElem?_getD, List.getElem?_eq_getElem hn]; rfl
theorem elim_all (l : _root_.List Int) (P : Int → Bool) : (match l.find? P with | some _ => (Fl.rt false : Fl Bool Unit) | none => .nx ()).elim (fun _ => some true) (fun r => some r) = some (l.all fun x => !P x) := by
  induction l with
  | nil => rfl
  | cons a l ih =>
    by_cases hP : P a = true
    · rw [List.find?_cons_of_pos hP]; simp [hP, Fl.elim]
    · rw [List.find?_cons_of_neg hP, ih]; simp only [Bool.not_eq_true] at hP; simp [hP]
end Go.Eng
end

section
namespace Go.Eng
def fidx {α : Type} (l : _root_.List α) (d : α) (P : α → Bool) : Int :=
  match (List.range l.length).find? (fun i => P (l.getD i d)) with
  | some i => i
  | none => -1
theorem loop_find {ρ : Type} {body : Int → Option (Stp Int (Fl ρ Unit))} (N : Nat) (P : Nat → Bool) (g : Nat → ρ) (h : ∀ n, n < N → body (n : Int) = if P n = true then some (.done (.rt (g n))) else some (.next ((n + 1 : Nat) : Int)))
    (hl : body (N : Int) = some (.done (.nx ()))) : loop body 0 = some (match (List.range N).find? P with | some i => .rt (g i) | none => .nx ()) := by
  obtain ⟨w, hw, hp⟩ := loop_count (body := body) (fun n s => s = (n : Int) ∧ ∀ j, j < n → P j = false) (fun w => w = (match (List.range N).find? P with | some i => .rt (g i) | none => .nx ())) N (s0 := 0) ⟨rfl, fun j hj => absurd hj (by omega)⟩
    (fun n s hn hs => by
      obtain ⟨rfl, hs⟩ := hs
      by_cases hP : P n = true
      · right
        refine ⟨.rt (g n), by rw [h n hn, if_pos hP], ?_⟩
        have : (List.range N).find? P = some n := by
          rw [List.find?_range_eq_some]
          exact ⟨hP, by simpa using hn, fun j hj => by simp [hs j hj]⟩
        rw [this]
      · left
        refine ⟨_, by rw [h n hn, if_neg hP], rfl, fun j hj => ?_⟩
        by_cases hjn : j = n
        · subst hjn; simpa using hP
        · exact hs j (by omega))
    (fun s hs => by
      obtain ⟨rfl, hs⟩ := hs
      refine ⟨.nx (), hl, ?_⟩
      have : (List.range N).find? P = none := by
        rw [List.find?_eq_none]
        intro j hj
        rw [hs j (List.mem_range.1 hj)]; simp
      rw [this])
  rw [hw, hp]
theorem fidx_spec {α : Type} (l : _root_.List α) (d : α) (P : α → Bool) : (fidx l d P = -1 ∧ l.find? P = none ∧ ∀ i, i < l.length → P (l.getD i d) = false) ∨
    ∃ i : Nat, i < l.length ∧ fidx l d P = i ∧ P (l.getD i d) = true ∧ l.find? P = some (l.getD i d) ∧ ∀ j, j < i → P (l.getD j d) = false := by
  unfold fidx
  cases h : (List.range l.length).find? (fun i => P (l.getD i d)) with
  | none =>
    left
    rw [List.find?_eq_none] at h
    have h' : ∀ i, i < l.length → P (l.getD i d) = false := fun i hi => by have := h i (List.mem_range.2 hi); simpa using this
    refine ⟨rfl, ?_, h'⟩
    rw [List.find?_eq_none]
    intro x hx
    obtain ⟨i, hi, rfl⟩ := List.getElem_of_mem hx
    have := h' i hi
    rw [List.getD_eq_getElem?_getD, List.getElem?_eq_getElem hi] at this
    simpa using this
  | some i =>
    right
    rw [List.find?_range_eq_some] at h
    obtain ⟨h1, h2, h3⟩ := h
    have hlt : i < l.length := by simpa using h2
    have h3' : ∀ j, j < i → P (l.getD j d) = false := fun j hj => by have := h3 j hj; simpa using this
    refine ⟨i, hlt, rfl, h1, ?_, h3'⟩
    rw [List.find?_eq_some_iff_getElem]
    rw [List.getD_eq_getElem?_getD, List.getElem?_eq_getElem hlt] at h1 ⊢
    refine ⟨h1, i, hlt, rfl, fun j hj => ?_⟩
    have := h3' j hj
    rw [List.getD_eq_getElem?_getD, List.getElem?_eq_getElem (by omega)] at this
    simp at this; simp [this]
noncomputable def idxG {α : Type} (d : α) (p0 : _root_.List α) (p1 : α → Option Bool) : Option Int :=
  (loop (ω := Fl (Int) (Unit)) (fun (x1 : Int) =>
    if (decide (x1 < (p0.length : Int))) then
      (ib x1 p0.length).bind fun _ =>
      (p1 (p0.getD x1.toNat d)).bind fun v4 =>
      if v4 then
        some (.done (.rt x1))
      else
        some (.next ((IntKind.i64.wrap (x1 + 1))))
    else
      some (.done (.nx ()))) (0)).bind fun wn2 => Fl.elim wn2 (fun _ =>
    some (-1)) (fun r => some r)
theorem maxLen_le : maxLen ≤ 9223372036854775807 := by decide
theorem idxG_eq {α : Type} (d : α) (l : _root_.List α) (f : α → Option Bool) (P : α → Bool) (hf : ∀ x, f x = some (P x)) (hl : l.length ≤ maxLen) : idxG d l f = some (fidx l d P) := by
  have hm := maxLen_le
  unfold idxG
  rw [loop_find l.length (fun i => P (l.getD i d)) (fun i => (i : Int))]
  · unfold fidx
    cases (List.range l.length).find? (fun i => P (l.getD i d)) <;> rfl
  · intro n hn
    rw [if_pos (by simp; omega), ib_n hn]
    simp only [Option.bind_some, hf, Int.toNat_natCast]
    split
    · rfl
    · rw [w64 (by omega) (by omega)]; rfl
  · rw [if_neg (by simp)]
noncomputable def cloneG {α : Type} (by_ : Nat) (p0 : _root_.List α) : Option (_root_.List α) :=
  nilq p0.length (
    some ([] : _root_.List α)) (
    (fit (([] : _root_.List α) ++ p0).length by_).bind fun _ =>
    some (([] : _root_.List α) ++ p0))
theorem fit_t {n b : Nat} (h1 : n ≤ maxLen) (h2 : n * b ≤ 140737488355328) : fit n b = some () := by simp only [fit, if_pos (And.intro h1 h2)]
theorem cloneG_eq {α : Type} {by_ : Nat} {l : _root_.List α} (h1 : l.length ≤ maxLen) (h2 : l.length * by_ ≤ 140737488355328) : cloneG by_ l = some l := by
  unfold cloneG
  refine nilq_t (fun h => ?_) ?_
  · rw [List.length_eq_zero_iff.1 h]
  · simp only [List.nil_append]
    rw [fit_t h1 h2]; rfl
noncomputable def delG {α : Type} (d : α) (p0 : _root_.List α) (p1 : α → Option Bool) : Option (_root_.List α) :=
  (idxG d p0 p1).bind fun v1 =>
  if (v1 == (-1)) then
    some p0
  else
    (loop (ω := Fl ((_root_.List α)) (Int × _root_.List α)) (fun (x3 : Int × Int × _root_.List α) =>
      if (decide (x3.2.1 < (x3.2.2.length : Int))) then
        jn (fun x10 : Int × _root_.List α =>
          some (.next (x10.1, (IntKind.i64.wrap (x3.2.1 + 1)), x10.2))) fun j5 =>
        (ib x3.2.1 x3.2.2.length).bind fun _ =>
        (p1 (x3.2.2.getD x3.2.1.toNat d)).bind fun v7 =>
        if (!v7) then
          (ib x3.1 x3.2.2.length).bind fun _ =>
          j5 ((IntKind.i64.wrap (x3.1 + 1)), x3.2.2.set x3.1.toNat (x3.2.2.getD x3.2.1.toNat d))
        else
          j5 (x3.1, x3.2.2)
      else
        some (.done (.nx (x3.1, x3.2.2)))) (v1, (IntKind.i64.wrap (v1 + 1)), p0)).bind fun wn4 => Fl.elim wn4 (fun y11 =>
      (sb y11.1 (y11.2.length : Int) y11.2.length).bind fun _ =>
      (inb (y11.1.toNat + (y11.2.length - y11.1.toNat)) y11.2.length).bind fun _ =>
      (sb 0 y11.1 ((clr y11.2 d y11.1.toNat (y11.2.length - y11.1.toNat)).length)).bind fun _ =>
      (inb (y11.1.toNat - 0) (clr y11.2 d y11.1.toNat (y11.2.length - y11.1.toNat)).length).bind fun _ =>
      some ((clr y11.2 d y11.1.toNat (y11.2.length - y11.1.toNat)).take (y11.1.toNat - 0))) (fun r => some r)
theorem getD_set {α : Type} (l : _root_.List α) (i j : Nat) (v d : α) : (l.set i v).getD j d = if i = j ∧ i < l.length then v else l.getD j d := by
  simp only [List.getD_eq_getElem?_getD, List.getElem?_set]
  by_cases h : i = j
  · subst h
    by_cases h2 : i < l.length
    · simp [h2]
    · simp [h2]
  · simp [h]
theorem take_ext {α : Type} {l m : _root_.List α} {d : α} {n : Nat} (h1 : n ≤ l.length) (h2 : n ≤ m.length) (h : ∀ j, j < n → l.getD j d = m.getD j d) : l.take n = m.take n := by
  apply List.ext_getElem
  · simp; omega
  · intro i q1 q2
    simp only [List.length_take] at q1
    simp only [List.getElem_take]
    have := h i (by omega)
    rw [List.getD_eq_getElem?_getD, List.getD_eq_getElem?_getD, List.getElem?_eq_getElem (by omega), List.getElem?_eq_getElem (by omega)] at this
    simpa using this
theorem delG_eq {α : Type} (d : α) (l : _root_.List α) (f : α → Option Bool) (P : α → Bool) (hf : ∀ x, f x = some (P x)) (hl : l.length ≤ maxLen) : delG d l f = some (l.filter fun x => !P x) := by
  have hm := maxLen_le
  unfold delG
  rw [idxG_eq d l f P hf hl]
  simp only [Option.bind_some]
  rcases fidx_spec l d P with ⟨h1, _, h3⟩ | ⟨i0, h1, h2, h3, _, h4⟩
  · rw [h1]
    simp only [beq_self_eq_true, if_true]
    congr 1
    symm
    rw [List.filter_eq_self]
    intro x hx
    obtain ⟨i, hi, rfl⟩ := List.getElem_of_mem hx
    have := h3 i hi
    rw [List.getD_eq_getElem?_getD, List.getElem?_eq_getElem hi] at this
    simp at this; simp [this]
  · rw [h2, if_neg (by simp only [beq_iff_eq]; omega)]
    obtain ⟨w, hw, c, i, hwi, hci, hcl, hct⟩ := loop_inv (σ := Int × Int × _root_.List α) (ω := Fl (_root_.List α) (Int × _root_.List α)) (body := fun (x3 : Int × Int × _root_.List α) =>
      if (decide (x3.2.1 < (x3.2.2.length : Int))) then
        jn (fun x10 : Int × _root_.List α =>
          some (.next (x10.1, (IntKind.i64.wrap (x3.2.1 + 1)), x10.2))) fun j5 =>
        (ib x3.2.1 x3.2.2.length).bind fun _ =>
        (f (x3.2.2.getD x3.2.1.toNat d)).bind fun v7 =>
        if (!v7) then
          (ib x3.1 x3.2.2.length).bind fun _ =>
          j5 ((IntKind.i64.wrap (x3.1 + 1)), x3.2.2.set x3.1.toNat (x3.2.2.getD x3.2.1.toNat d))
        else
          j5 (x3.1, x3.2.2)
      else
        some (.done (.nx (x3.1, x3.2.2))))
      (fun s => ∃ i j : Nat, s.1 = i ∧ s.2.1 = j ∧ i < j ∧ j ≤ l.length ∧ s.2.2.length = l.length ∧ s.2.2.take i = (l.take j).filter (fun x => !P x) ∧ ∀ k, j ≤ k → s.2.2.getD k d = l.getD k d)
      (fun s => (l.length - s.2.1).toNat) (fun w => ∃ (c : _root_.List α) (i : Nat), w = .nx ((i : Int), c) ∧ i ≤ l.length ∧ c.length = l.length ∧ c.take i = l.filter (fun x => !P x)) (s0 := ((i0 : Int), IntKind.i64.wrap ((i0 : Int) + 1), l))
      ⟨i0, i0 + 1, rfl, by rw [w64 (by omega) (by omega)]; rfl, by omega, by omega, rfl, by
        rw [take_s (d := d) h1, List.filter_append]
        have e1 : (l.take i0).filter (fun x => !P x) = l.take i0 := by
          rw [List.filter_eq_self]
          intro x hx
          obtain ⟨i, hi, rfl⟩ := List.getElem_of_mem hx
          have hi' : i < i0 ∧ i < l.length := by simp only [List.length_take] at hi; omega
          have := h4 i hi'.1
          rw [List.getD_eq_getElem?_getD, List.getElem?_eq_getElem hi'.2] at this
          simp at this; simp [this]
        rw [e1, List.filter_cons_of_neg (by simp only [h3]; simp)]; simp, fun _ _ => rfl⟩
      (fun s hs => by
        obtain ⟨i, j, q1, q2, q3, q4, q5, q6, q7⟩ := hs
        obtain ⟨si, sj, c⟩ := s
        simp only at q1 q2 q5 q6 q7
        subst q1; subst q2
        by_cases hj : j < l.length
        · left
          have hPj := q7 j (Nat.le_refl _)
          simp only
          rw [if_pos (by simp; omega), jn, ib_n (show j < c.length by omega)]
          simp only [Option.bind_some, hf, Int.toNat_natCast, hPj]
          by_cases hP : P (l.getD j d) = true
          · rw [hP]
            refine ⟨(i, ((j + 1 : Nat) : Int), c), by simp only [Bool.not_true, Bool.false_eq_true, if_false]; rw [w64 (by omega) (by omega)]; rfl, ⟨i, j + 1, rfl, rfl, by omega, by omega, q5, ?_, fun k hk => q7 k (by omega)⟩, by simp only; omega⟩
            rw [take_s (d := d) hj, List.filter_append, List.filter_cons_of_neg (by simp only [hP]; simp)]; simp [q6]
          · have hP' : P (l.getD j d) = false := by simpa using hP
            rw [hP', ib_n (show i < c.length by omega)]
            refine ⟨(((i + 1 : Nat) : Int), ((j + 1 : Nat) : Int), c.set i (l.getD j d)), by simp only [Bool.not_false, if_true, Option.bind_some, Int.toNat_natCast]; rw [w64 (by omega) (by omega), w64 (by omega) (by omega)]; rfl, ⟨i + 1, j + 1, rfl, rfl, by omega, by omega, by simpa using q5, ?_, fun k hk => ?_⟩, by simp only; omega⟩
            · rw [take_s (d := d) hj, List.filter_append, List.filter_cons_of_pos (by simp only [hP']; simp), ← q6]
              rw [take_s (d := d) (by simpa using (show i < c.length by omega)), getD_set, if_pos ⟨rfl, by omega⟩]
              congr 1
              rw [List.take_set_of_le (Nat.le_refl _)]
            · rw [getD_set, if_neg (by omega)]; exact q7 k (by omega)
        · right
          have hjl : j = l.length := by omega
          subst hjl
          simp only
          rw [if_neg (by simp; omega)]
          exact ⟨_, rfl, c, i, rfl, by omega, q5, by rw [q6, List.take_length]⟩)
    rw [hw]
    subst hwi
    simp only [Option.bind_some, Fl.elim, Int.toNat_natCast]
    rw [sb_t ⟨by omega, by omega, by omega⟩]
    simp only [Option.bind_some]
    rw [inb_t (by omega)]
    simp only [Option.bind_some, clr_len]
    rw [sb_t ⟨by omega, by omega, by omega⟩]
    simp only [Option.bind_some, Nat.sub_zero]
    rw [inb_t (by omega)]
    simp only [Option.bind_some, Option.some.injEq]
    rw [← hct]
    refine take_ext (d := d) (by rw [clr_len]; omega) (by omega) (fun k hk => ?_)
    rw [clr_get _ _ _ _ _ (by omega), if_neg (by omega)]
end Go.Eng
end

section
set_option linter.unusedVariables false
set_option linter.unusedSimpArgs false
namespace Go.Proofs.Ytcocahffigbmbaa.R8
open Go.Eng
theorem all8 {x y : Nat → Int} : b_a8_u32 x y = true ↔ ∀ j, j < 8 → x j = y j := by
  simp [b_a8_u32, List.all_eq_true, List.mem_range]
def rc (p0 : api_Beat) (p3 : Int) (j : Nat) : Bool := ((p0.Heard j != 0) && decide (p0.Heard j ≤ p0.Now)) && decide (IntKind.u32.wrap (p0.Now - p0.Heard j) ≤ p3)
def rF (p0 : api_Beat) (p3 : Int) (n : Nat) : Nat → Int := fun j => if j < n ∧ rc p0 p3 j = true then p0.Inc j else 0
def reachF (p0 : api_Beat) (p1 p2 p3 : Int) : Nat → Int := fun j => if 0 ≤ p1 ∧ p1 = j ∧ j < 8 then p2 else rF p0 p3 8 j
theorem rF_t {p0 : api_Beat} {p3 : Int} {n : Nat} (h : rc p0 p3 n = true) : aupd (rF p0 p3 n) n (p0.Inc n) = rF p0 p3 (n + 1) := by
  funext j
  by_cases hj : j = n
  · subst hj; simp [aupd, rF, h]
  · have : j < n + 1 ↔ j < n := by omega
    simp [aupd, rF, hj, this]
theorem rF_f {p0 : api_Beat} {p3 : Int} {n : Nat} (h : rc p0 p3 n = false) : rF p0 p3 n = rF p0 p3 (n + 1) := by
  funext j
  by_cases hj : j = n
  · subst hj; simp [rF, h]
  · have : j < n + 1 ↔ j < n := by omega
    simp [rF, this]
theorem reach_eq (p0 : api_Beat) (p1 p2 p3 : Int) : beat_Reach p0 p1 p2 p3 = some (reachF p0 p1 p2 p3) := by
  unfold beat_Reach
  rw [loop_seq (s0 := (0, fun _ => 0)) (fun n => ((n : Int), rF p0 p3 n)) 8 (w := .nx (rF p0 p3 8)) (Prod.ext rfl (funext fun j => by simp [rF])) (fun n hn => by
    have hn' : (n : Int) < 8 := by omega
    have e1 : IntKind.i64.wrap ((n : Int) + 1) = ((n + 1 : Nat) : Int) := by rw [w64] <;> omega
    simp only [hn', decide_true, if_true, jn, ib_n hn, Option.bind_some, lt, Int.toNat_natCast, e1]
    by_cases hc : rc p0 p3 n = true
    · have hc' := hc
      simp only [rc] at hc'
      rw [if_pos hc', rF_t hc]
    · have hc' := hc
      simp only [rc] at hc'
      rw [if_neg hc', rF_f (by simpa using hc)]) (by simp)]
  simp only [Option.bind_some, Fl.elim, jn]
  by_cases h : 0 ≤ p1 ∧ p1 < 8
  · have hn : p1 = (p1.toNat : Int) := by omega
    rw [if_pos (by simp [h]), ib_t h.1 h.2]
    simp only [Option.bind_some, Option.some.injEq]
    funext j
    simp only [aupd, reachF]
    by_cases hj : j = p1.toNat
    · rw [if_pos hj, if_pos (by omega)]
    · rw [if_neg hj, if_neg (by omega)]
  · rw [if_neg (by simp; omega)]
    simp only [Option.some.injEq]
    funext j
    simp only [reachF]
    rw [if_neg (by omega)]
def hearOk (p0 : api_Beat) (p1 p2 : Int) : Prop := 0 ≤ p1 ∧ p1 < 8 ∧ p2 ≠ 0 ∧ p0.Now ≠ 0 ∧ p0.Inc p1.toNat ≤ p2
instance (p0 : api_Beat) (p1 p2 : Int) : Decidable (hearOk p0 p1 p2) := by unfold hearOk; exact inferInstance
def hearF (p0 : api_Beat) (p1 p2 : Int) : api_Beat × Bool :=
  if hearOk p0 p1 p2 then ({ p0 with Heard := aupd p0.Heard p1.toNat p0.Now, Inc := aupd p0.Inc p1.toNat p2 }, true) else (p0, false)
theorem hear_eq (p0 : api_Beat) (p1 p2 : Int) : beat_Hear p0 p1 p2 = some (hearF p0 p1 p2) := by
  unfold beat_Hear
  rw [ibg_t (by simp; omega)]
  simp only [Option.bind_some, lt]
  by_cases h : hearOk p0 p1 p2
  · have h' := h
    obtain ⟨h1, h2, h3, h4, h5⟩ := h'
    rw [if_neg (by simp; omega), ib_t h1 h2]
    simp [hearF, h]
  · rw [if_pos (by simp; unfold hearOk at h; omega)]
    simp [hearF, h]
def tickF (p0 : api_Beat) : api_Beat := if p0.Now < 4294967295 then { p0 with Now := IntKind.u32.wrap (p0.Now + 1) } else p0
theorem tick_eq (p0 : api_Beat) : beat_Tick p0 = some (tickF p0) := by
  unfold beat_Tick tickF
  simp only [jn, decide_eq_true_eq]
  split <;> rfl
theorem brefl8 (x : Nat → Int) : b_a8_u32 x x = true := all8.2 fun _ _ => rfl
theorem brefl (x : api_Beat) : b_api_Beat x x = true := by simp [b_api_Beat, brefl8]
structure Inv (b : api_Beat) : Prop where
  now0 : 0 ≤ b.Now
  now1 : b.Now ≤ 4294967295
  cell : ∀ j, j < 8 → b.Heard j ≤ b.Now ∧ (b.Heard j = 0 ↔ b.Inc j = 0)
structure Up (b c : api_Beat) : Prop where
  inv : Inv c
  now : b.Now ≤ c.Now
  cell : ∀ j, j < 8 → b.Inc j ≤ c.Inc j ∧ b.Heard j ≤ c.Heard j
end Go.Proofs.Ytcocahffigbmbaa.R8
end

section
set_option linter.unusedVariables false
set_option linter.unusedSimpArgs false
namespace Go.Proofs.Ytcocahffigbmbaa.R9
open Go.Eng
def cmpI (a b : Int) : Int := if a < b then -1 else if a > b then 1 else 0
theorem cmpu_eq (a b : Int) : cmp_Compare_uint32 a b = some (cmpI a b) := by
  simp only [cmp_Compare_uint32, cmp_isNaN_uint32, Option.bind_some, bne_self_eq_false, Bool.false_eq_true, if_false, decide_eq_true_eq, cmpI]
  split
  · rfl
  · split <;> rfl
theorem or_eq (a b c : Int) : cmp_Or_int [a, b, c] = some (if a ≠ 0 then a else if b ≠ 0 then b else c) := by
  have e1 : IntKind.i64.wrap 1 = 1 := by rw [w64] <;> omega
  have e2 : IntKind.i64.wrap 2 = 2 := by rw [w64] <;> omega
  have e3 : IntKind.i64.wrap 3 = 3 := by rw [w64] <;> omega
  unfold cmp_Or_int
  by_cases ha : a = 0
  · rw [loop_nx (s := 0) (s' := 1) (by simp [ib, ha, e1])]
    by_cases hb : b = 0
    · rw [loop_nx (s := 1) (s' := 2) (by simp [ib, hb, e2])]
      by_cases hc : c = 0
      · rw [loop_nx (s := 2) (s' := 3) (by simp [ib, hc, e3]), loop_dn (s := 3) (w := .nx ()) (by simp)]
        simp [ha, hb, hc, Fl.elim]
      · rw [loop_dn (s := 2) (w := .rt c) (by simp [ib, hc])]
        simp [ha, hb, Fl.elim]
    · rw [loop_dn (s := 1) (w := .rt b) (by simp [ib, hb])]
      simp [ha, hb, Fl.elim]
  · rw [loop_dn (s := 0) (w := .rt a) (by simp [ib, ha])]
    simp [ha, Fl.elim]
theorem cmpI_lt {a b : Int} : cmpI a b < 0 ↔ a < b := by unfold cmpI; split; omega; split <;> omega
theorem cmpI_z {a b : Int} : cmpI a b = 0 ↔ a = b := by unfold cmpI; split; omega; split <;> omega
def listF (f : Nat → Int) (n : Nat) : _root_.List Int := ((List.range n).filter fun j => f j != 0).map fun (j : Nat) => (j : Int)
theorem listF_s (f : Nat → Int) (n : Nat) : listF f (n + 1) = if f n ≠ 0 then listF f n ++ [(n : Int)] else listF f n := by
  unfold listF
  rw [List.range_succ, List.filter_append, List.map_append]
  by_cases h : f n = 0 <;> simp [h]
theorem listF_len (f : Nat → Int) (n : Nat) : (listF f n).length ≤ n := by
  unfold listF
  rw [List.length_map]
  exact Nat.le_trans (List.length_filter_le _ _) (by simp)
theorem fit_t {n b : Nat} (h : n ≤ 1000000) (hb : b ≤ 100) : fit n b = some () := by
  unfold fit
  rw [if_pos]
  refine ⟨by unfold maxLen; omega, ?_⟩
  have : n * b ≤ 1000000 * 100 := Nat.mul_le_mul h hb
  omega
theorem list_eq (f : Nat → Int) : ident_List f = some (listF f 8) := by
  unfold ident_List
  rw [loop_seq (s0 := (0, ([] : _root_.List Int))) (fun n => ((n : Int), listF f n)) 8 (w := .nx (listF f 8)) rfl (fun n hn => by
    have hn' : (n : Int) < 8 := by omega
    have e1 : IntKind.i64.wrap ((n : Int) + 1) = ((n + 1 : Nat) : Int) := by rw [w64] <;> omega
    have hl := listF_len f n
    simp only [hn', decide_true, if_true, jn, ib_n hn, Option.bind_some, Int.toNat_natCast, e1]
    rw [fit_t (by simp; omega) (by omega), listF_s]
    by_cases h : f n = 0 <;> simp [h]) (by simp)]
  simp only [Option.bind_some, Fl.elim]
def U32 (f : Nat → Int) : Prop := ∀ j, j < 8 → (Lit.int .u32 (f j)).wf = true
theorem listF_in {f : Nat → Int} {n : Nat} {x : Int} : x ∈ listF f n ↔ ∃ j : Nat, x = (j : Int) ∧ j < n ∧ f j ≠ 0 := by
  simp only [listF, List.mem_map, List.mem_filter, List.mem_range]
  constructor
  · rintro ⟨j, ⟨h1, h2⟩, h3⟩; exact ⟨j, h3.symm, h1, by simpa using h2⟩
  · rintro ⟨j, rfl, h1, h2⟩; exact ⟨j, ⟨h1, by simpa using h2⟩, rfl⟩
theorem getD_in {α : Type} {l : _root_.List α} {d : α} {k : Nat} (h : k < l.length) : l.getD k d ∈ l := by
  rw [List.getD_eq_getElem?_getD, List.getElem?_eq_getElem h]; exact List.getElem_mem h
theorem take_s {α : Type} {l : _root_.List α} {d : α} {n : Nat} (hn : n < l.length) : l.take (n + 1) = l.take n ++ [l.getD n d] := by
  rw [List.take_add_one, List.getD_eq_getElem?_getD, List.getElem?_eq_getElem hn]; rfl
def minF (p0 : Nat → Int) (m : Int) (l : _root_.List Int) : Int := l.foldl (fun m j => if p0 j.toNat < m then p0 j.toNat else m) m
theorem minF_s (p0 : Nat → Int) (m : Int) (l : _root_.List Int) (x : Int) : minF p0 m (l ++ [x]) = if p0 x.toNat < minF p0 m l then p0 x.toNat else minF p0 m l := by
  unfold minF; rw [List.foldl_append]; rfl
def leastF (p0 p1 : Nat → Int) : Int × Bool := if (listF p1 8).length = 0 then (0, false) else (minF p0 4294967295 (listF p1 8), true)
theorem least_eq (p0 p1 : Nat → Int) : round_Least p0 p1 = some (leastF p0 p1) := by
  have hl := listF_len p1 8
  unfold round_Least leastF
  rw [list_eq]
  simp only [Option.bind_some]
  by_cases h : (listF p1 8).length = 0
  · simp [h]
  · rw [if_neg (by simpa using h), if_neg h]
    rw [loop_seq (s0 := (4294967295, 0)) (fun n => (minF p0 4294967295 ((listF p1 8).take n), (n : Int))) (listF p1 8).length (w := .nx (minF p0 4294967295 (listF p1 8))) rfl (fun n hn => by
      have hn' : (n : Int) < ((listF p1 8).length : Int) := by omega
      have e1 : IntKind.i64.wrap ((n : Int) + 1) = ((n + 1 : Nat) : Int) := by rw [w64] <;> omega
      obtain ⟨j, hj, hj8, _⟩ := listF_in.1 (getD_in (d := (0 : Int)) hn)
      simp only [hn', decide_true, if_true, ib_n hn, Option.bind_some, Int.toNat_natCast, e1, lt]
      rw [take_s (d := 0) hn, minF_s, hj, ib_n hj8]; rfl) (by simp)]
    simp only [Option.bind_some, Fl.elim]
def memF (p1 : Nat → Int) (i : Int) : Bool := ((decide (i ≥ 0)) && (decide (i < 8))) && (p1 i.toNat != 0)
theorem member_eq (p1 : Nat → Int) (i : Int) : round_member p1 i = some (memF p1 i) := by
  unfold round_member
  rw [ibg_t (fun h => by simp at h; omega)]
  rfl
theorem seek {ρ : Type} {body : Int → Option (Stp Int (Fl ρ Unit))} (l : _root_.List Int) (P : Int → Bool) (g : Int → ρ)
    (h : ∀ n, n < l.length → body (n : Int) = if P (l.getD n 0) = true then some (.done (.rt (g (l.getD n 0)))) else some (.next ((n + 1 : Nat) : Int))) (hl : body ((l.length : Nat) : Int) = some (.done (.nx ()))) :
    loop body 0 = some (match l.find? P with | some x => .rt (g x) | none => .nx ()) := by
  obtain ⟨w, hw, hp⟩ := loop_count (body := body) (fun n s => s = (n : Int) ∧ l.find? P = (l.drop n).find? P) (fun w => w = (match l.find? P with | some x => .rt (g x) | none => .nx ())) l.length (s0 := 0) ⟨rfl, rfl⟩
    (fun n s hn hs => by
      obtain ⟨rfl, hs⟩ := hs
      have hd : l.drop n = l.getD n 0 :: l.drop (n + 1) := by
        rw [List.getD_eq_getElem?_getD, List.getElem?_eq_getElem hn]; exact List.drop_eq_getElem_cons hn
      by_cases hP : P (l.getD n 0) = true
      · right
        refine ⟨.rt (g (l.getD n 0)), by rw [h n hn, if_pos hP], ?_⟩
        rw [hs, hd, List.find?_cons_of_pos hP]
      · left
        refine ⟨_, by rw [h n hn, if_neg hP], rfl, ?_⟩
        rw [hs, hd, List.find?_cons_of_neg hP])
    (fun s hs => by
      obtain ⟨rfl, hs⟩ := hs
      refine ⟨.nx (), hl, ?_⟩
      rw [hs, List.drop_length]; rfl)
  rw [hw, hp]
theorem memF_iff {p1 : Nat → Int} {i : Int} : memF p1 i = true ↔ 0 ≤ i ∧ i < 8 ∧ p1 i.toNat ≠ 0 := by
  simp only [memF, Bool.and_eq_true, decide_eq_true_eq, bne_iff_ne, ge_iff_le, and_assoc]
theorem may_eq (p0 p1 : Nat → Int) (i : Int) : round_May p0 p1 i = some (memF p1 i && (p0 i.toNat == (leastF p0 p1).1)) := by
  unfold round_May
  rw [least_eq, member_eq]
  simp only [Option.bind_some]
  rw [ibg_t (fun h => by have := memF_iff.1 h; omega)]
  rfl
end Go.Proofs.Ytcocahffigbmbaa.R9
end

section
set_option linter.unusedVariables false
set_option linter.unusedSimpArgs false
namespace Go.Proofs.Ytcocahffigbmbaa.R10
open Go.Eng
abbrev Tab := _root_.List api_Kept
def Room (k : Nat) (t : Tab) : Prop := t.length ≤ 399822410088 + k
theorem mul_b {n : Nat} (h : n ≤ 399822410099) : n * 352 ≤ 140737488355328 := Nat.le_trans (Nat.mul_le_mul_right 352 h) (by decide)
theorem big_len {t : Tab} (h : t.length * 352 ≤ 140737488355328) : t.length ≤ maxLen := by
  have : (400000000000 : Nat) ≤ maxLen := by decide
  omega
theorem Room.le {k : Nat} {t : Tab} (h : Room k t) (hk : k ≤ 11) : t.length ≤ 399822410099 := by unfold Room at h; omega
theorem Room.len {k : Nat} {t : Tab} (h : Room k t) (hk : k ≤ 11) : t.length ≤ maxLen := big_len (mul_b (h.le hk))
theorem room_app {k : Nat} {l m : Tab} {x : api_Kept} (h : Room k l) (hk : k ≤ 10) (hm : m.length ≤ l.length) : (m ++ [x]).length * 352 ≤ 140737488355328 := by
  refine mul_b ?_
  unfold Room at h
  have e : (m ++ [x]).length = m.length + 1 := by simp
  omega
theorem all8 {x y : Nat → Int} : b_a8_u32 x y = true ↔ ∀ j, j < 8 → x j = y j := by
  simp [b_a8_u32, List.all_eq_true, List.mem_range]
theorem brefl8 (x : Nat → Int) : b_a8_u32 x x = true := all8.2 fun _ _ => rfl
theorem breflE (x : api_Entry) : b_api_Entry x x = true := by
  have : (x.Text == x.Text) = true := by rw [beq_toListBytes]; simp
  simp [b_api_Entry, this]
theorem breflF (x : Nat → (Nat → api_Entry)) : b_a3_a2_api_Entry x x = true := by
  simp [b_a3_a2_api_Entry, b_a2_api_Entry, List.all_eq_true, breflE]
theorem breflK (x : api_Kept) : b_api_Kept x x = true := by simp [b_api_Kept, breflF]
theorem clone_eq {k : Nat} (t : Tab) (h : Room k t) (hk : k ≤ 11) : slices_Clone_api_Kept_api_Kept t = some t := by
  have : slices_Clone_api_Kept_api_Kept t = cloneG 352 t := rfl
  rw [this, cloneG_eq (h.len hk) (mul_b (h.le hk))]
def listF (f : Nat → Int) (n : Nat) : _root_.List Int := ((List.range n).filter fun j => f j != 0).map fun (j : Nat) => (j : Int)
theorem listF_s (f : Nat → Int) (n : Nat) : listF f (n + 1) = if f n ≠ 0 then listF f n ++ [(n : Int)] else listF f n := by
  unfold listF
  rw [List.range_succ, List.filter_append, List.map_append]
  by_cases h : f n = 0 <;> simp [h]
theorem listF_len (f : Nat → Int) (n : Nat) : (listF f n).length ≤ n := by
  unfold listF
  rw [List.length_map]
  exact Nat.le_trans (List.length_filter_le _ _) (by simp)
theorem big8 : (1000 : Nat) ≤ maxLen := by decide
theorem list_eq (f : Nat → Int) : ident_List f = some (listF f 8) := by
  unfold ident_List
  rw [loop_seq (s0 := (0, ([] : _root_.List Int))) (fun n => ((n : Int), listF f n)) 8 (w := .nx (listF f 8)) rfl (fun n hn => by
    have hn' : (n : Int) < 8 := by omega
    have e1 : IntKind.i64.wrap ((n : Int) + 1) = ((n + 1 : Nat) : Int) := by rw [w64] <;> omega
    have hl := listF_len f n
    have hb := big8
    simp only [hn', decide_true, if_true, jn, ib_n hn, Option.bind_some, Int.toNat_natCast, e1]
    rw [fit_t (by simp; omega) (by simp; omega), listF_s]
    by_cases h : f n = 0 <;> simp [h]) (by simp)]
  simp only [Option.bind_some, Fl.elim]
theorem listF_in {f : Nat → Int} {n : Nat} {x : Int} : x ∈ listF f n ↔ ∃ j : Nat, x = (j : Int) ∧ j < n ∧ f j ≠ 0 := by
  simp only [listF, List.mem_map, List.mem_filter, List.mem_range]
  constructor
  · rintro ⟨j, ⟨h1, h2⟩, h3⟩; exact ⟨j, h3.symm, h1, by simpa using h2⟩
  · rintro ⟨j, rfl, h1, h2⟩; exact ⟨j, ⟨h1, by simpa using h2⟩, rfl⟩
theorem index_eq (l : _root_.List Int) (x : Int) (hl : l.length ≤ maxLen) : slices_Index_int_int l x = some (fidx l 0 fun y => x == y) := by
  have hm := maxLen_le
  unfold slices_Index_int_int
  rw [loop_find l.length (fun i => x == l.getD i 0) (fun i => (i : Int))]
  · unfold fidx
    cases (List.range l.length).find? (fun i => x == l.getD i 0) <;> rfl
  · intro n hn
    rw [if_pos (by simp; omega), ib_n hn]
    simp only [Option.bind_some, Int.toNat_natCast]
    split
    · rfl
    · rw [w64 (by omega) (by omega)]; rfl
  · rw [if_neg (by simp)]
def memB (m : Nat → Int) (i : Int) : Bool := ((decide (i ≥ 0)) && (decide (i < 8))) && (m i.toNat != 0)
theorem mem_iff (m : Nat → Int) (i : Int) : memB m i = true ↔ i ∈ listF m 8 := by
  rw [listF_in]
  simp only [memB, Bool.and_eq_true, decide_eq_true_eq, bne_iff_ne]
  constructor
  · rintro ⟨⟨h1, h2⟩, h3⟩; exact ⟨i.toNat, by omega, by omega, h3⟩
  · rintro ⟨j, rfl, h1, h2⟩; exact ⟨⟨by omega, by omega⟩, by simpa using h2⟩
theorem contains_eq (m : Nat → Int) (i : Int) : slices_Contains_int_int (listF m 8) i = some (memB m i) := by
  have hl := listF_len m 8
  have hb := big8
  unfold slices_Contains_int_int
  rw [index_eq _ _ (by omega)]
  simp only [Option.bind_some, Option.some.injEq]
  rw [Bool.eq_iff_iff, decide_eq_true_eq, mem_iff]
  rcases fidx_spec (listF m 8) 0 (fun y => i == y) with ⟨h1, h2, h3⟩ | ⟨k, h1, h2, h3, h4, _⟩
  · rw [h1, List.find?_eq_none] at *
    constructor
    · intro h; omega
    · intro h; have := h2 i h; simp at this
  · rw [h2]
    constructor
    · intro _
      have e : i = (listF m 8).getD k 0 := by simpa using h3
      rw [e]; exact getD_in h1
    · intro _; omega
def oldB (x y : api_Kept) : Bool := ((y.From == x.From) && (decide (x.Round ≥ 3))) && (decide (y.Round ≤ (IntKind.u32.wrap (x.Round - 3))))
def nextB (c m : Nat → Int) (x : api_Kept) : Bool := (memB m x.From && !(c x.From.toNat == 4294967295)) && (x.Round == IntKind.u32.wrap (c x.From.toNat + 1))
def takeF (l : Tab) (c m : Nat → Int) (x : api_Kept) : Tab × (Nat → Int) × Bool :=
  if nextB c m x = true then (l.filter (fun y => !oldB x y) ++ [x], aupd c x.From.toNat x.Round, true) else (l, c, false)
theorem memB_in {m : Nat → Int} {i : Int} (h : memB m i = true) : 0 ≤ i ∧ i < 8 := by
  simp only [memB, Bool.and_eq_true, decide_eq_true_eq] at h; exact h.1
theorem take_eq {k : Nat} (l : Tab) (c m : Nat → Int) (x : api_Kept) (hr : Room k l) (hk : k ≤ 10) : kept_Take l c m x = some (takeF l c m x) := by
  unfold kept_Take takeF nextB
  have hd : ∀ u, slices_DeleteFunc_api_Kept_api_Kept u (fun z0 => kept_Take_1 z0 x) = delG z_api_Kept u (fun z0 => kept_Take_1 z0 x) := fun _ => rfl
  rw [clone_eq l hr (by omega), list_eq]
  simp only [Option.bind_some, contains_eq]
  by_cases hm : memB m x.From = true
  · have hin := memB_in hm
    have hib : ∀ g, ibg g x.From 8 = some () := fun g => ibg_t fun _ => by omega
    simp only [hm, hib, Option.bind_some, Bool.not_true, Bool.false_or, lt, Bool.true_and]
    by_cases h1 : (c x.From.toNat == 4294967295) = true
    · simp only [h1, Bool.true_or, if_true, Bool.not_true, Bool.false_and, Bool.false_eq_true, if_false]
    · have h1' := Bool.eq_false_iff.2 h1
      simp only [h1', Bool.false_or, Bool.not_false, Bool.true_and, bne]
      by_cases h2 : (x.Round == IntKind.u32.wrap (c x.From.toNat + 1)) = true
      · simp only [h2, Bool.not_true, Bool.false_eq_true, if_false, if_true]
        rw [hd, delG_eq z_api_Kept l (fun z0 => kept_Take_1 z0 x) (oldB x) (fun _ => rfl) (hr.len (by omega))]
        simp only [Option.bind_some]
        rw [ib_t hin.1 hin.2]
        simp only [Option.bind_some]
        have hlen : (l.filter (fun y => !oldB x y) ++ [x]).length * 352 ≤ 140737488355328 := room_app hr hk (List.length_filter_le _ _)
        rw [fit_t (big_len hlen) hlen]; rfl
      · have h2' := Bool.eq_false_iff.2 h2
        simp only [h2', Bool.not_false, if_true, Bool.false_eq_true, if_false]
  · have hm' := Bool.eq_false_iff.2 hm
    simp [hm', ibg, lt]
theorem take_room {k : Nat} {l : Tab} {c m : Nat → Int} {x : api_Kept} (h : Room k l) : Room (k + 1) (takeF l c m x).1 := by
  unfold takeF
  split
  · have hl := List.length_filter_le (fun y => !oldB x y) l
    have e : (l.filter (fun y => !oldB x y) ++ [x]).length = (l.filter (fun y => !oldB x y)).length + 1 := by simp
    unfold Room at h ⊢
    simp only [e]
    omega
  · unfold Room at h ⊢
    simp only
    omega
def W (t : Tab) : Prop := ∀ y ∈ t, 0 ≤ y.Round ∧ y.Round ≤ 4294967295
def isB (f r : Int) (y : api_Kept) : Bool := (y.From == f) && (y.Round == r)
def getF (t : Tab) (f r : Int) : (Nat → (Nat → api_Entry)) × Bool :=
  match t.find? (isB f r) with
  | some y => (y.Frame, true)
  | none => ((fun _ => (fun _ => z_api_Entry)), false)
theorem get_eq (t : Tab) (f r : Int) (hl : t.length ≤ maxLen) : kept_Get t f r = some (getF t f r) := by
  have : slices_IndexFunc_api_Kept_api_Kept t (fun z0 => kept_Get_1 z0 f r) = idxG z_api_Kept t (fun z0 => kept_Get_1 z0 f r) := rfl
  unfold kept_Get getF
  rw [this, idxG_eq z_api_Kept t (fun z0 => kept_Get_1 z0 f r) (isB f r) (fun _ => rfl) hl]
  simp only [Option.bind_some]
  rcases fidx_spec t z_api_Kept (isB f r) with ⟨h1, h2, _⟩ | ⟨i, h1, h2, h3, h4, _⟩
  · rw [h1, h2]; rfl
  · rw [h2, h4, if_neg (by simp), ib_n h1]; rfl
def pickF (t : Tab) (n : Int) : api_Kept × Bool := if t.length = 0 then (z_api_Kept, false) else (t.getD (n.toNat % t.length) z_api_Kept, true)
theorem pick_n {t : Tab} {n : Int} (hl : t.length ≤ maxLen) (hn : 0 ≤ n ∧ n ≤ 4294967295) (h0 : t.length ≠ 0) : IntKind.u64.wrap (t.length : Int) ≠ 0 ∧ (IntKind.u64.wrap n).tmod (IntKind.u64.wrap (t.length : Int)) = ((n.toNat % t.length : Nat) : Int) ∧ n.toNat % t.length < t.length := by
  have hm := maxLen_le
  have e1 : IntKind.u64.wrap (t.length : Int) = t.length := by rw [wu64]; omega
  have e2 : IntKind.u64.wrap n = n := by rw [wu64]; omega
  rw [e1, e2]
  refine ⟨by omega, ?_, Nat.mod_lt _ (by omega)⟩
  obtain ⟨k, rfl⟩ : ∃ k : Nat, n = k := ⟨n.toNat, by omega⟩
  rfl
theorem pick_eq (t : Tab) (n : Int) (hl : t.length ≤ maxLen) (hn : 0 ≤ n ∧ n ≤ 4294967295) : kept_Pick t n = some (pickF t n) := by
  unfold kept_Pick pickF
  by_cases h0 : t.length = 0
  · rw [if_pos (by rw [h0]; rfl), if_pos h0]; rfl
  · obtain ⟨p1, p2, p3⟩ := pick_n hl hn h0
    rw [if_neg (by simp only [beq_iff_eq]; omega), if_neg h0, nz_t p1]
    simp only [Option.bind_some, p2, Int.toNat_natCast]
    rw [ib_n p3]; rfl
theorem same_eq (t : Tab) (hl : t.length ≤ maxLen) : congressref10_Same t t = some true := by
  have hm := maxLen_le
  unfold congressref10_Same
  rw [if_neg (by simp), loop_seq (F := fun n => ((n : Nat) : Int)) t.length (s0 := 0) (w := .nx ()) rfl]
  · rfl
  · intro n hn
    rw [if_pos (by simp; omega), ib_n hn]
    simp only [Option.bind_some, Int.toNat_natCast, lt, breflK, Bool.not_true, Bool.false_eq_true, if_false]
    rw [w64 (by omega) (by omega)]; rfl
  · rw [if_neg (by simp)]
theorem room_small (t : Tab) (h : t.length ≤ 10) : Room 0 t := by unfold Room; omega
def key (y : api_Kept) : Int × Int := (y.From, y.Round)
def Al (a b : Tab) : Prop := a.map key = b.map key
theorem Al.len {a b : Tab} (h : Al a b) : a.length = b.length := by simpa using congrArg List.length h
theorem Al.at_ {a b : Tab} (h : Al a b) {n : Nat} (hn : n < a.length) : (a.getD n z_api_Kept).From = (b.getD n z_api_Kept).From ∧ (a.getD n z_api_Kept).Round = (b.getD n z_api_Kept).Round := by
  have hb : n < b.length := h.len ▸ hn
  have := congrArg (fun l => l[n]?) h
  simp only [List.getElem?_map, List.getElem?_eq_getElem hn, List.getElem?_eq_getElem hb, Option.map_some, Option.some.injEq, key, Prod.mk.injEq] at this
  rw [List.getD_eq_getElem?_getD, List.getD_eq_getElem?_getD, List.getElem?_eq_getElem hn, List.getElem?_eq_getElem hb]
  exact this
theorem old_key {x x' y y' : api_Kept} (h : key x = key x') (hy : key y = key y') : oldB x y = oldB x' y' := by
  simp only [key, Prod.mk.injEq] at h hy
  simp only [oldB, h.1, h.2, hy.1, hy.2]
theorem filter_al {x x' : api_Kept} (h : key x = key x') : ∀ {a b : Tab}, Al a b → Al (a.filter fun y => !oldB x y) (b.filter fun y => !oldB x' y)
  | [], [], _ => rfl
  | [], _ :: _, e => by simp [Al] at e
  | _ :: _, [], e => by simp [Al] at e
  | y :: a, y' :: b, e => by
    simp only [Al, List.map_cons, List.cons.injEq] at e
    have ih := filter_al h (a := a) (b := b) e.2
    have ho := old_key h e.1
    by_cases hq : oldB x y = true
    · rw [List.filter_cons_of_neg (by simp [hq]), List.filter_cons_of_neg (by rw [← ho]; simp [hq])]; exact ih
    · have hq' := Bool.eq_false_iff.2 hq
      rw [List.filter_cons_of_pos (by simp [hq']), List.filter_cons_of_pos (by rw [← ho]; simp [hq'])]
      simp only [Al, List.map_cons, e.1]
      rw [show (a.filter fun y => !oldB x y).map key = (b.filter fun y => !oldB x' y).map key from ih]
theorem take_al {a b : Tab} (h : Al a b) (c m : Nat → Int) {x x' : api_Kept} (hx : key x = key x') : Al (takeF a c m x).1 (takeF b c m x').1 ∧ (takeF a c m x).2 = (takeF b c m x').2 := by
  have hx' := hx
  simp only [key, Prod.mk.injEq] at hx'
  have hn : nextB c m x = nextB c m x' := by simp only [nextB, hx'.1, hx'.2]
  unfold takeF
  rw [hn]
  split
  · refine ⟨?_, by simp only [hx'.1, hx'.2]⟩
    have := filter_al hx h
    simp only [Al, List.map_append, List.map_cons, List.map_nil] at this ⊢
    rw [this, hx]
  · exact ⟨h, rfl⟩
def offF (p : api_Packet) : Tab := (if p.Round > 1 then [({ From := (IntKind.i64.wrap (p.From)), Round := (IntKind.u32.wrap (p.Round - 1)), Frame := p.Older } : api_Kept)] else []) ++ [({ From := (IntKind.i64.wrap (p.From)), Round := p.Round, Frame := p.Newest } : api_Kept), ({ From := (IntKind.i64.wrap (p.RelayOf)), Round := p.RelayRound, Frame := p.Relay } : api_Kept)]
theorem offered_eq (p : api_Packet) : kept_offered p = some (offF p) := by
  have hb := big8
  unfold kept_offered offF
  simp only [jn, lt, decide_eq_true_eq]
  split
  · rw [fit_t (by simp; omega) (by simp)]
    simp only [Option.bind_some]
    rw [fit_t (by simp; omega) (by simp)]; rfl
  · rw [fit_t (by simp; omega) (by simp)]; rfl
theorem off_len (p : api_Packet) : (offF p).length ≤ 3 := by unfold offF; split <;> simp
abbrev S3 := (Nat → Int) × Tab × Tab
def stepF (m most : Nat → Int) (s : S3) (x : api_Kept) : S3 :=
  if ((decide (x.From ≥ 8)) || (decide (x.Round > most x.From.toNat))) = true then s
  else ((takeF s.2.1 s.1 m x).2.1, (takeF s.2.1 s.1 m x).1, if (takeF s.2.1 s.1 m x).2.2 = true then s.2.2 ++ [x] else s.2.2)
theorem fold_room (m most : Nat → Int) : ∀ (xs : Tab) (s : S3) (k : Nat), Room k s.2.1 → s.2.2.length ≤ k → Room (k + xs.length) (xs.foldl (stepF m most) s).2.1 ∧ (xs.foldl (stepF m most) s).2.2.length ≤ k + xs.length
  | [], s, k, h, h2 => ⟨h, h2⟩
  | x :: xs, s, k, h, h2 => by
    have h1 : Room (k + 1) (stepF m most s x).2.1 ∧ (stepF m most s x).2.2.length ≤ k + 1 := by
      unfold stepF
      split
      · exact ⟨by unfold Room at h ⊢; omega, by omega⟩
      · refine ⟨take_room h, ?_⟩
        simp only
        split
        · simp; omega
        · omega
    have := fold_room m most xs (stepF m most s x) (k + 1) h1.1 h1.2
    rw [List.foldl_cons, List.length_cons, show k + (xs.length + 1) = k + 1 + xs.length by omega]
    exact this
theorem offer_eq (l : Tab) (c m : Nat → Int) (p : api_Packet) (most : Nat → Int) (hr : Room 0 l) (hf : ∀ x ∈ offF p, 0 ≤ x.From) : kept_Offer l c m p most =
    some (((offF p).foldl (stepF m most) (c, l, [])).2.1, ((offF p).foldl (stepF m most) (c, l, [])).1, ((offF p).foldl (stepF m most) (c, l, [])).2.2) := by
  have ho := off_len p
  have hb := big8
  unfold kept_Offer
  rw [clone_eq l hr (by omega), offered_eq]
  simp only [Option.bind_some]
  rw [loop_seq (F := fun n => ((n : Int), ((offF p).take n).foldl (stepF m most) (c, l, []))) (offF p).length (s0 := (0, c, l, [])) (w := .nx ((offF p).foldl (stepF m most) (c, l, []))) rfl]
  · rfl
  · intro n hn
    have e1 : IntKind.i64.wrap ((n : Int) + 1) = ((n + 1 : Nat) : Int) := by rw [w64 (by omega) (by omega)]; rfl
    have hx0 := hf _ (getD_in (d := z_api_Kept) hn)
    have hrm := fold_room m most ((offF p).take n) (c, l, []) 0 hr (by simp)
    have hlt : ((offF p).take n).length = n := by simp; omega
    rw [hlt] at hrm
    rw [take_s (d := z_api_Kept) hn, List.foldl_append]
    simp only [List.foldl_cons, List.foldl_nil]
    generalize ((offF p).take n).foldl (stepF m most) (c, l, []) = s at hrm
    rw [if_pos (by simp; omega), jn, ib_n hn]
    simp only [Option.bind_some, Int.toNat_natCast]
    rw [ibg_t (fun q => ⟨hx0, by rw [Bool.not_eq_true', decide_eq_false_iff_not] at q; omega⟩)]
    simp only [Option.bind_some, lt, e1, stepF]
    by_cases h : ((decide (((offF p).getD n z_api_Kept).From ≥ 8)) || (decide (((offF p).getD n z_api_Kept).Round > most ((offF p).getD n z_api_Kept).From.toNat))) = true
    · rw [if_pos h, if_pos h]
    · rw [if_neg h, if_neg h, take_eq _ _ _ _ hrm.1 (by omega)]
      simp only [Option.bind_some]
      by_cases h2 : (takeF s.2.1 s.1 m ((offF p).getD n z_api_Kept)).2.2 = true
      · have hlen : (s.2.2 ++ [(offF p).getD n z_api_Kept]).length = s.2.2.length + 1 := by simp
        rw [if_pos h2, if_pos h2, fit_t (by omega) (by omega)]; rfl
      · rw [if_neg h2, if_neg h2]
  · simp only
    rw [if_neg (by simp), List.take_length]
theorem fold_al (m most : Nat → Int) (f : Nat → (Nat → api_Entry)) : ∀ (xs ys : Tab) (s t : S3), Al xs ys → (∀ y ∈ ys, y.Frame = f) → s.1 = t.1 → Al s.2.1 t.2.1 → Al s.2.2 t.2.2 → (∀ y ∈ t.2.2, y.Frame = f) →
    (xs.foldl (stepF m most) s).1 = (ys.foldl (stepF m most) t).1 ∧ Al (xs.foldl (stepF m most) s).2.1 (ys.foldl (stepF m most) t).2.1 ∧ Al (xs.foldl (stepF m most) s).2.2 (ys.foldl (stepF m most) t).2.2 ∧ ∀ y ∈ (ys.foldl (stepF m most) t).2.2, y.Frame = f
  | [], [], s, t, _, _, h1, h2, h3, h4 => ⟨h1, h2, h3, h4⟩
  | [], _ :: _, _, _, e, _, _, _, _, _ => by simp [Al] at e
  | _ :: _, [], _, _, e, _, _, _, _, _ => by simp [Al] at e
  | x :: xs, y :: ys, s, t, e, hf, h1, h2, h3, h4 => by
    simp only [Al, List.map_cons, List.cons.injEq] at e
    have hk := e.1
    simp only [key, Prod.mk.injEq] at hk
    rw [List.foldl_cons, List.foldl_cons]
    obtain ⟨t1, t2⟩ := take_al h2 t.1 m e.1
    have hs : (stepF m most s x).1 = (stepF m most t y).1 ∧ Al (stepF m most s x).2.1 (stepF m most t y).2.1 ∧ Al (stepF m most s x).2.2 (stepF m most t y).2.2 ∧ ∀ z ∈ (stepF m most t y).2.2, z.Frame = f := by
      unfold stepF
      rw [hk.1, hk.2]
      split
      · exact ⟨h1, h2, h3, h4⟩
      · rw [h1]
        refine ⟨by rw [t2], t1, ?_, ?_⟩
        · rw [t2]
          simp only
          split
          · simp only [Al, List.map_append, List.map_cons, List.map_nil, e.1]
            rw [show s.2.2.map key = t.2.2.map key from h3]
          · exact h3
        · intro z hz
          simp only at hz
          split at hz
          · rcases List.mem_append.1 hz with hz | hz
            · exact h4 z hz
            · simp at hz; subst hz; exact hf _ (by simp)
          · exact h4 z hz
    exact fold_al m most f xs ys _ _ e.2 (fun z hz => hf z (by simp [hz])) hs.1 hs.2.1 hs.2.2.1 hs.2.2.2
def rl (n : Nat) : _root_.List Int := if n = 0 then [] else if n = 1 then [1] else if n = 2 then [1, 2] else [(n : Int) - 2, (n : Int) - 1, (n : Int)]
def dB (d : Nat) (y : api_Kept) : Bool := y.From == (d : Int)
def rds (k : Tab) (d : Nat) : _root_.List Int := (k.filter (dB d)).map (·.Round)
def Inv (k : Tab) (cn : Nat → Nat) (s : Nat) : Prop := (∀ d, d < 8 → rds k d = rl (cn d)) ∧ (∀ y ∈ k, ∃ d : Nat, d < 8 ∧ y.From = (d : Int)) ∧ (∀ d, cn d ≤ s) ∧ k.length ≤ s
theorem room_small' {t : Tab} {s : Nat} (h : t.length ≤ s) (hs : s ≤ 1000) : Room 0 t := by unfold Room; omega
theorem Inv.up {k : Tab} {cn : Nat → Nat} {s : Nat} (h : Inv k cn s) : Inv k cn (s + 1) := ⟨h.1, h.2.1, fun d => Nat.le_succ_of_le (h.2.2.1 d), Nat.le_succ_of_le h.2.2.2⟩
def Good (k : Nat) (s : S3) : Prop := Room k s.2.1 ∧ s.2.2.length ≤ k ∧ (∀ j, j < 8 → 0 ≤ s.1 j ∧ s.1 j ≤ 4294967295) ∧ W s.2.1
theorem bind_of {α β : Type} {x : Option α} {f : α → Option β} {a : α} {r : Option β} (h : x = some a) (h2 : f a = r) : x.bind f = r := by rw [h]; exact h2
theorem good_step {k : Nat} {m most : Nat → Int} {s : S3} {x : api_Kept} (h : Good k s) (hx : 0 ≤ x.Round ∧ x.Round ≤ 4294967295) : Good (k + 1) (stepF m most s x) := by
  obtain ⟨h1, h2, h3, h4⟩ := h
  have hf := fold_room m most [x] s k h1 h2
  simp only [List.foldl_cons, List.foldl_nil, List.length_cons, List.length_nil, Nat.zero_add] at hf
  refine ⟨hf.1, hf.2, ?_, ?_⟩
  · unfold stepF takeF
    split
    · exact h3
    · simp only
      split
      · intro j hj
        simp only [aupd]
        split
        · exact hx
        · exact h3 j hj
      · exact h3
  · unfold stepF takeF
    split
    · exact h4
    · simp only
      split
      · intro y hy
        simp only [List.mem_append, List.mem_filter, List.mem_singleton] at hy
        rcases hy with ⟨hy, _⟩ | rfl
        · exact h4 y hy
        · exact hx
      · exact h4
end Go.Proofs.Ytcocahffigbmbaa.R10
end

section
set_option linter.unusedVariables false
set_option linter.unusedSimpArgs false
namespace Go.Proofs.Ytcocahffigbmbaa.R11
open Go.Eng
theorem all8 {x y : Nat → Int} : b_a8_u32 x y = true ↔ ∀ j, j < 8 → x j = y j := by
  simp [b_a8_u32, List.all_eq_true, List.mem_range]
theorem brefl8 (x : Nat → Int) : b_a8_u32 x x = true := all8.2 fun _ _ => rfl
def Nat8 (f : Nat → Int) : Prop := ∀ j, j < 8 → 0 ≤ f j
def mxF (f g : Nat → Int) (n : Nat) : Nat → Int := fun j => if j < n ∧ f j < g j then g j else f j
theorem mxF_s (f g : Nat → Int) (n : Nat) : aupd (mxF f g n) n (if mxF f g n n < g n then g n else mxF f g n n) = mxF f g (n + 1) := by
  funext j
  by_cases hj : j = n
  · subst hj
    have e : mxF f g j j = f j := by simp [mxF]
    simp only [aupd, if_true, e]
    simp [mxF]
  · have : j < n + 1 ↔ j < n := by omega
    simp [aupd, mxF, hj, this]
def uniF (l : _root_.List (Nat → Int)) : Nat → Int := l.foldl (fun f g => mxF f g 8) (fun _ => 0)
theorem uni_s (l : _root_.List (Nat → Int)) (g : Nat → Int) : uniF (l ++ [g]) = mxF (uniF l) g 8 := by unfold uniF; rw [List.foldl_append]; rfl
theorem union_eq (l : _root_.List (Nat → Int)) (hl : l.length ≤ 1000000000000000000) : cut_Union l = some (uniF l) := by
  unfold cut_Union
  rw [loop_seq (s0 := (0, fun _ => 0)) (fun n => ((n : Int), uniF (l.take n))) l.length (w := .nx (uniF l)) (by simp [uniF]) (fun n hn => by
    have hn' : (n : Int) < (l.length : Int) := by omega
    have e1 : IntKind.i64.wrap ((n : Int) + 1) = ((n + 1 : Nat) : Int) := by rw [w64] <;> omega
    simp only [hn', decide_true, if_true, ib_n hn, Option.bind_some]
    rw [loop_seq (s0 := ((0 : Int), uniF (l.take n))) (fun k => ((k : Int), mxF (uniF (l.take n)) (l.getD n fun _ => 0) k)) 8 (w := .nx (mxF (uniF (l.take n)) (l.getD n fun _ => 0) 8)) (Prod.ext rfl (funext fun j => by simp [mxF])) (fun k hk => by
      have hk' : (k : Int) < 8 := by omega
      have e2 : IntKind.i64.wrap ((k : Int) + 1) = ((k + 1 : Nat) : Int) := by rw [w64] <;> omega
      simp only [hk', decide_true, if_true, ib_n hk, Option.bind_some, Int.toNat_natCast, e2, lt, mxF_s]) (by simp)]
    simp only [Option.bind_some, Fl.elim, e1, take_s (d := fun _ => 0) hn, uni_s]) (by simp)]
  simp only [Option.bind_some, Fl.elim]
theorem fold_le : ∀ (l : _root_.List (Nat → Int)) (f : Nat → Int), ∀ j, j < 8 → ∀ r, ((l.foldl (fun f g => mxF f g 8) f) j ≤ r ↔ f j ≤ r ∧ ∀ g ∈ l, g j ≤ r)
  | [], f, j, hj, r => by simp
  | a :: l, f, j, hj, r => by
    have hm : mxF f a 8 j ≤ r ↔ f j ≤ r ∧ a j ≤ r := by
      simp only [mxF, hj, true_and]
      by_cases h : f j < a j
      · rw [if_pos h]; omega
      · rw [if_neg h]; omega
    rw [List.foldl_cons, fold_le l _ j hj r, hm]
    constructor
    · rintro ⟨⟨h1, h2⟩, h3⟩
      refine ⟨h1, fun g hg => ?_⟩
      rcases List.mem_cons.1 hg with rfl | hg
      · exact h2
      · exact h3 g hg
    · rintro ⟨h1, h2⟩
      exact ⟨⟨h1, h2 a (by simp)⟩, fun g hg => h2 g (by simp [hg])⟩
theorem uni_le {l : _root_.List (Nat → Int)} {j : Nat} (hj : j < 8) {r : Int} : uniF l j ≤ r ↔ 0 ≤ r ∧ ∀ g ∈ l, g j ≤ r := fold_le l _ j hj r
theorem uni_eq {l : _root_.List (Nat → Int)} {j : Nat} (hj : j < 8) {x : Int} (h : ∀ r, x ≤ r ↔ 0 ≤ r ∧ ∀ g ∈ l, g j ≤ r) : uniF l j = x := by
  have h1 := (uni_le (l := l) hj (r := x)).2 ((h x).1 (Int.le_refl _))
  have h2 := (h (uniF l j)).2 ((uni_le hj).1 (Int.le_refl _))
  omega
def leB (a b : Nat → Int) : Bool := (List.range 8).all fun j => !decide (a j > b j)
theorem leB_iff {a b : Nat → Int} : leB a b = true ↔ ∀ j, j < 8 → a j ≤ b j := by
  simp only [leB, List.all_eq_true, List.mem_range, Bool.not_eq_true', decide_eq_false_iff_not]
  constructor
  · intro h j hj; have := h j hj; omega
  · intro h j hj; have := h j hj; omega
theorem within_eq {a b : Nat → Int} (hb : Nat8 b) : cut_Within a b = some (leB a b) := by
  unfold cut_Within
  rw [union_eq _ (by simp)]
  simp only [Option.bind_some, Option.some.injEq]
  rw [Bool.eq_iff_iff, all8, leB_iff]
  constructor
  · intro h j hj
    have := h j hj
    exact ((uni_le hj).1 (Int.le_of_eq this)).2 a (by simp)
  · intro h j hj
    refine uni_eq hj fun r => ?_
    have := h j hj
    have := hb j hj
    constructor
    · intro h1
      refine ⟨by omega, fun g hg => ?_⟩
      rcases List.mem_cons.1 hg with rfl | hg
      · omega
      · rcases List.mem_cons.1 hg with rfl | hg
        · exact h1
        · cases hg
    · rintro ⟨_, h2⟩; exact h2 b (by simp)
end Go.Proofs.Ytcocahffigbmbaa.R11
end

section
set_option linter.unusedVariables false
set_option linter.unusedSimpArgs false
namespace Go.Proofs.Ytcocahffigbmbaa.R12
open Go.Eng
theorem all8 {x y : Nat → Int} : b_a8_u32 x y = true ↔ ∀ j, j < 8 → x j = y j := by
  simp [b_a8_u32, List.all_eq_true, List.mem_range]
theorem brefl8 (x : Nat → Int) : b_a8_u32 x x = true := all8.2 fun _ _ => rfl
def cmpI (a b : Int) : Int := if a < b then -1 else if a > b then 1 else 0
theorem cmpu_eq (a b : Int) : cmp_Compare_uint32 a b = some (cmpI a b) := by
  simp only [cmp_Compare_uint32, cmp_isNaN_uint32, Option.bind_some, bne_self_eq_false, Bool.false_eq_true, if_false, decide_eq_true_eq, cmpI]
  split
  · rfl
  · split <;> rfl
theorem or_eq (a b c : Int) : cmp_Or_int [a, b, c] = some (if a ≠ 0 then a else if b ≠ 0 then b else c) := by
  have e1 : IntKind.i64.wrap 1 = 1 := by rw [w64] <;> omega
  have e2 : IntKind.i64.wrap 2 = 2 := by rw [w64] <;> omega
  have e3 : IntKind.i64.wrap 3 = 3 := by rw [w64] <;> omega
  unfold cmp_Or_int
  by_cases ha : a = 0
  · rw [loop_nx (s := 0) (s' := 1) (by simp [ib, ha, e1])]
    by_cases hb : b = 0
    · rw [loop_nx (s := 1) (s' := 2) (by simp [ib, hb, e2])]
      by_cases hc : c = 0
      · rw [loop_nx (s := 2) (s' := 3) (by simp [ib, hc, e3]), loop_dn (s := 3) (w := .nx ()) (by simp)]
        simp [ha, hb, hc, Fl.elim]
      · rw [loop_dn (s := 2) (w := .rt c) (by simp [ib, hc])]
        simp [ha, hb, Fl.elim]
    · rw [loop_dn (s := 1) (w := .rt b) (by simp [ib, hb])]
      simp [ha, hb, Fl.elim]
  · rw [loop_dn (s := 0) (w := .rt a) (by simp [ib, ha])]
    simp [ha, Fl.elim]
def cmpId (p q : api_Id) : Int := if cmpI p.Epoch q.Epoch ≠ 0 then cmpI p.Epoch q.Epoch else if cmpI p.Coord q.Coord ≠ 0 then cmpI p.Coord q.Coord else cmpI p.Inc q.Inc
theorem cmp_eq (p q : api_Id) : ident_Compare p q = some (cmpId p q) := by
  simp only [ident_Compare, cmpu_eq, or_eq, Option.bind_some, cmpId]
theorem cmpI_lt {a b : Int} : cmpI a b < 0 ↔ a < b := by unfold cmpI; split; omega; split <;> omega
theorem cmpI_gt {a b : Int} : cmpI a b > 0 ↔ a > b := by unfold cmpI; split; omega; split <;> omega
theorem cmpI_z {a b : Int} : cmpI a b = 0 ↔ a = b := by unfold cmpI; split; omega; split <;> omega
theorem cmpI_r (a b : Int) : cmpI a b = -1 ∨ cmpI a b = 0 ∨ cmpI a b = 1 := by unfold cmpI; split; omega; split <;> omega
theorem cmp_gt {p q : api_Id} : cmpId p q > 0 ↔ p.Epoch > q.Epoch ∨ (p.Epoch = q.Epoch ∧ (p.Coord > q.Coord ∨ (p.Coord = q.Coord ∧ p.Inc > q.Inc))) := by
  have h1 := @cmpI_gt p.Epoch q.Epoch; have h2 := @cmpI_z p.Epoch q.Epoch
  have h3 := @cmpI_gt p.Coord q.Coord; have h4 := @cmpI_z p.Coord q.Coord
  have h5 := @cmpI_gt p.Inc q.Inc
  unfold cmpId; split
  · omega
  · split <;> omega
theorem cmp_lt {p q : api_Id} : cmpId p q < 0 ↔ p.Epoch < q.Epoch ∨ (p.Epoch = q.Epoch ∧ (p.Coord < q.Coord ∨ (p.Coord = q.Coord ∧ p.Inc < q.Inc))) := by
  have h1 := @cmpI_lt p.Epoch q.Epoch; have h2 := @cmpI_z p.Epoch q.Epoch
  have h3 := @cmpI_lt p.Coord q.Coord; have h4 := @cmpI_z p.Coord q.Coord
  have h5 := @cmpI_lt p.Inc q.Inc
  unfold cmpId; split
  · omega
  · split <;> omega
theorem cmp_z {p q : api_Id} : cmpId p q = 0 ↔ p = q := by
  have h2 := @cmpI_z p.Epoch q.Epoch
  have h4 := @cmpI_z p.Coord q.Coord
  have h6 := @cmpI_z p.Inc q.Inc
  have e : p = q ↔ p.Epoch = q.Epoch ∧ p.Coord = q.Coord ∧ p.Inc = q.Inc := by
    cases p; cases q; simp
  rw [e]
  unfold cmpId; split
  · omega
  · split <;> omega
theorem cmp_r (p q : api_Id) : cmpId p q = -1 ∨ cmpId p q = 0 ∨ cmpId p q = 1 := by
  have h2 := cmpI_r p.Epoch q.Epoch
  have h4 := cmpI_r p.Coord q.Coord
  have h6 := cmpI_r p.Inc q.Inc
  unfold cmpId; split
  · omega
  · split <;> omega
theorem cmp_n (p q : api_Id) : cmpId p q = - cmpId q p := by
  have h1 := cmp_r p q; have h2 := cmp_r q p
  have h3 := @cmp_lt p q; have h4 := @cmp_gt q p; have h5 := @cmp_gt p q; have h6 := @cmp_lt q p
  have h7 : cmpId p q > 0 ↔ cmpId q p < 0 := by rw [h5, h6]; omega
  have h8 : cmpId p q < 0 ↔ cmpId q p > 0 := by rw [h3, h4]; omega
  omega
theorem beqId {p q : api_Id} : b_api_Id p q = true ↔ p = q := by
  cases p; cases q; simp [b_api_Id]
theorem breflId (p : api_Id) : b_api_Id p p = true := beqId.2 rfl
def listF (f : Nat → Int) (n : Nat) : _root_.List Int := ((List.range n).filter fun j => f j != 0).map fun (j : Nat) => (j : Int)
theorem listF_s (f : Nat → Int) (n : Nat) : listF f (n + 1) = if f n ≠ 0 then listF f n ++ [(n : Int)] else listF f n := by
  unfold listF
  rw [List.range_succ, List.filter_append, List.map_append]
  by_cases h : f n = 0 <;> simp [h]
theorem listF_len (f : Nat → Int) (n : Nat) : (listF f n).length ≤ n := by
  unfold listF
  rw [List.length_map]
  exact Nat.le_trans (List.length_filter_le _ _) (by simp)
theorem fit_t {n b : Nat} (h : n ≤ 1000000) (hb : b ≤ 100) : fit n b = some () := by
  unfold fit
  rw [if_pos]
  refine ⟨by unfold maxLen; omega, ?_⟩
  have : n * b ≤ 1000000 * 100 := Nat.mul_le_mul h hb
  omega
theorem list_eq (f : Nat → Int) : ident_List f = some (listF f 8) := by
  unfold ident_List
  rw [loop_seq (s0 := (0, ([] : _root_.List Int))) (fun n => ((n : Int), listF f n)) 8 (w := .nx (listF f 8)) rfl (fun n hn => by
    have hn' : (n : Int) < 8 := by omega
    have e1 : IntKind.i64.wrap ((n : Int) + 1) = ((n + 1 : Nat) : Int) := by rw [w64] <;> omega
    have hl := listF_len f n
    simp only [hn', decide_true, if_true, jn, ib_n hn, Option.bind_some, Int.toNat_natCast, e1]
    rw [fit_t (by simp; omega) (by omega), listF_s]
    by_cases h : f n = 0 <;> simp [h]) (by simp)]
  simp only [Option.bind_some, Fl.elim]
def leastF (f : Nat → Int) : Int × Bool := if (listF f 8).length = 0 then (0, false) else ((listF f 8).getD 0 0, true)
theorem least_eq (f : Nat → Int) : ident_Least f = some (leastF f) := by
  unfold ident_Least leastF
  rw [list_eq]
  simp only [Option.bind_some]
  by_cases h : (listF f 8).length = 0
  · simp [h]
  · rw [if_neg (by simpa using h), if_neg h, ib_t (by omega) (by omega)]; rfl
def hasF (f : Nat → Int) (i v : Int) : Bool := ((((decide (i ≥ 0)) && (decide (i < 8))) && (v != 0)) && (f i.toNat == v))
theorem has_eq (f : Nat → Int) (i v : Int) : ident_Has f i v = some (hasF f i v) := by
  unfold ident_Has
  rw [ibg_t (by simp; omega)]; rfl
theorem le_iff {p q : api_Id} : cmpId p q ≤ 0 ↔ p.Epoch < q.Epoch ∨ (p.Epoch = q.Epoch ∧ (p.Coord < q.Coord ∨ (p.Coord = q.Coord ∧ p.Inc ≤ q.Inc))) := by
  have h := @cmp_gt p q
  constructor
  · intro h1
    have h2 : ¬ (p.Epoch > q.Epoch ∨ (p.Epoch = q.Epoch ∧ (p.Coord > q.Coord ∨ (p.Coord = q.Coord ∧ p.Inc > q.Inc)))) := fun h3 => by have := h.2 h3; omega
    clear h; omega
  · intro h1
    have h2 : ¬ (p.Epoch > q.Epoch ∨ (p.Epoch = q.Epoch ∧ (p.Coord > q.Coord ∨ (p.Coord = q.Coord ∧ p.Inc > q.Inc)))) := by clear h; omega
    have h3 : ¬ cmpId p q > 0 := fun h4 => h2 (h.1 h4)
    omega
theorem le_trans' {p q r : api_Id} (h1 : cmpId p q ≤ 0) (h2 : cmpId q r ≤ 0) : cmpId p r ≤ 0 := by
  rw [le_iff] at *; omega
def mxF (f g : Nat → Int) (n : Nat) : Nat → Int := fun j => if j < n ∧ f j < g j then g j else f j
theorem mxF_s (f g : Nat → Int) (n : Nat) : aupd (mxF f g n) n (if mxF f g n n < g n then g n else mxF f g n n) = mxF f g (n + 1) := by
  funext j
  by_cases hj : j = n
  · subst hj
    have e : mxF f g j j = f j := by simp [mxF]
    simp only [aupd, if_true, e]
    simp [mxF]
  · have : j < n + 1 ↔ j < n := by omega
    simp [aupd, mxF, hj, this]
theorem union_eq (a b : Nat → Int) : cut_Union [a, b] = some (mxF (mxF (fun _ => 0) a 8) b 8) := by
  have inner : ∀ (l : _root_.List (Nat → Int)) (i : Nat) (_ : i < l.length) (f : Nat → Int), (loop (ω := Fl ((Nat → Int)) ((Nat → Int))) (fun (x4 : Int × (Nat → Int)) =>
        if (decide (x4.1 < 8)) then
          (ib x4.1 8).bind fun _ =>
          (ib x4.1 8).bind fun _ =>
          (ib x4.1 8).bind fun _ =>
          lt (aupd x4.2 x4.1.toNat (if (x4.2 x4.1.toNat) < ((l.getD i (fun _ => 0)) x4.1.toNat) then (l.getD i (fun _ => 0)) x4.1.toNat else x4.2 x4.1.toNat) : (Nat → Int)) fun v9 =>
          some (.next ((IntKind.i64.wrap (x4.1 + 1)), v9))
        else
          some (.done (.nx (x4.2)))) (0, f)) = some (.nx (mxF f (l.getD i (fun _ => 0)) 8)) := by
    intro l i hi f
    refine loop_seq (fun n => ((n : Int), mxF f (l.getD i (fun _ => 0)) n)) 8 (Prod.ext rfl (funext fun j => by simp [mxF])) (fun n hn => ?_) (by simp)
    have hn' : (n : Int) < 8 := by omega
    have e1 : IntKind.i64.wrap ((n : Int) + 1) = ((n + 1 : Nat) : Int) := by rw [w64] <;> omega
    simp only [hn', decide_true, if_true, ib_n hn, Option.bind_some, Int.toNat_natCast, e1, lt, mxF_s]
  have e1 : IntKind.i64.wrap ((0 : Int) + 1) = 1 := by rw [w64] <;> omega
  have e2 : IntKind.i64.wrap ((1 : Int) + 1) = 2 := by rw [w64] <;> omega
  unfold cut_Union
  rw [loop_nx (s := (0, fun _ => 0)) (s' := (1, mxF (fun _ => 0) a 8)) (by
    have h := inner [a, b] 0 (by simp) (fun _ => 0)
    simp only [Int.toNat_zero, h, Option.bind_some, Fl.elim, e1]
    simp [ib])]
  rw [loop_nx (s := (1, mxF (fun _ => 0) a 8)) (s' := (2, mxF (mxF (fun _ => 0) a 8) b 8)) (by
    have h := inner [a, b] 1 (by simp) (mxF (fun _ => 0) a 8)
    simp only [show (1 : Int).toNat = 1 from rfl, h, Option.bind_some, Fl.elim, e2]
    simp [ib])]
  rw [loop_dn (s := (2, mxF (mxF (fun _ => 0) a 8) b 8)) (w := .nx (mxF (mxF (fun _ => 0) a 8) b 8)) (by simp)]
  simp only [Option.bind_some, Fl.elim]
theorem listF_in {f : Nat → Int} {n : Nat} {x : Int} : x ∈ listF f n ↔ ∃ j : Nat, x = (j : Int) ∧ j < n ∧ f j ≠ 0 := by
  simp only [listF, List.mem_map, List.mem_filter, List.mem_range]
  constructor
  · rintro ⟨j, ⟨h1, h2⟩, h3⟩; exact ⟨j, h3.symm, h1, by simpa using h2⟩
  · rintro ⟨j, rfl, h1, h2⟩; exact ⟨j, ⟨h1, by simpa using h2⟩, rfl⟩
def eachF (p0 : api_Core) (f : api_Peer → Bool) : Bool := (listF p0.Wanted 8).all fun x => !((x != p0.Self) && (((p0.Peers x.toNat).Inc != p0.Wanted x.toNat) || (!f (p0.Peers x.toNat))))
theorem each_eq (p0 : api_Core) (f : api_Peer → Bool) : gather_each p0 (fun z => some (f z)) = some (eachF p0 f) := by
  have hl := listF_len p0.Wanted 8
  unfold gather_each
  rw [list_eq]
  simp only [Option.bind_some]
  rw [seek (ρ := Bool) (listF p0.Wanted 8) (fun x => (x != p0.Self) && (((p0.Peers x.toNat).Inc != p0.Wanted x.toNat) || (!f (p0.Peers x.toNat)))) (fun _ => false) (fun n hn => by
    have hn' : (n : Int) < ((listF p0.Wanted 8).length : Int) := by omega
    have e1 : IntKind.i64.wrap ((n : Int) + 1) = ((n + 1 : Nat) : Int) := by rw [w64] <;> omega
    obtain ⟨j, hj, hj8, _⟩ := listF_in.1 (getD_in (d := (0 : Int)) hn)
    have ibt : ∀ g, ibg g (j : Int) 8 = some () := fun g => ibg_t (fun _ => by omega)
    simp only [hn', decide_true, if_true, ib_n hn, hj, ib_n hj8, ibt, Option.bind_some, Int.toNat_natCast, e1, lt, whn]
    by_cases h1 : (((j : Int) != p0.Self) && (!((p0.Peers j).Inc != p0.Wanted j))) = true
    · rw [if_pos h1]; rfl
    · rw [if_neg h1]
      simp only [Option.bind_some]
      have e2 : (((j : Int) != p0.Self) && (((p0.Peers j).Inc != p0.Wanted j) || (!false))) = (((j : Int) != p0.Self) && (((p0.Peers j).Inc != p0.Wanted j) || (!f (p0.Peers j)))) := by
        revert h1
        cases ((j : Int) != p0.Self) <;> cases ((p0.Peers j).Inc != p0.Wanted j) <;> simp
      rw [e2]) (by simp)]
  simp only [Option.bind_some]
  exact elim_all _ _
theorem all_eq (p0 : api_Core) : gather_All p0 = some (eachF p0 fun z => b_api_Id z.Promise p0.Promise) := by
  have e : (fun z0 => gather_All_1 z0 p0) = fun z => some (b_api_Id z.Promise p0.Promise) := rfl
  unfold gather_All
  rw [e, each_eq]; rfl
theorem done_eq (p0 : api_Core) : gather_Done p0 = some (eachF p0 fun z => ((b_api_Id z.Promise p0.Promise) && z.Ready) || (b_api_Id z.Conf p0.Promise)) := by
  have e : (fun z0 => gather_Done_1 z0 p0) = fun z => some (((b_api_Id z.Promise p0.Promise) && z.Ready) || (b_api_Id z.Conf p0.Promise)) := rfl
  unfold gather_Done
  rw [e, each_eq]; rfl
def standsF (p0 : api_Core) (p1 : Nat → Int) : Bool :=
  if ((((IntKind.i64.wrap (p0.Promise.Coord)) != p0.Self) || (p0.Promise.Inc != p0.Own)) || (!(b_a8_u32 p0.Wanted p1))) then false
  else (listF p1 8).all fun x => !((((x != p0.Self) && (((p0.Peers x.toNat).Inc) == (p1 x.toNat))) && (decide (cmpId (p0.Peers x.toNat).Promise p0.Promise > 0))))
theorem stands_eq (p0 : api_Core) (p1 : Nat → Int) : gather_stands p0 p1 = some (standsF p0 p1) := by
  have hl := listF_len p1 8
  unfold gather_stands standsF
  simp only [lt, list_eq, Option.bind_some]
  split
  · rfl
  rw [seek (ρ := Bool) (listF p1 8) (fun x => ((x != p0.Self) && (((p0.Peers x.toNat).Inc) == (p1 x.toNat))) && (decide (cmpId (p0.Peers x.toNat).Promise p0.Promise > 0))) (fun _ => false) (fun n hn => by
    have hn' : (n : Int) < ((listF p1 8).length : Int) := by omega
    have e1 : IntKind.i64.wrap ((n : Int) + 1) = ((n + 1 : Nat) : Int) := by rw [w64] <;> omega
    obtain ⟨j, hj, hj8, _⟩ := listF_in.1 (getD_in (d := (0 : Int)) hn)
    have ibt : ∀ g, ibg g (j : Int) 8 = some () := fun g => ibg_t (fun _ => by omega)
    simp only [hn', decide_true, if_true, ib_n hn, hj, ib_n hj8, ibt, Option.bind_some, Int.toNat_natCast, e1, cmp_eq, whn]
    by_cases h1 : (((j : Int) != p0.Self) && (((p0.Peers j).Inc) == (p1 j))) = true
    · rw [if_pos h1]; rfl
    · rw [if_neg h1]
      simp only [Bool.not_eq_true] at h1
      simp only [Option.bind_some, h1, Bool.false_and]) (by simp)]
  simp only [Option.bind_some]
  exact elim_all _ _
def propF (p0 : api_Core) (p1 : Nat → Int) : api_Id × Bool :=
  if ((((!(leastF p1).2) || ((leastF p1).1 != p0.Self)) || (p0.Epoch == 4294967295)) || standsF p0 p1) then ({ Epoch := 0, Coord := 0, Inc := 0 }, false)
  else ({ Epoch := (IntKind.u32.wrap (p0.Epoch + 1)), Coord := (IntKind.u32.wrap (p0.Self)), Inc := p0.Own }, true)
theorem prop_eq (p0 : api_Core) (p1 : Nat → Int) : gather_Propose p0 p1 = some (propF p0 p1) := by
  unfold gather_Propose propF
  simp only [least_eq, stands_eq, Option.bind_some, whn, lt]
  by_cases h : (((!(leastF p1).2) || ((leastF p1).1 != p0.Self)) || (p0.Epoch == 4294967295)) = true
  · simp only [h, Bool.not_true, Bool.false_eq_true, if_false, Option.bind_some, Bool.true_or, if_true]
  · simp only [Bool.not_eq_true] at h
    simp only [h, Bool.not_false, if_true, Option.bind_some, Bool.false_or]
    split <;> rfl
def updF (p : api_Peer) (k : api_Packet) : api_Peer :=
  if k.Inc < p.Inc then p
  else if k.Inc > p.Inc ∨ cmpId k.Promise p.Promise > 0 then { Inc := k.Inc, Conf := k.Conf, Promise := k.Promise, Cut := k.Count, Ready := k.Ready }
  else if cmpId k.Promise p.Promise < 0 then p
  else if cmpId k.Conf p.Conf = 1 then { p with Conf := k.Conf, Cut := k.Count, Ready := p.Ready || k.Ready }
  else if cmpId k.Conf p.Conf = 0 then { p with Cut := mxF (mxF (fun _ => 0) p.Cut 8) k.Count 8, Ready := p.Ready || k.Ready }
  else { p with Ready := p.Ready || k.Ready }
theorem upd_eq (p : api_Peer) (k : api_Packet) : gather_Update p k = some (updF p k) := by
  unfold gather_Update updF
  simp only [lt, cmp_eq, union_eq, Option.bind_some, jn, decide_eq_true_eq, Bool.or_eq_true, beq_iff_eq]
  repeat' split
  all_goals first | rfl | (exfalso; omega) | skip
theorem cmp_self (p : api_Id) : cmpId p p = 0 := cmp_z.2 rfl
def Cov (v : api_Peer) (k : api_Packet) : Prop :=
  k.Inc < v.Inc ∨ (k.Inc = v.Inc ∧ (cmpId k.Promise v.Promise < 0 ∨ (cmpId k.Promise v.Promise = 0 ∧ (k.Ready = true → v.Ready = true) ∧ (cmpId k.Conf v.Conf < 0 ∨ (cmpId k.Conf v.Conf = 0 ∧ ∀ j, j < 8 → k.Count j ≤ v.Cut j)))))
def Nat8 (f : Nat → Int) : Prop := ∀ j, j < 8 → 0 ≤ f j
def adoptF (p0 : api_Id) (p1 p2 : Int) (p3 : api_Packet) : Bool := decide (cmpId p3.Promise p0 > 0) && hasF p3.Wanted p1 p2
theorem adopt_eq (p0 : api_Id) (p1 p2 : Int) (p3 : api_Packet) : gather_Adopt p0 p1 p2 p3 = some (adoptF p0 p1 p2 p3) := by
  unfold gather_Adopt adoptF
  simp only [cmp_eq, has_eq, Option.bind_some, whn]
  by_cases h : decide (cmpId p3.Promise p0 > 0) = true
  · rw [if_pos h]; rfl
  · rw [if_neg h]
    simp only [Bool.not_eq_true] at h
    simp only [h, Option.bind_some, Bool.false_and]
def cndF (p0 : api_Core) (x : Int) : Bool := ((((x != p0.Self) && (((p0.Peers x.toNat).Inc) == (p0.Wanted x.toNat))) && (b_api_Id ((p0.Peers x.toNat).Conf) p0.Conf)) && (b_api_Id ((p0.Peers x.toNat).Promise) p0.Promise))
def tgF (p0 : api_Core) (l : _root_.List Int) (f : Nat → Int) : Nat → Int := l.foldl (fun f x => if cndF p0 x = true then mxF (mxF (fun _ => 0) f 8) (p0.Peers x.toNat).Cut 8 else f) f
theorem tg_s (p0 : api_Core) (l : _root_.List Int) (f : Nat → Int) (x : Int) : tgF p0 (l ++ [x]) f = if cndF p0 x = true then mxF (mxF (fun _ => 0) (tgF p0 l f) 8) (p0.Peers x.toNat).Cut 8 else tgF p0 l f := by
  unfold tgF; rw [List.foldl_append]; rfl
theorem target_eq (p0 : api_Core) : gather_Target p0 = some (tgF p0 (listF p0.Wanted 8) p0.Cut) := by
  have hl := listF_len p0.Wanted 8
  unfold gather_Target
  rw [list_eq]
  simp only [Option.bind_some]
  rw [loop_seq (s0 := (0, p0.Cut)) (fun n => ((n : Int), tgF p0 ((listF p0.Wanted 8).take n) p0.Cut)) (listF p0.Wanted 8).length (w := .nx (tgF p0 (listF p0.Wanted 8) p0.Cut)) rfl (fun n hn => by
    have hn' : (n : Int) < ((listF p0.Wanted 8).length : Int) := by omega
    have e1 : IntKind.i64.wrap ((n : Int) + 1) = ((n + 1 : Nat) : Int) := by rw [w64] <;> omega
    obtain ⟨j, hj, hj8, _⟩ := listF_in.1 (getD_in (d := (0 : Int)) hn)
    have ibt : ∀ g, ibg g (j : Int) 8 = some () := fun g => ibg_t (fun _ => by omega)
    rw [take_s (d := 0) hn, tg_s]
    simp only [hn', decide_true, if_true, ib_n hn, hj, ib_n hj8, ibt, Option.bind_some, Int.toNat_natCast, e1, lt, jn, union_eq]
    by_cases hc : cndF p0 (j : Int) = true
    · have hc' := hc
      simp only [cndF, Int.toNat_natCast] at hc'
      rw [if_pos hc, if_pos hc']
    · have hc' := hc
      simp only [cndF, Int.toNat_natCast] at hc'
      rw [if_neg hc, if_neg hc']) (by simp)]
  simp only [Option.bind_some, Fl.elim]
def uniF (l : _root_.List (Nat → Int)) : Nat → Int := l.foldl (fun f g => mxF f g 8) (fun _ => 0)
theorem uni_s (l : _root_.List (Nat → Int)) (g : Nat → Int) : uniF (l ++ [g]) = mxF (uniF l) g 8 := by unfold uniF; rw [List.foldl_append]; rfl
theorem brefl_peer (x : api_Peer) : b_api_Peer x x = true := by simp [b_api_Peer, breflId, brefl8]
end Go.Proofs.Ytcocahffigbmbaa.R12
end

section
set_option linter.unusedVariables false
set_option linter.unusedSimpArgs false
namespace Go.Proofs.Ytcocahffigbmbaa
open Go.Eng
abbrev Hs := _root_.List api_Happen
abbrev Ks := _root_.List api_Kept
def viewH (i : api_Id) (m : Nat → Int) : api_Happen := { View := true, Kept := z_api_Kept, Conf := i, Members := m }
def newH (k : api_Kept) : api_Happen := { View := false, Kept := k, Conf := z_api_Id, Members := (fun _ => 0) }
def allB (c : api_Core) : Bool := R12.eachF c fun z => b_api_Id z.Promise c.Promise
def doneB (c : api_Core) : Bool := R12.eachF c fun z => ((b_api_Id z.Promise c.Promise) && z.Ready) || (b_api_Id z.Conf c.Promise)
def tgt (c : api_Core) : Nat → Int := R12.tgF c (R12.listF c.Wanted 8) c.Cut
def settleF (c : api_Core) : api_Core := if (((!c.Ready) && allB c) && R11.leB (tgt c) c.Count) = true then { c with Ready := true } else c
def instF (c : api_Core) : api_Core := { c with Conf := c.Promise, Members := c.Wanted, Ready := false, Count := (fun _ => 0), Cut := (fun _ => 0), Kept := [] }
def goF (c : api_Core) (t : Hs) : api_Core × Hs :=
  if b_api_Id c.Promise c.Conf = true then (c, t)
  else if ((settleF c).Ready && doneB (settleF c)) = true then (instF (settleF c), t ++ [viewH (settleF c).Promise (settleF c).Wanted])
  else (settleF c, t)
theorem fit_s {n : Nat} (h : n ≤ 2000) : fit n 408 = some () := by
  have : (2000 : Nat) ≤ maxLen := by decide
  unfold fit; rw [if_pos ⟨by omega, by omega⟩]
theorem whn3 {β : Type} (A a w : Bool) (T d : Nat → Int) (W : (Nat → Int) → Option Bool) (hW : W T = some w) (F : Bool → Option β) :
    ((whn A (some a) false).bind fun v24 => (whn (A && v24) (some T) d).bind fun v26 => (whn (A && v24) (W v26) false).bind fun v28 => F ((A && v24) && v28)) = F ((A && a) && w) := by
  cases A <;> cases a <;> simp [whn, hW]
noncomputable def goTail {β : Type} (u : core_under) (k : Ks) (t : Hs) (K : core_under → Ks → Hs → Option β) (b : Bool) : Option β :=
  jn (fun x31 : core_under =>
            (whn x31.Core.Ready (gather_Done ({ x31.Core with Kept := k } : api_Core)) false).bind fun v32 =>
            if (x31.Core.Ready && v32) then
              (fit (t ++ ([({ View := true, Kept := z_api_Kept, Conf := x31.Core.Promise, Members := x31.Core.Wanted } : api_Happen)] : Hs)).length 408).bind fun _ =>
              K ({ x31 with Core := { x31.Core with Conf := x31.Core.Promise, Members := x31.Core.Wanted, Ready := false, Count := (fun _ => 0), Cut := (fun _ => 0) } } : core_under) [] (t ++ [viewH x31.Core.Promise x31.Core.Wanted])
            else K x31 k t) fun j30 => if b = true then j30 ({ u with Core := { u.Core with Ready := true } }) else j30 u
theorem go_core {β : Type} (u : core_under) (k : Ks) (t : Hs) (K : core_under → Ks → Hs → Option β) (hn : R11.Nat8 u.Core.Count) (ht : t.length ≤ 1000) :
    ((core_Gathers ({ u.Core with Kept := k } : api_Core)).bind fun v22 =>
        if (!v22) then K u k t
        else
          (whn (!u.Core.Ready) (gather_All ({ u.Core with Kept := k } : api_Core)) false).bind fun v24 =>
          (whn ((!u.Core.Ready) && v24) (gather_Target ({ u.Core with Kept := k } : api_Core)) (fun _ => 0)).bind fun v26 =>
          (whn ((!u.Core.Ready) && v24) (cut_Within v26 u.Core.Count) false).bind fun v28 =>
          jn (fun x31 : core_under =>
            (whn x31.Core.Ready (gather_Done ({ x31.Core with Kept := k } : api_Core)) false).bind fun v32 =>
            if (x31.Core.Ready && v32) then
              (fit (t ++ ([({ View := true, Kept := z_api_Kept, Conf := x31.Core.Promise, Members := x31.Core.Wanted } : api_Happen)] : Hs)).length 408).bind fun _ =>
              K ({ x31 with Core := { x31.Core with Conf := x31.Core.Promise, Members := x31.Core.Wanted, Ready := false, Count := (fun _ => 0), Cut := (fun _ => 0) } } : core_under) [] (t ++ [viewH x31.Core.Promise x31.Core.Wanted])
            else K x31 k t) fun j30 =>
          if (((!u.Core.Ready) && v24) && v28) then j30 ({ u with Core := { u.Core with Ready := true } })
          else j30 u) =
      K { Core := { (goF { u.Core with Kept := k } t).1 with Kept := u.Core.Kept }, told := u.told } (goF { u.Core with Kept := k } t).1.Kept (goF { u.Core with Kept := k } t).2 := by
  unfold core_Gathers
  simp only [Option.bind_some, Bool.not_not]
  by_cases h0 : b_api_Id u.Core.Promise u.Core.Conf = true
  · rw [if_pos h0]
    have e : goF { u.Core with Kept := k } t = ({ u.Core with Kept := k }, t) := by unfold goF; rw [if_pos h0]
    rw [e]
  · rw [if_neg h0]
    have e : goF { u.Core with Kept := k } t = if ((settleF { u.Core with Kept := k }).Ready && doneB (settleF { u.Core with Kept := k })) = true then (instF (settleF { u.Core with Kept := k }), t ++ [viewH (settleF { u.Core with Kept := k }).Promise (settleF { u.Core with Kept := k }).Wanted]) else (settleF { u.Core with Kept := k }, t) := by
      unfold goF; rw [if_neg h0]
    rw [e]
    have main : ∀ x : core_under, ((whn x.Core.Ready (gather_Done ({ x.Core with Kept := k } : api_Core)) false).bind fun v32 =>
            if (x.Core.Ready && v32) then
              (fit (t ++ ([({ View := true, Kept := z_api_Kept, Conf := x.Core.Promise, Members := x.Core.Wanted } : api_Happen)] : Hs)).length 408).bind fun _ =>
              K ({ x with Core := { x.Core with Conf := x.Core.Promise, Members := x.Core.Wanted, Ready := false, Count := (fun _ => 0), Cut := (fun _ => 0) } } : core_under) [] (t ++ [viewH x.Core.Promise x.Core.Wanted])
            else K x k t) =
        if (x.Core.Ready && doneB { x.Core with Kept := k }) = true then K ({ x with Core := { x.Core with Conf := x.Core.Promise, Members := x.Core.Wanted, Ready := false, Count := (fun _ => 0), Cut := (fun _ => 0) } } : core_under) [] (t ++ [viewH x.Core.Promise x.Core.Wanted]) else K x k t := by
      intro x
      by_cases hr : x.Core.Ready = true
      · simp only [hr, whn, if_true, R12.done_eq, Option.bind_some, Bool.true_and]
        show (if doneB { x.Core with Kept := k } = true then _ else _) = _
        rw [fit_s (by simp; omega)]; rfl
      · have hr' := Bool.eq_false_iff.2 hr
        simp only [hr', whn, Bool.false_eq_true, if_false, Option.bind_some, Bool.false_and]
    have hs : ∀ b : Bool, b = (((!u.Core.Ready) && allB { u.Core with Kept := k }) && R11.leB (tgt { u.Core with Kept := k }) u.Core.Count) →
        (jn (fun x31 : core_under => (whn x31.Core.Ready (gather_Done ({ x31.Core with Kept := k } : api_Core)) false).bind fun v32 =>
            if (x31.Core.Ready && v32) then
              (fit (t ++ ([({ View := true, Kept := z_api_Kept, Conf := x31.Core.Promise, Members := x31.Core.Wanted } : api_Happen)] : Hs)).length 408).bind fun _ =>
              K ({ x31 with Core := { x31.Core with Conf := x31.Core.Promise, Members := x31.Core.Wanted, Ready := false, Count := (fun _ => 0), Cut := (fun _ => 0) } } : core_under) [] (t ++ [viewH x31.Core.Promise x31.Core.Wanted])
            else K x31 k t) fun j30 => if b = true then j30 ({ u with Core := { u.Core with Ready := true } }) else j30 u) =
        if ((settleF { u.Core with Kept := k }).Ready && doneB (settleF { u.Core with Kept := k })) = true then K { Core := { (instF (settleF { u.Core with Kept := k })) with Kept := u.Core.Kept }, told := u.told } [] (t ++ [viewH (settleF { u.Core with Kept := k }).Promise (settleF { u.Core with Kept := k }).Wanted]) else K { Core := { (settleF { u.Core with Kept := k }) with Kept := u.Core.Kept }, told := u.told } k t := by
      intro b hb
      unfold jn
      cases b
      · have e2 : settleF { u.Core with Kept := k } = { u.Core with Kept := k } := by unfold settleF; exact if_neg (by rw [← hb]; decide)
        refine (main u).trans ?_
        rw [e2]; rfl
      · have e2 : settleF { u.Core with Kept := k } = { u.Core with Kept := k, Ready := true } := by unfold settleF; exact if_pos hb.symm
        refine (main ({ u with Core := { u.Core with Ready := true } } : core_under)).trans ?_
        rw [e2]; rfl
    have fin : (if ((settleF { u.Core with Kept := k }).Ready && doneB (settleF { u.Core with Kept := k })) = true then K { Core := { (instF (settleF { u.Core with Kept := k })) with Kept := u.Core.Kept }, told := u.told } [] (t ++ [viewH (settleF { u.Core with Kept := k }).Promise (settleF { u.Core with Kept := k }).Wanted]) else K { Core := { (settleF { u.Core with Kept := k }) with Kept := u.Core.Kept }, told := u.told } k t) =
        K { Core := { (if ((settleF { u.Core with Kept := k }).Ready && doneB (settleF { u.Core with Kept := k })) = true then (instF (settleF { u.Core with Kept := k }), t ++ [viewH (settleF { u.Core with Kept := k }).Promise (settleF { u.Core with Kept := k }).Wanted]) else (settleF { u.Core with Kept := k }, t)).1 with Kept := u.Core.Kept }, told := u.told } (if ((settleF { u.Core with Kept := k }).Ready && doneB (settleF { u.Core with Kept := k })) = true then (instF (settleF { u.Core with Kept := k }), t ++ [viewH (settleF { u.Core with Kept := k }).Promise (settleF { u.Core with Kept := k }).Wanted]) else (settleF { u.Core with Kept := k }, t)).1.Kept (if ((settleF { u.Core with Kept := k }).Ready && doneB (settleF { u.Core with Kept := k })) = true then (instF (settleF { u.Core with Kept := k }), t ++ [viewH (settleF { u.Core with Kept := k }).Promise (settleF { u.Core with Kept := k }).Wanted]) else (settleF { u.Core with Kept := k }, t)).2 := by
      split
      · rfl
      · have e3 : (settleF { u.Core with Kept := k }).Kept = k := by unfold settleF; split <;> rfl
        show _ = K _ (settleF { u.Core with Kept := k }).Kept t
        rw [e3]
    rw [← fin]
    rw [R12.all_eq, R12.target_eq]
    exact (whn3 (!u.Core.Ready) (allB { u.Core with Kept := k }) _ (tgt { u.Core with Kept := k }) _ (fun v => cut_Within v u.Core.Count) (R11.within_eq hn) (goTail u k t K)).trans (hs _ rfl)
def U32 (f : Nat → Int) : Prop := ∀ j, j < 8 → (Lit.int .u32 (f j)).wf = true
theorem U32.nat {f : Nat → Int} (h : U32 f) : ∀ j, j < 8 → 0 ≤ f j := fun j hj => (wf_u32.1 (h j hj)).1
end Go.Proofs.Ytcocahffigbmbaa
end

section
set_option linter.unusedVariables false
set_option linter.unusedSimpArgs false
namespace Go.Proofs.Ytcocahffigbmbaa
open Go.Eng
theorem contf (l : _root_.List Int) (f : Int → Option Bool) (P : Int → Bool) (hf : ∀ x ∈ l, f x = some (P x)) (hl : l.length ≤ maxLen) : slices_ContainsFunc_int_int l f = some (l.any P) := by
  have hm := maxLen_le
  have e : slices_IndexFunc_int_int l f = some (fidx l 0 P) := by
    unfold slices_IndexFunc_int_int
    rw [loop_find l.length (fun i => P (l.getD i 0)) (fun i => (i : Int))]
    · unfold fidx
      cases (List.range l.length).find? (fun i => P (l.getD i 0)) <;> rfl
    · intro n hn
      rw [if_pos (by simp; omega), ib_n hn]
      simp only [Option.bind_some, Int.toNat_natCast, hf _ (getD_in (d := (0 : Int)) hn)]
      split
      · rfl
      · rw [w64 (by omega) (by omega)]; rfl
    · rw [if_neg (by simp)]
  unfold slices_ContainsFunc_int_int
  rw [e]
  simp only [Option.bind_some, Option.some.injEq]
  rcases fidx_spec l 0 P with ⟨h1, h2, h3⟩ | ⟨k, h1, h2, h3, h4, _⟩
  · rw [h1]
    have : l.any P = false := by
      rw [List.any_eq_false]; exact List.find?_eq_none.1 h2
    rw [this]; rfl
  · rw [h2]
    have : l.any P = true := List.any_eq_true.2 ⟨_, getD_in h1, h3⟩
    rw [this]; simp
def shB (c : api_Core) (r : Nat → Int) (x : Int) : Bool := ((x != c.Self) && (((c.Peers x.toNat).Inc) == (r x.toNat))) && (decide (R12.cmpId ((c.Peers x.toNat).Promise) c.Promise > 0))
def unsB (c : api_Core) (r : Nat → Int) : Bool := ((!(b_api_Id c.Promise c.Conf)) || (!(b_a8_u32 r c.Members))) || (R12.listF r 8).any (shB c r)
theorem uns_eq (u : core_under) (r : Nat → Int) : core_under_unsettled u r = some (unsB u.Core r) := by
  have hl := R12.listF_len r 8
  unfold core_under_unsettled unsB core_Gathers
  simp only [Option.bind_some]
  by_cases h : ((!(b_api_Id u.Core.Promise u.Core.Conf)) || (!(b_a8_u32 r u.Core.Members))) = true
  · rw [if_pos h, h]; rfl
  · rw [if_neg h, Bool.eq_false_iff.2 h, R12.list_eq]
    simp only [Option.bind_some]
    rw [contf _ _ (shB u.Core r) (fun x hx => by
      obtain ⟨j, hj, hj8, _⟩ := R12.listF_in.1 hx
      subst hj
      unfold core_under_unsettled_1 shB
      rw [ib_n hj8, ibg_t (fun _ => by omega), R12.cmp_eq]
      simp only [Option.bind_some, Int.toNat_natCast, whn, lt]
      cases ((((j : Int) != u.Core.Self) && (((u.Core.Peers j).Inc) == (r j)))) <;> rfl) (Nat.le_trans hl (by decide))]
    rfl
end Go.Proofs.Ytcocahffigbmbaa
end

section
set_option linter.unusedVariables false
set_option linter.unusedSimpArgs false
namespace Go.Proofs.Ytcocahffigbmbaa
open Go.Eng
abbrev Fr := Nat → (Nat → api_Entry)
abbrev Res := api_Core × Bool × Hs
def mayB (c : api_Core) : Bool := R9.memF c.Members c.Self && (c.Count c.Self.toNat == (R9.leastF c.Count c.Members).1)
def emK (c : api_Core) (f : Fr) : api_Kept := { From := c.Self, Round := (IntKind.u32.wrap ((c.Count c.Self.toNat) + 1)), Frame := f }
def emB (c : api_Core) : Bool := (!(b_api_Id c.Promise c.Conf) || !(mayB c)) || ((c.Count c.Self.toNat) == 4294967295)
def emitF (c : api_Core) (t : Hs) (f : Fr) : Res :=
  if emB c = true then (c, false, t)
  else ({ c with Kept := (R10.takeF c.Kept c.Count c.Members (emK c f)).1, Count := (R10.takeF c.Kept c.Count c.Members (emK c f)).2.1 }, true, t ++ [newH (emK c f)])
theorem gen_em {β : Type} (A m : Bool) (v : Int) (s : Int) (hs : m = true → 0 ≤ s ∧ s < 8) (F : Bool → Option β) :
    ((whn (!A) (some m) false).bind fun v43 => (ibg (!(A || (!v43))) s 8).bind fun _ => F ((A || (!v43)) || (v == 4294967295))) = F ((A || !m) || (v == 4294967295)) := by
  cases A <;> cases m <;> simp [whn, ibg]
  rw [if_pos (hs rfl)]; rfl
theorem may_in {c : api_Core} (h : mayB c = true) : 0 ≤ c.Self ∧ c.Self < 8 := by
  simp only [mayB, R9.memF, Bool.and_eq_true, decide_eq_true_eq] at h; exact h.1.1
noncomputable def emTxt (f : Fr) (u : core_under) (k : Ks) (t : Hs) : Option Res :=
          jn (fun x62 : Bool × core_under × Ks × Hs =>
            some (({ x62.2.1.Core with Kept := x62.2.2.1 } : api_Core), x62.1, x62.2.2.2)) fun j40 =>
          (core_Gathers ({ u.Core with Kept := k } : api_Core)).bind fun v41 =>
          (whn (!v41) (round_May u.Core.Count u.Core.Members u.Core.Self) false).bind fun v43 =>
          (ibg (!(v41 || (!v43))) u.Core.Self 8).bind fun _ =>
          lt (((v41 || (!v43)) || ((u.Core.Count u.Core.Self.toNat) == 4294967295)) : Bool) fun v46 =>
          if v46 then
            j40 (false, u, k, t)
          else
            (ib u.Core.Self 8).bind fun _ =>
            lt (({ From := u.Core.Self, Round := (IntKind.u32.wrap ((u.Core.Count u.Core.Self.toNat) + 1)), Frame := f } : api_Kept) : api_Kept) fun v48 =>
            (kept_Take k u.Core.Count u.Core.Members v48).bind fun v49 =>
            lt ({ u with Core := { u.Core with Count := v49.2.1 } } : core_under) fun v51 =>
            jn (fun x61 : Bool × core_under × Ks × Hs =>
              j40 (x61.1, x61.2.1, x61.2.2.1, x61.2.2.2)) fun j52 =>
            if v49.2.2 then
              jn (fun x60 : Bool × core_under × Ks × Hs =>
                j52 (x60.1, x60.2.1, x60.2.2.1, x60.2.2.2)) fun j53 =>
              (loop (ω := Fl (api_Core × Bool × (_root_.List api_Happen)) (_root_.List api_Happen)) (fun (x54 : Int × _root_.List api_Happen) =>
                if (decide (x54.1 < (([v48] : _root_.List api_Kept).length : Int))) then
                  (ib x54.1 (([v48] : _root_.List api_Kept).length)).bind fun _ =>
                  (fit (x54.2 ++ ([({ View := false, Kept := ([v48] : _root_.List api_Kept).getD x54.1.toNat z_api_Kept, Conf := z_api_Id, Members := (fun _ => 0) } : api_Happen)] : _root_.List api_Happen)).length 408).bind fun _ =>
                  lt ((x54.2 ++ ([({ View := false, Kept := ([v48] : _root_.List api_Kept).getD x54.1.toNat z_api_Kept, Conf := z_api_Id, Members := (fun _ => 0) } : api_Happen)] : _root_.List api_Happen)) : _root_.List api_Happen) fun v58 =>
                  some (.next ((IntKind.i64.wrap (x54.1 + 1)), v58))
                else
                  some (.done (.nx (x54.2)))) (0, t)).bind fun wn55 => Fl.elim wn55 (fun y59 =>
                j53 (v49.2.2, v51, v49.1, y59)) (fun r => some r)
            else
              j52 (v49.2.2, v51, v49.1, t)
theorem next_may {c : api_Core} (f : Fr) (h : mayB c = true) (hm : (c.Count c.Self.toNat == 4294967295) = false) : R10.nextB c.Count c.Members (emK c f) = true := by
  have h1 : R10.memB c.Members c.Self = true := by
    simp only [mayB, Bool.and_eq_true] at h; exact h.1
  show ((R10.memB c.Members c.Self && !(c.Count c.Self.toNat == 4294967295)) && (_ == _)) = true
  rw [h1, hm]; simp [emK]
theorem loop1 (k : api_Kept) (t : Hs) (ht : t.length ≤ 1000) : (loop (ω := Fl (api_Core × Bool × (_root_.List api_Happen)) (_root_.List api_Happen)) (fun (x54 : Int × _root_.List api_Happen) =>
                if (decide (x54.1 < (([k] : _root_.List api_Kept).length : Int))) then
                  (ib x54.1 (([k] : _root_.List api_Kept).length)).bind fun _ =>
                  (fit (x54.2 ++ ([({ View := false, Kept := ([k] : _root_.List api_Kept).getD x54.1.toNat z_api_Kept, Conf := z_api_Id, Members := (fun _ => 0) } : api_Happen)] : _root_.List api_Happen)).length 408).bind fun _ =>
                  lt ((x54.2 ++ ([({ View := false, Kept := ([k] : _root_.List api_Kept).getD x54.1.toNat z_api_Kept, Conf := z_api_Id, Members := (fun _ => 0) } : api_Happen)] : _root_.List api_Happen)) : _root_.List api_Happen) fun v58 =>
                  some (.next ((IntKind.i64.wrap (x54.1 + 1)), v58))
                else
                  some (.done (.nx (x54.2)))) (0, t)) = some (.nx (t ++ [newH k])) := by
  refine loop_seq (fun n => ((n : Int), if n = 0 then t else t ++ [newH k])) 1 rfl (fun n hn => ?_) ?_
  · obtain rfl : n = 0 := by omega
    have e1 : ib ((0 : Nat) : Int) ([k] : _root_.List api_Kept).length = some () := ib_n (by simp)
    simp only [e1, Option.bind_some]
    rw [fit_s (by simp; omega)]
    rfl
  · rfl
theorem em_eq (f : Fr) (u : core_under) (k : Ks) (t : Hs) (hk : R10.Room 1 k) (ht : t.length ≤ 1000) : emTxt f u k t = some (emitF { u.Core with Kept := k } t f) := by
  unfold emTxt core_Gathers
  simp only [jn, lt, Option.bind_some, R9.may_eq]
  refine (gen_em (!b_api_Id u.Core.Promise u.Core.Conf) (mayB u.Core) (u.Core.Count u.Core.Self.toNat) u.Core.Self may_in (fun b => if b = true then some (({ u.Core with Kept := k } : api_Core), false, t) else _)).trans ?_
  have e : emitF { u.Core with Kept := k } t f = if emB u.Core = true then (({ u.Core with Kept := k } : api_Core), false, t) else ({ u.Core with Kept := (R10.takeF k u.Core.Count u.Core.Members (emK u.Core f)).1, Count := (R10.takeF k u.Core.Count u.Core.Members (emK u.Core f)).2.1 }, true, t ++ [newH (emK u.Core f)]) := rfl
  rw [e]
  show (if emB u.Core = true then _ else _) = _
  by_cases hb : emB u.Core = true
  · rw [if_pos hb, if_pos hb]
  · rw [if_neg hb, if_neg hb]
    have hb' := Bool.eq_false_iff.2 hb
    simp only [emB, Bool.or_eq_false_iff, Bool.not_eq_false'] at hb'
    have hin := may_in hb'.1.2
    have hnx := next_may f hb'.1.2 hb'.2
    rw [ib_t hin.1 hin.2]
    simp only [Option.bind_some]
    rw [show ({ From := u.Core.Self, Round := (IntKind.u32.wrap ((u.Core.Count u.Core.Self.toNat) + 1)), Frame := f } : api_Kept) = emK u.Core f from rfl, R10.take_eq (k := 1) _ _ _ _ hk (by omega)]
    simp only [Option.bind_some]
    have h2 : (R10.takeF k u.Core.Count u.Core.Members (emK u.Core f)).2.2 = true := by unfold R10.takeF; rw [if_pos hnx]
    rw [h2, if_pos rfl]
    exact R10.bind_of (loop1 _ _ ht) rfl
end Go.Proofs.Ytcocahffigbmbaa
end

section
set_option linter.unusedVariables false
set_option linter.unusedSimpArgs false
namespace Go.Proofs.Ytcocahffigbmbaa
open Go.Eng
def fitsB (c : api_Core) : Bool := ((decide (c.Self ≥ 0)) && (decide (c.Self < 8))) && (c.Own != 0)
def beatC (c : api_Core) : api_Core := { c with Beat := R8.tickF c.Beat }
def reachC (c : api_Core) : Nat → Int := R8.reachF (R8.tickF c.Beat) c.Self c.Own (IntKind.u32.wrap (c.Wait))
def promC (c : api_Core) (i : api_Id) (m : Nat → Int) : api_Core := { c with Promise := i, Wanted := m, Cut := c.Count, Ready := false }
def propC (c : api_Core) : api_Core :=
  if (unsB (beatC c) (reachC c) && (R12.propF (beatC c) (reachC c)).2) = true then promC { beatC c with Epoch := (R12.propF (beatC c) (reachC c)).1.Epoch } (R12.propF (beatC c) (reachC c)).1 (reachC c) else beatC c
def tickC (c : api_Core) (f : Fr) : Res :=
  if fitsB c = true then emitF (goF (propC c) []).1 (goF (propC c) []).2 f else (c, false, [])
noncomputable def goTxt {β : Type} (u : core_under) (k : Ks) (t : Hs) (K : core_under → Ks → Hs → Option β) : Option β :=
  (core_Gathers ({ u.Core with Kept := k } : api_Core)).bind fun v22 =>
        if (!v22) then K u k t
        else
          (whn (!u.Core.Ready) (gather_All ({ u.Core with Kept := k } : api_Core)) false).bind fun v24 =>
          (whn ((!u.Core.Ready) && v24) (gather_Target ({ u.Core with Kept := k } : api_Core)) (fun _ => 0)).bind fun v26 =>
          (whn ((!u.Core.Ready) && v24) (cut_Within v26 u.Core.Count) false).bind fun v28 =>
          jn (fun x31 : core_under =>
            (whn x31.Core.Ready (gather_Done ({ x31.Core with Kept := k } : api_Core)) false).bind fun v32 =>
            if (x31.Core.Ready && v32) then
              (fit (t ++ ([({ View := true, Kept := z_api_Kept, Conf := x31.Core.Promise, Members := x31.Core.Wanted } : api_Happen)] : Hs)).length 408).bind fun _ =>
              K ({ x31 with Core := { x31.Core with Conf := x31.Core.Promise, Members := x31.Core.Wanted, Ready := false, Count := (fun _ => 0), Cut := (fun _ => 0) } } : core_under) [] (t ++ [viewH x31.Core.Promise x31.Core.Wanted])
            else K x31 k t) fun j30 =>
          if (((!u.Core.Ready) && v24) && v28) then j30 ({ u with Core := { u.Core with Ready := true } })
          else j30 u
noncomputable def tickTxt (p0 : api_Core) (p1 : Fr) : Option Res :=
  (slices_Clone_api_Kept_api_Kept p0.Kept).bind fun v2 =>
  (core_fits p0).bind fun v5 =>
  if (!v5) then some (({ p0 with Kept := v2 } : api_Core), false, ([] : Hs))
  else
    (beat_Tick p0.Beat).bind fun v7 =>
    (beat_Reach v7 p0.Self p0.Own (IntKind.u32.wrap (p0.Wait))).bind fun v10 =>
    (core_under_unsettled ({ Core := { p0 with Beat := v7, Kept := v2 }, told := [] } : core_under) v10).bind fun v12 =>
    if v12 then
      (gather_Propose ({ p0 with Beat := v7, Kept := v2 } : api_Core) v10).bind fun v15 =>
      if v15.2 then goTxt { Core := promC { p0 with Beat := v7, Epoch := v15.1.Epoch } v15.1 v10, told := [] } v2 [] (emTxt p1)
      else goTxt { Core := { p0 with Beat := v7 }, told := [] } v2 [] (emTxt p1)
    else goTxt { Core := { p0 with Beat := v7 }, told := [] } v2 [] (emTxt p1)
set_option maxHeartbeats 2000000 in
theorem tick_txt (p0 : api_Core) (p1 : Fr) : core_Tick p0 p1 = tickTxt p0 p1 := by kernel_rfl
theorem go_room {n : Nat} (c : api_Core) (t : Hs) (h : R10.Room n c.Kept) : R10.Room n (goF c t).1.Kept := by
  have h2 : R10.Room n (settleF c).Kept := by unfold settleF; split <;> exact h
  unfold goF
  split
  · exact h
  · split
    · show R10.Room n []
      unfold R10.Room; exact Nat.zero_le _
    · exact h2
theorem go_len (c : api_Core) (t : Hs) : (goF c t).2.length ≤ t.length + 1 := by
  unfold goF
  split
  · exact Nat.le_succ _
  · split
    · simp
    · simp
theorem go_em (u : core_under) (k : Ks) (t : Hs) (f : Fr) (hn : R11.Nat8 u.Core.Count) (hk : R10.Room 1 k) (ht : t.length ≤ 900) :
    goTxt u k t (emTxt f) = some (emitF (goF { u.Core with Kept := k } t).1 (goF { u.Core with Kept := k } t).2 f) := by
  have hl := go_len { u.Core with Kept := k } t
  refine (go_core u k t (emTxt f) hn (by omega)).trans ?_
  exact em_eq f _ _ _ (go_room _ t hk) (by omega)
theorem room_up {n m : Nat} {l : Ks} (h : R10.Room n l) (hm : n ≤ m) : R10.Room m l := by unfold R10.Room at h ⊢; omega
theorem tick_eq {p0 : api_Core} (hc : U32 p0.Count) (hk : R10.Room 0 p0.Kept) (p1 : Fr) : core_Tick p0 p1 = some (tickC p0 p1) := by
  rw [tick_txt]
  unfold tickTxt
  rw [R10.clone_eq p0.Kept hk (by omega)]
  simp only [Option.bind_some]
  show (if (!fitsB p0) = true then _ else _) = _
  unfold tickC
  by_cases hf : fitsB p0 = true
  · rw [if_neg (by rw [hf]; decide), if_pos hf, R8.tick_eq]
    simp only [Option.bind_some]
    rw [R8.reach_eq]
    simp only [Option.bind_some, uns_eq]
    show (if unsB (beatC p0) (reachC p0) = true then _ else _) = _
    have e1 : ∀ (c : api_Core) , goTxt { Core := c, told := [] } p0.Kept [] (emTxt p1) = goTxt { Core := c, told := [] } p0.Kept [] (emTxt p1) := fun _ => rfl
    unfold propC
    by_cases hu : unsB (beatC p0) (reachC p0) = true
    · rw [if_pos hu, hu, R12.prop_eq]
      simp only [Option.bind_some]
      show (if (R12.propF (beatC p0) (reachC p0)).2 = true then _ else _) = _
      by_cases hp : (R12.propF (beatC p0) (reachC p0)).2 = true
      · rw [if_pos hp, hp]
        exact go_em _ _ _ _ (U32.nat hc) (room_up hk (by omega)) (by simp)
      · rw [if_neg hp, Bool.eq_false_iff.2 hp]
        exact go_em _ _ _ _ (U32.nat hc) (room_up hk (by omega)) (by simp)
    · rw [if_neg hu, Bool.eq_false_iff.2 hu]
      exact go_em _ _ _ _ (U32.nat hc) (room_up hk (by omega)) (by simp)
  · rw [if_pos (by rw [Bool.eq_false_iff.2 hf]; rfl), if_neg hf]
end Go.Proofs.Ytcocahffigbmbaa
end

section
set_option linter.unusedVariables false
set_option linter.unusedSimpArgs false
namespace Go.Proofs.Ytcocahffigbmbaa
open Go.Eng
theorem wfw (n : Int) : (Lit.int .u32 (IntKind.u32.wrap n)).wf = true := wf_u32.2 (by rw [w32]; omega)
structure G (n : Nat) (c : api_Core) : Prop where
  mem : U32 c.Members
  cnt : U32 c.Count
  want : U32 c.Wanted
  cut : U32 c.Cut
  kw : R10.W c.Kept
  room : R10.Room n c.Kept
theorem U32.zero : U32 (fun _ => 0) := fun _ _ => wf_u32.2 ⟨Int.le_refl 0, by show (0 : Int) ≤ 4294967295; decide⟩
theorem G.settle {n : Nat} {c : api_Core} (h : G n c) : G n (settleF c) := by
  unfold settleF; split
  · exact ⟨h.1, h.2, h.3, h.4, h.5, h.6⟩
  · exact h
theorem G.go {n : Nat} {c : api_Core} (h : G n c) (t : Hs) : G n (goF c t).1 := by
  unfold goF
  split
  · exact h
  · split
    · exact ⟨h.settle.want, U32.zero, h.settle.want, U32.zero, (fun y hy => absurd hy (by simp [instF])), (by show R10.Room n []; unfold R10.Room; exact Nat.zero_le _)⟩
    · exact h.settle
theorem reach_u32 {b : api_Beat} (wb : w_api_Beat b) {p2 : Int} (h2 : (Lit.int .u32 p2).wf = true) (p1 p3 : Int) : U32 (R8.reachF b p1 p2 p3) := by
  intro j hj
  unfold R8.reachF
  split
  · exact h2
  · unfold R8.rF
    split
    · exact wb.2.2 j hj
    · exact wf_u32.2 ⟨by omega, by omega⟩
theorem wb_tick {b : api_Beat} (wb : w_api_Beat b) : w_api_Beat (R8.tickF b) := by
  unfold R8.tickF
  split
  · exact ⟨wfw _, wb.2.1, wb.2.2⟩
  · exact wb
theorem G.up {n m : Nat} {c : api_Core} (h : G n c) (hm : n ≤ m) : G m c := ⟨h.1, h.2, h.3, h.4, h.5, room_up h.6 hm⟩
theorem fits_in {c : api_Core} (h : fitsB c = true) : 0 ≤ c.Self ∧ c.Self < 8 := by
  simp only [fitsB, Bool.and_eq_true, decide_eq_true_eq] at h; exact h.1
end Go.Proofs.Ytcocahffigbmbaa
end

section
set_option linter.unusedVariables false
set_option linter.unusedSimpArgs false
namespace Go.Proofs.Ytcocahffigbmbaa
open Go.Eng
def base (c : api_Core) : api_Packet := { From := (IntKind.u32.wrap (c.Self)), Inc := c.Own, Conf := c.Conf, Members := c.Members, Count := c.Count, Promise := c.Promise, Wanted := c.Wanted, Ready := c.Ready, Epoch := c.Epoch, Round := 0, Newest := (fun _ => (fun _ => z_api_Entry)), Older := (fun _ => (fun _ => z_api_Entry)), RelayOf := 0, RelayRound := 0, Relay := (fun _ => (fun _ => z_api_Entry)) }
def packC (c : api_Core) : api_Packet :=
  if fitsB c = true then
    { base c with
      Count := if b_api_Id c.Promise c.Conf = true then c.Count else c.Cut
      Round := c.Count c.Self.toNat
      Newest := (R10.getF c.Kept c.Self (c.Count c.Self.toNat)).1
      Older := if c.Count c.Self.toNat > 0 then (R10.getF c.Kept c.Self (IntKind.u32.wrap (c.Count c.Self.toNat - 1))).1 else (fun _ => (fun _ => z_api_Entry))
      RelayOf := if (R10.pickF c.Kept c.Beat.Now).2 = true then IntKind.u32.wrap (R10.pickF c.Kept c.Beat.Now).1.From else 0
      RelayRound := if (R10.pickF c.Kept c.Beat.Now).2 = true then (R10.pickF c.Kept c.Beat.Now).1.Round else 0
      Relay := if (R10.pickF c.Kept c.Beat.Now).2 = true then (R10.pickF c.Kept c.Beat.Now).1.Frame else (fun _ => (fun _ => z_api_Entry)) }
  else base c
theorem pack_eq (c : api_Core) (hl : c.Kept.length ≤ maxLen) (hn : 0 ≤ c.Beat.Now ∧ c.Beat.Now ≤ 4294967295) : core_Packet c = some (packC c) := by
  unfold core_Packet packC core_fits core_Gathers
  simp only [jn, lt, Option.bind_some, R10.get_eq _ _ _ hl, R10.pick_eq _ _ hl hn]
  show (if (!fitsB c) = true then some (base c) else _) = _
  by_cases hf : fitsB c = true
  · have h8 := fits_in hf
    rw [if_neg (by rw [hf]; decide), if_pos hf, ib_t h8.1 h8.2]
    simp only [Option.bind_some]
    by_cases h1 : c.Count c.Self.toNat > 0
    · simp only [h1, decide_true, if_true]
      cases h2 : b_api_Id c.Promise c.Conf <;> cases h3 : (R10.pickF c.Kept c.Beat.Now).2 <;> rfl
    · simp only [h1, decide_false, Bool.false_eq_true, if_false]
      cases h2 : b_api_Id c.Promise c.Conf <;> cases h3 : (R10.pickF c.Kept c.Beat.Now).2 <;> rfl
  · rw [if_pos (by rw [Bool.eq_false_iff.2 hf]; rfl), if_neg hf]
theorem brefl_happen (x : api_Happen) : b_api_Happen x x = true := by
  simp [b_api_Happen, R12.breflId, R8.brefl8, R10.breflK]
theorem brefl_peers (x : Nat → api_Peer) : b_a8_api_Peer x x = true := by
  simp [b_a8_api_Peer, R12.brefl_peer]
theorem is_self (c : api_Core) (hl : c.Kept.length ≤ maxLen) : congressref13_Is c c = some true := by
  unfold congressref13_Is
  rw [R10.same_eq _ hl]
  simp [lt, whn, R8.brefl, R12.breflId, R8.brefl8, brefl_peers]
theorem told_self (t : Hs) (ht : t.length ≤ 2000) : congressref13_Told t t = some true := by
  unfold congressref13_Told
  rw [if_neg (by simp)]
  rw [loop_seq (s0 := (0 : Int)) (fun n => (n : Int)) t.length (w := .nx ()) rfl (fun n hn => by
    rw [if_pos (by simp; omega), ib_n hn]
    simp only [Option.bind_some, lt, brefl_happen, Bool.not_true, Bool.false_eq_true, if_false]
    rw [w64 (by omega) (by omega)]; rfl) (by rw [if_neg (by simp)])]
  rfl
end Go.Proofs.Ytcocahffigbmbaa
end

section
set_option linter.unusedVariables false
set_option linter.unusedSimpArgs false
namespace Go.Proofs.Ytcocahffigbmbaa
open Go.Eng
def ownB (c : api_Core) : Nat → Int := fun j => if j < 8 then c.Count c.Self.toNat else 0
def boundsF (c : api_Core) : (Nat → Int) × Bool :=
  if b_api_Id c.Promise c.Conf = true then (ownB c, true) else if ((!c.Ready) && allB c) = true then (tgt c, true) else ((fun _ => 0), false)
def offS (c : api_Core) (p : api_Packet) (b : Nat → Int) : R10.S3 := (R10.offF p).foldl (R10.stepF c.Members b) (c.Count, c.Kept, [])
def takeC (c : api_Core) (p : api_Packet) : api_Core × Hs :=
  if ((boundsF c).2 && b_api_Id p.Conf c.Conf) = true then ({ c with Count := (offS c p (boundsF c).1).1, Kept := (offS c p (boundsF c).1).2.1 }, (offS c p (boundsF c).1).2.2.map newH) else (c, [])
theorem bounds_eq (u : core_under) (h8 : 0 ≤ u.Core.Self ∧ u.Core.Self < 8) : core_under_bounds u = some (boundsF u.Core) := by
  unfold core_under_bounds boundsF core_Gathers
  simp only [Option.bind_some, Bool.not_not]
  by_cases h : b_api_Id u.Core.Promise u.Core.Conf = true
  · rw [if_pos h, if_pos h]
    rw [loop_seq (s0 := ((0 : Int), ((fun _ => 0) : Nat → Int))) (fun n => ((n : Int), fun j => if j < n then u.Core.Count u.Core.Self.toNat else 0)) 8 (w := .nx (ownB u.Core)) (by simp) (fun n hn => by
      rw [if_pos (by simp; omega), ib_t h8.1 h8.2, ib_n hn]
      simp only [Option.bind_some, Int.toNat_natCast]
      rw [w64 (by omega) (by omega)]
      congr 3
      funext j
      show (if j = n then u.Core.Count u.Core.Self.toNat else if j < n then u.Core.Count u.Core.Self.toNat else 0) = if j < n + 1 then u.Core.Count u.Core.Self.toNat else 0
      by_cases q1 : j = n
      · rw [if_pos q1, if_pos (by omega)]
      · rw [if_neg q1]
        by_cases q2 : j < n
        · rw [if_pos q2, if_pos (by omega)]
        · rw [if_neg q2, if_neg (by omega)]) (by rw [if_neg (by simp)]; rfl)]
    rfl
  · rw [if_neg h, if_neg h, R12.all_eq, R12.target_eq]
    cases hr : u.Core.Ready
    · show ((some (allB u.Core)).bind fun v8 => _) = _
      simp only [Option.bind_some, Bool.not_false, Bool.true_and]
      by_cases ha : allB u.Core = true
      · rw [if_pos ha, if_pos ha]; rfl
      · rw [if_neg ha, if_neg ha]
    · rfl
theorem tell_loop {ρ : Type} (l : Ks) (t : Hs) (hl : l.length + t.length ≤ 1000) : (loop (ω := Fl ρ (_root_.List api_Happen)) (fun (x30 : Int × _root_.List api_Happen) =>
            if (decide (x30.1 < (l.length : Int))) then
              (ib x30.1 l.length).bind fun _ =>
              (fit (x30.2 ++ ([({ View := false, Kept := l.getD x30.1.toNat z_api_Kept, Conf := z_api_Id, Members := (fun _ => 0) } : api_Happen)] : _root_.List api_Happen)).length 408).bind fun _ =>
              lt ((x30.2 ++ ([({ View := false, Kept := l.getD x30.1.toNat z_api_Kept, Conf := z_api_Id, Members := (fun _ => 0) } : api_Happen)] : _root_.List api_Happen)) : _root_.List api_Happen) fun v34 =>
              some (.next ((IntKind.i64.wrap (x30.1 + 1)), v34))
            else
              some (.done (.nx (x30.2)))) (0, t)) = some (.nx (t ++ l.map newH)) := by
  refine loop_seq (fun n => ((n : Int), t ++ (l.take n).map newH)) l.length (by simp) (fun n hn => ?_) ?_
  · rw [if_pos (by simp; omega), ib_n hn]
    simp only [Option.bind_some, Int.toNat_natCast]
    rw [fit_s (by simp; omega)]
    simp only [Option.bind_some, lt]
    rw [w64 (by omega) (by omega), take_s (d := z_api_Kept) hn]
    simp [newH]
  · rw [if_neg (by simp)]; simp
end Go.Proofs.Ytcocahffigbmbaa
end

section
set_option linter.unusedVariables false
set_option linter.unusedSimpArgs false
namespace Go.Proofs.Ytcocahffigbmbaa
open Go.Eng
def fr (p : api_Packet) : Int := IntKind.i64.wrap p.From
def hrd (c : api_Core) (p : api_Packet) : api_Beat × Bool := R8.hearF c.Beat (fr p) p.Inc
def max3 (a b d : Int) : Int := if (if a < b then b else a) < d then d else (if a < b then b else a)
def hearC (c : api_Core) (p : api_Packet) : api_Core := { c with Beat := (hrd c p).1, Peers := aupd c.Peers p.From.toNat (R12.updF (c.Peers p.From.toNat) p), Epoch := max3 c.Epoch p.Epoch p.Promise.Epoch }
def adoptC (c : api_Core) (p : api_Packet) : api_Core := if R12.adoptF c.Promise c.Self c.Own p = true then promC (hearC c p) p.Promise p.Wanted else hearC c p
def recvC (c : api_Core) (p : api_Packet) : Res :=
  if ((!(fitsB c) || (fr p == c.Self)) || (!(hrd c p).2)) = true then (c, false, [])
  else ((goF (takeC (adoptC c p) p).1 (takeC (adoptC c p) p).2).1, true, (goF (takeC (adoptC c p) p).1 (takeC (adoptC c p) p).2).2)
def endK (u : core_under) (k : Ks) (t : Hs) : Option Res := some (({ u.Core with Kept := k } : api_Core), true, t)
noncomputable def tkTxt (p : api_Packet) (u : core_under) (k : Ks) : Option Res :=
        (core_under_bounds ({ Core := { u.Core with Kept := k }, told := [] } : core_under)).bind fun v23 =>
        if (v23.2 && (b_api_Id p.Conf u.Core.Conf)) then
          (kept_Offer k u.Core.Count u.Core.Members p v23.1).bind fun v26 =>
          (loop (ω := Fl (api_Core × Bool × (_root_.List api_Happen)) (_root_.List api_Happen)) (fun (x30 : Int × _root_.List api_Happen) =>
            if (decide (x30.1 < (v26.2.2.length : Int))) then
              (ib x30.1 v26.2.2.length).bind fun _ =>
              (fit (x30.2 ++ ([({ View := false, Kept := v26.2.2.getD x30.1.toNat z_api_Kept, Conf := z_api_Id, Members := (fun _ => 0) } : api_Happen)] : _root_.List api_Happen)).length 408).bind fun _ =>
              lt ((x30.2 ++ ([({ View := false, Kept := v26.2.2.getD x30.1.toNat z_api_Kept, Conf := z_api_Id, Members := (fun _ => 0) } : api_Happen)] : _root_.List api_Happen)) : _root_.List api_Happen) fun v34 =>
              some (.next ((IntKind.i64.wrap (x30.1 + 1)), v34))
            else
              some (.done (.nx (x30.2)))) (0, [])).bind fun wn31 => Fl.elim wn31 (fun y35 =>
            goTxt ({ u with Core := { u.Core with Count := v26.2.1 } } : core_under) v26.1 y35 endK) (fun r => some r)
        else goTxt u k [] endK
noncomputable def recvTxt (p0 : api_Core) (p1 : api_Packet) : Option Res :=
  (slices_Clone_api_Kept_api_Kept p0.Kept).bind fun v2 =>
  (beat_Hear p0.Beat (IntKind.i64.wrap (p1.From)) p1.Inc).bind fun v5 =>
    (core_fits p0).bind fun v7 =>
    if (((!v7) || ((IntKind.i64.wrap (p1.From)) == p0.Self)) || (!v5.2)) then
      some (({ p0 with Kept := v2 } : api_Core), false, ([] : Hs))
    else
      (ib p1.From 8).bind fun _ =>
      (gather_Update (p0.Peers p1.From.toNat) p1).bind fun v12 =>
      (ib p1.From 8).bind fun _ =>
      (gather_Adopt p0.Promise p0.Self p0.Own p1).bind fun v17 =>
      if v17 then tkTxt p1 { Core := promC { p0 with Beat := v5.1, Peers := aupd p0.Peers p1.From.toNat v12, Epoch := max3 p0.Epoch p1.Epoch p1.Promise.Epoch } p1.Promise p1.Wanted, told := [] } v2
      else tkTxt p1 { Core := { p0 with Beat := v5.1, Peers := aupd p0.Peers p1.From.toNat v12, Epoch := max3 p0.Epoch p1.Epoch p1.Promise.Epoch }, told := [] } v2
theorem recv_txt (p0 : api_Core) (p1 : api_Packet) : core_Receive p0 p1 = recvTxt p0 p1 := by kernel_rfl
theorem go_end (u : core_under) (k : Ks) (t : Hs) (hn : R11.Nat8 u.Core.Count) (ht : t.length ≤ 900) : goTxt u k t endK = some ((goF { u.Core with Kept := k } t).1, true, (goF { u.Core with Kept := k } t).2) :=
  (go_core u k t endK hn (by omega)).trans rfl
theorem good_fold (m b : Nat → Int) : ∀ (xs : Ks) (s : R10.S3) (k : Nat), R10.Good k s → (∀ x ∈ xs, 0 ≤ x.Round ∧ x.Round ≤ 4294967295) → R10.Good (k + xs.length) (xs.foldl (R10.stepF m b) s)
  | [], s, k, h, _ => h
  | x :: xs, s, k, h, hx => by
    rw [List.foldl_cons, List.length_cons, show k + (xs.length + 1) = k + 1 + xs.length by omega]
    exact good_fold m b xs _ (k + 1) (R10.good_step h (hx x (List.mem_cons_self ..))) (fun y hy => hx y (List.mem_cons_of_mem _ hy))
structure PW (p : api_Packet) : Prop where
  fr : 0 ≤ p.From ∧ p.From ≤ 4294967295
  ro : 0 ≤ p.RelayOf ∧ p.RelayOf ≤ 4294967295
  rd : 0 ≤ p.Round ∧ p.Round ≤ 4294967295
  rr : 0 ≤ p.RelayRound ∧ p.RelayRound ≤ 4294967295
theorem w_PW {p : api_Packet} (w : w_api_Packet p) : PW p := ⟨wf_u32.1 w.1, wf_u32.1 w.2.2.2.2.2.2.2.2.2.2.2.2.1, wf_u32.1 w.2.2.2.2.2.2.2.2.2.1, wf_u32.1 w.2.2.2.2.2.2.2.2.2.2.2.2.2.1⟩
theorem off_w {p : api_Packet} (h : PW p) : ∀ x ∈ R10.offF p, 0 ≤ x.From ∧ (0 ≤ x.Round ∧ x.Round ≤ 4294967295) := by
  intro x hx
  have e1 : IntKind.i64.wrap p.From = p.From := w64 (by have := h.fr; omega) (by have := h.fr; omega)
  have e2 : IntKind.i64.wrap p.RelayOf = p.RelayOf := w64 (by have := h.ro; omega) (by have := h.ro; omega)
  unfold R10.offF at hx
  rw [e1, e2, List.mem_append] at hx
  rcases hx with hx | hx
  · split at hx
    · rw [List.mem_singleton.1 hx]; exact ⟨h.fr.1, wf_u32.1 (wfw _)⟩
    · cases hx
  · rcases List.mem_cons.1 hx with rfl | hx
    · exact ⟨h.fr.1, h.rd⟩
    · rw [List.mem_singleton.1 hx]; exact ⟨h.ro.1, h.rr⟩
theorem off_good {n : Nat} {c : api_Core} (hG : G n c) {p : api_Packet} (h : PW p) (b : Nat → Int) : R10.Good (n + (R10.offF p).length) (offS c p b) :=
  good_fold c.Members b (R10.offF p) (c.Count, c.Kept, []) n ⟨hG.room, Nat.zero_le _, fun j hj => wf_u32.1 (hG.cnt j hj), hG.kw⟩ (fun x hx => (off_w h x hx).2)
theorem tk_eq (p : api_Packet) (u : core_under) (k : Ks) (hG : G 0 { u.Core with Kept := k }) (h : PW p) (h8 : 0 ≤ u.Core.Self ∧ u.Core.Self < 8) :
    tkTxt p u k = some ((goF (takeC { u.Core with Kept := k } p).1 (takeC { u.Core with Kept := k } p).2).1, true, (goF (takeC { u.Core with Kept := k } p).1 (takeC { u.Core with Kept := k } p).2).2) := by
  unfold tkTxt
  rw [bounds_eq ({ Core := { u.Core with Kept := k }, told := [] } : core_under) h8]
  simp only [Option.bind_some]
  unfold takeC
  by_cases hb : ((boundsF { u.Core with Kept := k }).2 && b_api_Id p.Conf u.Core.Conf) = true
  · rw [if_pos hb, if_pos hb]
    rw [R10.offer_eq k u.Core.Count u.Core.Members p _ hG.room (fun x hx => (off_w h x hx).1)]
    simp only [Option.bind_some]
    have gd := off_good hG h (boundsF { u.Core with Kept := k }).1
    have ol := R10.off_len p
    have h2 := gd.2.1
    rw [tell_loop _ [] (by show (offS { u.Core with Kept := k } p (boundsF { u.Core with Kept := k }).1).2.2.length + 0 ≤ 1000; omega)]
    exact go_end { u with Core := { u.Core with Count := (offS { u.Core with Kept := k } p (boundsF { u.Core with Kept := k }).1).1 } } _ _ (fun j hj => (gd.2.2.1 j hj).1) (by simp only [List.nil_append, List.length_map]; show (offS { u.Core with Kept := k } p (boundsF { u.Core with Kept := k }).1).2.2.length ≤ 900; omega)
  · rw [if_neg hb, if_neg hb]
    exact go_end u k [] (U32.nat hG.cnt) (by simp)
theorem hear_in {c : api_Core} {p : api_Packet} (h : (hrd c p).2 = true) (hp : PW p) : 0 ≤ p.From ∧ p.From < 8 := by
  have e1 : IntKind.i64.wrap p.From = p.From := w64 (by have := hp.fr; omega) (by have := hp.fr; omega)
  unfold hrd R8.hearF fr at h
  rw [e1] at h
  by_cases q : R8.hearOk c.Beat p.From p.Inc
  · exact ⟨q.1, q.2.1⟩
  · rw [if_neg q] at h; cases h
theorem recv_eq {c : api_Core} (hG : G 0 c) {p : api_Packet} (hp : PW p) (hw : U32 p.Wanted) : core_Receive c p = some (recvC c p) := by
  rw [recv_txt]
  unfold recvTxt
  rw [R10.clone_eq c.Kept hG.room (by omega), R8.hear_eq]
  simp only [Option.bind_some]
  show (if ((!(fitsB c) || (fr p == c.Self)) || (!(hrd c p).2)) = true then _ else _) = _
  unfold recvC
  by_cases hb : ((!(fitsB c) || (fr p == c.Self)) || (!(hrd c p).2)) = true
  · rw [if_pos hb, if_pos hb]
  · rw [if_neg hb, if_neg hb]
    have hb' := Bool.eq_false_iff.2 hb
    simp only [Bool.or_eq_false_iff, Bool.not_eq_false'] at hb'
    have hin := hear_in hb'.2 hp
    have h8 := fits_in hb'.1.1
    rw [ib_t hin.1 hin.2, R12.upd_eq, R12.adopt_eq]
    simp only [Option.bind_some]
    unfold adoptC
    by_cases ha : R12.adoptF c.Promise c.Self c.Own p = true
    · rw [if_pos ha, if_pos ha]
      exact tk_eq p _ c.Kept ⟨hG.mem, hG.cnt, hw, hG.cnt, hG.kw, hG.room⟩ hp h8
    · rw [if_neg ha, if_neg ha]
      exact tk_eq p _ c.Kept ⟨hG.mem, hG.cnt, hG.want, hG.cut, hG.kw, hG.room⟩ hp h8
end Go.Proofs.Ytcocahffigbmbaa
end

section
set_option linter.unusedVariables false
set_option linter.unusedSimpArgs false
namespace Go.Proofs.Ytcocahffigbmbaa
open Go.Eng
theorem off_G {c : api_Core} (hG : G 0 c) {p : api_Packet} (h : PW p) (b : Nat → Int) : G 3 { c with Count := (offS c p b).1, Kept := (offS c p b).2.1 } := by
  have gd := off_good hG h b
  have ol := R10.off_len p
  exact ⟨hG.mem, fun j hj => wf_u32.2 (gd.2.2.1 j hj), hG.want, hG.cut, gd.2.2.2, room_up gd.1 (by omega)⟩
end Go.Proofs.Ytcocahffigbmbaa
end

section
set_option linter.unusedVariables false
set_option linter.unusedSimpArgs false
namespace Go.Proofs.Ytcocahffigbmbaa
open Go.Eng
def oneAt (i : Int) (v : Int) : Nat → Int := aupd (fun _ => 0) i.toNat v
def startC (p0 p1 p2 : Int) : api_Core := { Self := p0, Wait := p2, Own := p1, Beat := z_api_Beat, Conf := ({ Epoch := 0, Coord := (IntKind.u32.wrap (p0)), Inc := p1 } : api_Id), Members := oneAt p0 p1, Count := (fun _ => 0), Kept := [], Promise := ({ Epoch := 0, Coord := (IntKind.u32.wrap (p0)), Inc := p1 } : api_Id), Wanted := oneAt p0 p1, Cut := (fun _ => 0), Ready := false, Peers := (fun _ => z_api_Peer), Epoch := 0 }
def badStart (p0 p1 p2 : Int) : Bool := (((((decide (p0 < 0)) || (decide (p0 ≥ 8))) || (p1 == 0)) || (decide (p2 < 1))) || (decide (p2 > 1000)))
def startF (p0 p1 p2 : Int) : api_Core × Bool := if badStart p0 p1 p2 = true then (z_api_Core, false) else (startC p0 p1 p2, true)
theorem start_in {p0 p1 p2 : Int} (h : badStart p0 p1 p2 = false) : 0 ≤ p0 ∧ p0 < 8 ∧ p1 ≠ 0 ∧ 1 ≤ p2 ∧ p2 ≤ 1000 := by
  simp only [badStart, Bool.or_eq_false_iff, decide_eq_false_iff_not, beq_eq_false_iff_ne] at h
  omega
theorem start_eq (p0 p1 p2 : Int) : core_Start p0 p1 p2 = some (startF p0 p1 p2) := by
  unfold core_Start startF
  simp only [lt]
  show (if badStart p0 p1 p2 = true then _ else _) = _
  by_cases h : badStart p0 p1 p2 = true
  · rw [if_pos h, if_pos h]; rfl
  · rw [if_neg h, if_neg h]
    have hs := start_in (Bool.eq_false_iff.2 h)
    rw [ib_t hs.1 hs.2.1]; rfl
theorem G.emit {n : Nat} {c : api_Core} (h : G n c) (t : Hs) (f : Fr) : G (n + 1) (emitF c t f).1 := by
  unfold emitF
  by_cases hb : emB c = true
  · rw [if_pos hb]; exact h.up (by omega)
  · rw [if_neg hb]
    have hb' := Bool.eq_false_iff.2 hb
    simp only [emB, Bool.or_eq_false_iff, Bool.not_eq_false'] at hb'
    have hnx := next_may f hb'.1.2 hb'.2
    have hx : (Lit.int .u32 (emK c f).Round).wf = true := wfw _
    refine ⟨h.mem, ?_, h.want, h.cut, ?_, R10.take_room h.room⟩
    · show U32 (R10.takeF c.Kept c.Count c.Members (emK c f)).2.1
      unfold R10.takeF; rw [if_pos hnx]
      intro j hj
      show (Lit.int .u32 (if j = (emK c f).From.toNat then (emK c f).Round else c.Count j)).wf = true
      by_cases q : j = (emK c f).From.toNat
      · rw [if_pos q]; exact hx
      · rw [if_neg q]; exact h.cnt j hj
    · show R10.W (R10.takeF c.Kept c.Count c.Members (emK c f)).1
      unfold R10.takeF; rw [if_pos hnx]
      intro y hy
      rcases List.mem_append.1 hy with hy | hy
      · exact h.kw y (List.mem_filter.1 hy).1
      · rw [List.mem_singleton.1 hy]; exact wf_u32.1 hx
theorem G.start (p0 p1 p2 : Int) (h1 : (Lit.int .u32 p1).wf = true) : G 0 (startF p0 p1 p2).1 := by
  have hz : G 0 z_api_Core := ⟨U32.zero, U32.zero, U32.zero, U32.zero, (fun y hy => absurd hy (by simp [z_api_Core])), (by show R10.Room 0 []; unfold R10.Room; exact Nat.zero_le _)⟩
  have ho : U32 (oneAt p0 p1) := fun j hj => by
    show (Lit.int .u32 (if j = p0.toNat then p1 else 0)).wf = true
    by_cases q : j = p0.toNat
    · rw [if_pos q]; exact h1
    · rw [if_neg q]; exact U32.zero j hj
  unfold startF
  split
  · exact hz
  · exact ⟨ho, U32.zero, ho, U32.zero, (fun y hy => absurd hy (by simp [startC])), (by show R10.Room 0 []; unfold R10.Room; exact Nat.zero_le _)⟩
structure BW (c : api_Core) : Prop where
  beat : w_api_Beat c.Beat
  own : (Lit.int .u32 c.Own).wf = true
theorem BW.reach {c : api_Core} (h : BW c) : U32 (reachC c) := reach_u32 (wb_tick h.beat) h.own _ _
theorem BW.go {c : api_Core} (h : BW c) (t : Hs) : BW (goF c t).1 := by
  have hs : BW (settleF c) := by unfold settleF; split; exact ⟨h.1, h.2⟩; exact h
  unfold goF
  split
  · exact h
  · split
    · exact ⟨hs.1, hs.2⟩
    · exact hs
theorem BW.emit {c : api_Core} (h : BW c) (t : Hs) (f : Fr) : BW (emitF c t f).1 := by
  unfold emitF; split; exact h; exact ⟨h.1, h.2⟩
theorem propC_G {n : Nat} {c : api_Core} (h : G n c) (hb : BW c) : G n (propC c) := by
  unfold propC
  split
  · exact ⟨h.mem, h.cnt, hb.reach, h.cnt, h.kw, h.room⟩
  · exact ⟨h.mem, h.cnt, h.want, h.cut, h.kw, h.room⟩
theorem propC_B {c : api_Core} (hb : BW c) : BW (propC c) := by
  unfold propC
  split
  · exact ⟨wb_tick hb.1, hb.2⟩
  · exact ⟨wb_tick hb.1, hb.2⟩
theorem G.tick {n : Nat} {c : api_Core} (h : G n c) (hb : BW c) (f : Fr) : G (n + 1) (tickC c f).1 := by
  unfold tickC
  split
  · exact ((propC_G h hb).go []).emit _ f
  · exact h.up (by omega)
theorem BW.tick {c : api_Core} (hb : BW c) (f : Fr) : BW (tickC c f).1 := by
  unfold tickC
  split
  · exact ((propC_B hb).go []).emit _ f
  · exact hb
theorem adoptC_G {n : Nat} {c : api_Core} (h : G n c) {p : api_Packet} (hw : U32 p.Wanted) : G n (adoptC c p) := by
  unfold adoptC
  split
  · exact ⟨h.mem, h.cnt, hw, h.cnt, h.kw, h.room⟩
  · exact ⟨h.mem, h.cnt, h.want, h.cut, h.kw, h.room⟩
theorem takeC_G {c : api_Core} (h : G 0 c) {p : api_Packet} (hp : PW p) : G 3 (takeC c p).1 := by
  unfold takeC
  split
  · exact off_G h hp _
  · exact h.up (by omega)
theorem G.recv {c : api_Core} (h : G 0 c) {p : api_Packet} (hp : PW p) (hw : U32 p.Wanted) : G 3 (recvC c p).1 := by
  unfold recvC
  split
  · exact h.up (by omega)
  · exact (takeC_G (adoptC_G h hw) hp).go _
end Go.Proofs.Ytcocahffigbmbaa
end

section
set_option linter.unusedVariables false
set_option linter.unusedSimpArgs false
namespace Go.Proofs.Ytcocahffigbmbaa
open Go.Eng
def f0 : Fr := aset (fun _ => (fun _ => z_api_Entry)) []
def k1 : api_Packet := { From := 1, Inc := 1, Conf := ({ Epoch := 0, Coord := 1, Inc := 1 } : api_Id), Members := (fun _ => 0), Count := (fun _ => 0), Promise := ({ Epoch := 0, Coord := 1, Inc := 1 } : api_Id), Wanted := (fun _ => 0), Ready := false, Epoch := 0, Round := 0, Newest := (fun _ => (fun _ => z_api_Entry)), Older := (fun _ => (fun _ => z_api_Entry)), RelayOf := 0, RelayRound := 0, Relay := (fun _ => (fun _ => z_api_Entry)) }
def s1 : api_Core := (startF 0 1 3).1
def s5 : api_Core := (tickC s1 f0).1
def s7 : api_Core := (tickC s5 f0).1
def s9 : api_Core := (recvC s7 k1).1
theorem small {n : Nat} {c : api_Core} (h : G n c) (hl : c.Kept.length ≤ 10) : G 0 c := ⟨h.mem, h.cnt, h.want, h.cut, h.kw, R10.room_small _ hl⟩
theorem fixed_eq : congresslaw13_fixed = some true := by
  have hb : BW s1 := ⟨⟨wf_u32.2 ⟨by decide, by decide⟩, U32.zero, U32.zero⟩, by kernel_rfl⟩
  have g1 : G 0 s1 := G.start 0 1 3 (by kernel_rfl)
  have l5 : s5.Kept.length = 1 := by kernel_rfl
  have l7 : s7.Kept.length = 2 := by kernel_rfl
  have l9 : s9.Kept.length = 2 := by kernel_rfl
  have g5 : G 0 s5 := small (g1.tick hb f0) (by omega)
  have g7 : G 0 s7 := small (g5.tick (hb.tick f0) f0) (by omega)
  have pk : PW k1 := ⟨⟨by decide, by decide⟩, ⟨by decide, by decide⟩, ⟨by decide, by decide⟩, ⟨by decide, by decide⟩⟩
  have g9 : G 0 s9 := small (g7.recv pk U32.zero) (by omega)
  have e1 : core_Tick (startF 0 1 3).1 f0 = some (tickC s1 f0) := tick_eq g1.cnt g1.room f0
  have e2 : core_Tick s5 f0 = some (tickC s5 f0) := tick_eq g5.cnt g5.room f0
  have e3 : core_Receive s7 k1 = some (recvC s7 k1) := recv_eq g7 pk U32.zero
  have e4 : core_Tick s9 f0 = some (tickC s9 f0) := tick_eq g9.cnt g9.room f0
  have e5 : core_Packet s7 = some (packC s7) := pack_eq s7 (by rw [l7]; decide) (by have : s7.Beat.Now = 2 := by kernel_rfl
                                                                                    rw [this]; decide)
  unfold congresslaw13_fixed core_Gathers
  rw [start_eq, start_eq]
  refine R10.bind_of rfl (R10.bind_of rfl (R10.bind_of e1 (R10.bind_of e2 (R10.bind_of e3 (R10.bind_of e4 ?_)))))
  refine R10.bind_of (a := ()) (by kernel_rfl) (R10.bind_of (a := true) (by kernel_rfl) (R10.bind_of (a := false) (by kernel_rfl) (R10.bind_of (a := packC s7) ?_ (by kernel_rfl))))
  refine Eq.trans ?_ e5
  exact if_pos (by kernel_rfl)
end Go.Proofs.Ytcocahffigbmbaa
end

section
set_option linter.unusedVariables false
set_option linter.unusedSimpArgs false
namespace Go.Proofs.Ytcocahffigbmbaa
open Go.Eng
theorem emit_len (c : api_Core) (t : Hs) (f : Fr) : (emitF c t f).2.2.length ≤ t.length + 1 := by
  unfold emitF; split
  · exact Nat.le_succ _
  · simp
theorem tick_len (c : api_Core) (f : Fr) : (tickC c f).2.2.length ≤ 2 := by
  unfold tickC
  split
  · have h1 := emit_len (goF (propC c) []).1 (goF (propC c) []).2 f
    have h2 := go_len (propC c) []
    simp at h2
    omega
  · exact Nat.zero_le _
theorem off_len3 {c : api_Core} (hG : G 0 c) {p : api_Packet} (hp : PW p) : (takeC c p).2.length ≤ 3 := by
  unfold takeC
  split
  · have gd := off_good hG hp (boundsF c).1
    have ol := R10.off_len p
    have h2 := gd.2.1
    simp; omega
  · exact Nat.zero_le _
theorem recv_len {c : api_Core} (hG : G 0 c) {p : api_Packet} (hp : PW p) (hw : U32 p.Wanted) : (recvC c p).2.2.length ≤ 4 := by
  unfold recvC
  split
  · exact Nat.zero_le _
  · have h1 := off_len3 (adoptC_G hG hw) hp
    have h2 := go_len (takeC (adoptC c p) p).1 (takeC (adoptC c p) p).2
    simp only; omega
end Go.Proofs.Ytcocahffigbmbaa
end

section
set_option linter.unusedVariables false
set_option linter.unusedSimpArgs false
namespace Go.Proofs.Ytcocahffigbmbaa
open Go.Eng
theorem take_len (l : Ks) (c m : Nat → Int) (x : api_Kept) : (R10.takeF l c m x).1.length ≤ l.length + 1 := by
  unfold R10.takeF; split
  · simp only [List.length_append, List.length_cons, List.length_nil]
    have := List.length_filter_le (fun y => !R10.oldB x y) l
    omega
  · exact Nat.le_succ _
theorem one_at (s v : Int) (j : Nat) : oneAt s v j = if j = s.toNat then v else 0 := rfl
structure Al1 (s inc : Int) (i : Nat) (last : Fr) (c : api_Core) : Prop where
  g : G 0 c
  bw : BW c
  self : c.Self = s
  own : c.Own = inc
  prom : c.Promise = c.Conf
  mem : c.Members = oneAt s inc
  heard : c.Beat.Heard = fun _ => 0
  cnt : c.Count s.toNat = i
  len : c.Kept.length ≤ i
  rd : ∀ y ∈ c.Kept, y.Round ≤ i
  last : i > 0 → (R10.getF c.Kept s i).1 = last
structure AlT (s inc : Int) (i : Nat) (last : Fr) (c : api_Core) : Prop where
  a : Al1 s inc i last c
  found : i > 0 → ∃ y, c.Kept.find? (R10.isB s i) = some y
end Go.Proofs.Ytcocahffigbmbaa
end

section
set_option linter.unusedVariables false
set_option linter.unusedSimpArgs false
namespace Go.Proofs.Ytcocahffigbmbaa
open Go.Eng
theorem step_len (m b : Nat → Int) (s : R10.S3) (x : api_Kept) : (R10.stepF m b s x).2.1.length ≤ s.2.1.length + 1 := by
  unfold R10.stepF; split
  · exact Nat.le_succ _
  · exact take_len _ _ _ _
theorem fold_len (m b : Nat → Int) : ∀ (xs : Ks) (s : R10.S3), (xs.foldl (R10.stepF m b) s).2.1.length ≤ s.2.1.length + xs.length
  | [], s => Nat.le_refl _
  | x :: xs, s => by
    rw [List.foldl_cons, List.length_cons]
    have h1 := fold_len m b xs (R10.stepF m b s x)
    have h2 := step_len m b s x
    omega
theorem settle_k (c : api_Core) : (settleF c).Kept = c.Kept := by unfold settleF; split <;> rfl
theorem go_klen (c : api_Core) (t : Hs) : (goF c t).1.Kept.length ≤ c.Kept.length := by
  unfold goF
  split
  · exact Nat.le_refl _
  · split
    · exact Nat.zero_le _
    · show (settleF c).Kept.length ≤ _
      rw [settle_k]; exact Nat.le_refl _
theorem emit_klen (c : api_Core) (t : Hs) (f : Fr) : (emitF c t f).1.Kept.length ≤ c.Kept.length + 1 := by
  unfold emitF; split
  · exact Nat.le_succ _
  · exact take_len _ _ _ _
theorem prop_k (c : api_Core) : (propC c).Kept = c.Kept := by unfold propC; split <;> rfl
theorem adopt_k (c : api_Core) (p : api_Packet) : (adoptC c p).Kept = c.Kept := by unfold adoptC; split <;> rfl
theorem tick_klen (c : api_Core) (f : Fr) : (tickC c f).1.Kept.length ≤ c.Kept.length + 3 := by
  unfold tickC; split
  · have h1 := emit_klen (goF (propC c) []).1 (goF (propC c) []).2 f
    have h2 := go_klen (propC c) []
    rw [prop_k] at h2
    omega
  · exact Nat.le_add_right _ _
theorem take_klen (c : api_Core) (p : api_Packet) : (takeC c p).1.Kept.length ≤ c.Kept.length + 3 := by
  unfold takeC; split
  · have h1 := fold_len c.Members (boundsF c).1 (R10.offF p) (c.Count, c.Kept, [])
    have h2 := R10.off_len p
    exact Nat.le_trans h1 (Nat.add_le_add_left h2 _)
  · exact Nat.le_add_right _ _
theorem recv_klen (c : api_Core) (p : api_Packet) : (recvC c p).1.Kept.length ≤ c.Kept.length + 3 := by
  unfold recvC; split
  · exact Nat.le_add_right _ _
  · have h1 := go_klen (takeC (adoptC c p) p).1 (takeC (adoptC c p) p).2
    have h2 := take_klen (adoptC c p) p
    rw [adopt_k] at h2
    exact Nat.le_trans h1 h2
theorem hear_w {b : api_Beat} (w : w_api_Beat b) {i v : Int} (h : (Lit.int .u32 v).wf = true) : w_api_Beat (R8.hearF b i v).1 := by
  unfold R8.hearF
  split
  · refine ⟨w.1, fun j hj => ?_, fun j hj => ?_⟩
    · show (Lit.int .u32 (if j = i.toNat then b.Now else b.Heard j)).wf = true
      split; exact w.1; exact w.2.1 j hj
    · show (Lit.int .u32 (if j = i.toNat then v else b.Inc j)).wf = true
      split; exact h; exact w.2.2 j hj
  · exact w
theorem BW.recv {c : api_Core} (h : BW c) {p : api_Packet} (hi : (Lit.int .u32 p.Inc).wf = true) : BW (recvC c p).1 := by
  unfold recvC; split
  · exact h
  · refine BW.go ?_ _
    have ha : BW (adoptC c p) := by
      unfold adoptC; split
      · exact ⟨hear_w h.beat hi, h.own⟩
      · exact ⟨hear_w h.beat hi, h.own⟩
    unfold takeC; split
    · exact ⟨ha.beat, ha.own⟩
    · exact ha
structure EW (p : api_Packet) : Prop where
  pw : PW p
  want : U32 p.Wanted
  inc : (Lit.int .u32 p.Inc).wf = true
  ep : 0 ≤ p.Epoch ∧ p.Epoch ≤ 4294967295
  pep : 0 ≤ p.Promise.Epoch ∧ p.Promise.Epoch ≤ 4294967295
theorem w_EW {p : api_Packet} (w : w_api_Packet p) : EW p := ⟨w_PW w, w.2.2.2.2.2.2.1, w.2.1, wf_u32.1 w.2.2.2.2.2.2.2.2.1, wf_u32.1 w.2.2.2.2.2.1.1⟩
structure Rn (k : Nat) (c : api_Core) : Prop where
  g : G 0 c
  bw : BW c
  len : c.Kept.length ≤ k
theorem Rn.tick {k : Nat} {c : api_Core} (h : Rn k c) (hk : k ≤ 900) (f : Fr) : Rn (k + 3) (tickC c f).1 := by
  have g := h.g.tick h.bw f
  have l := tick_klen c f
  have hl := h.len
  exact ⟨⟨g.mem, g.cnt, g.want, g.cut, g.kw, R10.room_small' (s := k + 3) (by omega) (by omega)⟩, h.bw.tick f, by omega⟩
theorem Rn.recv {k : Nat} {c : api_Core} (h : Rn k c) (hk : k ≤ 900) {p : api_Packet} (hp : EW p) : Rn (k + 3) (recvC c p).1 := by
  have g := h.g.recv hp.pw hp.want
  have l := recv_klen c p
  have hl := h.len
  exact ⟨⟨g.mem, g.cnt, g.want, g.cut, g.kw, R10.room_small' (s := k + 3) (by omega) (by omega)⟩, h.bw.recv hp.inc, by omega⟩
def stepC (c : api_Core) (e : congresslaw13_Event) : api_Core × Hs := if e.Tick = true then ((tickC c e.F).1, (tickC c e.F).2.2) else ((recvC c e.P).1, (recvC c e.P).2.2)
theorem step_eq {k : Nat} {c : api_Core} (h : Rn k c) {e : congresslaw13_Event} (he : EW e.P) : congresslaw13_step c e = some (stepC c e) := by
  unfold congresslaw13_step stepC
  by_cases q : e.Tick = true
  · rw [if_pos q, if_pos q]; exact R10.bind_of (tick_eq h.g.cnt h.g.room e.F) rfl
  · rw [if_neg q, if_neg q]; exact R10.bind_of (recv_eq h.g he.pw he.want) rfl
theorem Rn.step {k : Nat} {c : api_Core} (h : Rn k c) (hk : k ≤ 900) {e : congresslaw13_Event} (he : EW e.P) : Rn (k + 3) (stepC c e).1 := by
  unfold stepC; split
  · exact h.tick hk _
  · exact h.recv hk he
theorem al_start' {s inc w : Int} (h1 : (Lit.int .u32 inc).wf = true) (h : badStart s inc w = false) : G 0 (startC s inc w) ∧ BW (startC s inc w) := by
  have g := G.start s inc w h1
  have e : startF s inc w = (startC s inc w, true) := by unfold startF; exact if_neg (by rw [h]; decide)
  rw [e] at g
  exact ⟨g, ⟨⟨U32.zero 0 (by omega), U32.zero, U32.zero⟩, h1⟩⟩
theorem Rn.start {s inc w : Int} (h1 : (Lit.int .u32 inc).wf = true) (h : badStart s inc w = false) : Rn 0 (startC s inc w) := by
  have a := al_start' h1 h
  exact ⟨a.1, a.2, Nat.le_refl _⟩
structure Vi (s inc : Int) (c : api_Core) : Prop where
  self : c.Self = s
  own : c.Own = inc
  le : R12.cmpId c.Conf c.Promise ≤ 0
  ep : c.Promise.Epoch ≤ c.Epoch
  eu : 0 ≤ c.Epoch ∧ c.Epoch ≤ 4294967295
  mem : c.Members s.toNat = inc
  want : c.Wanted s.toNat = inc
theorem Vi.of {s inc : Int} {c d : api_Core} (h : Vi s inc c) (e1 : d.Self = c.Self) (e2 : d.Own = c.Own) (e3 : d.Conf = c.Conf) (e4 : d.Promise = c.Promise) (e5 : d.Epoch = c.Epoch) (e6 : d.Members = c.Members) (e7 : d.Wanted = c.Wanted) : Vi s inc d :=
  ⟨e1.trans h.self, e2.trans h.own, by rw [e3, e4]; exact h.le, by rw [e4, e5]; exact h.ep, by rw [e5]; exact h.eu, by rw [e6]; exact h.mem, by rw [e7]; exact h.want⟩
theorem cmp_self0 (p : api_Id) : R12.cmpId p p ≤ 0 := by rw [R12.cmp_self]; exact Int.le_refl _
theorem Vi.settle {s inc : Int} {c : api_Core} (h : Vi s inc c) : Vi s inc (settleF c) := by
  unfold settleF; split
  · exact h.of rfl rfl rfl rfl rfl rfl rfl
  · exact h
theorem settle_p (c : api_Core) : (settleF c).Promise = c.Promise ∧ (settleF c).Wanted = c.Wanted ∧ (settleF c).Conf = c.Conf ∧ (settleF c).Members = c.Members ∧ (settleF c).Count = c.Count := by unfold settleF; split <;> exact ⟨rfl, rfl, rfl, rfl, rfl⟩
theorem Vi.inst {s inc : Int} {c : api_Core} (h : Vi s inc c) : Vi s inc (instF c) := ⟨h.self, h.own, cmp_self0 _, h.ep, h.eu, h.want, h.want⟩
theorem Vi.go {s inc : Int} {c : api_Core} (h : Vi s inc c) (t : Hs) : Vi s inc (goF c t).1 := by
  unfold goF; split
  · exact h
  · split
    · exact h.settle.inst
    · exact h.settle
theorem Vi.emit {s inc : Int} {c : api_Core} (h : Vi s inc c) (t : Hs) (f : Fr) : Vi s inc (emitF c t f).1 := by
  unfold emitF; split
  · exact h
  · exact h.of rfl rfl rfl rfl rfl rfl rfl
theorem reach_self {s inc : Int} {c : api_Core} (h : Vi s inc c) (h8 : 0 ≤ s ∧ s < 8) : reachC c s.toNat = inc := by
  unfold reachC R8.reachF
  rw [if_pos ⟨by rw [h.self]; exact h8.1, by rw [h.self]; omega, by omega⟩]; exact h.own
theorem prop_gt {s inc : Int} {c : api_Core} (h : Vi s inc c) {m : Nat → Int} (hq : (R12.propF c m).2 = true) : (R12.propF c m).1 = ({ Epoch := c.Epoch + 1, Coord := IntKind.u32.wrap c.Self, Inc := c.Own } : api_Id) ∧ c.Epoch < 4294967295 := by
  unfold R12.propF at hq ⊢
  by_cases q : (((((!(R12.leastF m).2) || ((R12.leastF m).1 != c.Self)) || (c.Epoch == 4294967295)) || R12.standsF c m) = true)
  · rw [if_pos q] at hq; cases hq
  · rw [if_neg q]
    have q' := Bool.eq_false_iff.2 q
    simp only [Bool.or_eq_false_iff, beq_eq_false_iff_ne] at q'
    have e := h.eu
    have hlt : c.Epoch < 4294967295 := by have := q'.1.2; omega
    have ew : IntKind.u32.wrap (c.Epoch + 1) = c.Epoch + 1 := by rw [w32]; omega
    exact ⟨by rw [ew], hlt⟩
theorem Vi.beat {s inc : Int} {c : api_Core} (h : Vi s inc c) : Vi s inc (beatC c) := h.of rfl rfl rfl rfl rfl rfl rfl
theorem Vi.prop {s inc : Int} {c : api_Core} (h : Vi s inc c) (h8 : 0 ≤ s ∧ s < 8) : Vi s inc (propC c) ∧ R12.cmpId c.Promise (propC c).Promise ≤ 0 ∧ (propC c).Conf = c.Conf := by
  unfold propC
  by_cases q : (unsB (beatC c) (reachC c) && (R12.propF (beatC c) (reachC c)).2) = true
  · rw [if_pos q]
    obtain ⟨e, hlt⟩ := prop_gt h.beat (Bool.and_eq_true_iff.1 q).2
    have h0 := h.eu
    have hp := h.ep
    have hb : (beatC c).Epoch = c.Epoch := rfl
    have lt : R12.cmpId c.Promise (R12.propF (beatC c) (reachC c)).1 < 0 := by
      rw [e, R12.cmp_lt]; left; show c.Promise.Epoch < c.Epoch + 1; omega
    have eE : (R12.propF (beatC c) (reachC c)).1.Epoch = c.Epoch + 1 := by rw [e]; rfl
    refine ⟨⟨h.self, h.own, ?_, ?_, ?_, h.mem, reach_self h h8⟩, ?_, rfl⟩
    · show R12.cmpId c.Conf (R12.propF (beatC c) (reachC c)).1 ≤ 0
      exact R12.le_trans' h.le (Int.le_of_lt lt)
    · exact Int.le_refl _
    · show 0 ≤ (R12.propF (beatC c) (reachC c)).1.Epoch ∧ (R12.propF (beatC c) (reachC c)).1.Epoch ≤ 4294967295
      rw [eE]; have : c.Epoch < 4294967295 := hlt
      omega
    · exact Int.le_of_lt lt
  · rw [if_neg q]; exact ⟨h.beat, cmp_self0 _, rfl⟩
theorem max3_u {a b d : Int} : a ≤ max3 a b d ∧ d ≤ max3 a b d ∧ (max3 a b d = a ∨ max3 a b d = b ∨ max3 a b d = d) := by
  unfold max3; split <;> split <;> omega
theorem Vi.hear {s inc : Int} {c : api_Core} (h : Vi s inc c) {p : api_Packet} (hp : EW p) : Vi s inc (hearC c p) := by
  have m := max3_u (a := c.Epoch) (b := p.Epoch) (d := p.Promise.Epoch)
  have h0 := h.eu
  have h1 := hp.ep
  have h2 := hp.pep
  exact ⟨h.self, h.own, h.le, Int.le_trans h.ep m.1, by show 0 ≤ max3 c.Epoch p.Epoch p.Promise.Epoch ∧ max3 c.Epoch p.Epoch p.Promise.Epoch ≤ 4294967295; omega, h.mem, h.want⟩
theorem Vi.adopt {s inc : Int} {c : api_Core} (h : Vi s inc c) {p : api_Packet} (hp : EW p) : Vi s inc (adoptC c p) ∧ R12.cmpId c.Promise (adoptC c p).Promise ≤ 0 ∧ (adoptC c p).Conf = c.Conf := by
  unfold adoptC
  by_cases q : R12.adoptF c.Promise c.Self c.Own p = true
  · rw [if_pos q]
    simp only [R12.adoptF, R12.hasF, Bool.and_eq_true, decide_eq_true_eq, beq_iff_eq] at q
    have hh := h.hear hp
    have m := max3_u (a := c.Epoch) (b := p.Epoch) (d := p.Promise.Epoch)
    have lt : R12.cmpId c.Promise p.Promise ≤ 0 := by have := R12.cmp_n c.Promise p.Promise; omega
    refine ⟨⟨h.self, h.own, R12.le_trans' h.le lt, m.2.1, hh.eu, h.mem, ?_⟩, lt, rfl⟩
    have := q.2.2
    rw [h.self, h.own] at this
    exact this
  · rw [if_neg q]; exact ⟨h.hear hp, cmp_self0 _, rfl⟩
theorem Vi.take {s inc : Int} {c : api_Core} (h : Vi s inc c) (p : api_Packet) : Vi s inc (takeC c p).1 := by
  unfold takeC; split
  · exact h.of rfl rfl rfl rfl rfl rfl rfl
  · exact h
theorem take_p (c : api_Core) (p : api_Packet) : (takeC c p).1.Promise = c.Promise ∧ (takeC c p).1.Conf = c.Conf := by unfold takeC; split <;> exact ⟨rfl, rfl⟩
theorem emit_p (c : api_Core) (t : Hs) (f : Fr) : (emitF c t f).1.Promise = c.Promise ∧ (emitF c t f).1.Conf = c.Conf ∧ (emitF c t f).1.Members = c.Members := by unfold emitF; split <;> exact ⟨rfl, rfl, rfl⟩
theorem go_p {s inc : Int} {c : api_Core} (h : Vi s inc c) (t : Hs) : (goF c t).1.Promise = c.Promise ∧ R12.cmpId c.Conf (goF c t).1.Conf ≤ 0 := by
  unfold goF; split
  · exact ⟨rfl, cmp_self0 _⟩
  · split
    · refine ⟨(settle_p c).1, ?_⟩
      show R12.cmpId c.Conf (settleF c).Promise ≤ 0
      rw [(settle_p c).1]; exact h.le
    · refine ⟨(settle_p c).1, ?_⟩
      show R12.cmpId c.Conf (settleF c).Conf ≤ 0
      rw [(settle_p c).2.2.1]; exact cmp_self0 _
theorem Vi.tick {s inc : Int} {c : api_Core} (h : Vi s inc c) (h8 : 0 ≤ s ∧ s < 8) (f : Fr) : Vi s inc (tickC c f).1 ∧ R12.cmpId c.Promise (tickC c f).1.Promise ≤ 0 ∧ R12.cmpId c.Conf (tickC c f).1.Conf ≤ 0 := by
  unfold tickC; split
  · obtain ⟨p1, p2, p3⟩ := h.prop h8
    have g := go_p p1 []
    have e := emit_p (goF (propC c) []).1 (goF (propC c) []).2 f
    refine ⟨(p1.go []).emit _ f, ?_, ?_⟩
    · rw [e.1, g.1]; exact p2
    · rw [e.2.1, ← p3]; exact g.2
  · exact ⟨h, cmp_self0 _, cmp_self0 _⟩
theorem Vi.recv {s inc : Int} {c : api_Core} (h : Vi s inc c) {p : api_Packet} (hp : EW p) : Vi s inc (recvC c p).1 ∧ R12.cmpId c.Promise (recvC c p).1.Promise ≤ 0 ∧ R12.cmpId c.Conf (recvC c p).1.Conf ≤ 0 := by
  unfold recvC; split
  · exact ⟨h, cmp_self0 _, cmp_self0 _⟩
  · obtain ⟨p1, p2, p3⟩ := h.adopt hp
    have t := p1.take p
    have e := take_p (adoptC c p) p
    have g := go_p t (takeC (adoptC c p) p).2
    refine ⟨t.go _, ?_, ?_⟩
    · rw [g.1, e.1]; exact p2
    · rw [← p3, ← e.2]; exact g.2
theorem Vi.step {s inc : Int} {c : api_Core} (h : Vi s inc c) (h8 : 0 ≤ s ∧ s < 8) {e : congresslaw13_Event} (he : EW e.P) : Vi s inc (stepC c e).1 ∧ R12.cmpId c.Promise (stepC c e).1.Promise ≤ 0 ∧ R12.cmpId c.Conf (stepC c e).1.Conf ≤ 0 := by
  unfold stepC; split
  · exact h.tick h8 _
  · exact h.recv he
theorem Vi.start {s inc w : Int} (h : badStart s inc w = false) : Vi s inc (startC s inc w) :=
  ⟨rfl, rfl, cmp_self0 _, Int.le_refl _, ⟨Int.le_refl _, by show (0 : Int) ≤ 4294967295; decide⟩, by show oneAt s inc s.toNat = inc; rw [one_at, if_pos rfl], by show oneAt s inc s.toNat = inc; rw [one_at, if_pos rfl]⟩
end Go.Proofs.Ytcocahffigbmbaa
end

section
set_option linter.unusedVariables false
set_option linter.unusedSimpArgs false
namespace Go.Proofs.Ytcocahffigbmbaa
open Go.Eng
def nx1 (n : Nat → Int) (h : api_Happen) : Nat → Int := if h.View = true then (fun _ => 0) else aupd n h.Kept.From.toNat (IntKind.u32.wrap (n h.Kept.From.toNat + 1))
def okH (s inc : Int) (cc : api_Id) (d : api_Core) (n : Nat → Int) (h : api_Happen) : Prop :=
  if h.View = true then R12.cmpId h.Conf cc = 1 ∧ h.Members s.toNat = inc ∧ h.Conf = d.Conf ∧ h.Members = d.Members
  else (0 ≤ h.Kept.From ∧ h.Kept.From < 8) ∧ h.Kept.Round = IntKind.u32.wrap (n h.Kept.From.toNat + 1)
def RunOk (s inc : Int) (cc : api_Id) (d : api_Core) : (Nat → Int) → Hs → (Nat → Int) → Prop
  | n, [], r => n = r
  | n, h :: t, r => okH s inc cc d n h ∧ RunOk s inc cc d (nx1 n h) t r
theorem RunOk.app {s inc : Int} {cc : api_Id} {d : api_Core} : ∀ {a b : Hs} {n m r : Nat → Int}, RunOk s inc cc d n a m → RunOk s inc cc d m b r → RunOk s inc cc d n (a ++ b) r
  | [], b, n, m, r, h1, h2 => by cases h1; exact h2
  | x :: a, b, n, m, r, h1, h2 => ⟨h1.1, RunOk.app h1.2 h2⟩
theorem RunOk.fin {s inc : Int} {cc : api_Id} {d : api_Core} : ∀ {a : Hs} {n r : Nat → Int}, RunOk s inc cc d n a r → a.foldl nx1 n = r
  | [], n, r, h => h
  | x :: a, n, r, h => RunOk.fin (a := a) h.2
theorem RunOk.at_ {s inc : Int} {cc : api_Id} {d : api_Core} : ∀ {a : Hs} {n r : Nat → Int}, RunOk s inc cc d n a r → ∀ k, k < a.length → okH s inc cc d ((a.take k).foldl nx1 n) (a.getD k z_api_Happen)
  | [], n, r, h, k, hk => absurd hk (by simp)
  | x :: a, n, r, h, 0, hk => h.1
  | x :: a, n, r, h, k + 1, hk => RunOk.at_ (a := a) h.2 k (by simpa using hk)
end Go.Proofs.Ytcocahffigbmbaa
end

section
set_option linter.unusedVariables false
set_option linter.unusedSimpArgs false
namespace Go.Proofs.Ytcocahffigbmbaa
open Go.Eng
def seqE (c0 : api_Core) (l : _root_.List congresslaw13_Event) : Nat → api_Core
  | 0 => c0
  | n + 1 => (stepC (seqE c0 l n) (l.getD n z_congresslaw13_Event)).1
structure Hs1 (s inc : Int) (k : Nat) (c : api_Core) : Prop where
  r : Rn k c
  v : Vi s inc c
theorem seq_in {s inc w : Int} (h1 : (Lit.int .u32 inc).wf = true) (h : badStart s inc w = false) (l : _root_.List congresslaw13_Event) (hl : ∀ n, n < l.length → EW (l.getD n z_congresslaw13_Event).P) : ∀ n, n ≤ l.length → n ≤ 200 → Hs1 s inc (3 * n) (seqE (startC s inc w) l n)
  | 0, _, _ => ⟨Rn.start h1 h, Vi.start h⟩
  | n + 1, hn, hm => by
    have ih := seq_in h1 h l hl n (by omega) (by omega)
    have r := ih.r.step (by omega) (hl n (by omega))
    have v := ih.v.step ⟨(start_in h).1, (start_in h).2.1⟩ (hl n (by omega))
    exact ⟨r, v.1⟩
theorem told_len {k : Nat} {c : api_Core} (h : Rn k c) {e : congresslaw13_Event} (he : EW e.P) : (stepC c e).2.length ≤ 4 := by
  unfold stepC; split
  · exact Nat.le_trans (tick_len c e.F) (by decide)
  · exact recv_len h.g he.pw he.want
end Go.Proofs.Ytcocahffigbmbaa
end

section
set_option linter.unusedVariables false
set_option linter.unusedSimpArgs false
namespace Go.Proofs.Ytcocahffigbmbaa
open Go.Eng
def z0F : Fr := (fun _ => (fun _ => z_api_Entry))
def plK (y : api_Kept) : api_Kept := { From := y.From, Round := y.Round, Frame := z0F }
def plH (h : api_Happen) : api_Happen := { h with Kept := { h.Kept with Frame := z0F } }
def TAl (a b : Hs) : Prop := a.map plH = b.map plH
theorem plK_of : ∀ {a b : Ks}, R10.Al a b → a.map plK = b.map plK
  | [], [], _ => rfl
  | [], _ :: _, e => by simp [R10.Al] at e
  | _ :: _, [], e => by simp [R10.Al] at e
  | x :: a, y :: b, e => by
    simp only [R10.Al, List.map_cons, List.cons.injEq] at e
    have h1 := e.1
    simp only [R10.key, Prod.mk.injEq] at h1
    rw [List.map_cons, List.map_cons, plK_of e.2]
    simp only [plK, h1.1, h1.2]
theorem plH_of : ∀ {a b : Ks}, R10.Al a b → TAl (a.map newH) (b.map newH)
  | [], [], _ => rfl
  | [], _ :: _, e => by simp [R10.Al] at e
  | _ :: _, [], e => by simp [R10.Al] at e
  | x :: a, y :: b, e => by
    simp only [R10.Al, List.map_cons, List.cons.injEq] at e
    have h1 := e.1
    simp only [R10.key, Prod.mk.injEq] at h1
    have ih := plH_of (a := a) (b := b) e.2
    unfold TAl at ih ⊢
    rw [List.map_cons, List.map_cons, List.map_cons, List.map_cons, ih]
    simp only [plH, newH, h1.1, h1.2]
theorem TAl.app {a b c d : Hs} (h : TAl a b) (h2 : TAl c d) : TAl (a ++ c) (b ++ d) := by unfold TAl at *; rw [List.map_append, List.map_append, h, h2]
def Bl (c d : api_Core) : Prop := d = { c with Kept := d.Kept } ∧ R10.Al c.Kept d.Kept
theorem prop_bl (c : api_Core) (k : Ks) : propC { c with Kept := k } = { propC c with Kept := k } := by
  have e : (unsB (beatC { c with Kept := k }) (reachC { c with Kept := k }) && (R12.propF (beatC { c with Kept := k }) (reachC { c with Kept := k })).2) = (unsB (beatC c) (reachC c) && (R12.propF (beatC c) (reachC c)).2) := rfl
  unfold propC
  rw [e]
  by_cases q : (unsB (beatC c) (reachC c) && (R12.propF (beatC c) (reachC c)).2) = true
  · rw [if_pos q, if_pos q]; rfl
  · rw [if_neg q, if_neg q]; rfl
theorem settle_bl (c : api_Core) (k : Ks) : settleF { c with Kept := k } = { settleF c with Kept := k } := by
  have e : (((!({ c with Kept := k } : api_Core).Ready) && allB { c with Kept := k }) && R11.leB (tgt { c with Kept := k }) ({ c with Kept := k } : api_Core).Count) = (((!c.Ready) && allB c) && R11.leB (tgt c) c.Count) := rfl
  unfold settleF
  rw [e]
  by_cases q : (((!c.Ready) && allB c) && R11.leB (tgt c) c.Count) = true
  · rw [if_pos q, if_pos q]
  · rw [if_neg q, if_neg q]
theorem go_bl (c : api_Core) (k : Ks) (t t' : Hs) (hk : R10.Al c.Kept k) (ht : TAl t t') : Bl (goF c t).1 (goF { c with Kept := k } t').1 ∧ TAl (goF c t).2 (goF { c with Kept := k } t').2 := by
  unfold goF
  rw [settle_bl c k]
  by_cases q : b_api_Id c.Promise c.Conf = true
  · rw [if_pos q, if_pos q]; exact ⟨⟨rfl, hk⟩, ht⟩
  · rw [if_neg q, if_neg q]
    have e : (({ settleF c with Kept := k } : api_Core).Ready && doneB { settleF c with Kept := k }) = ((settleF c).Ready && doneB (settleF c)) := rfl
    rw [e]
    by_cases q2 : ((settleF c).Ready && doneB (settleF c)) = true
    · rw [if_pos q2, if_pos q2]
      exact ⟨⟨rfl, rfl⟩, ht.app rfl⟩
    · rw [if_neg q2, if_neg q2]
      refine ⟨⟨rfl, ?_⟩, ht⟩
      show R10.Al (settleF c).Kept k
      rw [settle_k]; exact hk
theorem emit_bl (c : api_Core) (k : Ks) (t t' : Hs) (f f' : Fr) (hk : R10.Al c.Kept k) (ht : TAl t t') : Bl (emitF c t f).1 (emitF { c with Kept := k } t' f').1 ∧ TAl (emitF c t f).2.2 (emitF { c with Kept := k } t' f').2.2 := by
  have e : emB { c with Kept := k } = emB c := rfl
  unfold emitF
  rw [e]
  by_cases q : emB c = true
  · rw [if_pos q, if_pos q]; exact ⟨⟨rfl, hk⟩, ht⟩
  · rw [if_neg q, if_neg q]
    have hx : R10.key (emK c f) = R10.key (emK { c with Kept := k } f') := rfl
    obtain ⟨a1, a2⟩ := R10.take_al hk c.Count c.Members hx
    refine ⟨⟨?_, a1⟩, ht.app (plH_of (a := [emK c f]) (b := [emK { c with Kept := k } f']) (by simp only [R10.Al, List.map_cons, List.map_nil, hx]))⟩
    have e2 : (R10.takeF k c.Count c.Members (emK { c with Kept := k } f')).2.1 = (R10.takeF c.Kept c.Count c.Members (emK c f)).2.1 := by rw [a2]
    show ({ c with Kept := _, Count := (R10.takeF k c.Count c.Members (emK { c with Kept := k } f')).2.1 } : api_Core) = _
    rw [e2]
theorem Bl.eq {c d : api_Core} (h : Bl c d) : d = { c with Kept := d.Kept } := h.1
theorem tick_bl {c d : api_Core} (h : Bl c d) (f f' : Fr) : Bl (tickC c f).1 (tickC d f').1 ∧ TAl (tickC c f).2.2 (tickC d f').2.2 := by
  obtain ⟨h1, h2⟩ := h
  generalize d.Kept = k at h1 h2
  subst h1
  have e : fitsB { c with Kept := k } = fitsB c := rfl
  unfold tickC
  rw [e, prop_bl c k]
  by_cases q : fitsB c = true
  · rw [if_pos q, if_pos q]
    obtain ⟨b1, b2⟩ := go_bl (propC c) k [] [] (by rw [prop_k]; exact h2) rfl
    generalize (goF { propC c with Kept := k } []).2 = t' at *
    generalize (goF { propC c with Kept := k } []).1 = d at *
    rw [b1.eq]
    exact emit_bl _ _ _ _ f f' b1.2 b2
  · rw [if_neg q, if_neg q]; exact ⟨⟨rfl, h2⟩, rfl⟩
def blP (p : api_Packet) (f : Fr) : api_Packet := { p with Newest := f, Older := f, Relay := f }
theorem adopt_bl (c : api_Core) (k : Ks) (p : api_Packet) (f : Fr) : adoptC { c with Kept := k } (blP p f) = { adoptC c p with Kept := k } := by
  have e : R12.adoptF ({ c with Kept := k } : api_Core).Promise ({ c with Kept := k } : api_Core).Self ({ c with Kept := k } : api_Core).Own (blP p f) = R12.adoptF c.Promise c.Self c.Own p := rfl
  unfold adoptC
  rw [e]
  by_cases q : R12.adoptF c.Promise c.Self c.Own p = true
  · rw [if_pos q, if_pos q]; rfl
  · rw [if_neg q, if_neg q]; rfl
theorem off_al (p : api_Packet) (f : Fr) : R10.Al (R10.offF p) (R10.offF (blP p f)) ∧ ∀ y ∈ R10.offF (blP p f), y.Frame = f := by
  unfold R10.offF
  have e : (blP p f).Round = p.Round := rfl
  rw [e]
  by_cases q : p.Round > 1
  · rw [if_pos q, if_pos q]
    refine ⟨rfl, fun y hy => ?_⟩
    simp only [List.cons_append, List.nil_append, List.mem_cons, List.not_mem_nil, or_false] at hy
    rcases hy with rfl | rfl | rfl <;> rfl
  · rw [if_neg q, if_neg q]
    refine ⟨rfl, fun y hy => ?_⟩
    simp only [List.nil_append, List.mem_cons, List.not_mem_nil, or_false] at hy
    rcases hy with rfl | rfl <;> rfl
theorem take_bl (c : api_Core) (k : Ks) (p : api_Packet) (f : Fr) (hk : R10.Al c.Kept k) : Bl (takeC c p).1 (takeC { c with Kept := k } (blP p f)).1 ∧ TAl (takeC c p).2 (takeC { c with Kept := k } (blP p f)).2 := by
  have e : boundsF { c with Kept := k } = boundsF c := rfl
  unfold takeC
  rw [e]
  by_cases q : ((boundsF c).2 && b_api_Id p.Conf c.Conf) = true
  · have q' : ((boundsF c).2 && b_api_Id (blP p f).Conf ({ c with Kept := k } : api_Core).Conf) = true := q
    rw [if_pos q, if_pos q']
    obtain ⟨o1, o2⟩ := off_al p f
    have h := R10.fold_al c.Members (boundsF c).1 f (R10.offF p) (R10.offF (blP p f)) (c.Count, c.Kept, []) (c.Count, k, []) o1 o2 rfl hk rfl (fun y hy => absurd hy (by simp))
    refine ⟨⟨?_, h.2.1⟩, plH_of h.2.2.1⟩
    have e2 : (offS { c with Kept := k } (blP p f) (boundsF c).1).1 = (offS c p (boundsF c).1).1 := h.1.symm
    show ({ c with Count := (offS { c with Kept := k } (blP p f) (boundsF c).1).1, Kept := _ } : api_Core) = _
    rw [e2]
  · have q' : ¬ ((boundsF c).2 && b_api_Id (blP p f).Conf ({ c with Kept := k } : api_Core).Conf) = true := q
    rw [if_neg q, if_neg q']; exact ⟨⟨rfl, hk⟩, rfl⟩
theorem recv_bl {c d : api_Core} (h : Bl c d) (p : api_Packet) (f : Fr) : Bl (recvC c p).1 (recvC d (blP p f)).1 ∧ TAl (recvC c p).2.2 (recvC d (blP p f)).2.2 := by
  obtain ⟨h1, h2⟩ := h
  generalize d.Kept = k at h1 h2
  subst h1
  have e : ((!(fitsB { c with Kept := k }) || (fr (blP p f) == ({ c with Kept := k } : api_Core).Self)) || (!(hrd { c with Kept := k } (blP p f)).2)) = ((!(fitsB c) || (fr p == c.Self)) || (!(hrd c p).2)) := rfl
  unfold recvC
  rw [e, adopt_bl c k p f]
  by_cases q : ((!(fitsB c) || (fr p == c.Self)) || (!(hrd c p).2)) = true
  · rw [if_pos q, if_pos q]; exact ⟨⟨rfl, h2⟩, rfl⟩
  · rw [if_neg q, if_neg q]
    obtain ⟨b1, b2⟩ := take_bl (adoptC c p) k p f (by rw [adopt_k]; exact h2)
    generalize (takeC { adoptC c p with Kept := k } (blP p f)).2 = t' at *
    generalize (takeC { adoptC c p with Kept := k } (blP p f)).1 = d at *
    rw [b1.eq]
    exact go_bl _ _ _ _ b1.2 b2
def blE (e : congresslaw13_Event) (f : Fr) : congresslaw13_Event := { Tick := e.Tick, F := f, P := blP e.P f }
theorem step_bl {c d : api_Core} (h : Bl c d) (e : congresslaw13_Event) (f : Fr) : Bl (stepC c e).1 (stepC d (blE e f)).1 ∧ TAl (stepC c e).2 (stepC d (blE e f)).2 := by
  have q0 : (blE e f).Tick = e.Tick := rfl
  unfold stepC
  rw [q0]
  by_cases q : e.Tick = true
  · rw [if_pos q, if_pos q]; exact tick_bl h e.F f
  · rw [if_neg q, if_neg q]; exact recv_bl h e.P f
theorem EW.bl {p : api_Packet} (h : EW p) (f : Fr) : EW (blP p f) := ⟨⟨h.pw.fr, h.pw.ro, h.pw.rd, h.pw.rr⟩, h.want, h.inc, h.ep, h.pep⟩
end Go.Proofs.Ytcocahffigbmbaa
end

section
set_option linter.unusedVariables false
set_option linter.unusedSimpArgs false
namespace Go.Proofs.Ytcocahffigbmbaa
open Go.Eng
theorem fit_k {n : Nat} (h : n ≤ 2000) : fit n 352 = some () := by
  have : (2000 : Nat) ≤ maxLen := by decide
  unfold fit; rw [if_pos ⟨by omega, by omega⟩]
theorem plain_eq (c : api_Core) (hl : c.Kept.length ≤ 1000) : congressref13_Plain c = some { c with Kept := c.Kept.map plK } := by
  unfold congressref13_Plain
  rw [loop_seq (s0 := ((0 : Int), ([] : Ks))) (fun n => ((n : Int), (c.Kept.take n).map plK)) c.Kept.length (w := .nx (c.Kept.map plK)) (by simp) (fun n hn => by
    rw [if_pos (by simp; omega), ib_n hn]
    simp only [Option.bind_some, Int.toNat_natCast, lt]
    rw [fit_k (by simp; omega)]
    simp only [Option.bind_some]
    rw [w64 (by omega) (by omega), take_s (d := z_api_Kept) hn, List.map_append]; rfl) (by rw [if_neg (by simp)]; simp)]
  rfl
theorem ptold_eq (t : Hs) (hl : t.length ≤ 1000) : congressref13_PlainTold t = some (t.map plH) := by
  unfold congressref13_PlainTold
  rw [loop_seq (s0 := ((0 : Int), ([] : Hs))) (fun n => ((n : Int), (t.take n).map plH)) t.length (w := .nx (t.map plH)) (by simp) (fun n hn => by
    rw [if_pos (by simp; omega), ib_n hn]
    simp only [Option.bind_some, Int.toNat_natCast, lt]
    rw [fit_s (by simp; omega)]
    simp only [Option.bind_some]
    rw [w64 (by omega) (by omega), take_s (d := z_api_Happen) hn, List.map_append]; rfl) (by rw [if_neg (by simp)]; simp)]
  rfl
def frB (o : _root_.List Fr) (n : Nat) : Fr := if n < o.length then o.getD n (fun _ => (fun _ => z_api_Entry)) else z0F
def seqB (c0 : api_Core) (l : _root_.List congresslaw13_Event) (o : _root_.List Fr) : Nat → api_Core
  | 0 => c0
  | n + 1 => (stepC (seqB c0 l o n) (blE (l.getD n z_congresslaw13_Event) (frB o n))).1
theorem seqB_in {s inc w : Int} (h1 : (Lit.int .u32 inc).wf = true) (h : badStart s inc w = false) (l : _root_.List congresslaw13_Event) (o : _root_.List Fr) (hl : ∀ n, n < l.length → EW (l.getD n z_congresslaw13_Event).P) : ∀ n, n ≤ l.length → n ≤ 200 → Rn (3 * n) (seqB (startC s inc w) l o n) ∧ Bl (seqE (startC s inc w) l n) (seqB (startC s inc w) l o n)
  | 0, _, _ => ⟨Rn.start h1 h, rfl, rfl⟩
  | n + 1, hn, hm => by
    have ih := seqB_in h1 h l o hl n (by omega) (by omega)
    exact ⟨ih.1.step (by omega) ((hl n (by omega)).bl _), (step_bl ih.2 _ _).1⟩
theorem bl_plain {c d : api_Core} (h : Bl c d) : ({ d with Kept := d.Kept.map plK } : api_Core) = { c with Kept := c.Kept.map plK } := by
  obtain ⟨h1, h2⟩ := h
  generalize d.Kept = k at *
  subst h1
  rw [plK_of h2]
theorem blind_step {a b : api_Core} {e : congresslaw13_Event} {f : Fr} {x y : api_Core × Hs} (n : Nat) (hn : n ≤ 1000) (hx : congresslaw13_step a e = some x) (hy : congresslaw13_step b (blE e f) = some y) (hb : Bl x.1 y.1) (ht : TAl x.2 y.2) (l1 : x.1.Kept.length ≤ 1000) (l2 : x.2.length ≤ 1000) :
    ((congresslaw13_step a e).bind fun v15 =>
          lt ({ { e with F := f } with P := { ({ e with F := f }).P with Newest := f } } : congresslaw13_Event) fun v17 =>
          lt ({ v17 with P := { v17.P with Older := f } } : congresslaw13_Event) fun v18 =>
          lt ({ v18 with P := { v18.P with Relay := f } } : congresslaw13_Event) fun v19 =>
          (congresslaw13_step b v19).bind fun v20 =>
          (congressref13_Plain ({ v15.1 with Kept := v15.1.Kept } : api_Core)).bind fun v22 =>
          (congressref13_Plain ({ v20.1 with Kept := v20.1.Kept } : api_Core)).bind fun v24 =>
          (congressref13_Is ({ v22 with Kept := v22.Kept } : api_Core) ({ v24 with Kept := v24.Kept } : api_Core)).bind fun v26 =>
          (whn (!(!v26)) (congressref13_PlainTold v15.2) []).bind fun v28 =>
          (whn (!(!v26)) (congressref13_PlainTold v20.2) []).bind fun v30 =>
          (whn (!(!v26)) (congressref13_Told v28 v30) false).bind fun v32 =>
          if ((!v26) || (!v32)) then
            (some (.done (.rt false)) : Option (Stp (Int × api_Core × api_Core) (Fl Bool Unit)))
          else
            some (.next ((IntKind.i64.wrap (n + 1)), ({ v15.1 with Kept := v15.1.Kept } : api_Core), ({ v20.1 with Kept := v20.1.Kept } : api_Core)))) = some (.next (((n + 1 : Nat) : Int), x.1, y.1)) := by
  have wn : IntKind.i64.wrap ((n : Int) + 1) = ((n + 1 : Nat) : Int) := by rw [w64 (by omega) (by omega)]; rfl
  have ly : y.1.Kept.length ≤ 1000 := by rw [← hb.2.len]; exact l1
  have lt2 : y.2.length ≤ 1000 := by
    have := congrArg List.length ht
    simp only [List.length_map] at this; omega
  have m1 : (1000 : Nat) ≤ maxLen := by decide
  have p1 : congressref13_PlainTold y.2 = some (x.2.map plH) := by rw [ptold_eq _ lt2]; exact congrArg some ht.symm
  have p2 : congressref13_Plain y.1 = some { x.1 with Kept := x.1.Kept.map plK } := by rw [plain_eq _ ly, bl_plain hb]
  refine R10.bind_of hx ?_
  refine R10.bind_of (x := congresslaw13_step b (blE e f)) hy ?_
  refine R10.bind_of (plain_eq x.1 l1) (R10.bind_of p2 ?_)
  refine R10.bind_of (is_self _ (by simp; omega)) ?_
  refine R10.bind_of (ptold_eq _ l2) (R10.bind_of p1 (R10.bind_of (told_self _ (by simp; omega)) ?_))
  rw [wn]; rfl
theorem pure_coreBlind (a0 : Int) (a1 : (_root_.List congresslaw13_Event)) (a2 : (_root_.List (Nat → (Nat → api_Entry)))) (w0 : (Lit.int .i64 a0).wf = true) (w1 : (a1.length ≤ maxLen ∧ a1.length * 1504 ≤ 140737488351232) ∧ ∀ j, j < a1.length → w_congresslaw13_Event (a1.getD j z_congresslaw13_Event)) (w2 : (a2.length ≤ maxLen ∧ a2.length * 336 ≤ 140737488351232) ∧ ∀ j, j < a2.length → ∀ j1, j1 < 3 → ∀ j2, j2 < 2 → w_api_Entry (((a2.getD j (fun _ => (fun _ => z_api_Entry))) j1) j2)) : congresslaw13_CoreBlind a0 a1 a2 = some true := by
  unfold congresslaw13_CoreBlind
  rw [start_eq, fixed_eq]
  simp only [Option.bind_some, Bool.not_true, Bool.false_or]
  by_cases hb : badStart a0 1 3 = true
  · have e : startF a0 1 3 = (z_api_Core, false) := by unfold startF; exact if_pos hb
    rw [e]; rfl
  · have hb' := Bool.eq_false_iff.2 hb
    have e : startF a0 1 3 = (startC a0 1 3, true) := by unfold startF; exact if_neg hb
    rw [e, if_neg (show ¬ ((!(startC a0 1 3, true).snd) = true) from Bool.false_ne_true)]
    have hw : ∀ n, n < a1.length → EW (a1.getD n z_congresslaw13_Event).P := fun n hn => w_EW (w1.2 n hn).2.2
    refine R10.bind_of (a := (.nx () : Fl Bool Unit)) ?_ rfl
    refine loop_seq (s0 := ((0 : Int), startC a0 1 3, startC a0 1 3)) (fun n => ((n : Int), seqE (startC a0 1 3) a1 n, seqB (startC a0 1 3) a1 a2 n)) (min a1.length 60) rfl (fun n hn => ?_) ?_
    · have hn1 : n < a1.length := by omega
      have hn2 : n < 60 := by omega
      have ha := seq_in (w := 3) (by decide) hb' a1 hw n (by omega) (by omega)
      have hB := seqB_in (w := 3) (by decide) hb' a1 a2 hw n (by omega) (by omega)
      have ea : seqE (startC a0 1 3) a1 (n + 1) = (stepC (seqE (startC a0 1 3) a1 n) (a1.getD n z_congresslaw13_Event)).1 := rfl
      have eb : seqB (startC a0 1 3) a1 a2 (n + 1) = (stepC (seqB (startC a0 1 3) a1 a2 n) (blE (a1.getD n z_congresslaw13_Event) (frB a2 n))).1 := rfl
      have hr := ha.r.step (by omega) (hw n hn1)
      have hl := told_len ha.r (hw n hn1)
      have hs := step_eq ha.r (hw n hn1)
      have hs2 := step_eq hB.1 (e := blE (a1.getD n z_congresslaw13_Event) (frB a2 n)) ((hw n hn1).bl _)
      have hq := step_bl hB.2 (a1.getD n z_congresslaw13_Event) (frB a2 n)
      have key := blind_step n (by omega) hs hs2 hq.1 hq.2 (by have := hr.len; omega) (by omega)
      rw [if_pos (by simp; omega), ib_n hn1, ea, eb]
      simp only [jn, Option.bind_some, Int.toNat_natCast]
      by_cases q : n < a2.length
      · have ef : frB a2 n = a2.getD n (fun _ => (fun _ => z_api_Entry)) := if_pos q
        rw [if_pos (by simp; omega), ib_n q]
        rw [ef] at key ⊢
        exact key
      · have ef : frB a2 n = z0F := if_neg q
        rw [if_neg (by simp; omega)]
        rw [ef] at key ⊢
        exact key
    · rw [if_neg (by simp; omega)]
end Go.Proofs.Ytcocahffigbmbaa
end

section
set_option linter.unusedVariables false
namespace Go.Proofs.Ytcocahffigbmbaa
open Go.Eng
namespace coreBlind
open Go.ChangeShapes Go.WideShapes Go.ChangeAt Go.RowKit
theorem own : ownKnob Try.prog.godebug = none := by kernel_rfl
theorem laidOut : laidOutB Try.prog = true := by kernel_rfl
set_option maxRecDepth 100000 in
theorem lifted (os : Os) (started : os.Started) (H : Type) (enc : TypeId × Value → H) :
    ReturnsInHanded {} Try.checked os 6 .any (Rows.coreBlindSpec.pre6 enc Try.prog Try.f6 Rows.coreBlindRow.domain false) (Rows.coreBlindSpec.post enc Try.prog Try.f6 false true false false) := by
  refine returnsInHanded_of_change_sized (C := Try.checked) own started (by kernel_rfl) Try.func6
    (ChangeSpec.witness6 (enc := enc) (C := Try.checked) false ⟨#[], #[.int .i64 0, .slice none 0 0, .slice none 0 0], []⟩ 8 (by kernel_rfl) (by kernel_rfl) (by kernel_rfl) (by kernel_rfl)) ?_
  intro W base args ds gs before hval0 hW hcnd hsz0 _
  have hval : ∀ (j : Nat) t v, Try.f6.params[j]? = some t → args[j]? = some v → Value.okWide Try.prog W .any base t v := hval0
  have hW' := hW
  obtain ⟨p, q, hA0, hV, rfl, hfz, hnd⟩ := hW
  have hA : DataW.TrodAll enc Try.prog W 0 (fun _ => true) true Try.f6.params.toList args.toList ds p := hA0
  rw [Try.params6] at hA hval
  obtain ⟨v0, vs0, d0, ds0, p0, q0, hargs, rfl, rfl, h0, r0⟩ := trodAll_cons hA
  obtain ⟨v1, vs1, d1, ds1, p1, q1, rfl, rfl, rfl, h1, r1⟩ := trodAll_cons r0
  obtain ⟨v2, vs2, d2, ds2, p2, q2, rfl, rfl, rfl, h2, r2⟩ := trodAll_cons r1
  obtain ⟨rfl, rfl, rfl⟩ := trodAll_nil r2
  obtain rfl : args = #[v0, v1, v2] := by cases args; simp_all
  obtain ⟨rfl, rfl⟩ := trodVars_none hV
  have lt0 : ∀ x ∈ p0, x.block < W.heap.size := by obtain ⟨m, hm⟩ := h0; exact DataW.trod_lt m _ _ _ hm
  have hwt0 : ∀ n ∈ d0.weights Try.prog 3, n ≤ reachBytes := fun n hn => by have := List.all_eq_true.1 hsz0 n (DataW.weights_mem_each (j := 0) rfl rfl n hn); simpa using this
  obtain ⟨a0, w0, R0⟩ := in3.arg (ag := false) (fun _ => rfl) (VOk.int (by kernel_rfl : Try.prog.underlying 3 = some (.int .i64)) (hval 0 3 v0 rfl rfl)) h0 hwt0
  have lt1 : ∀ x ∈ p1, x.block < W.heap.size := by obtain ⟨m, hm⟩ := h1; exact DataW.trod_lt m _ _ _ hm
  have hwt1 : ∀ n ∈ d1.weights Try.prog 57, n ≤ reachBytes := fun n hn => by have := List.all_eq_true.1 hsz0 n (DataW.weights_mem_each (j := 1) rfl rfl n hn); simpa using this
  obtain ⟨a1, w1, R1⟩ := in57.arg (ag := false) (fun _ => rfl) (VOk.sl (by kernel_rfl : Try.prog.underlying 57 = some (.slice 61)) (hval 1 57 v1 rfl rfl)) h1 hwt1
  have lt2 : ∀ x ∈ p2, x.block < W.heap.size := by obtain ⟨m, hm⟩ := h2; exact DataW.trod_lt m _ _ _ hm
  have hwt2 : ∀ n ∈ d2.weights Try.prog 68, n ≤ reachBytes := fun n hn => by have := List.all_eq_true.1 hsz0 n (DataW.weights_mem_each (j := 2) rfl rfl n hn); simpa using this
  obtain ⟨a2, w2, R2⟩ := in68.arg (ag := false) (fun _ => rfl) (VOk.sl (by kernel_rfl : Try.prog.underlying 68 = some (.slice 41)) (hval 2 68 v2 rfl rfl)) h2 hwt2
  clear hA0 hval0 hsz0
  refine (FSpec.law (congresslaw13_CoreBlind_spec a0 a1 a2 true (pure_coreBlind a0 a1 a2 w0 w1 w2)) W _ (ArgsAre.of (xs := [v0, v1, v2]) ⟨R0, R1, R2, trivial⟩)).mono fun e W' ⟨he, bel⟩ => ?_
  subst he
  exact ⟨_, rfl, _, _, _, [], _, [], hW', trodAll_mk1 (shut_bool Try.underlying4 _), (trodAll_cons_mk (Below.trod laidOut (by kernel_rfl) (of_decide_eq_true (by kernel_rfl)) h0 bel lt0) (trodAll_cons_mk (Below.trod laidOut (by kernel_rfl) (of_decide_eq_true (by kernel_rfl)) h1 bel lt1) (trodAll_cons_mk (Below.trod laidOut (by kernel_rfl) (of_decide_eq_true (by kernel_rfl)) h2 bel lt2) trodAll_mk0))), rfl, bel.frame _, fun h => by cases h⟩
theorem over : Rows.coreBlindRow.holds Try.pinned (OpenSpec.ofChange Rows.coreBlindSpec) :=
  OpenClaim.holds_of_wide 6 Try.f6 rfl rfl rfl rfl rfl rfl rfl ⟨rfl, rfl, rfl, rfl, rfl⟩ rfl rfl rfl rfl rfl (by kernel_rfl) Try.func6 (by kernel_rfl)
    (of_decide_eq_true (by kernel_rfl)) (by unfold Func.isWrapper; first | (rw [if_pos (by decide +kernel)]; kernel_rfl) | (rw [if_neg (by decide +kernel)]; exact ⟨rfl, rfl⟩))
    (fun os started H enc _ => lifted os started H enc)
theorem proved : Rows.CoreBlindSaid := over
end coreBlind
theorem coreBlind_holds : Rows.CoreBlindSaid := coreBlind.proved
end Go.Proofs.Ytcocahffigbmbaa
end
