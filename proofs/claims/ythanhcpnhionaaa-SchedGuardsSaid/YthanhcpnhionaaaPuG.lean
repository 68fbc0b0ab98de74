/- The law SchedGuards in the scheduler's model: guarded panics and an unguarded one. Conditions: those of each theorem. -/
import Derived.Test.YthanhcpnhionaaaPuL
import Derived.Test.YthanhcpnhionaaaSdU
set_option linter.all false
set_option linter.unusedSimpArgs false
set_option linter.unusedVariables false
namespace Go.Am.T
open Go Go.Am Go.Proofs.Ythanhcpnhionaaa Go.Proofs

theorem run_invS {I : Nat → Sx → Prop} {picks : List Int} (step : ∀ m S, I m S → rdy S ≠ [] → ∃ m', m' < m ∧ I m' (stepM S (nextP S.last S.trace.length (rdy S) picks))) :
    ∀ k S m, I m S → m ≤ k → (∃ m', I m' (runM k S picks)) ∧ rdy (runM k S picks) = []
  | 0, S, m, h, hk => by
    refine ⟨⟨m, h⟩, Classical.byContradiction fun e => ?_⟩
    obtain ⟨m', h1, _⟩ := step m S h e
    omega
  | k + 1, S, m, h, hk => by
    unfold runM
    by_cases e : rdy S = []
    · simp only [e]; exact ⟨⟨m, h⟩, e⟩
    · obtain ⟨m', h1, h2⟩ := step m S h e
      simp only [e, if_false]
      exact run_invS step k _ m' h2 (by omega)

theorem rdy_zero {S : Sx} (hN : 0 < S.N) (h : howS S 0 = 3) : ∃ l, rdy S = 0 :: l := by
  unfold rdy rdyTo
  obtain ⟨n, hn⟩ : ∃ n, S.N = n + 1 := ⟨S.N - 1, by omega⟩
  rw [hn, List.range_succ_eq_map, List.filter_cons]
  simp [h]
theorem next_zero {S : Sx} (hN : 0 < S.N) (h : howS S 0 = 3) (hl : S.trace.length < 200) : nextP S.last S.trace.length (rdy S) (List.replicate 200 0) = 0 := by
  obtain ⟨l, e⟩ := rdy_zero hN h
  unfold nextP
  rw [List.getElem?_replicate, if_pos hl, e]
  rfl
theorem next_one {S : Sx} {picks : List Int} (hN : S.N = 2) (h : howS S 0 ≠ 3) (hr : rdy S ≠ []) : nextP S.last S.trace.length (rdy S) picks = 1 ∧ howS S 1 = 3 := by
  obtain ⟨h1, h2⟩ := mem_rdy.1 (nextP_mem (last := S.last) (k := S.trace.length) (picks := picks) hr)
  generalize nextP S.last S.trace.length (rdy S) picks = j at h1 h2
  rw [hN] at h1
  match j, h1 with
  | 0, _ => exact absurd h2 h
  | 1, _ => exact ⟨rfl, h2⟩

section
variable {S : Sx} {i : Nat} {a : Act} (ha : (S.tk i).acts[(S.tk i).at_]? = some a)
include ha
theorem stp12g (hk : a.k = 12) (hg : 0 ≤ (S.tk i).guard) : stepM S i = { S with tk := upd S.tk i { S.tk i with at_ := (S.tk i).guard.toNat, guard := -1, wait := 0 }, regs := upd S.regs 7 a.n, trace := S.trace ++ [(i, (S.tk i).at_)], last := i } := by
  unfold stepM; rw [ha]; simp only [doA, hk]
  simp only [show ¬ ((12 : Int) = 1) by decide, show ¬ ((12 : Int) = 2) by decide, show ¬ ((12 : Int) = 3) by decide, show ¬ ((12 : Int) = 4) by decide, show ¬ ((12 : Int) = 5) by decide, show ¬ ((12 : Int) = 6) by decide, show ¬ ((12 : Int) = 7) by decide, show ¬ ((12 : Int) = 8) by decide, show ¬ ((12 : Int) = 9) by decide, show ¬ ((12 : Int) = 10) by decide, if_false, if_true]
  have e : ¬ ((begS S i).tk i).guard < 0 := by show ¬ (S.tk i).guard < 0; omega
  unfold caughtM
  rw [if_neg e]
  rfl
theorem stp12d (hk : a.k = 12) (hg : (S.tk i).guard < 0) : stepM S i = { S with tk := upd S.tk i { S.tk i with died := true, n := a.n }, trace := S.trace ++ [(i, (S.tk i).at_)], last := i } := by
  unfold stepM; rw [ha]; simp only [doA, hk]
  simp only [show ¬ ((12 : Int) = 1) by decide, show ¬ ((12 : Int) = 2) by decide, show ¬ ((12 : Int) = 3) by decide, show ¬ ((12 : Int) = 4) by decide, show ¬ ((12 : Int) = 5) by decide, show ¬ ((12 : Int) = 6) by decide, show ¬ ((12 : Int) = 7) by decide, show ¬ ((12 : Int) = 8) by decide, show ¬ ((12 : Int) = 9) by decide, show ¬ ((12 : Int) = 10) by decide, if_false, if_true]
  have e : ((begS S i).tk i).guard < 0 := by show (S.tk i).guard < 0; omega
  unfold caughtM
  rw [if_pos e]
  rfl
end

theorem gdL_0 (g : Bool) (ns : List Int) : ∀ m, (gdL g ns m)[0]? = some ⟨1, 1, 0, 0⟩
  | 0 => rfl
  | m + 1 => by
    rw [gdL, List.append_assoc, List.getElem?_append_left (by rw [gdL_len]; omega)]; exact gdL_0 g ns m
theorem gdL_1 (g : Bool) (ns : List Int) {k : Nat} : ∀ {m : Nat}, k < m → (gdL g ns m)[2 * k + 1]? = some (if g then ⟨13, 0, 0, ((2 * k + 3 : Nat) : Int)⟩ else ⟨11, 0, 0, 0⟩) ∧ (gdL g ns m)[2 * k + 2]? = some ⟨12, 0, 0, ns.getD k 0⟩
  | 0, h => by cases h
  | m + 1, h => by
    rw [gdL, List.append_assoc]
    by_cases e : k = m
    · subst e
      constructor
      · rw [List.getElem?_append_right (by rw [gdL_len]; omega), gdL_len, Nat.sub_self]; rfl
      · rw [List.getElem?_append_right (by rw [gdL_len]; omega), gdL_len, show 2 * k + 2 - (2 * k + 1) = 1 by omega]; rfl
    · rw [List.getElem?_append_left (by rw [gdL_len]; omega), List.getElem?_append_left (by rw [gdL_len]; omega)]
      exact gdL_1 g ns (by omega)

def gdA (g : Bool) (ns : List Int) : List Act := gdL g ns ns.length ++ [⟨2, 1, 0, 0⟩]
theorem gdA_len (g : Bool) (ns : List Int) : (gdA g ns).length = 2 * ns.length + 2 := by rw [gdA, List.length_append, gdL_len]; rfl
theorem gdA_0 (g : Bool) (ns : List Int) : (gdA g ns)[0]? = some ⟨1, 1, 0, 0⟩ := by
  rw [gdA, List.getElem?_append_left (by rw [gdL_len]; omega)]; exact gdL_0 g ns _
theorem gdA_1 (g : Bool) (ns : List Int) {k : Nat} (h : k < ns.length) : (gdA g ns)[2 * k + 1]? = some (if g then ⟨13, 0, 0, ((2 * k + 3 : Nat) : Int)⟩ else ⟨11, 0, 0, 0⟩) ∧ (gdA g ns)[2 * k + 2]? = some ⟨12, 0, 0, ns.getD k 0⟩ := by
  rw [gdA, List.getElem?_append_left (by rw [gdL_len]; omega), List.getElem?_append_left (by rw [gdL_len]; omega)]; exact gdL_1 g ns h
theorem gdA_2 (g : Bool) (ns : List Int) : (gdA g ns)[2 * ns.length + 1]? = some ⟨2, 1, 0, 0⟩ := by
  rw [gdA, List.getElem?_append_right (by rw [gdL_len]; omega), gdL_len, Nat.sub_self]; rfl

structure GI (ns : List Int) (S : Sx) (a b : Nat) : Prop where
  N : S.N = 2
  a0 : (S.tk 0).acts = gdA true ns
  a1 : (S.tk 1).acts = [⟨1, 1, 0, 0⟩]
  d0 : (S.tk 0).died = false
  d1 : (S.tk 1).died = false
  at0 : (S.tk 0).at_ = a
  at1 : (S.tk 1).at_ = b
  b1 : b ≤ 1
  ba : b = 1 → a = 2 * ns.length + 2
  al : a ≤ 2 * ns.length + 2
  len : S.trace.length = a + b
  guard : (S.tk 0).guard = if 0 < a ∧ a < 2 * ns.length + 2 ∧ a % 2 = 0 then ((a + 1 : Nat) : Int) else -1
  lock : S.locks 1 = if a = 0 then -1 else if a < 2 * ns.length + 2 then 0 else if b = 0 then -1 else 1
  reg : ∀ k, k < ns.length → a = 2 * k + 3 ∨ a = 2 * k + 4 → S.regs 7 = ns.getD k 0

theorem GI.rdy0 {ns : List Int} {S : Sx} {a b : Nat} (h : GI ns S a b) (ha : a < 2 * ns.length + 2) : howS S 0 = 3 := by
  have key : ∀ x : Act, (S.tk 0).acts[(S.tk 0).at_]? = some x → (x.k = 1 → x.a = 1 ∧ a = 0) → x.k ≠ 3 → x.k ≠ 6 → x.k ≠ 7 → howS S 0 = 3 := by
    intro x hx h1 h3 h6 h7
    rw [how_at h.d0 hx, if_neg, if_neg (by omega), if_neg (by omega), if_neg (by omega)]
    rintro (⟨e, hl⟩ | ⟨e, _⟩)
    · obtain ⟨e2, e3⟩ := h1 e
      rw [e2] at hl
      have hl : 0 ≤ S.locks 1 := hl
      rw [h.lock, if_pos e3] at hl; omega
    · exact h3 e
  have hx : ∀ x, (gdA true ns)[a]? = some x → (S.tk 0).acts[(S.tk 0).at_]? = some x := by intro x hx; rw [h.a0, h.at0]; exact hx
  by_cases e0 : a = 0
  · exact key ⟨1, 1, 0, 0⟩ (hx _ (by rw [e0]; exact gdA_0 true ns)) (fun _ => ⟨rfl, e0⟩) (by simp) (by simp) (by simp)
  by_cases e1 : a = 2 * ns.length + 1
  · exact key ⟨2, 1, 0, 0⟩ (hx _ (by rw [e1]; exact gdA_2 true ns)) (fun e => by simp at e) (by simp) (by simp) (by simp)
  by_cases e2 : a % 2 = 0
  · obtain ⟨k, rfl⟩ : ∃ k, a = 2 * k + 2 := ⟨a / 2 - 1, by omega⟩
    exact key _ (hx _ (gdA_1 true ns (by omega)).2) (fun e => by simp at e) (by simp) (by simp) (by simp)
  · obtain ⟨k, rfl⟩ : ∃ k, a = 2 * k + 1 := ⟨a / 2, by omega⟩
    exact key _ (hx _ (gdA_1 true ns (by omega)).1) (fun e => by simp at e) (by simp) (by simp) (by simp)

theorem GI.go {ns : List Int} {S : Sx} {a b : Nat} (h : GI ns S a b) (ha : a < 2 * ns.length + 2) {S' : Sx} {t : Tk} (eN : S'.N = S.N) (et : S'.tk = upd S.tk 0 t) (t1 : t.acts = (S.tk 0).acts) (t2 : t.died = false) (t3 : t.at_ = a + 1) (el : S'.trace.length = S.trace.length + 1)
    (hg : t.guard = if 0 < a + 1 ∧ a + 1 < 2 * ns.length + 2 ∧ (a + 1) % 2 = 0 then ((a + 1 + 1 : Nat) : Int) else -1) (hl : S'.locks 1 = if a + 1 < 2 * ns.length + 2 then 0 else -1)
    (hr : ∀ k, k < ns.length → a + 1 = 2 * k + 3 ∨ a + 1 = 2 * k + 4 → S'.regs 7 = ns.getD k 0) : GI ns S' (a + 1) b := by
  have hb : b = 0 := by
    have := h.b1; have := h.ba; omega
  refine ⟨eN.trans h.N, ?_, ?_, ?_, ?_, ?_, ?_, h.b1, by omega, by omega, ?_, ?_, ?_, hr⟩
  · rw [et, upd_same, t1]; exact h.a0
  · rw [et, upd_ne (by omega)]; exact h.a1
  · rw [et, upd_same]; exact t2
  · rw [et, upd_ne (by omega)]; exact h.d1
  · rw [et, upd_same]; exact t3
  · rw [et, upd_ne (by omega)]; exact h.at1
  · rw [el, h.len]; omega
  · rw [et, upd_same]; exact hg
  · rw [hl, hb]; simp

theorem GI.step0 {ns : List Int} {S : Sx} {a b : Nat} (h : GI ns S a b) (ha : a < 2 * ns.length + 2) : GI ns (stepM S 0) (a + 1) b := by
  have hx : ∀ x, (gdA true ns)[a]? = some x → (S.tk 0).acts[(S.tk 0).at_]? = some x := by intro x hx; rw [h.a0, h.at0]; exact hx
  have hat := h.at0
  have hgd := h.guard
  have hlk := h.lock
  have hrg := h.reg
  by_cases e0 : a = 0
  · subst e0
    rw [stp1 (a := ⟨1, 1, 0, 0⟩) (hx _ (gdA_0 true ns)) rfl]
    refine h.go ha (t := { S.tk 0 with at_ := (S.tk 0).at_ + 1 }) (by rfl) (by rfl) (by rfl) h.d0 (by rw [hat]) (by simp) ?_ ?_ (by intro k hk e; omega)
    · rw [if_neg (by omega)]; show (S.tk 0).guard = _; rw [hgd, if_neg (by omega)]
    · rw [if_pos (by omega)]; rfl
  rw [if_neg e0, if_pos ha] at hlk
  by_cases e1 : a = 2 * ns.length + 1
  · rw [stp2 (a := ⟨2, 1, 0, 0⟩) (hx _ (by rw [e1]; exact gdA_2 true ns)) rfl (by exact hlk)]
    refine h.go ha (t := { S.tk 0 with at_ := (S.tk 0).at_ + 1 }) (by rfl) (by rfl) (by rfl) h.d0 (by rw [hat]) (by simp) ?_ ?_ ?_
    · rw [if_neg (by omega)]; show (S.tk 0).guard = _; rw [hgd, if_neg (by omega)]
    · rw [if_neg (by omega)]; rfl
    · intro k hk e; exact hrg k hk (by omega)
  by_cases e2 : a % 2 = 0
  · obtain ⟨k, rfl⟩ : ∃ k, a = 2 * k + 2 := ⟨a / 2 - 1, by omega⟩
    rw [if_pos (by omega)] at hgd
    rw [stp12g (hx _ (gdA_1 true ns (by omega)).2) rfl (by rw [hgd]; omega)]
    refine h.go ha (t := { S.tk 0 with at_ := (S.tk 0).guard.toNat, guard := -1, wait := 0 }) (by rfl) (by rfl) (by rfl) h.d0 (by show (S.tk 0).guard.toNat = _; rw [hgd]; omega) (by simp) ?_ ?_ ?_
    · rw [if_neg (by omega)]
    · rw [if_pos (by omega)]; exact hlk
    · intro j hj e
      obtain rfl : j = k := by omega
      rfl
  · obtain ⟨k, rfl⟩ : ∃ k, a = 2 * k + 1 := ⟨a / 2, by omega⟩
    have g1 := (gdA_1 true ns (k := k) (by omega)).1
    simp only [if_true] at g1
    rw [stp13 (hx _ g1) rfl]
    refine h.go ha (t := { S.tk 0 with guard := ((2 * k + 3 : Nat) : Int), at_ := (S.tk 0).at_ + 1 }) (by rfl) (by rfl) (by rfl) h.d0 (by rw [hat]) (by simp) ?_ ?_ ?_
    · rw [if_pos (by omega)]
    · rw [if_pos (by omega)]; exact hlk
    · intro j hj e; exact hrg j hj (by omega)

theorem GI.step1 {ns : List Int} {S : Sx} (h : GI ns S (2 * ns.length + 2) 0) : GI ns (stepM S 1) (2 * ns.length + 2) 1 := by
  have hx : (S.tk 1).acts[(S.tk 1).at_]? = some ⟨1, 1, 0, 0⟩ := by rw [h.a1, h.at1]; rfl
  rw [stp1 hx rfl]
  refine ⟨h.N, ?_, ?_, ?_, ?_, ?_, ?_, by omega, fun _ => rfl, by omega, ?_, ?_, ?_, h.reg⟩
  · show (nx S 1 0).acts = _; rw [nx, upd_ne (by omega)]; exact h.a0
  · show (nx S 1 1).acts = _; rw [nx, upd_same]; exact h.a1
  · show (nx S 1 0).died = _; rw [nx, upd_ne (by omega)]; exact h.d0
  · show (nx S 1 1).died = _; rw [nx, upd_same]; exact h.d1
  · show (nx S 1 0).at_ = _; rw [nx, upd_ne (by omega)]; exact h.at0
  · show (nx S 1 1).at_ = _; rw [nx, upd_same]; show (S.tk 1).at_ + 1 = _; rw [h.at1]
  · show (S.trace ++ [_]).length = _
    rw [List.length_append, h.len]; rfl
  · show (nx S 1 0).guard = _; rw [nx, upd_ne (by omega)]; exact h.guard
  · rw [if_neg (by omega), if_neg (by omega), if_neg (by omega)]; rfl

theorem guards_asked (g : Bool) (ns : List Int) (n2 : ns.length ≤ 60) : askedP (gdT g ns) 1 (List.replicate 200 0) 400 = 0 := by
  refine asked_of (by simp [gdT]) ?_ ?_ (by omega) (by omega) (by omega) (by omega) (by rw [List.length_replicate]; omega) (fun p hp => by have := List.eq_of_mem_replicate hp; omega)
  · intro l hl
    simp only [gdT, List.mem_cons, List.not_mem_nil, or_false] at hl
    rcases hl with rfl | rfl
    · rw [List.length_append, gdL_len]; simp; omega
    · simp
  · intro l hl x hx
    simp only [gdT, List.mem_cons, List.not_mem_nil, or_false] at hl
    rcases hl with rfl | rfl
    · have hlen : (gdL g ns ns.length ++ [(⟨2, 1, 0, 0⟩ : Act)]).length = 2 * ns.length + 2 := gdA_len g ns
      rw [hlen]
      rcases List.mem_append.1 hx with h | h
      · have key : ∀ m, m ≤ ns.length → ∀ x ∈ gdL g ns m, oddA x = false ∧ rightP x (2 * ns.length + 2) = true := by
          intro m
          induction m with
          | zero =>
            intro _ x hx
            simp only [gdL, List.mem_cons, List.not_mem_nil, or_false] at hx
            subst hx; exact ⟨rfl, rfl⟩
          | succ m ih =>
            intro hm x hx
            simp only [gdL, List.mem_append, List.mem_cons, List.not_mem_nil, or_false] at hx
            rcases hx with (hx | hx) | hx
            · exact ih (by omega) x hx
            · cases g with
              | true =>
                simp only [if_true] at hx; subst hx
                refine ⟨rfl, ?_⟩
                simp [rightP, okP, restP]; omega
              | false => simp only [Bool.false_eq_true, if_false] at hx; subst hx; exact ⟨rfl, rfl⟩
            · subst hx; exact ⟨rfl, by simp [rightP, okP, restP]⟩
        exact key _ (Nat.le_refl _) x h
      · simp only [List.mem_cons, List.not_mem_nil, or_false] at h
        subst h; exact ⟨rfl, rfl⟩
    · simp only [List.mem_cons, List.not_mem_nil, or_false] at hx
      subst hx; exact ⟨rfl, rfl⟩

theorem guards_true {ns : List Int} (n1 : 1 ≤ ns.length) (n2 : ns.length ≤ 60) : GuardsOk true ns := by
  have hI0 : GI ns (S0 (gdT true ns) 1) 0 0 := by
    refine ⟨rfl, rfl, rfl, rfl, rfl, rfl, rfl, by omega, by omega, by omega, rfl, rfl, rfl, fun k hk e => by omega⟩
  obtain ⟨⟨m', a, b, hI, _⟩, hR⟩ := run_invS (I := fun m S => ∃ a b, GI ns S a b ∧ m = 2 * ns.length + 3 - (a + b)) (picks := List.replicate 200 0) (by
    rintro m S ⟨a, b, h, rfl⟩ hr
    have hN := h.N
    have hal := h.al
    have hb1 := h.b1
    have hba := h.ba
    by_cases ha : a < 2 * ns.length + 2
    · have h3 := h.rdy0 ha
      rw [next_zero (by omega) h3 (by rw [h.len]; omega)]
      exact ⟨_, by omega, a + 1, b, h.step0 ha, rfl⟩
    · obtain rfl : a = 2 * ns.length + 2 := by omega
      have h0 : howS S 0 = 1 := how_done h.d0 (by rw [h.a0, h.at0, gdA_len]; omega)
      obtain ⟨e, h1⟩ := next_one (picks := List.replicate 200 0) hN (by rw [h0]; decide) hr
      rw [e]
      obtain ⟨hat, _, _⟩ := how_3 h1
      rw [h.a1, h.at1] at hat
      obtain rfl : b = 0 := by simp at hat; omega
      exact ⟨_, by omega, _, 1, h.step1, rfl⟩) 400 (S0 (gdT true ns) 1) _ ⟨0, 0, hI0, rfl⟩ (by omega)
  have hask := guards_asked true ns n2
  generalize hS : runM 400 (S0 (gdT true ns) 1) (List.replicate 200 0) = S at hI hR
  have hN := hI.N
  have hal := hI.al
  have hb1 := hI.b1
  have ha : a = 2 * ns.length + 2 := Classical.byContradiction fun e => rdy_nil hR (i := 0) (by omega) (hI.rdy0 (by omega))
  subst ha
  have hb : b = 1 := by
    refine Classical.byContradiction fun e => rdy_nil hR (i := 1) (by omega) ?_
    obtain rfl : b = 0 := by omega
    have hx : (S.tk 1).acts[(S.tk 1).at_]? = some ⟨1, 1, 0, 0⟩ := by rw [hI.a1, hI.at1]; rfl
    have hl := hI.lock
    rw [if_neg (by omega), if_neg (by omega), if_pos rfl] at hl
    rw [how_at hI.d1 hx, if_neg, if_neg (by simp), if_neg (by simp), if_neg (by simp)]
    rintro (⟨_, h⟩ | ⟨h, _⟩)
    · have h' : 0 ≤ S.locks 1 := h
      omega
    · simp at h
  subst hb
  refine ⟨hask, ?_, ?_, ?_, fun h => Bool.noConfusion h⟩
  · rw [hS]; exact how_done hI.d0 (by rw [hI.a0, hI.at0, gdA_len]; omega)
  · rw [hS]; exact how_done hI.d1 (by rw [hI.a1, hI.at1]; simp)
  · rw [hS]; exact hI.reg (ns.length - 1) (by omega) (.inr (by omega))

structure UI (ns : List Int) (S : Sx) (a : Nat) (d : Bool) : Prop where
  N : S.N = 2
  a0 : (S.tk 0).acts = gdA false ns
  a1 : (S.tk 1).acts = [⟨1, 1, 0, 0⟩]
  d0 : (S.tk 0).died = d
  d1 : (S.tk 1).died = false
  at0 : (S.tk 0).at_ = a
  at1 : (S.tk 1).at_ = 0
  al : a ≤ 2
  len : S.trace.length ≤ 3
  guard : (S.tk 0).guard = -1
  lock : S.locks 1 = if a = 0 then -1 else 0
  reg : S.regs 7 = 0
  num : d = true → a = 2 ∧ (S.tk 0).n = ns.getD 0 0
  ln : S.trace.length = a + if d then 1 else 0

theorem guards_false {ns : List Int} (n1 : 1 ≤ ns.length) (n2 : ns.length ≤ 60) : GuardsOk false ns := by
  have g1 := gdA_1 false ns (k := 0) (by omega)
  have hI0 : UI ns (S0 (gdT false ns) 1) 0 false := by
    refine ⟨rfl, rfl, rfl, rfl, rfl, rfl, rfl, by omega, by simp [S0], rfl, rfl, rfl, fun h => Bool.noConfusion h, rfl⟩
  have r0 : ∀ {S : Sx} {a : Nat}, UI ns S a false → howS S 0 = 3 := by
    intro S a h
    have hal := h.al
    have hx : ∀ x, (gdA false ns)[a]? = some x → (S.tk 0).acts[(S.tk 0).at_]? = some x := by intro x hx; rw [h.a0, h.at0]; exact hx
    match a, hal with
    | 0, _ =>
      rw [how_at h.d0 (hx _ (gdA_0 false ns)), if_neg, if_neg (by simp), if_neg (by simp), if_neg (by simp)]
      rintro (⟨_, e⟩ | ⟨e, _⟩)
      · have e : 0 ≤ S.locks 1 := e
        rw [h.lock] at e; simp at e
      · simp at e
    | 1, _ => rw [how_at h.d0 (hx _ g1.1)]; rfl
    | 2, _ => rw [how_at h.d0 (hx _ g1.2)]; rfl
  have r1 : ∀ {S : Sx}, UI ns S 2 true → howS S 0 = 2 ∧ howS S 1 = 4 := by
    intro S h
    have hx : (S.tk 1).acts[(S.tk 1).at_]? = some ⟨1, 1, 0, 0⟩ := by rw [h.a1, h.at1]; rfl
    refine ⟨how_died h.d0, ?_⟩
    have e := h.lock
    have e2 : 0 ≤ S.locks 1 := by rw [e]; simp
    rw [how_at h.d1 hx, if_pos (.inl ⟨rfl, e2⟩)]
  obtain ⟨⟨m', a, d, hI, _⟩, hR⟩ := run_invS (I := fun m S => ∃ a d, UI ns S a d ∧ m = 3 - (a + if d then 1 else 0)) (picks := List.replicate 200 0) (by
    rintro m S ⟨a, d, h, rfl⟩ hr
    have hN := h.N
    have hal := h.al
    cases d with
    | true =>
      obtain ⟨rfl, _⟩ := h.num rfl
      obtain ⟨k0, k1⟩ := r1 h
      obtain ⟨_, h1⟩ := next_one (picks := List.replicate 200 0) hN (by rw [k0]; decide) hr
      rw [k1] at h1; cases h1
    | false =>
      have hlen := h.len
      have hln := h.ln
      rw [next_zero (by omega) (r0 h) (by omega)]
      have hx : ∀ x, (gdA false ns)[a]? = some x → (S.tk 0).acts[(S.tk 0).at_]? = some x := by intro x hx; rw [h.a0, h.at0]; exact hx
      have hat := h.at0
      have go : ∀ (S' : Sx) (t : Tk) (a' : Nat) (d' : Bool), S'.N = S.N → S'.tk = upd S.tk 0 t → t.acts = (S.tk 0).acts → t.died = d' → t.at_ = a' → t.guard = -1 → a' ≤ 2 → S'.trace.length = S.trace.length + 1 → S'.locks 1 = (if a' = 0 then -1 else 0) → S'.regs 7 = 0 →
          (d' = true → a' = 2 ∧ t.n = ns.getD 0 0) → (a' + (if d' then 1 else 0) = a + 1) → UI ns S' a' d' := by
        intro S' t a' d' eN et t1 t2 t3 t4 hal' el hl hr hn hs
        simp only [Bool.false_eq_true, if_false] at hln
        refine ⟨eN.trans hN, ?_, ?_, ?_, ?_, ?_, ?_, hal', by omega, ?_, hl, hr, ?_, by omega⟩
        · rw [et, upd_same, t1]; exact h.a0
        · rw [et, upd_ne (by omega)]; exact h.a1
        · rw [et, upd_same]; exact t2
        · rw [et, upd_ne (by omega)]; exact h.d1
        · rw [et, upd_same]; exact t3
        · rw [et, upd_ne (by omega)]; exact h.at1
        · rw [et, upd_same]; exact t4
        · rw [et, upd_same]; exact hn
      match a, hal with
      | 0, _ =>
        rw [stp1 (hx _ (gdA_0 false ns)) rfl]
        refine ⟨_, by simp, 1, false, go _ { S.tk 0 with at_ := (S.tk 0).at_ + 1 } 1 false rfl rfl rfl h.d0 (by rw [hat]) h.guard (by omega) (by simp) rfl h.reg (fun e => Bool.noConfusion e) rfl, rfl⟩
      | 1, _ =>
        have hl := h.lock
        rw [stp11 (hx _ g1.1) rfl]
        refine ⟨_, by simp, 2, false, go _ { S.tk 0 with at_ := (S.tk 0).at_ + 1 } 2 false rfl rfl rfl h.d0 (by rw [hat]) h.guard (by omega) (by simp) hl h.reg (fun e => Bool.noConfusion e) rfl, rfl⟩
      | 2, _ =>
        have hl := h.lock
        rw [stp12d (hx _ g1.2) rfl (by rw [h.guard]; decide)]
        refine ⟨_, by simp, 2, true, go _ { S.tk 0 with died := true, n := ns.getD 0 0 } 2 true rfl rfl rfl rfl hat h.guard (by omega) (by simp) hl h.reg (fun _ => ⟨rfl, rfl⟩) rfl, rfl⟩) 400 (S0 (gdT false ns) 1) _ ⟨0, false, hI0, rfl⟩ (by simp)
  have hask := guards_asked false ns n2
  generalize hS : runM 400 (S0 (gdT false ns) 1) (List.replicate 200 0) = S at hI hR
  have hN := hI.N
  cases d with
  | false => exact absurd (r0 hI) (rdy_nil hR (by omega))
  | true =>
    obtain ⟨rfl, hn⟩ := hI.num rfl
    obtain ⟨k0, k1⟩ := r1 hI
    exact ⟨hask, by rw [hS]; exact k0, by rw [hS]; exact k1, by rw [hS]; exact hI.reg, fun _ => by rw [hS]; exact hn⟩
end Go.Am.T
