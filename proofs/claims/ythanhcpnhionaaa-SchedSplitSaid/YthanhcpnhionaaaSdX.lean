/- The walk of the law SchedSplit. Conditions: those of each theorem. -/
import Derived.Test.YthanhcpnhionaaaSdW
import Derived.Test.YthanhcpnhionaaaPuA
set_option linter.all false
set_option linter.unusedSimpArgs false
set_option linter.unusedVariables false
namespace Go.Am.T
open Go Go.Am Go.Proofs.Ythanhcpnhionaaa Go.Proofs

theorem appS_ownF {p : Nat → Prop} {H : Heap} {es ty bytes : Nat} {n m : Nat} {cs vs : List Value} {y : Value} {a : Option Addr} {c : Nat} (h : OwnL p H es ty (.slice a n c) n cs) (hy : lengthA y = some m) (hf : firstA H es m y = some vs) (hl : vs.length = m * es) (h0 : es ≠ 0) (hm : m ≠ 0)
    (ho : vs.all Heap.oneC = true) (hb : 4 * (n + m) * bytes + 4096 ≤ 2 ^ 47) (hb2 : n + m ≤ 2 ^ 47) :
    appS H ty es bytes a n c y = some (.slice (some ⟨H.next, 0, none⟩) (n + m) openCap, (delV H (.slice a n c)).alloc ⟨ty, es, true, cs ++ vs⟩) := by
  have hme : es ≤ m * es := Nat.le_mul_of_pos_left es (by omega)
  rcases h with ⟨h1, h2, h3⟩ | ⟨b, o, pre, h1, h2, h3, h4, h5, h6⟩
  · cases h1; subst h3
    unfold appS
    simp only [hy, Option.bind_eq_bind, Option.bind_some, hf]
    have e1 : ¬ (4 * (0 + m) * bytes + 4096 > 2 ^ 47 || (0 + m > 2 ^ 47)) = true := by
      have hb' := hb
      rw [Nat.zero_add] at hb'
      rw [Nat.zero_add]; simp; omega
    rw [if_pos (show 0 ≠ openCap by unfold openCap; omega), if_neg (by omega), if_neg e1]
    simp [firstA, delV, next_delV]
  · cases h1
    unfold appS
    simp only [hy, Option.bind_eq_bind, Option.bind_some, hf]
    rw [if_neg (by simp)]
    have e1 : ¬ (4 * (n + m) * bytes + 4096 > 2 ^ 47 || (n + m > 2 ^ 47)) = true := by simp; omega
    have e2 : o + (n + m) * es ≤ (pre ++ cs).length ↔ False := by
      simp only [List.length_append, h5, h6, Nat.add_mul, iff_false]; omega
    have e3 : ¬ ((o + n * es ≠ (pre ++ cs).length || !vs.all Heap.oneC) = true) := by
      simp [h5, h6, ho]
    have e4 : ¬ (b < base0) := by omega
    simp only [Option.isSome_none, Bool.false_or, h4, Option.bind_some, ne_eq, not_true_eq_false, decide_false, Bool.not_true, Bool.false_eq_true, if_false, hm, e2, e4]
    simp only [ne_eq] at e3
    rw [if_neg e3, if_neg e1]
    simp [delV, ← h5]

theorem rd_first {H : Heap} {a : Option Addr} {c : Nat} {l : List Int} (h : RdI H (.slice a l.length c) (l.map iv)) (h0 : l ≠ []) : firstA H 1 l.length (.slice a l.length c) = some (l.map iv) := by
  obtain ⟨a', c', e, k⟩ := h
  simp only [Value.slice.injEq, List.length_map, true_and] at e
  obtain ⟨rfl, rfl⟩ := e
  obtain ⟨hc, b, o, x, rfl, hx, q⟩ := k (by simpa using h0)
  have hl : l.length ≠ 0 := fun e => h0 (List.eq_nil_of_length_eq_zero e)
  show (if l.length = 0 then some [] else if c = 0 then none else H.loads ⟨b, o, none⟩ (l.length * 1)) = _
  have hle : o + l.length * 1 ≤ x.cells.length := by
    have := (List.getElem?_eq_some_iff.1 (q (l.length - 1) (by simp; omega))).1
    omega
  rw [if_neg hl, if_neg hc, loads_eq, hx, Option.bind_some, if_pos hle]
  congr 1
  apply List.ext_getElem?
  intro i
  rw [List.getElem?_take]
  split
  · rename_i hi
    have hi : i < (l.map iv).length := by simpa using hi
    rw [List.getElem?_drop, q i hi, List.getElem?_eq_getElem hi]
  · rename_i hi
    rw [List.getElem?_eq_none (by simpa using hi)]
theorem iv_one (l : List Int) : (l.map iv).all Heap.oneC = true := by
  induction l with
  | nil => rfl
  | cons z l ih => simp only [List.map_cons, List.all_cons, ih, Bool.and_true]; rfl

theorem appNilR {H : Heap} (hw : WF H) {a : Option Addr} {c : Nat} {l : List Int} (h : RdI H (.slice a l.length c) (l.map iv)) (hb : l.length ≤ 1000) :
    ∃ v' H', appS H 3 1 8 none 0 0 (.slice a l.length c) = some (v', H') ∧ Ext H H' ∧ OwnL (fun b => H.next ≤ b) H' 1 3 v' l.length (l.map iv) := by
  by_cases h0 : l = []
  · subst h0
    exact ⟨.slice none 0 0, H, appS_nil0, Ext.refl hw, .inl ⟨rfl, rfl, rfl⟩⟩
  · have hl : 0 < l.length := List.length_pos_iff.2 h0
    refine ⟨_, _, appS_nil rfl (rd_first h h0) hl (by omega) (by omega), (Ext.refl hw).alloc _, .inr ⟨H.next, 0, [], rfl, hw.1, Nat.le_refl _, get_alloc_eq hw.1, rfl, by simp⟩⟩
theorem appR2 {H0 H : Heap} (hE : Ext H0 H) {a a2 : Option Addr} {c c2 : Nat} {l m : List Int} (h : OwnL (fun b => H0.next ≤ b) H 1 3 (.slice a l.length c) l.length (l.map iv)) (hm : RdI H (.slice a2 m.length c2) (m.map iv)) (hb : l.length ≤ 1000) (hb2 : m.length ≤ 1000) :
    ∃ v' H', appS H 3 1 8 a l.length c (.slice a2 m.length c2) = some (v', H') ∧ Ext H0 H' ∧ RdI H' v' ((l ++ m).map iv) := by
  by_cases h0 : m = []
  · subst h0
    rw [List.append_nil]
    rcases h with ⟨h1, h2, h3⟩ | ⟨b, o, pre, h1, h2, h3, h4, h5, h6⟩
    · have hl : l = [] := List.eq_nil_of_length_eq_zero h2
      subst hl
      cases h1
      exact ⟨.slice none 0 0, H, appS_nil0, hE, ⟨none, 0, rfl, fun h => absurd rfl h⟩⟩
    · simp only [Value.slice.injEq, true_and] at h1
      obtain ⟨rfl, rfl⟩ := h1
      have hO : OwnL (fun b => H0.next ≤ b) H 1 3 (.slice (some ⟨b, o, none⟩) l.length openCap) l.length (l.map iv) := .inr ⟨b, o, pre, rfl, h2, h3, h4, h5, h6⟩
      refine ⟨.slice (some ⟨b, o, none⟩) l.length openCap, H, ?_, hE, hO.rd⟩
      have hf : firstA H 1 0 (.slice a2 0 c2) = some [] := by cases a2 <;> rfl
      unfold appS
      show (Option.bind (some 0) _) = _
      simp only [List.length_nil, Option.bind_some, hf, Option.bind_eq_bind]
      rw [if_neg (by simp)]
      have e4 : ¬ (b < base0) := by omega
      simp [h4, e4]
  · have hl : m.length ≠ 0 := fun e => h0 (List.eq_nil_of_length_eq_zero e)
    have e := appS_ownF (bytes := 8) h (y := .slice a2 m.length c2) rfl (rd_first hm h0) (by simp) (by omega) hl (iv_one m) (by omega) (by omega)
    refine ⟨_, _, e, Ext.app hE h _, ?_⟩
    have hnb := hE.wf.1
    have hO : OwnL (fun _ => True) ((delV H (.slice a l.length c)).alloc ⟨3, 1, true, l.map iv ++ m.map iv⟩) 1 3 (.slice (some ⟨H.next, 0, none⟩) (l.length + m.length) openCap) (l.length + m.length) (l.map iv ++ m.map iv) :=
      .inr ⟨H.next, 0, [], rfl, hnb, trivial, by rw [get_alloc_at (by rw [next_delV]; exact hnb) (by rw [next_delV])]; rfl, rfl, by simp⟩
    rw [List.map_append]
    exact hO.rd

/- the first i of a slice -/
theorem slice_to {H : Heap} {b o n c i : Nat} (h : i ≤ n) (hn : n ≤ c) (hc : c < openCap) : sliceS H 1 (some ⟨b, o, none⟩) n c none (some (.int .i64 i)) none = some (.slice (some ⟨b, o, none⟩) i c) := by
  unfold sliceS
  rw [if_neg (by omega)]
  have h2 : (i : Int) ≤ (c : Int) := by omega
  have h3 : i ≤ c := by omega
  simp [boundA, h3]
theorem RdI.pre {H : Heap} {b o c : Nat} {l : List Int} {i : Nat} (h : RdI H (.slice (some ⟨b, o, none⟩) l.length c) (l.map iv)) (hi : i < l.length) : RdI H (.slice (some ⟨b, o, none⟩) i c) ((l.take i).map iv) := by
  obtain ⟨a', c', e, k⟩ := h
  simp only [Value.slice.injEq, List.length_map, true_and] at e
  obtain ⟨rfl, rfl⟩ := e
  obtain ⟨hc, b', o', x, e, hx, q⟩ := k (by intro e; have := congrArg List.length e; rw [List.length_map] at this; simp only [List.length_nil] at this; omega)
  refine ⟨_, c, by rw [List.length_map, List.length_take, Nat.min_eq_left (Nat.le_of_lt hi)], fun _ => ⟨hc, b', o', x, e, hx, fun j hj => ?_⟩⟩
  have hj' : j < i := by rw [List.length_map, List.length_take, Nat.min_eq_left (Nat.le_of_lt hi)] at hj; exact hj
  rw [q j (by simp; omega)]
  simp

theorem asked_iff {ts : List (List Act)} {room most : Int} {picks : List Int} : askedP ts room picks most = 0 ↔ mayP ts = 0 ∧ 1 ≤ room ∧ room ≤ 16 ∧ 0 ≤ most ∧ most ≤ 65536 ∧ picks.length ≤ 65536 ∧ ∀ p ∈ picks, 0 ≤ p := by
  have ha : picks.any (fun p => decide (p < 0)) = true ↔ ¬ ∀ p ∈ picks, 0 ≤ p := by
    simp only [List.any_eq_true, decide_eq_true_eq]
    constructor
    · rintro ⟨p, h1, h2⟩ h
      have := h p h1; omega
    · intro h
      refine Classical.byContradiction fun k => h fun p hp => ?_
      refine Classical.byContradiction fun e => k ⟨p, hp, by omega⟩
  unfold askedP
  by_cases c0 : mayP ts = 0
  case neg => rw [if_pos (by simpa using c0)]; exact ⟨fun h => absurd h c0, fun h => absurd h.1 c0⟩
  rw [if_neg (by simpa using c0)]
  by_cases c1 : room < 1
  · rw [if_pos c1]; exact ⟨(fun h => by cases h), fun h => by omega⟩
  rw [if_neg c1]
  by_cases c2 : 16 < room
  · rw [if_pos c2]; exact ⟨(fun h => by cases h), fun h => by omega⟩
  rw [if_neg c2]
  by_cases c3 : most < 0
  · rw [if_pos c3]; exact ⟨(fun h => by cases h), fun h => by omega⟩
  rw [if_neg c3]
  by_cases c4 : 65536 < most
  · rw [if_pos c4]; exact ⟨(fun h => by cases h), fun h => by omega⟩
  rw [if_neg c4]
  by_cases c5 : 65536 < picks.length
  · rw [if_pos c5]; exact ⟨(fun h => by cases h), fun h => by omega⟩
  rw [if_neg c5]
  by_cases c6 : picks.any (fun p => decide (p < 0)) = true
  · rw [if_pos c6]; exact ⟨fun h => (by cases h), fun h => absurd h.2.2.2.2.2.2 (ha.1 c6)⟩
  · rw [if_neg c6]
    refine ⟨fun _ => ⟨c0, by omega, by omega, by omega, by omega, by omega, ?_⟩, fun _ => rfl⟩
    exact Classical.byContradiction fun k => c6 (ha.2 k)

structure SpIn (G : Heap) (tv pv mv : Value) (ts : List (List Act)) (av : Nat → Value) (picks more : List Int) : Prop where
  wf : WF G
  t : TasksAt G tv ts av
  p : RdI G pv (picks.map iv)
  m : RdI G mv (more.map iv)
theorem SpIn.of {G G' : Heap} {tv pv mv : Value} {ts : List (List Act)} {av : Nat → Value} {picks more : List Int} (h : SpIn G tv pv mv ts av picks more) (e : Ext G G') : SpIn G' tv pv mv ts av picks more :=
  ⟨e.wf, h.t.of h.wf e, h.p.of fun b x hb => e.of h.wf hb, h.m.of fun b x hb => e.of h.wf hb⟩

theorem lens {S : Sx} (h1 : S.trace.length ≤ 200) (h2 : S.N ≤ 20) (hq : ∀ j, (S.queues j).length ≤ S.trace.length) : (trI S).length ≤ 70368744177664 ∧ (rgI S).length ≤ 70368744177664 ∧ (enI S).length ≤ 70368744177664 ∧ (qsI S).length ≤ 70368744177664 ∧ ∀ q ∈ qsI S, q.length ≤ 70368744177664 := by
  refine ⟨by simp [trI]; omega, by simp [rgI], by simp [enI]; omega, by simp [qsI], fun q hm => ?_⟩
  obtain ⟨j, _, rfl⟩ := List.mem_map.1 hm
  have := hq j; omega

/- the law's second half -/
def R4 : IC := (.seq (.seq (.reg [.o 16 (.assign (.const (.int .i64 0)))]) (.block 2 (.loop L4_2))) (.seq (.seq (.reg [.o 148 (.fieldAddr 33 (.tmp 11) 0), .o 149 (.load 3 (.tmp 148)), .o 150 (.binOp .lss 3 (.tmp 149) (.const (.int .i64 200)) 3), .o 151 (.move (.tmp 150)), .g 151 true (some 152) (.fieldAddr 33 (.tmp 11) 0), .g 151 true (some 153) (.load 3 (.tmp 152)), .g 151 true (some 154) (.move (.tmp 2)), .g 151 true (some 155) (.call ⟨(.builtin .len), #[(.tmp 154)], #[23]⟩), .g 151 true (some 156) (.binOp .leq 3 (.tmp 153) (.tmp 155) 3), .o 157 (.pick (.tmp 151) (.tmp 156) (.const (.bool false)))]) (.cond (.tmp 157) (.seq (.reg [.o 159 (.move (.tmp 0)), .o 160 (.move (.tmp 1)), .o 161 (.move (.tmp 2)), .o 162 (.call ⟨(.builtin .append), #[(.const (.slice none 0 0)), (.tmp 161)], #[23, 23]⟩), .o 163 (.move (.tmp 4)), .o 164 (.call ⟨(.builtin .append), #[(.tmp 162), (.tmp 163)], #[23, 23]⟩), .o 165 (.call ⟨(.value (.func 15)), #[(.tmp 159), (.tmp 160), (.tmp 164), (.const (.int .i64 200))], #[22, 3, 23, 3]⟩), .o 158 (.move (.tmp 165)), .o 166 (.extract (.tmp 158) 0), .o 167 (.extract (.tmp 158) 1), .o 19 (.alloc 33), .n (.store 33 (.tmp 19) (.tmp 166)), .o 20 (.assign (.tmp 167))]) (.seq (.reg [.o 168 (.move (.tmp 20)), .o 169 (.binOp .neq 26 (.tmp 168) (.const (.int .i64 0)) 26), .o 170 (.move (.tmp 169)), .g 170 false (some 171) (.load 33 (.tmp 19)), .g 170 false (some 172) (.load 33 (.tmp 11)), .g 170 false (some 173) (.call ⟨(.value (.func 16)), #[(.tmp 171), (.tmp 172)], #[33, 33]⟩), .o 174 (.pick (.tmp 170) (.const (.bool true)) (.tmp 173)), .o 10 (.assign (.tmp 174))]) .ret)) .skip)) (.seq (.reg [.o 10 (.assign (.const (.bool true)))]) .ret)))
theorem C4_eq : C4 = (.seq (.reg [.o 10 (.assign (.const (.bool false)))]) (.seq (.seq (.reg [.o 21 (.call ⟨(.value (.func 9)), #[], #[]⟩), .o 22 (.unOp .not 4 (.tmp 21))]) (.cond (.tmp 22) (.seq (.reg [.o 10 (.assign (.const (.bool false)))]) .ret) .skip)) (.seq (.seq (.reg [.o 23 (.move (.tmp 2)), .o 24 (.call ⟨(.builtin .len), #[(.tmp 23)], #[23]⟩), .o 25 (.binOp .gtr 3 (.tmp 24) (.const (.int .i64 60)) 3), .o 26 (.move (.tmp 25)), .g 26 false (some 27) (.move (.tmp 4)), .g 26 false (some 28) (.call ⟨(.builtin .len), #[(.tmp 27)], #[23]⟩), .g 26 false (some 29) (.binOp .gtr 3 (.tmp 28) (.const (.int .i64 60)) 3), .o 30 (.pick (.tmp 26) (.const (.bool true)) (.tmp 29)), .o 31 (.move (.tmp 30)), .g 31 false (some 32) (.move (.tmp 0)), .g 31 false (some 33) (.call ⟨(.builtin .len), #[(.tmp 32)], #[22]⟩), .g 31 false (some 34) (.binOp .gtr 3 (.tmp 33) (.const (.int .i64 20)) 3), .o 35 (.pick (.tmp 31) (.const (.bool true)) (.tmp 34))]) (.cond (.tmp 35) (.seq (.reg [.o 10 (.assign (.const (.bool true)))]) .ret) .skip)) (.seq (.reg [.o 37 (.move (.tmp 0)), .o 38 (.move (.tmp 1)), .o 39 (.move (.tmp 2)), .o 40 (.call ⟨(.value (.func 15)), #[(.tmp 37), (.tmp 38), (.tmp 39), (.const (.int .i64 200))], #[22, 3, 23, 3]⟩), .o 36 (.move (.tmp 40)), .o 41 (.extract (.tmp 36) 0), .o 42 (.extract (.tmp 36) 1), .o 11 (.alloc 33), .n (.store 33 (.tmp 11) (.tmp 41)), .o 12 (.assign (.tmp 42))]) (.seq (.seq (.reg [.o 43 (.move (.tmp 12)), .o 44 (.binOp .neq 26 (.tmp 43) (.const (.int .i64 0)) 26)]) (.cond (.tmp 44) (.seq (.reg [.o 45 (.fieldAddr 33 (.tmp 11) 0), .o 46 (.load 3 (.tmp 45)), .o 47 (.binOp .eql 3 (.tmp 46) (.const (.int .i64 0)) 3), .o 48 (.move (.tmp 47)), .g 48 true (some 49) (.fieldAddr 33 (.tmp 11) 1), .g 48 true (some 50) (.load 28 (.tmp 49)), .g 48 true (some 51) (.call ⟨(.builtin .len), #[(.tmp 50)], #[28]⟩), .g 48 true (some 52) (.binOp .eql 3 (.tmp 51) (.const (.int .i64 0)) 3), .o 53 (.pick (.tmp 48) (.tmp 52) (.const (.bool false))), .o 10 (.assign (.tmp 53))]) .ret) .skip)) (.seq (.seq (.reg [.o 54 (.move (.tmp 3)), .o 55 (.binOp .geq 3 (.tmp 54) (.const (.int .i64 0)) 3), .o 56 (.move (.tmp 55)), .g 56 true (some 57) (.move (.tmp 3)), .g 56 true (some 58) (.fieldAddr 33 (.tmp 11) 0), .g 56 true (some 59) (.load 3 (.tmp 58)), .g 56 true (some 60) (.binOp .leq 3 (.tmp 57) (.tmp 59) 3), .o 61 (.pick (.tmp 56) (.tmp 60) (.const (.bool false)))]) (.cond (.tmp 61) (.seq (.reg [.o 63 (.move (.tmp 0)), .o 64 (.move (.tmp 1)), .o 65 (.move (.tmp 2)), .o 66 (.move (.tmp 3)), .o 67 (.call ⟨(.value (.func 15)), #[(.tmp 63), (.tmp 64), (.tmp 65), (.tmp 66)], #[22, 3, 23, 3]⟩), .o 62 (.move (.tmp 67)), .o 68 (.extract (.tmp 62) 0), .o 69 (.extract (.tmp 62) 1), .o 13 (.alloc 33), .n (.store 33 (.tmp 13) (.tmp 68)), .o 14 (.assign (.tmp 69))]) (.seq (.seq (.reg [.o 70 (.move (.tmp 14)), .o 71 (.binOp .neq 26 (.tmp 70) (.const (.int .i64 0)) 26), .o 72 (.move (.tmp 71)), .g 72 false (some 73) (.fieldAddr 33 (.tmp 13) 0), .g 72 false (some 74) (.load 3 (.tmp 73)), .g 72 false (some 75) (.move (.tmp 3)), .g 72 false (some 76) (.binOp .neq 3 (.tmp 74) (.tmp 75) 3), .o 77 (.pick (.tmp 72) (.const (.bool true)) (.tmp 76)), .o 78 (.move (.tmp 77)), .g 78 false (some 79) (.fieldAddr 33 (.tmp 13) 1), .g 78 false (some 80) (.load 28 (.tmp 79)), .g 78 false (some 81) (.call ⟨(.builtin .len), #[(.tmp 80)], #[28]⟩), .g 78 false (some 82) (.move (.tmp 3)), .g 78 false (some 83) (.binOp .neq 3 (.tmp 81) (.tmp 82) 3), .o 84 (.pick (.tmp 78) (.const (.bool true)) (.tmp 83))]) (.cond (.tmp 84) (.seq (.reg [.o 10 (.assign (.const (.bool false)))]) .ret) .skip)) (.seq (.reg [.o 15 (.assign (.const (.int .i64 0)))]) (.block 0 (.loop L4_1))))) .skip)) R4)))))) := rfl

theorem split_tail {f : Tr Value} {F : Heap} {tv mv : Value} {pa : Option Addr} {pc : Nat} {ts : List (List Act)} {av : Nat → Value} {picks more : List Int} {room : Int} {rb : Nat} {trv rgv ev qsv : Value} {Q : CR → Heap → Prop} (hQ : ∀ H, Q (.ret (.bool true)) H)
    (hI : SpIn F tv (.slice pa picks.length pc) mv ts av picks more) (hpc : picks.length ≤ pc ∧ pc < openCap) (l1 : picks.length ≤ 60) (l2 : more.length ≤ 60) (l3 : ts.length ≤ 20) (hask : askedP ts room picks 200 = 0)
    (f0 : f.get 0 = some tv) (f1 : f.get 1 = some (.int .i64 room)) (f2 : f.get 2 = some (.slice pa picks.length pc)) (f4 : f.get 4 = some mv) (f11 : f.get 11 = some (.pointer (some ⟨rb, 0, none⟩)))
    (hcell : F.get rb = some ⟨33, 0, false, [nv (runM 200 (S0 ts room) picks).trace.length, trv, rgv, ev, qsv]⟩) (hV : RanV F trv rgv ev qsv (trI (runM 200 (S0 ts room) picks)) (rgI (runM 200 (S0 ts room) picks)) (enI (runM 200 (S0 ts room) picks)) (qsI (runM 200 (S0 ts room) picks))) :
    Wk Try.prog [.c R4] (some ⟨175, f, [], F⟩) (retW Try.prog [.tmp 10] Q) := by
  have hfine := asked_ok hask
  have hst := runM_len 200 (S := S0 ts room) picks
  have hst : (runM 200 (S0 ts room) picks).trace.length ≤ 200 := by simpa [S0] using hst
  have hpk : ∀ i (h1 : i < (runM 200 (S0 ts room) picks).trace.length) (h2 : i < picks.length), _ := fun i h1 h2 => pick_at (ts := ts) (room := room) (picks := picks) (most := 200) h1 h2
  have hmore := more_eq (ts := ts) (room := room) (picks := picks) (most := 200) (more := more)
  have hN : (runM 200 (S0 ts room) picks).N = ts.length := (runM_N 200 picks).1
  have hqb : ∀ j, ((runM 200 (S0 ts room) picks).queues j).length ≤ (runM 200 (S0 ts room) picks).trace.length := (okR_run 200 picks hfine.okR).qb
  have hlens := lens hst (by rw [hN]; exact l3) hqb
  obtain ⟨ta, tc, htv⟩ : ∃ a c, tv = .slice a ts.length c := by
    obtain ⟨⟨a, c, e, _⟩, _⟩ := hI.t
    exact ⟨a, c, by simpa using e⟩
  obtain ⟨ma, mc, hmv⟩ : ∃ a c, mv = .slice a more.length c := by
    obtain ⟨a, c, e, _⟩ := hI.m
    exact ⟨a, c, by simpa using e⟩
  subst htv hmv
  unfold R4
  obtain ⟨tb, tb2, rfl, _⟩ := id hV.tr_
  have htl : (trI (runM 200 (S0 ts room) picks)).length = (runM 200 (S0 ts room) picks).trace.length := by simp [trI]
  simp (config := { implicitDefEqProofs := false, maxDischargeDepth := 6, maxSteps := 1000000 }) only [go_sem, ↓reduceIte, Nat.reduceLT, Nat.reduceLeDiff, Nat.reduceEqDiff, Nat.reduceAdd, Nat.reduceMul, Nat.reduceSub, Nat.reduceBEq, reduceCtorEq, Int.reduceEq, Int.reduceLT, Int.reduceLE, Int.reduceNeg, Int.reduceToNat, nv]
  refine Wk_loopF (fun m f G => ∃ k, m = picks.length - k ∧ k ≤ picks.length ∧ k ≤ (runM 200 (S0 ts room) picks).trace.length ∧ f.get 0 = some (.slice ta ts.length tc) ∧ f.get 1 = some (.int .i64 room) ∧ f.get 2 = some (.slice pa picks.length pc) ∧ f.get 4 = some (.slice ma more.length mc) ∧ f.get 11 = some (.pointer (some ⟨rb, 0, none⟩)) ∧ f.get 16 = some (nv k) ∧ Ext F G) picks.length ?_ ?_
  · refine ⟨0, by omega, by omega, by omega, ?_, ?_, ?_, ?_, ?_, ?_, Ext.refl hI.wf⟩
    all_goals simp (config := { implicitDefEqProofs := false, maxDischargeDepth := 6, maxSteps := 1000000 }) only [go_sem, ↓reduceIte, Nat.reduceLT, Nat.reduceLeDiff, Nat.reduceEqDiff, Nat.reduceAdd, Nat.reduceMul, Nat.reduceSub, Nat.reduceBEq, reduceCtorEq, Int.reduceEq, Int.reduceLT, Int.reduceLE, Int.reduceNeg, Int.reduceToNat, f0, f1, f2, f4, f11, nv]
    rfl
  clear f0 f1 f2 f4 f11
  rintro m f G ⟨k, rfl, hk, hks, f0, f1, f2, f4, f11, f16, hE⟩
  unfold L4_2
  have hcG := hE.of hI.wf hcell
  have hIG := hI.of hE
  have hVG := hV.of fun b x hb => hE.of hI.wf hb
  by_cases c1 : k < (runM 200 (S0 ts room) picks).trace.length
  · have c1Z : (k : Int) < ((runM 200 (S0 ts room) picks).trace.length : Int) := by omega
    by_cases c2 : k < picks.length
    · have c2Z : (k : Int) < (picks.length : Int) := by omega
      have hk0 : (0 : Int) ≤ (k : Int) := by omega
      have hw1 : IntKind.i64.wrap ((k : Int) + 1) = ((k + 1 : Nat) : Int) := IntWalk.i64_in _ (by omega)
      obtain ⟨b, o, c, x, hv, hc, hx, hxk⟩ := hIG.p.at_ (i := k) (by simpa using c2)
      simp only [Value.slice.injEq, List.length_map, true_and] at hv
      obtain ⟨rfl, rfl⟩ := hv
      simp only [List.getElem_map, iv] at hxk
      have hsl : ∀ H : Heap, sliceS H 1 (some ⟨b, o, none⟩) picks.length pc none (some (.int .i64 k)) none = some (.slice (some ⟨b, o, none⟩) k pc) := fun H => slice_to hk hpc.1 hpc.2
      simp (config := { implicitDefEqProofs := false, maxDischargeDepth := 6, maxSteps := 1000000 }) only [go_sem, ↓reduceIte, Nat.reduceLT, Nat.reduceLeDiff, Nat.reduceEqDiff, Nat.reduceAdd, Nat.reduceMul, Nat.reduceSub, Nat.reduceBEq, reduceCtorEq, Int.reduceEq, Int.reduceLT, Int.reduceLE, Int.reduceNeg, Int.reduceToNat, f0, f1, f2, f4, f11, f16, nv, hcG, c1Z, c2Z, goInt, hsl]
      refine CW_mono _ (Ready_W hIG.wf hIG.t (by omega) (room := room) (hIG.p.pre c2)) ?_
      intro x' H1 hR
      obtain ⟨hE1, lv, rfl, _, hO⟩ := hR
      have hask0 : askedP ts room (picks.take k) 0 = 0 := by
        obtain ⟨q1, q2, q3, _, _, q6, q7⟩ := asked_iff.1 hask
        exact asked_iff.2 ⟨q1, q2, q3, by omega, by omega, by rw [List.length_take]; omega, fun p hp => q7 p (List.mem_of_mem_take hp)⟩
      have hO := hO hask0
      have e1 : (picks.take k).length = k := by rw [List.length_take]; omega
      rw [e1] at hO
      obtain ⟨hr, hpick⟩ := hpk k c1 c2
      generalize rdy (runM k (S0 ts room) (picks.take k)) = L at hr hpick hO
      obtain ⟨la, lc, rfl⟩ := hO.sl
      have hL0 : L.length ≠ 0 := fun e => hr (List.eq_nil_of_length_eq_zero e)
      have hge : 0 ≤ picks[k] := hfine.pos _ (List.getElem_mem c2)
      have htm := tmod_nat hge L.length
      have hml : picks[k].toNat % L.length < L.length := Nat.mod_lt _ (by omega)
      obtain ⟨b2, o2, c2', x2, hv, hc2, hx2, hxi⟩ := hO.rd.at_ (i := picks[k].toNat % L.length) (by simpa using hml)
      simp only [Value.slice.injEq, List.length_map, true_and] at hv
      obtain ⟨rfl, rfl⟩ := hv
      simp only [List.getElem_map, nv] at hxi
      have hgd : L.getD (picks[k].toNat % L.length) 0 = L[picks[k].toNat % L.length] := by rw [List.getD_eq_getElem?_getD, List.getElem?_eq_getElem hml]; rfl
      rw [hgd] at hpick
      obtain ⟨b3, o3, c3, x3, hv, hc3, hx3, _, _, hxt⟩ := (hVG.of fun b x hb => hE1.of hIG.wf hb).tr_.at_ (i := k) (by rw [htl]; exact c1)
      simp only [Value.slice.injEq, true_and] at hv
      obtain ⟨rfl, rfl⟩ := hv
      have hxt' : x3.cells[o3 + k * 2]? = some (.int .i64 (L[picks[k].toNat % L.length] : Nat)) := by
        rw [hxt, ← hpick]; simp [trI, iv]
      have hx1 := hE1.of hIG.wf hx
      have hc1 := hE1.of hIG.wf hcG
      have hl00 : ¬ (L.length : Int) = 0 := by omega
      have hm0 : (0 : Int) ≤ ((picks[k].toNat % L.length : Nat) : Int) := by omega
      have hm1 : ((picks[k].toNat % L.length : Nat) : Int) < (L.length : Int) := by omega
      have hkt : (k : Int) < ((trI (runM 200 (S0 ts room) picks)).length : Int) := by rw [htl]; exact c1Z
      simp (config := { implicitDefEqProofs := false, maxDischargeDepth := 6, maxSteps := 1000000 }) only [go_sem, ↓reduceIte, Nat.reduceLT, Nat.reduceLeDiff, Nat.reduceEqDiff, Nat.reduceAdd, Nat.reduceMul, Nat.reduceSub, Nat.reduceBEq, reduceCtorEq, Int.reduceEq, Int.reduceLT, Int.reduceLE, Int.reduceNeg, Int.reduceToNat, f0, f1, f2, f4, f11, f16, nv, hask0, hl00, hm0, hm1, htm, goInt, hc, hx1, hxk, hc2, hx2, hxi, hc3, hx3, hxt', hc1, hk0, c2Z, hkt, hw1, Nat.add_zero]
      refine ⟨picks.length - (k + 1), by omega, k + 1, rfl, by omega, by omega, ?_, ?_, ?_, ?_, ?_, ?_, hE.trans hE1⟩
      · simp (config := { implicitDefEqProofs := false, maxDischargeDepth := 6, maxSteps := 1000000 }) only [go_sem, ↓reduceIte, Nat.reduceLT, Nat.reduceLeDiff, Nat.reduceEqDiff, Nat.reduceAdd, Nat.reduceMul, Nat.reduceSub, Nat.reduceBEq, reduceCtorEq, Int.reduceEq, Int.reduceLT, Int.reduceLE, Int.reduceNeg, Int.reduceToNat, f0]
      · simp (config := { implicitDefEqProofs := false, maxDischargeDepth := 6, maxSteps := 1000000 }) only [go_sem, ↓reduceIte, Nat.reduceLT, Nat.reduceLeDiff, Nat.reduceEqDiff, Nat.reduceAdd, Nat.reduceMul, Nat.reduceSub, Nat.reduceBEq, reduceCtorEq, Int.reduceEq, Int.reduceLT, Int.reduceLE, Int.reduceNeg, Int.reduceToNat, f1]
      · simp (config := { implicitDefEqProofs := false, maxDischargeDepth := 6, maxSteps := 1000000 }) only [go_sem, ↓reduceIte, Nat.reduceLT, Nat.reduceLeDiff, Nat.reduceEqDiff, Nat.reduceAdd, Nat.reduceMul, Nat.reduceSub, Nat.reduceBEq, reduceCtorEq, Int.reduceEq, Int.reduceLT, Int.reduceLE, Int.reduceNeg, Int.reduceToNat, f2]
      · simp (config := { implicitDefEqProofs := false, maxDischargeDepth := 6, maxSteps := 1000000 }) only [go_sem, ↓reduceIte, Nat.reduceLT, Nat.reduceLeDiff, Nat.reduceEqDiff, Nat.reduceAdd, Nat.reduceMul, Nat.reduceSub, Nat.reduceBEq, reduceCtorEq, Int.reduceEq, Int.reduceLT, Int.reduceLE, Int.reduceNeg, Int.reduceToNat, f4]
      · simp (config := { implicitDefEqProofs := false, maxDischargeDepth := 6, maxSteps := 1000000 }) only [go_sem, ↓reduceIte, Nat.reduceLT, Nat.reduceLeDiff, Nat.reduceEqDiff, Nat.reduceAdd, Nat.reduceMul, Nat.reduceSub, Nat.reduceBEq, reduceCtorEq, Int.reduceEq, Int.reduceLT, Int.reduceLE, Int.reduceNeg, Int.reduceToNat, f11]
      · simp (config := { implicitDefEqProofs := false, maxDischargeDepth := 6, maxSteps := 1000000 }) only [go_sem, ↓reduceIte, Nat.reduceLT, Nat.reduceLeDiff, Nat.reduceEqDiff, Nat.reduceAdd, Nat.reduceMul, Nat.reduceSub, Nat.reduceBEq, reduceCtorEq, Int.reduceEq, Int.reduceLT, Int.reduceLE, Int.reduceNeg, Int.reduceToNat, nv]
    · have cA := c1Z
      have cB : ¬ (k : Int) < (picks.length : Int) := by omega
      by_cases d1 : (runM 200 (S0 ts room) picks).trace.length < 200
      · have d1Z : ((runM 200 (S0 ts room) picks).trace.length : Int) < 200 := by omega
        by_cases d2 : (runM 200 (S0 ts room) picks).trace.length ≤ picks.length
        · have d2Z : ((runM 200 (S0 ts room) picks).trace.length : Int) ≤ (picks.length : Int) := by omega
          simp (config := { implicitDefEqProofs := false, maxDischargeDepth := 6, maxSteps := 1000000 }) only [go_sem, ↓reduceIte, Nat.reduceLT, Nat.reduceLeDiff, Nat.reduceEqDiff, Nat.reduceAdd, Nat.reduceMul, Nat.reduceSub, Nat.reduceBEq, reduceCtorEq, Int.reduceEq, Int.reduceLT, Int.reduceLE, Int.reduceNeg, Int.reduceToNat, f0, f1, f2, f4, f11, f16, nv, hcG, cA, cB, goInt, d1Z, d2Z]
          obtain ⟨v5, H5, ha5, hE5, hO5⟩ := appNilR hIG.wf hIG.p (by omega)
          refine Wk_vh ha5 ?_
          obtain ⟨a5, k5, rfl⟩ := hO5.sl
          simp (config := { implicitDefEqProofs := false, maxDischargeDepth := 6, maxSteps := 1000000 }) only [go_sem, ↓reduceIte, Nat.reduceLT, Nat.reduceLeDiff, Nat.reduceEqDiff, Nat.reduceAdd, Nat.reduceMul, Nat.reduceSub, Nat.reduceBEq, reduceCtorEq, Int.reduceEq, Int.reduceLT, Int.reduceLE, Int.reduceNeg, Int.reduceToNat, f0, f1, f2, f4, f11, f16, nv]
          obtain ⟨v6, H6, ha6, hE6, hR6⟩ := appR2 hE5 hO5 (hIG.of hE5).m (by omega) (by omega)
          refine Wk_vh ha6 ?_
          simp (config := { implicitDefEqProofs := false, maxDischargeDepth := 6, maxSteps := 1000000 }) only [go_sem, ↓reduceIte, Nat.reduceLT, Nat.reduceLeDiff, Nat.reduceEqDiff, Nat.reduceAdd, Nat.reduceMul, Nat.reduceSub, Nat.reduceBEq, reduceCtorEq, Int.reduceEq, Int.reduceLT, Int.reduceLE, Int.reduceNeg, Int.reduceToNat, f0, f1, f11]
          refine CW_mono _ (Run_W hE6.wf (hIG.of hE6).t (by omega) (room := room) (most := 200) (picks := picks ++ more) hR6) ?_
          intro x H7 hR
          obtain ⟨hE7, hR1, hR⟩ := hR
          by_cases e0 : askedP ts room (picks ++ more) 200 = 0
          · obtain ⟨trv', rgv', ev', qsv', qv', rfl, hA⟩ := hR e0
            rw [show Int.toNat 200 = 200 from rfl, hmore d1 d2] at hA ⊢
            have hnb7 := hE7.wf.1
            obtain ⟨g1, g2, rfl⟩ := hA.trace.sl
            obtain ⟨g3, g4, rfl⟩ := hA.regs.sl
            obtain ⟨g5, g6, rfl⟩ := hA.ends.sl
            obtain ⟨g7, g8, rfl⟩ := hA.queues.sl
            have hE67 := hE6.trans hE7
            have hc7 := hE67.of hIG.wf hcG
            have hlt7 := hE7.wf.lt hc7
            have hne7 : rb ≠ H7.next := by omega
            have hV7 := hVG.of fun b x hb => hE67.of hIG.wf hb
            have hV' := hA.view
            simp (config := { implicitDefEqProofs := false, maxDischargeDepth := 6, maxSteps := 1000000 }) only [go_sem, ↓reduceIte, Nat.reduceLT, Nat.reduceLeDiff, Nat.reduceEqDiff, Nat.reduceAdd, Nat.reduceMul, Nat.reduceSub, Nat.reduceBEq, reduceCtorEq, Int.reduceEq, Int.reduceLT, Int.reduceLE, Int.reduceNeg, Int.reduceToNat, f11, nv, loads_eq, hnb7, hc7, hne7, hlt7, e0]
            have hEF := ((Ext.refl hE7.wf).alloc (⟨33, 0, false, [.int .i64 0, .slice none 0 0, .slice none 0 0, .slice none 0 0, .slice none 0 0]⟩ : Blk)).set (b := H7.next) (Nat.le_refl _) (by simp only [next_alloc]; omega) (⟨33, 0, false, [.int .i64 (runM 200 (S0 ts room) picks).trace.length, .slice g1 (runM 200 (S0 ts room) picks).trace.length g2, .slice g3 8 g4, .slice g5 (runM 200 (S0 ts room) picks).N g6, .slice g7 4 g8]⟩ : Blk)
            refine CW_mono _ (Eq_W hEF.wf (hV'.of fun b x hb => hEF.of hE7.wf hb) (hV7.of fun b x hb => hEF.of hE7.wf hb) hlens.1 hlens.2.1 hlens.2.2.1 hlens.2.2.2.1 hlens.2.2.2.2) ?_
            rintro _ H9 ⟨rfl, _⟩
            simp (config := { implicitDefEqProofs := false, maxDischargeDepth := 6, maxSteps := 1000000 }) only [go_sem, ↓reduceIte, Nat.reduceLT, Nat.reduceLeDiff, Nat.reduceEqDiff, Nat.reduceAdd, Nat.reduceMul, Nat.reduceSub, Nat.reduceBEq, reduceCtorEq, Int.reduceEq, Int.reduceLT, Int.reduceLE, Int.reduceNeg, Int.reduceToNat, ]
            exact hQ _
          · obtain rfl := hR1 e0
            have hnb7 := hE7.wf.1
            simp (config := { implicitDefEqProofs := false, maxDischargeDepth := 6, maxSteps := 1000000 }) only [go_sem, ↓reduceIte, Nat.reduceLT, Nat.reduceLeDiff, Nat.reduceEqDiff, Nat.reduceAdd, Nat.reduceMul, Nat.reduceSub, Nat.reduceBEq, reduceCtorEq, Int.reduceEq, Int.reduceLT, Int.reduceLE, Int.reduceNeg, Int.reduceToNat, f11, nv, loads_eq, hnb7, e0]
            exact hQ _
        · have d2Z : ¬ ((runM 200 (S0 ts room) picks).trace.length : Int) ≤ (picks.length : Int) := by omega
          simp (config := { implicitDefEqProofs := false, maxDischargeDepth := 6, maxSteps := 1000000 }) only [go_sem, ↓reduceIte, Nat.reduceLT, Nat.reduceLeDiff, Nat.reduceEqDiff, Nat.reduceAdd, Nat.reduceMul, Nat.reduceSub, Nat.reduceBEq, reduceCtorEq, Int.reduceEq, Int.reduceLT, Int.reduceLE, Int.reduceNeg, Int.reduceToNat, f0, f1, f2, f4, f11, f16, nv, hcG, cA, cB, goInt, d1Z, d2Z]
          exact hQ _
      · have d1Z : ¬ ((runM 200 (S0 ts room) picks).trace.length : Int) < 200 := by omega
        simp (config := { implicitDefEqProofs := false, maxDischargeDepth := 6, maxSteps := 1000000 }) only [go_sem, ↓reduceIte, Nat.reduceLT, Nat.reduceLeDiff, Nat.reduceEqDiff, Nat.reduceAdd, Nat.reduceMul, Nat.reduceSub, Nat.reduceBEq, reduceCtorEq, Int.reduceEq, Int.reduceLT, Int.reduceLE, Int.reduceNeg, Int.reduceToNat, f0, f1, f2, f4, f11, f16, nv, hcG, cA, cB, goInt, d1Z]
        exact hQ _
  · have cA : ¬ (k : Int) < ((runM 200 (S0 ts room) picks).trace.length : Int) := by omega
    have cB := cA
    by_cases d1 : (runM 200 (S0 ts room) picks).trace.length < 200
    · have d1Z : ((runM 200 (S0 ts room) picks).trace.length : Int) < 200 := by omega
      by_cases d2 : (runM 200 (S0 ts room) picks).trace.length ≤ picks.length
      · have d2Z : ((runM 200 (S0 ts room) picks).trace.length : Int) ≤ (picks.length : Int) := by omega
        simp (config := { implicitDefEqProofs := false, maxDischargeDepth := 6, maxSteps := 1000000 }) only [go_sem, ↓reduceIte, Nat.reduceLT, Nat.reduceLeDiff, Nat.reduceEqDiff, Nat.reduceAdd, Nat.reduceMul, Nat.reduceSub, Nat.reduceBEq, reduceCtorEq, Int.reduceEq, Int.reduceLT, Int.reduceLE, Int.reduceNeg, Int.reduceToNat, f0, f1, f2, f4, f11, f16, nv, hcG, cA, cB, goInt, d1Z, d2Z]
        obtain ⟨v5, H5, ha5, hE5, hO5⟩ := appNilR hIG.wf hIG.p (by omega)
        refine Wk_vh ha5 ?_
        obtain ⟨a5, k5, rfl⟩ := hO5.sl
        simp (config := { implicitDefEqProofs := false, maxDischargeDepth := 6, maxSteps := 1000000 }) only [go_sem, ↓reduceIte, Nat.reduceLT, Nat.reduceLeDiff, Nat.reduceEqDiff, Nat.reduceAdd, Nat.reduceMul, Nat.reduceSub, Nat.reduceBEq, reduceCtorEq, Int.reduceEq, Int.reduceLT, Int.reduceLE, Int.reduceNeg, Int.reduceToNat, f0, f1, f2, f4, f11, f16, nv]
        obtain ⟨v6, H6, ha6, hE6, hR6⟩ := appR2 hE5 hO5 (hIG.of hE5).m (by omega) (by omega)
        refine Wk_vh ha6 ?_
        simp (config := { implicitDefEqProofs := false, maxDischargeDepth := 6, maxSteps := 1000000 }) only [go_sem, ↓reduceIte, Nat.reduceLT, Nat.reduceLeDiff, Nat.reduceEqDiff, Nat.reduceAdd, Nat.reduceMul, Nat.reduceSub, Nat.reduceBEq, reduceCtorEq, Int.reduceEq, Int.reduceLT, Int.reduceLE, Int.reduceNeg, Int.reduceToNat, f0, f1, f11]
        refine CW_mono _ (Run_W hE6.wf (hIG.of hE6).t (by omega) (room := room) (most := 200) (picks := picks ++ more) hR6) ?_
        intro x H7 hR
        obtain ⟨hE7, hR1, hR⟩ := hR
        by_cases e0 : askedP ts room (picks ++ more) 200 = 0
        · obtain ⟨trv', rgv', ev', qsv', qv', rfl, hA⟩ := hR e0
          rw [show Int.toNat 200 = 200 from rfl, hmore d1 d2] at hA ⊢
          have hnb7 := hE7.wf.1
          obtain ⟨g1, g2, rfl⟩ := hA.trace.sl
          obtain ⟨g3, g4, rfl⟩ := hA.regs.sl
          obtain ⟨g5, g6, rfl⟩ := hA.ends.sl
          obtain ⟨g7, g8, rfl⟩ := hA.queues.sl
          have hE67 := hE6.trans hE7
          have hc7 := hE67.of hIG.wf hcG
          have hlt7 := hE7.wf.lt hc7
          have hne7 : rb ≠ H7.next := by omega
          have hV7 := hVG.of fun b x hb => hE67.of hIG.wf hb
          have hV' := hA.view
          simp (config := { implicitDefEqProofs := false, maxDischargeDepth := 6, maxSteps := 1000000 }) only [go_sem, ↓reduceIte, Nat.reduceLT, Nat.reduceLeDiff, Nat.reduceEqDiff, Nat.reduceAdd, Nat.reduceMul, Nat.reduceSub, Nat.reduceBEq, reduceCtorEq, Int.reduceEq, Int.reduceLT, Int.reduceLE, Int.reduceNeg, Int.reduceToNat, f11, nv, loads_eq, hnb7, hc7, hne7, hlt7, e0]
          have hEF := ((Ext.refl hE7.wf).alloc (⟨33, 0, false, [.int .i64 0, .slice none 0 0, .slice none 0 0, .slice none 0 0, .slice none 0 0]⟩ : Blk)).set (b := H7.next) (Nat.le_refl _) (by simp only [next_alloc]; omega) (⟨33, 0, false, [.int .i64 (runM 200 (S0 ts room) picks).trace.length, .slice g1 (runM 200 (S0 ts room) picks).trace.length g2, .slice g3 8 g4, .slice g5 (runM 200 (S0 ts room) picks).N g6, .slice g7 4 g8]⟩ : Blk)
          refine CW_mono _ (Eq_W hEF.wf (hV'.of fun b x hb => hEF.of hE7.wf hb) (hV7.of fun b x hb => hEF.of hE7.wf hb) hlens.1 hlens.2.1 hlens.2.2.1 hlens.2.2.2.1 hlens.2.2.2.2) ?_
          rintro _ H9 ⟨rfl, _⟩
          simp (config := { implicitDefEqProofs := false, maxDischargeDepth := 6, maxSteps := 1000000 }) only [go_sem, ↓reduceIte, Nat.reduceLT, Nat.reduceLeDiff, Nat.reduceEqDiff, Nat.reduceAdd, Nat.reduceMul, Nat.reduceSub, Nat.reduceBEq, reduceCtorEq, Int.reduceEq, Int.reduceLT, Int.reduceLE, Int.reduceNeg, Int.reduceToNat, ]
          exact hQ _
        · obtain rfl := hR1 e0
          have hnb7 := hE7.wf.1
          simp (config := { implicitDefEqProofs := false, maxDischargeDepth := 6, maxSteps := 1000000 }) only [go_sem, ↓reduceIte, Nat.reduceLT, Nat.reduceLeDiff, Nat.reduceEqDiff, Nat.reduceAdd, Nat.reduceMul, Nat.reduceSub, Nat.reduceBEq, reduceCtorEq, Int.reduceEq, Int.reduceLT, Int.reduceLE, Int.reduceNeg, Int.reduceToNat, f11, nv, loads_eq, hnb7, e0]
          exact hQ _
      · have d2Z : ¬ ((runM 200 (S0 ts room) picks).trace.length : Int) ≤ (picks.length : Int) := by omega
        simp (config := { implicitDefEqProofs := false, maxDischargeDepth := 6, maxSteps := 1000000 }) only [go_sem, ↓reduceIte, Nat.reduceLT, Nat.reduceLeDiff, Nat.reduceEqDiff, Nat.reduceAdd, Nat.reduceMul, Nat.reduceSub, Nat.reduceBEq, reduceCtorEq, Int.reduceEq, Int.reduceLT, Int.reduceLE, Int.reduceNeg, Int.reduceToNat, f0, f1, f2, f4, f11, f16, nv, hcG, cA, cB, goInt, d1Z, d2Z]
        exact hQ _
    · have d1Z : ¬ ((runM 200 (S0 ts room) picks).trace.length : Int) < 200 := by omega
      simp (config := { implicitDefEqProofs := false, maxDischargeDepth := 6, maxSteps := 1000000 }) only [go_sem, ↓reduceIte, Nat.reduceLT, Nat.reduceLeDiff, Nat.reduceEqDiff, Nat.reduceAdd, Nat.reduceMul, Nat.reduceSub, Nat.reduceBEq, reduceCtorEq, Int.reduceEq, Int.reduceLT, Int.reduceLE, Int.reduceNeg, Int.reduceToNat, f0, f1, f2, f4, f11, f16, nv, hcG, cA, cB, goInt, d1Z]
      exact hQ _

theorem split_W (old : Nat → Option Blk) {room cut : Int} {tv mv : Value} {pa : Option Addr} {pc : Nat} {ts : List (List Act)} {av : Nat → Value} {picks more : List Int} (hI : SpIn ⟨old, .nil, base0⟩ tv (.slice pa picks.length pc) mv ts av picks more) (hpc : picks.length ≤ pc ∧ pc < openCap) (hcut : cut ≤ 9223372036854775807) :
    CW Try.prog 4 #[tv, .int .i64 room, .slice pa picks.length pc, .int .i64 cut, mv] ⟨old, .nil, base0⟩ fun x _ => x = .ret (.bool true) := by
  refine CW_k (n := 175) if4 rfl ?_
  rw [C4_eq]
  obtain ⟨ta, tc, htv⟩ : ∃ a c, tv = .slice a ts.length c := by
    obtain ⟨⟨a, c, e, _⟩, _⟩ := hI.t
    exact ⟨a, c, by simpa using e⟩
  obtain ⟨ma, mc, hmv⟩ : ∃ a c, mv = .slice a more.length c := by
    obtain ⟨a, c, e, _⟩ := hI.m
    exact ⟨a, c, by simpa using e⟩
  subst htv hmv
  simp (config := { implicitDefEqProofs := false, maxDischargeDepth := 6, maxSteps := 1000000 }) only [go_sem, ↓reduceIte, Nat.reduceLT, Nat.reduceLeDiff, Nat.reduceEqDiff, Nat.reduceAdd, Nat.reduceMul, Nat.reduceSub, Nat.reduceBEq, reduceCtorEq, Int.reduceEq, Int.reduceLT, Int.reduceLE, Int.reduceNeg, Int.reduceToNat, ]
  refine CW_mono _ (begun_law old) ?_
  rintro _ H0 ⟨rfl, hE0⟩
  have hI0 := hI.of hE0
  simp (config := { implicitDefEqProofs := false, maxDischargeDepth := 6, maxSteps := 1000000 }) only [go_sem, ↓reduceIte, Nat.reduceLT, Nat.reduceLeDiff, Nat.reduceEqDiff, Nat.reduceAdd, Nat.reduceMul, Nat.reduceSub, Nat.reduceBEq, reduceCtorEq, Int.reduceEq, Int.reduceLT, Int.reduceLE, Int.reduceNeg, Int.reduceToNat, ]
  by_cases c1 : 60 < picks.length
  · have c1Z : (60 : Int) < (picks.length : Int) := by omega
    simp (config := { implicitDefEqProofs := false, maxDischargeDepth := 6, maxSteps := 1000000 }) only [go_sem, ↓reduceIte, Nat.reduceLT, Nat.reduceLeDiff, Nat.reduceEqDiff, Nat.reduceAdd, Nat.reduceMul, Nat.reduceSub, Nat.reduceBEq, reduceCtorEq, Int.reduceEq, Int.reduceLT, Int.reduceLE, Int.reduceNeg, Int.reduceToNat, c1Z, goInt]
  have c1Z : ¬ (60 : Int) < (picks.length : Int) := by omega
  by_cases c2 : 60 < more.length
  · have c2Z : (60 : Int) < (more.length : Int) := by omega
    simp (config := { implicitDefEqProofs := false, maxDischargeDepth := 6, maxSteps := 1000000 }) only [go_sem, ↓reduceIte, Nat.reduceLT, Nat.reduceLeDiff, Nat.reduceEqDiff, Nat.reduceAdd, Nat.reduceMul, Nat.reduceSub, Nat.reduceBEq, reduceCtorEq, Int.reduceEq, Int.reduceLT, Int.reduceLE, Int.reduceNeg, Int.reduceToNat, c1Z, c2Z, goInt]
  have c2Z : ¬ (60 : Int) < (more.length : Int) := by omega
  by_cases c3 : 20 < ts.length
  · have c3Z : (20 : Int) < (ts.length : Int) := by omega
    simp (config := { implicitDefEqProofs := false, maxDischargeDepth := 6, maxSteps := 1000000 }) only [go_sem, ↓reduceIte, Nat.reduceLT, Nat.reduceLeDiff, Nat.reduceEqDiff, Nat.reduceAdd, Nat.reduceMul, Nat.reduceSub, Nat.reduceBEq, reduceCtorEq, Int.reduceEq, Int.reduceLT, Int.reduceLE, Int.reduceNeg, Int.reduceToNat, c1Z, c2Z, c3Z, goInt]
  have c3Z : ¬ (20 : Int) < (ts.length : Int) := by omega
  simp (config := { implicitDefEqProofs := false, maxDischargeDepth := 6, maxSteps := 1000000 }) only [go_sem, ↓reduceIte, Nat.reduceLT, Nat.reduceLeDiff, Nat.reduceEqDiff, Nat.reduceAdd, Nat.reduceMul, Nat.reduceSub, Nat.reduceBEq, reduceCtorEq, Int.reduceEq, Int.reduceLT, Int.reduceLE, Int.reduceNeg, Int.reduceToNat, c1Z, c2Z, c3Z, goInt]
  refine CW_mono _ (Run_W hI0.wf hI0.t (by omega) (room := room) (most := 200) hI0.p) ?_
  intro x H1 hR
  obtain ⟨hE1, hR1, hR⟩ := hR
  have hnb1 := hE1.wf.1
  by_cases h0 : askedP ts room picks 200 = 0
  case neg =>
    obtain rfl := hR1 h0
    simp (config := { implicitDefEqProofs := false, maxDischargeDepth := 6, maxSteps := 1000000 }) only [go_sem, ↓reduceIte, Nat.reduceLT, Nat.reduceLeDiff, Nat.reduceEqDiff, Nat.reduceAdd, Nat.reduceMul, Nat.reduceSub, Nat.reduceBEq, reduceCtorEq, Int.reduceEq, Int.reduceLT, Int.reduceLE, Int.reduceNeg, Int.reduceToNat, loads_eq, hnb1, h0, goInt]
    rfl
  obtain ⟨trv, rgv, ev, qsv, qv, rfl, hA⟩ := hR h0
  rw [show Int.toNat 200 = 200 from rfl] at hA ⊢
  obtain ⟨g1, g2, rfl⟩ := hA.trace.sl
  obtain ⟨g3, g4, rfl⟩ := hA.regs.sl
  obtain ⟨g5, g6, rfl⟩ := hA.ends.sl
  obtain ⟨g7, g8, rfl⟩ := hA.queues.sl
  have hV1 := hA.view
  have hEF := ((Ext.refl hE1.wf).alloc (⟨33, 0, false, [.int .i64 0, .slice none 0 0, .slice none 0 0, .slice none 0 0, .slice none 0 0]⟩ : Blk)).set (b := H1.next) (Nat.le_refl _) (by simp only [next_alloc]; omega) (⟨33, 0, false, [.int .i64 (runM 200 (S0 ts room) picks).trace.length, .slice g1 (runM 200 (S0 ts room) picks).trace.length g2, .slice g3 8 g4, .slice g5 (runM 200 (S0 ts room) picks).N g6, .slice g7 4 g8]⟩ : Blk)
  have hVF := hV1.of fun b x hb => hEF.of hE1.wf hb
  have hIF := (hI0.of hE1).of hEF
  have htl : (trI (runM 200 (S0 ts room) picks)).length = (runM 200 (S0 ts room) picks).trace.length := by simp [trI]
  have hst := runM_len 200 (S := S0 ts room) picks
  have hst : (runM 200 (S0 ts room) picks).trace.length ≤ 200 := by simpa [S0] using hst
  have htail := fun (f : Tr Value) (G : Heap) (hEG : Ext ((H1.alloc (⟨33, 0, false, [.int .i64 0, .slice none 0 0, .slice none 0 0, .slice none 0 0, .slice none 0 0]⟩ : Blk)).set H1.next (⟨33, 0, false, [.int .i64 (runM 200 (S0 ts room) picks).trace.length, .slice g1 (runM 200 (S0 ts room) picks).trace.length g2, .slice g3 8 g4, .slice g5 (runM 200 (S0 ts room) picks).N g6, .slice g7 4 g8]⟩ : Blk)) G)
    (e0 : f.get 0 = some (.slice ta ts.length tc)) (e1 : f.get 1 = some (.int .i64 room)) (e2 : f.get 2 = some (.slice pa picks.length pc)) (e4 : f.get 4 = some (.slice ma more.length mc)) (e11 : f.get 11 = some (.pointer (some ⟨H1.next, 0, none⟩))) =>
    split_tail (Q := fun x _ => x = .ret (.bool true)) (fun _ => rfl) (hIF.of hEG) hpc (by omega) (by omega) (by omega) h0 e0 e1 e2 e4 e11 (hEG.of hEF.wf (get_set_eq hnb1)) (hVF.of fun b x hb => hEG.of hEF.wf hb)
  by_cases k1 : 0 ≤ cut
  case neg =>
    simp (config := { implicitDefEqProofs := false, maxDischargeDepth := 6, maxSteps := 1000000 }) only [go_sem, ↓reduceIte, Nat.reduceLT, Nat.reduceLeDiff, Nat.reduceEqDiff, Nat.reduceAdd, Nat.reduceMul, Nat.reduceSub, Nat.reduceBEq, reduceCtorEq, Int.reduceEq, Int.reduceLT, Int.reduceLE, Int.reduceNeg, Int.reduceToNat, nv, loads_eq, hnb1, h0, goInt, k1]
    refine htail _ _ (Ext.refl hEF.wf) ?_ ?_ ?_ ?_ ?_
    all_goals simp (config := { implicitDefEqProofs := false, maxDischargeDepth := 6, maxSteps := 1000000 }) only [go_sem, ↓reduceIte, Nat.reduceLT, Nat.reduceLeDiff, Nat.reduceEqDiff, Nat.reduceAdd, Nat.reduceMul, Nat.reduceSub, Nat.reduceBEq, reduceCtorEq, Int.reduceEq, Int.reduceLT, Int.reduceLE, Int.reduceNeg, Int.reduceToNat, ]
  by_cases k2 : cut ≤ ((runM 200 (S0 ts room) picks).trace.length : Int)
  case neg =>
    simp (config := { implicitDefEqProofs := false, maxDischargeDepth := 6, maxSteps := 1000000 }) only [go_sem, ↓reduceIte, Nat.reduceLT, Nat.reduceLeDiff, Nat.reduceEqDiff, Nat.reduceAdd, Nat.reduceMul, Nat.reduceSub, Nat.reduceBEq, reduceCtorEq, Int.reduceEq, Int.reduceLT, Int.reduceLE, Int.reduceNeg, Int.reduceToNat, nv, loads_eq, hnb1, h0, goInt, k1, k2]
    refine htail _ _ (Ext.refl hEF.wf) ?_ ?_ ?_ ?_ ?_
    all_goals simp (config := { implicitDefEqProofs := false, maxDischargeDepth := 6, maxSteps := 1000000 }) only [go_sem, ↓reduceIte, Nat.reduceLT, Nat.reduceLeDiff, Nat.reduceEqDiff, Nat.reduceAdd, Nat.reduceMul, Nat.reduceSub, Nat.reduceBEq, reduceCtorEq, Int.reduceEq, Int.reduceLT, Int.reduceLE, Int.reduceNeg, Int.reduceToNat, ]
  obtain ⟨cut, rfl⟩ : ∃ k : Nat, cut = (k : Int) := ⟨cut.toNat, by omega⟩
  have k2' : cut ≤ (runM 200 (S0 ts room) picks).trace.length := by omega
  obtain ⟨t1, t2⟩ := cut_tr (ts := ts) (room := room) (picks := picks) (most := 200) k2'
  have hask2 : askedP ts room picks cut = 0 := by
    obtain ⟨q1, q2, q3, _, _, q6, q7⟩ := asked_iff.1 h0
    exact asked_iff.2 ⟨q1, q2, q3, by omega, by omega, q6, q7⟩
  simp (config := { implicitDefEqProofs := false, maxDischargeDepth := 6, maxSteps := 1000000 }) only [go_sem, ↓reduceIte, Nat.reduceLT, Nat.reduceLeDiff, Nat.reduceEqDiff, Nat.reduceAdd, Nat.reduceMul, Nat.reduceSub, Nat.reduceBEq, reduceCtorEq, Int.reduceEq, Int.reduceLT, Int.reduceLE, Int.reduceNeg, Int.reduceToNat, nv, loads_eq, hnb1, h0, goInt, k1, k2]
  refine CW_mono _ (Run_W hIF.wf hIF.t (by omega) (room := room) (most := (cut : Int)) hIF.p) ?_
  intro x H2 hR
  obtain ⟨hE2, _, hR⟩ := hR
  have hnb2 := hE2.wf.1
  obtain ⟨trv, rgv, ev, qsv, qv, rfl, hA2⟩ := hR hask2
  rw [Int.toNat_natCast] at hA2 ⊢
  obtain ⟨u1, u2, rfl⟩ := hA2.trace.sl
  obtain ⟨u3, u4, rfl⟩ := hA2.regs.sl
  obtain ⟨u5, u6, rfl⟩ := hA2.ends.sl
  obtain ⟨u7, u8, rfl⟩ := hA2.queues.sl
  have hV2 := hA2.view
  have hE3 := ((Ext.refl hE2.wf).alloc (⟨33, 0, false, [.int .i64 0, .slice none 0 0, .slice none 0 0, .slice none 0 0, .slice none 0 0]⟩ : Blk)).set (b := H2.next) (Nat.le_refl _) (by simp only [next_alloc]; omega) (⟨33, 0, false, [.int .i64 (runM cut (S0 ts room) picks).trace.length, .slice u1 (runM cut (S0 ts room) picks).trace.length u2, .slice u3 8 u4, .slice u5 (runM cut (S0 ts room) picks).N u6, .slice u7 4 u8]⟩ : Blk)
  have hV3 := hV2.of fun b x hb => hE3.of hE2.wf hb
  have hE23 := hE2.trans hE3
  have hVF3 := hVF.of fun b x hb => hE23.of hEF.wf hb
  have hcF := hE23.of hEF.wf (get_set_eq (H := H1.alloc (⟨33, 0, false, [.int .i64 0, .slice none 0 0, .slice none 0 0, .slice none 0 0, .slice none 0 0]⟩ : Blk)) (x := (⟨33, 0, false, [.int .i64 (runM 200 (S0 ts room) picks).trace.length, .slice g1 (runM 200 (S0 ts room) picks).trace.length g2, .slice g3 8 g4, .slice g5 (runM 200 (S0 ts room) picks).N g6, .slice g7 4 g8]⟩ : Blk)) hnb1)
  have htl2 : (trI (runM cut (S0 ts room) picks)).length = cut := by simp [trI, t2]
  rw [t2] at hV3 hE3 hE23 hVF3 hcF
  simp (config := { implicitDefEqProofs := false, maxDischargeDepth := 6, maxSteps := 1000000 }) only [go_sem, ↓reduceIte, Nat.reduceLT, Nat.reduceLeDiff, Nat.reduceEqDiff, Nat.reduceAdd, Nat.reduceMul, Nat.reduceSub, Nat.reduceBEq, reduceCtorEq, Int.reduceEq, Int.reduceLT, Int.reduceLE, Int.reduceNeg, Int.reduceToNat, nv, loads_eq, hnb2, hask2, goInt, t2]
  have hcs := get_set_eq (H := H2.alloc (⟨33, 0, false, [.int .i64 0, .slice none 0 0, .slice none 0 0, .slice none 0 0, .slice none 0 0]⟩ : Blk)) (x := (⟨33, 0, false, [.int .i64 cut, .slice u1 cut u2, .slice u3 8 u4, .slice u5 (runM cut (S0 ts room) picks).N u6, .slice u7 4 u8]⟩ : Blk)) hnb2
  have htail := fun f => htail f _ hE23
  clear hE3
  generalize hF3 : Heap.set (Heap.alloc H2 _) H2.next _ = F3 at *
  refine Wk_loopF (fun m f G => ∃ k, m = cut - k ∧ k ≤ cut ∧ f.get 0 = some (.slice ta ts.length tc) ∧ f.get 1 = some (.int .i64 room) ∧ f.get 2 = some (.slice pa picks.length pc) ∧ f.get 3 = some (nv cut) ∧ f.get 4 = some (.slice ma more.length mc) ∧ f.get 11 = some (.pointer (some ⟨H1.next, 0, none⟩)) ∧ f.get 13 = some (.pointer (some ⟨H2.next, 0, none⟩)) ∧ f.get 15 = some (nv k) ∧ G = F3) cut ?_ ?_
  · refine ⟨0, by omega, by omega, ?_, ?_, ?_, ?_, ?_, ?_, ?_, ?_, rfl⟩
    all_goals simp (config := { implicitDefEqProofs := false, maxDischargeDepth := 6, maxSteps := 1000000 }) only [go_sem, ↓reduceIte, Nat.reduceLT, Nat.reduceLeDiff, Nat.reduceEqDiff, Nat.reduceAdd, Nat.reduceMul, Nat.reduceSub, Nat.reduceBEq, reduceCtorEq, Int.reduceEq, Int.reduceLT, Int.reduceLE, Int.reduceNeg, Int.reduceToNat, nv]
    rfl
  rintro m f G ⟨k, rfl, hk, f0, f1, f2, f3, f4, f11, f13, f15, hG⟩
  subst hG
  unfold L4_1
  by_cases hlt : k < cut
  · have hltZ : (k : Int) < (cut : Int) := by omega
    have hk0 : (0 : Int) ≤ (k : Int) := by omega
    have hltT : (k : Int) < ((runM 200 (S0 ts room) picks).trace.length : Int) := by omega
    have hw1 : IntKind.i64.wrap ((k : Int) + 1) = ((k + 1 : Nat) : Int) := IntWalk.i64_in _ (by omega)
    have hi2 : k < (trI (runM cut (S0 ts room) picks)).length := by rw [htl2]; exact hlt
    have hi : k < (trI (runM 200 (S0 ts room) picks)).length := by rw [htl]; omega
    obtain ⟨b, o, c, x, e, hc, hx, hle, hxk, _⟩ := hV3.tr_.at_ hi2
    simp only [Value.slice.injEq, htl2, true_and] at e
    obtain ⟨rfl, rfl⟩ := e
    obtain ⟨b', o', c', x', e, hc', hx', hle', hxk', _⟩ := hVF3.tr_.at_ hi
    simp only [Value.slice.injEq, htl, true_and] at e
    obtain ⟨rfl, rfl⟩ := e
    have he : (trI (runM cut (S0 ts room) picks))[k] = (trI (runM 200 (S0 ts room) picks))[k] := by
      have : (trI (runM cut (S0 ts room) picks))[k]? = (trI (runM 200 (S0 ts room) picks))[k]? := by
        unfold trI
        rw [t1, List.map_take, List.getElem?_take, if_pos hlt]
      rw [List.getElem?_eq_getElem hi2, List.getElem?_eq_getElem hi] at this
      exact Option.some.inj this
    rw [he] at hxk
    simp only [iv] at hxk hxk'
    simp (config := { implicitDefEqProofs := false, maxDischargeDepth := 6, maxSteps := 1000000 }) only [go_sem, ↓reduceIte, Nat.reduceLT, Nat.reduceLeDiff, Nat.reduceEqDiff, Nat.reduceAdd, Nat.reduceMul, Nat.reduceSub, Nat.reduceBEq, reduceCtorEq, Int.reduceEq, Int.reduceLT, Int.reduceLE, Int.reduceNeg, Int.reduceToNat, f0, f1, f2, f3, f4, f11, f13, f15, nv, hcs, hcF, loads_eq, hltZ, hltT, hk0, hc, hx, hle, hxk, hc', hx', hle', hxk', hw1, goInt]
    refine ⟨cut - (k + 1), by omega, k + 1, rfl, by omega, ?_, ?_, ?_, ?_, ?_, ?_, ?_, ?_, rfl⟩
    · simp (config := { implicitDefEqProofs := false, maxDischargeDepth := 6, maxSteps := 1000000 }) only [go_sem, ↓reduceIte, Nat.reduceLT, Nat.reduceLeDiff, Nat.reduceEqDiff, Nat.reduceAdd, Nat.reduceMul, Nat.reduceSub, Nat.reduceBEq, reduceCtorEq, Int.reduceEq, Int.reduceLT, Int.reduceLE, Int.reduceNeg, Int.reduceToNat, f0]
    · simp (config := { implicitDefEqProofs := false, maxDischargeDepth := 6, maxSteps := 1000000 }) only [go_sem, ↓reduceIte, Nat.reduceLT, Nat.reduceLeDiff, Nat.reduceEqDiff, Nat.reduceAdd, Nat.reduceMul, Nat.reduceSub, Nat.reduceBEq, reduceCtorEq, Int.reduceEq, Int.reduceLT, Int.reduceLE, Int.reduceNeg, Int.reduceToNat, f1]
    · simp (config := { implicitDefEqProofs := false, maxDischargeDepth := 6, maxSteps := 1000000 }) only [go_sem, ↓reduceIte, Nat.reduceLT, Nat.reduceLeDiff, Nat.reduceEqDiff, Nat.reduceAdd, Nat.reduceMul, Nat.reduceSub, Nat.reduceBEq, reduceCtorEq, Int.reduceEq, Int.reduceLT, Int.reduceLE, Int.reduceNeg, Int.reduceToNat, f2]
    · simp (config := { implicitDefEqProofs := false, maxDischargeDepth := 6, maxSteps := 1000000 }) only [go_sem, ↓reduceIte, Nat.reduceLT, Nat.reduceLeDiff, Nat.reduceEqDiff, Nat.reduceAdd, Nat.reduceMul, Nat.reduceSub, Nat.reduceBEq, reduceCtorEq, Int.reduceEq, Int.reduceLT, Int.reduceLE, Int.reduceNeg, Int.reduceToNat, f3, nv]
    · simp (config := { implicitDefEqProofs := false, maxDischargeDepth := 6, maxSteps := 1000000 }) only [go_sem, ↓reduceIte, Nat.reduceLT, Nat.reduceLeDiff, Nat.reduceEqDiff, Nat.reduceAdd, Nat.reduceMul, Nat.reduceSub, Nat.reduceBEq, reduceCtorEq, Int.reduceEq, Int.reduceLT, Int.reduceLE, Int.reduceNeg, Int.reduceToNat, f4]
    · simp (config := { implicitDefEqProofs := false, maxDischargeDepth := 6, maxSteps := 1000000 }) only [go_sem, ↓reduceIte, Nat.reduceLT, Nat.reduceLeDiff, Nat.reduceEqDiff, Nat.reduceAdd, Nat.reduceMul, Nat.reduceSub, Nat.reduceBEq, reduceCtorEq, Int.reduceEq, Int.reduceLT, Int.reduceLE, Int.reduceNeg, Int.reduceToNat, f11]
    · simp (config := { implicitDefEqProofs := false, maxDischargeDepth := 6, maxSteps := 1000000 }) only [go_sem, ↓reduceIte, Nat.reduceLT, Nat.reduceLeDiff, Nat.reduceEqDiff, Nat.reduceAdd, Nat.reduceMul, Nat.reduceSub, Nat.reduceBEq, reduceCtorEq, Int.reduceEq, Int.reduceLT, Int.reduceLE, Int.reduceNeg, Int.reduceToNat, f13]
    · simp (config := { implicitDefEqProofs := false, maxDischargeDepth := 6, maxSteps := 1000000 }) only [go_sem, ↓reduceIte, Nat.reduceLT, Nat.reduceLeDiff, Nat.reduceEqDiff, Nat.reduceAdd, Nat.reduceMul, Nat.reduceSub, Nat.reduceBEq, reduceCtorEq, Int.reduceEq, Int.reduceLT, Int.reduceLE, Int.reduceNeg, Int.reduceToNat, nv]
  · have hltZ : ¬ (k : Int) < (cut : Int) := by omega
    simp (config := { implicitDefEqProofs := false, maxDischargeDepth := 6, maxSteps := 1000000 }) only [go_sem, ↓reduceIte, Nat.reduceLT, Nat.reduceLeDiff, Nat.reduceEqDiff, Nat.reduceAdd, Nat.reduceMul, Nat.reduceSub, Nat.reduceBEq, reduceCtorEq, Int.reduceEq, Int.reduceLT, Int.reduceLE, Int.reduceNeg, Int.reduceToNat, f0, f1, f2, f3, f4, f11, f13, f15, nv, hltZ]
    refine htail _ ?_ ?_ ?_ ?_ ?_
    · simp (config := { implicitDefEqProofs := false, maxDischargeDepth := 6, maxSteps := 1000000 }) only [go_sem, ↓reduceIte, Nat.reduceLT, Nat.reduceLeDiff, Nat.reduceEqDiff, Nat.reduceAdd, Nat.reduceMul, Nat.reduceSub, Nat.reduceBEq, reduceCtorEq, Int.reduceEq, Int.reduceLT, Int.reduceLE, Int.reduceNeg, Int.reduceToNat, f0]
    · simp (config := { implicitDefEqProofs := false, maxDischargeDepth := 6, maxSteps := 1000000 }) only [go_sem, ↓reduceIte, Nat.reduceLT, Nat.reduceLeDiff, Nat.reduceEqDiff, Nat.reduceAdd, Nat.reduceMul, Nat.reduceSub, Nat.reduceBEq, reduceCtorEq, Int.reduceEq, Int.reduceLT, Int.reduceLE, Int.reduceNeg, Int.reduceToNat, f1]
    · simp (config := { implicitDefEqProofs := false, maxDischargeDepth := 6, maxSteps := 1000000 }) only [go_sem, ↓reduceIte, Nat.reduceLT, Nat.reduceLeDiff, Nat.reduceEqDiff, Nat.reduceAdd, Nat.reduceMul, Nat.reduceSub, Nat.reduceBEq, reduceCtorEq, Int.reduceEq, Int.reduceLT, Int.reduceLE, Int.reduceNeg, Int.reduceToNat, f2]
    · simp (config := { implicitDefEqProofs := false, maxDischargeDepth := 6, maxSteps := 1000000 }) only [go_sem, ↓reduceIte, Nat.reduceLT, Nat.reduceLeDiff, Nat.reduceEqDiff, Nat.reduceAdd, Nat.reduceMul, Nat.reduceSub, Nat.reduceBEq, reduceCtorEq, Int.reduceEq, Int.reduceLT, Int.reduceLE, Int.reduceNeg, Int.reduceToNat, f4]
    · simp (config := { implicitDefEqProofs := false, maxDischargeDepth := 6, maxSteps := 1000000 }) only [go_sem, ↓reduceIte, Nat.reduceLT, Nat.reduceLeDiff, Nat.reduceEqDiff, Nat.reduceAdd, Nat.reduceMul, Nat.reduceSub, Nat.reduceBEq, reduceCtorEq, Int.reduceEq, Int.reduceLT, Int.reduceLE, Int.reduceNeg, Int.reduceToNat, f11]

/- so many tasks that nothing is asked -/
theorem split_big (old : Nat → Option Blk) {room cut : Int} {ta pa ma : Option Addr} {n tc np pc nm mc : Nat} (hn : 20 < n) :
    CW Try.prog 4 #[.slice ta n tc, .int .i64 room, .slice pa np pc, .int .i64 cut, .slice ma nm mc] ⟨old, .nil, base0⟩ fun x _ => x = .ret (.bool true) := by
  refine CW_k (n := 175) if4 rfl ?_
  rw [C4_eq]
  simp (config := { implicitDefEqProofs := false, maxDischargeDepth := 6, maxSteps := 1000000 }) only [go_sem, ↓reduceIte, Nat.reduceLT, Nat.reduceLeDiff, Nat.reduceEqDiff, Nat.reduceAdd, Nat.reduceMul, Nat.reduceSub, Nat.reduceBEq, reduceCtorEq, Int.reduceEq, Int.reduceLT, Int.reduceLE, Int.reduceNeg, Int.reduceToNat, ]
  refine CW_mono _ (begun_law old) ?_
  rintro _ H0 ⟨rfl, hE0⟩
  simp (config := { implicitDefEqProofs := false, maxDischargeDepth := 6, maxSteps := 1000000 }) only [go_sem, ↓reduceIte, Nat.reduceLT, Nat.reduceLeDiff, Nat.reduceEqDiff, Nat.reduceAdd, Nat.reduceMul, Nat.reduceSub, Nat.reduceBEq, reduceCtorEq, Int.reduceEq, Int.reduceLT, Int.reduceLE, Int.reduceNeg, Int.reduceToNat, ]
  by_cases c1 : 60 < np
  · have c1Z : (60 : Int) < (np : Int) := by omega
    simp (config := { implicitDefEqProofs := false, maxDischargeDepth := 6, maxSteps := 1000000 }) only [go_sem, ↓reduceIte, Nat.reduceLT, Nat.reduceLeDiff, Nat.reduceEqDiff, Nat.reduceAdd, Nat.reduceMul, Nat.reduceSub, Nat.reduceBEq, reduceCtorEq, Int.reduceEq, Int.reduceLT, Int.reduceLE, Int.reduceNeg, Int.reduceToNat, c1Z, goInt]
  have c1Z : ¬ (60 : Int) < (np : Int) := by omega
  by_cases c2 : 60 < nm
  · have c2Z : (60 : Int) < (nm : Int) := by omega
    simp (config := { implicitDefEqProofs := false, maxDischargeDepth := 6, maxSteps := 1000000 }) only [go_sem, ↓reduceIte, Nat.reduceLT, Nat.reduceLeDiff, Nat.reduceEqDiff, Nat.reduceAdd, Nat.reduceMul, Nat.reduceSub, Nat.reduceBEq, reduceCtorEq, Int.reduceEq, Int.reduceLT, Int.reduceLE, Int.reduceNeg, Int.reduceToNat, c1Z, c2Z, goInt]
  have c2Z : ¬ (60 : Int) < (nm : Int) := by omega
  have c3Z : (20 : Int) < (n : Int) := by omega
  simp (config := { implicitDefEqProofs := false, maxDischargeDepth := 6, maxSteps := 1000000 }) only [go_sem, ↓reduceIte, Nat.reduceLT, Nat.reduceLeDiff, Nat.reduceEqDiff, Nat.reduceAdd, Nat.reduceMul, Nat.reduceSub, Nat.reduceBEq, reduceCtorEq, Int.reduceEq, Int.reduceLT, Int.reduceLE, Int.reduceNeg, Int.reduceToNat, c1Z, c2Z, c3Z, goInt]
end Go.Am.T
