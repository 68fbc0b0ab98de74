/- Lemmas for the theorem of the last text: parts RfF to RfV of it. Conditions: those of each theorem. -/
import Derived.Test.YthanhcpnhionaaaAlE
set_option linter.all false
set_option linter.unusedSimpArgs false
set_option linter.unusedVariables false
namespace Go.Am.T
open Go Go.Am Go.Proofs.Ythanhcpnhionaaa Go.Proofs
structure Rw where
  T : Nat → TcV
  held : Nat → Int
  regs : Nat → Int
  C : Nat → List Nat
  Q : Nat → List Int
def endT (t : TcV) (len : Nat) (z : Int) : TcV := { t with at_ := z, how := if (len : Int) ≤ z then 1 else t.how }
def goR (W : Rw) (i len : Nat) (z : Int) : Rw := { W with T := upd W.T i (endT (W.T i) len z) }
def panR (W : Rw) (i len : Nat) (n : Int) : Rw := { W with T := upd W.T i (panT (W.T i) len n), regs := if (W.T i).guard < 0 then W.regs else upd W.regs 7 n }
def stR (W : Rw) (i len : Nat) (a : Act) : Rw :=
  if a.k = 1 then goR { W with held := upd W.held a.a.toNat ((i : Int) + 1) } i len ((W.T i).at_ + 1)
  else if a.k = 2 then if W.held a.a.toNat ≠ (i : Int) + 1 then panR W i len (-1) else goR { W with held := upd W.held a.a.toNat 0 } i len ((W.T i).at_ + 1)
  else if a.k = 3 then
    if (W.T i).wait = 2 then goR { W with held := upd W.held a.b.toNat ((i : Int) + 1), T := upd W.T i { W.T i with wait := 0 } } i len ((W.T i).at_ + 1)
    else if W.held a.b.toNat ≠ (i : Int) + 1 then panR W i len (-1)
    else { W with held := upd W.held a.b.toNat 0, T := upd W.T i { W.T i with wait := 1 }, C := upd W.C a.a.toNat (W.C a.a.toNat ++ [i]) }
  else if a.k = 4 then goR { W with T := wakeT W.T ((W.C a.a.toNat).take 1), C := upd W.C a.a.toNat ((W.C a.a.toNat).drop 1) } i len ((W.T i).at_ + 1)
  else if a.k = 5 then goR { W with T := wakeT W.T ((W.C a.a.toNat).take 16), C := upd W.C a.a.toNat ((W.C a.a.toNat).drop 16) } i len ((W.T i).at_ + 1)
  else if a.k = 6 then goR { W with Q := upd W.Q a.a.toNat (W.Q a.a.toNat ++ [a.n]) } i len ((W.T i).at_ + 1)
  else if a.k = 7 then goR { W with regs := upd W.regs a.b.toNat ((W.Q a.a.toNat).headD 0), Q := upd W.Q a.a.toNat (W.Q a.a.toNat).tail } i len ((W.T i).at_ + 1)
  else if a.k = 8 then goR { W with regs := upd W.regs a.a.toNat (IntKind.i64.wrap (W.regs a.a.toNat + a.n)) } i len ((W.T i).at_ + 1)
  else if a.k = 9 then goR { W with regs := upd W.regs a.b.toNat (W.regs a.a.toNat) } i len ((W.T i).at_ + 1)
  else if a.k = 10 then goR W i len (if W.regs a.a.toNat = 0 then (W.T i).at_ + 1 + a.n else (W.T i).at_ + 1)
  else if a.k = 12 then panR W i len a.n
  else if a.k = 13 then goR { W with T := upd W.T i { W.T i with guard := a.n } } i len ((W.T i).at_ + 1)
  else goR W i len ((W.T i).at_ + 1)
def RfW (H : Heap) (r : Nat) (M : RM) (N : Nat) (A : Nat → List Act) (W : Rw) (room last : Int) (H' : Heap) : Prop := RfP H r M N A W.T W.held W.regs room last W.C W.Q H'
def R26 : IC := (.seq (.reg [.o 207 (.move (.tmp 4)), .o 208 (.move (.tmp 6)), .o 209 (.nilCheck (.tmp 207)), .o 210 (.fieldAddr 68 (.tmp 209) 1), .n (.store 3 (.tmp 210) (.tmp 208))]) (.reg [.o 211 (.move (.tmp 4)), .o 212 (.call ⟨(.value (.func 36)), #[(.tmp 211)], #[87]⟩)]))
theorem C26_eq : C26 = (.seq (.reg [.o 9 (.move (.tmp 0)), .o 10 (.move (.tmp 1)), .o 11 (.nilCheck (.tmp 9)), .o 12 (.fieldAddr 66 (.tmp 11) 6), .n (.store 3 (.tmp 12) (.tmp 10))]) (.seq (.reg [.o 13 (.move (.tmp 0)), .o 14 (.nilCheck (.tmp 13)), .o 15 (.fieldAddr 66 (.tmp 14) 0), .o 16 (.load 60 (.tmp 15)), .o 17 (.move (.tmp 1)), .o 18 (.indexAddr 60 (.tmp 16) (.tmp 17)), .o 4 (.assign (.tmp 18))]) (.seq (.drl 13 [⟨none, (some 19), (.move (.tmp 4)), .q⟩, ⟨none, (some 20), (.nilCheck (.tmp 19)), .q⟩, ⟨none, (some 21), (.fieldAddr 68 (.tmp 20) 0), .q⟩, ⟨none, (some 22), (.load 45 (.tmp 21)), (.r 3 [] [])⟩, ⟨none, (some 23), (.move (.tmp 4)), .q⟩, ⟨none, (some 24), (.nilCheck (.tmp 23)), .q⟩, ⟨none, (some 25), (.fieldAddr 68 (.tmp 24) 1), .q⟩, ⟨none, (some 26), (.load 3 (.tmp 25)), (.r 7 [] [])⟩, ⟨none, (some 27), (.indexAddr 45 (.tmp 22) (.tmp 26)), .q⟩, ⟨none, (some 28), (.load 47 (.tmp 27)), (.r 9 [] [])⟩, ⟨none, (some 5), (.alloc 47), (.a 10)⟩, ⟨none, none, (.store 47 (.tmp 5) (.tmp 28)), (.c 11 [10] [])⟩]) (.seq (.reg [.o 29 (.move (.tmp 4)), .o 30 (.nilCheck (.tmp 29)), .o 31 (.fieldAddr 68 (.tmp 30) 1), .o 32 (.load 3 (.tmp 31)), .o 33 (.binOp .add 3 (.tmp 32) (.const (.int .i64 1)) 3), .o 6 (.assign (.tmp 33))]) (.seq (.seq (.reg [.o 34 (.fieldAddr 47 (.tmp 5) 0), .o 35 (.load 3 (.tmp 34))]) (.block 0 (.seq (.reg [.o 37 (.binOp .eql 3 (.tmp 35) (.const (.int .i64 1)) 3), .o 36 (.assign (.tmp 37))]) (.cond (.tmp 36) (.regb 10 [.o 38 (.move (.tmp 0)), .o 39 (.fieldAddr 47 (.tmp 5) 1), .o 40 (.load 3 (.tmp 39)), .o 41 (.move (.tmp 1)), .o 42 (.binOp .add 3 (.tmp 41) (.const (.int .i64 1)) 3), .o 43 (.nilCheck (.tmp 38)), .o 44 (.fieldAddr 66 (.tmp 43) 1), .o 45 (.indexAddr 61 (.tmp 44) (.tmp 40)), .n (.store 3 (.tmp 45) (.tmp 42))]) (.seq (.reg [.o 47 (.binOp .eql 3 (.tmp 35) (.const (.int .i64 2)) 3), .o 46 (.assign (.tmp 47))]) (.cond (.tmp 46) (.seq (.seq (.reg [.o 48 (.move (.tmp 0)), .o 49 (.fieldAddr 47 (.tmp 5) 1), .o 50 (.load 3 (.tmp 49)), .o 51 (.nilCheck (.tmp 48)), .o 52 (.fieldAddr 66 (.tmp 51) 1), .o 53 (.indexAddr 61 (.tmp 52) (.tmp 50)), .o 54 (.load 3 (.tmp 53)), .o 55 (.move (.tmp 1)), .o 56 (.binOp .add 3 (.tmp 55) (.const (.int .i64 1)) 3), .o 57 (.binOp .neq 3 (.tmp 54) (.tmp 56) 3)]) (.cond (.tmp 57) (.seq (.reg [.o 58 (.move (.tmp 0)), .o 59 (.move (.tmp 1)), .o 60 (.call ⟨(.value (.func 37)), #[(.tmp 58), (.tmp 59), (.const (.int .i64 (-1)))], #[56, 3, 2]⟩)]) .ret) .skip)) (.regb 8 [.o 61 (.move (.tmp 0)), .o 62 (.fieldAddr 47 (.tmp 5) 1), .o 63 (.load 3 (.tmp 62)), .o 64 (.nilCheck (.tmp 61)), .o 65 (.fieldAddr 66 (.tmp 64) 1), .o 66 (.indexAddr 61 (.tmp 65) (.tmp 63)), .n (.store 3 (.tmp 66) (.const (.int .i64 0)))])) (.seq (.reg [.o 68 (.binOp .eql 3 (.tmp 35) (.const (.int .i64 3)) 3), .o 67 (.assign (.tmp 68))]) (.cond (.tmp 67) (.seq (.reg [.o 70 (.move (.tmp 0)), .o 71 (.move (.tmp 1)), .o 72 (.load 47 (.tmp 5)), .o 73 (.call ⟨(.value (.func 38)), #[(.tmp 70), (.tmp 71), (.tmp 72)], #[56, 3, 47]⟩), .o 69 (.move (.tmp 73)), .o 74 (.extract (.tmp 69) 0), .o 75 (.extract (.tmp 69) 1), .o 7 (.assign (.tmp 74)), .o 8 (.assign (.tmp 75))]) (.seq (.seq (.reg [.o 76 (.move (.tmp 8)), .o 77 (.unOp .not 4 (.tmp 76))]) (.cond (.tmp 77) (.seq (.reg [.o 78 (.move (.tmp 0)), .o 79 (.move (.tmp 1)), .o 80 (.call ⟨(.value (.func 37)), #[(.tmp 78), (.tmp 79), (.const (.int .i64 (-1)))], #[56, 3, 2]⟩)]) .ret) .skip)) (.seq (.reg [.o 81 (.move (.tmp 7)), .o 82 (.unOp .not 4 (.tmp 81))]) (.cond (.tmp 82) .ret .skip)))) (.seq (.reg [.o 84 (.binOp .eql 3 (.tmp 35) (.const (.int .i64 4)) 3), .o 83 (.assign (.tmp 84))]) (.cond (.tmp 83) (.reg [.o 85 (.move (.tmp 0)), .o 86 (.fieldAddr 47 (.tmp 5) 1), .o 87 (.load 3 (.tmp 86)), .o 88 (.call ⟨(.value (.func 39)), #[(.tmp 85), (.tmp 87), (.const (.int .i64 1))], #[56, 3, 3]⟩)]) (.seq (.reg [.o 90 (.binOp .eql 3 (.tmp 35) (.const (.int .i64 5)) 3), .o 89 (.assign (.tmp 90))]) (.cond (.tmp 89) (.reg [.o 91 (.move (.tmp 0)), .o 92 (.fieldAddr 47 (.tmp 5) 1), .o 93 (.load 3 (.tmp 92)), .o 94 (.call ⟨(.value (.func 39)), #[(.tmp 91), (.tmp 93), (.const (.int .i64 16))], #[56, 3, 3]⟩)]) (.seq (.reg [.o 96 (.binOp .eql 3 (.tmp 35) (.const (.int .i64 6)) 3), .o 95 (.assign (.tmp 96))]) (.cond (.tmp 95) (.drw 19 [⟨none, (some 97), (.move (.tmp 0)), .q⟩, ⟨none, (some 98), (.fieldAddr 47 (.tmp 5) 1), .q⟩, ⟨none, (some 99), (.load 3 (.tmp 98)), (.r 2 [] [])⟩, ⟨none, (some 100), (.move (.tmp 0)), .q⟩, ⟨none, (some 101), (.fieldAddr 47 (.tmp 5) 1), .q⟩, ⟨none, (some 102), (.load 3 (.tmp 101)), (.r 5 [] [])⟩, ⟨none, (some 103), (.nilCheck (.tmp 100)), .q⟩, ⟨none, (some 104), (.fieldAddr 66 (.tmp 103) 3), .q⟩, ⟨none, (some 105), (.indexAddr 63 (.tmp 104) (.tmp 102)), .q⟩, ⟨none, (some 106), (.load 29 (.tmp 105)), (.r 9 [] [])⟩, ⟨none, (some 107), (.fieldAddr 47 (.tmp 5) 3), .q⟩, ⟨none, (some 108), (.load 2 (.tmp 107)), (.r 11 [] [])⟩, ⟨none, (some 109), (.buildSlice 29 1 #[(0, (.tmp 108))]), (.a 12)⟩, ⟨none, (some 110), (.call ⟨(.builtin .append), #[(.tmp 106), (.tmp 109)], #[29, 29]⟩), (.c 13 [12] [2])⟩, ⟨none, (some 111), (.nilCheck (.tmp 97)), .q⟩, ⟨none, (some 112), (.fieldAddr 66 (.tmp 111) 3), .q⟩, ⟨none, (some 113), (.indexAddr 63 (.tmp 112) (.tmp 99)), .q⟩, ⟨none, none, (.store 29 (.tmp 113) (.tmp 110)), (.c 17 [12] [])⟩]) (.seq (.reg [.o 115 (.binOp .eql 3 (.tmp 35) (.const (.int .i64 7)) 3), .o 114 (.assign (.tmp 115))]) (.cond (.tmp 114) (.seq (.regb 17 [.o 116 (.move (.tmp 0)), .o 117 (.fieldAddr 47 (.tmp 5) 2), .o 118 (.load 3 (.tmp 117)), .o 119 (.move (.tmp 0)), .o 120 (.fieldAddr 47 (.tmp 5) 1), .o 121 (.load 3 (.tmp 120)), .o 122 (.nilCheck (.tmp 119)), .o 123 (.fieldAddr 66 (.tmp 122) 3), .o 124 (.indexAddr 63 (.tmp 123) (.tmp 121)), .o 125 (.load 29 (.tmp 124)), .o 126 (.indexAddr 29 (.tmp 125) (.const (.int .i64 0))), .o 127 (.load 2 (.tmp 126)), .o 128 (.nilCheck (.tmp 116)), .o 129 (.fieldAddr 66 (.tmp 128) 4), .o 130 (.indexAddr 64 (.tmp 129) (.tmp 118)), .n (.store 2 (.tmp 130) (.tmp 127))]) (.drw 17 [⟨none, (some 131), (.move (.tmp 0)), .q⟩, ⟨none, (some 132), (.fieldAddr 47 (.tmp 5) 1), .q⟩, ⟨none, (some 133), (.load 3 (.tmp 132)), (.r 2 [] [])⟩, ⟨none, (some 134), (.move (.tmp 0)), .q⟩, ⟨none, (some 135), (.fieldAddr 47 (.tmp 5) 1), .q⟩, ⟨none, (some 136), (.load 3 (.tmp 135)), (.r 5 [] [])⟩, ⟨none, (some 137), (.nilCheck (.tmp 134)), .q⟩, ⟨none, (some 138), (.fieldAddr 66 (.tmp 137) 3), .q⟩, ⟨none, (some 139), (.indexAddr 63 (.tmp 138) (.tmp 136)), .q⟩, ⟨none, (some 140), (.load 29 (.tmp 139)), (.r 9 [] [])⟩, ⟨none, (some 141), (.slice 29 (.tmp 140) (some (.const (.int .i64 1))) none none), (.r 10 [] [])⟩, ⟨none, (some 142), (.call ⟨(.builtin .append), #[(.const (.slice none 0 0)), (.tmp 141)], #[29, 29]⟩), (.c 11 [] [2])⟩, ⟨none, (some 143), (.nilCheck (.tmp 131)), .q⟩, ⟨none, (some 144), (.fieldAddr 66 (.tmp 143) 3), .q⟩, ⟨none, (some 145), (.indexAddr 63 (.tmp 144) (.tmp 133)), .q⟩, ⟨none, none, (.store 29 (.tmp 145) (.tmp 142)), (.c 15 [] [])⟩])) (.seq (.reg [.o 147 (.binOp .eql 3 (.tmp 35) (.const (.int .i64 8)) 3), .o 146 (.assign (.tmp 147))]) (.cond (.tmp 146) (.regb 18 [.o 148 (.move (.tmp 0)), .o 149 (.fieldAddr 47 (.tmp 5) 1), .o 150 (.load 3 (.tmp 149)), .o 151 (.move (.tmp 0)), .o 152 (.fieldAddr 47 (.tmp 5) 1), .o 153 (.load 3 (.tmp 152)), .o 154 (.nilCheck (.tmp 151)), .o 155 (.fieldAddr 66 (.tmp 154) 4), .o 156 (.indexAddr 64 (.tmp 155) (.tmp 153)), .o 157 (.load 2 (.tmp 156)), .o 158 (.fieldAddr 47 (.tmp 5) 3), .o 159 (.load 2 (.tmp 158)), .o 160 (.binOp .add 2 (.tmp 157) (.tmp 159) 2), .o 161 (.nilCheck (.tmp 148)), .o 162 (.fieldAddr 66 (.tmp 161) 4), .o 163 (.indexAddr 64 (.tmp 162) (.tmp 150)), .n (.store 2 (.tmp 163) (.tmp 160))]) (.seq (.reg [.o 165 (.binOp .eql 3 (.tmp 35) (.const (.int .i64 9)) 3), .o 164 (.assign (.tmp 165))]) (.cond (.tmp 164) (.regb 15 [.o 166 (.move (.tmp 0)), .o 167 (.fieldAddr 47 (.tmp 5) 2), .o 168 (.load 3 (.tmp 167)), .o 169 (.move (.tmp 0)), .o 170 (.fieldAddr 47 (.tmp 5) 1), .o 171 (.load 3 (.tmp 170)), .o 172 (.nilCheck (.tmp 169)), .o 173 (.fieldAddr 66 (.tmp 172) 4), .o 174 (.indexAddr 64 (.tmp 173) (.tmp 171)), .o 175 (.load 2 (.tmp 174)), .o 176 (.nilCheck (.tmp 166)), .o 177 (.fieldAddr 66 (.tmp 176) 4), .o 178 (.indexAddr 64 (.tmp 177) (.tmp 168)), .n (.store 2 (.tmp 178) (.tmp 175))]) (.seq (.reg [.o 180 (.binOp .eql 3 (.tmp 35) (.const (.int .i64 10)) 3), .o 179 (.assign (.tmp 180))]) (.cond (.tmp 179) (.seq (.reg [.o 181 (.move (.tmp 0)), .o 182 (.fieldAddr 47 (.tmp 5) 1), .o 183 (.load 3 (.tmp 182)), .o 184 (.nilCheck (.tmp 181)), .o 185 (.fieldAddr 66 (.tmp 184) 4), .o 186 (.indexAddr 64 (.tmp 185) (.tmp 183)), .o 187 (.load 2 (.tmp 186)), .o 188 (.binOp .eql 2 (.tmp 187) (.const (.int .i64 0)) 2)]) (.cond (.tmp 188) (.reg [.o 189 (.move (.tmp 6)), .o 190 (.fieldAddr 47 (.tmp 5) 3), .o 191 (.load 2 (.tmp 190)), .o 192 (.binOp .add 3 (.tmp 189) (.tmp 191) 3), .o 6 (.assign (.tmp 192))]) .skip)) (.seq (.reg [.o 194 (.binOp .eql 3 (.tmp 35) (.const (.int .i64 12)) 3), .o 193 (.assign (.tmp 194))]) (.cond (.tmp 193) (.seq (.reg [.o 195 (.move (.tmp 0)), .o 196 (.move (.tmp 1)), .o 197 (.fieldAddr 47 (.tmp 5) 3), .o 198 (.load 2 (.tmp 197)), .o 199 (.call ⟨(.value (.func 37)), #[(.tmp 195), (.tmp 196), (.tmp 198)], #[56, 3, 2]⟩)]) .ret) (.seq (.reg [.o 201 (.binOp .eql 3 (.tmp 35) (.const (.int .i64 13)) 3), .o 200 (.assign (.tmp 201))]) (.cond (.tmp 200) (.reg [.o 202 (.move (.tmp 4)), .o 203 (.fieldAddr 47 (.tmp 5) 3), .o 204 (.load 2 (.tmp 203)), .o 205 (.nilCheck (.tmp 202)), .o 206 (.fieldAddr 68 (.tmp 205) 3), .n (.store 3 (.tmp 206) (.tmp 204))]) .skip)))))))))))))))))))))))))) R26))))) := rfl
theorem rtail {G : Heap} {r N : Nat} {M : RM} {A : Nat → List Act} {C : Nat → List Nat} {Q : Nat → List Int} (h : RfX G r M N A C Q) {i : Nat} (hi : i < N) {z : Int} {f : Tr Value} {P : CR → Heap → Prop} (f4 : f.get 4 = some (.pointer (some ⟨M.b, M.pre.length + i * 6, none⟩))) (f6 : f.get 6 = some (.int .i64 z))
    (hP : ∀ H', RfP G r M N A (upd M.T i (endT (M.T i) (A i).length z)) M.V.held M.V.regs M.V.room M.V.last C Q H' → P (.ret (.tuple #[])) H') : Wk Try.prog [.c R26] (some ⟨213, f, [], G⟩) (retW Try.prog [] P) := by
  unfold R26
  have hN : N ≠ 0 := by omega
  obtain ⟨hts, hbo, hbb, hx⟩ := h.ts hN
  obtain ⟨ca, cc, ce, _⟩ := h.acts i hi
  have u := (h.u0 hN).setB (arB M.pre (upd M.T i { M.T i with at_ := z }) N)
  simp -implicitDefEqProofs (maxDischargeDepth := 6) (maxSteps := 1000000) only [go_sem, ↓reduceIte, Nat.reduceLT, Nat.reduceLeDiff, Nat.reduceEqDiff, Nat.reduceAdd, Nat.reduceMul, Nat.reduceSub, Nat.reduceBEq, reduceCtorEq, Int.reduceEq, Int.reduceLT, Int.reduceLE, Int.reduceNeg, Int.reduceToNat, f4, f6, hx, hi, hbb]
  refine CW_mono _ (ends_W hbb u.gb hi (by rw [upd_same]; exact ce)) ?_
  rintro _ H' ⟨rfl, rfl⟩
  simp -implicitDefEqProofs (maxDischargeDepth := 6) (maxSteps := 1000000) only [go_sem, ↓reduceIte, Nat.reduceLT, Nat.reduceLeDiff, Nat.reduceEqDiff, Nat.reduceAdd, Nat.reduceMul, Nat.reduceSub, Nat.reduceBEq, reduceCtorEq, Int.reduceEq, Int.reduceLT, Int.reduceLE, Int.reduceNeg, Int.reduceToNat, ]
  refine hP _ ?_
  by_cases hle : ((A i).length : Int) ≤ z
  · have e2 : endT (M.T i) (A i).length z = { M.T i with at_ := z, how := 1 } := by unfold endT; rw [if_pos hle]
    obtain ⟨hX2, hF2⟩ := h.u2 hN (V' := M.V) ((h.u0 hN).setB (arB M.pre (upd M.T i { M.T i with at_ := z, how := 1 }) N)) rfl rfl rfl (fun j _ => upd_acts (by rfl) j)
    simp only [upd_same, hle, if_true, upd_twice, set_set]
    rw [e2]
    exact ⟨_, hX2, hF2, rfl, rfl, rfl, rfl, rfl, rfl, rfl⟩
  · have e2 : endT (M.T i) (A i).length z = { M.T i with at_ := z } := by unfold endT; rw [if_neg hle]
    obtain ⟨hX2, hF2⟩ := h.u2 hN (V' := M.V) u rfl rfl rfl (fun j _ => upd_acts (by rfl) j)
    simp only [upd_same, hle, if_false]
    rw [e2]
    exact ⟨_, hX2, hF2, rfl, rfl, rfl, rfl, rfl, rfl, rfl⟩
theorem rstep_11 {H : Heap} {r N : Nat} {M : RM} {A : Nat → List Act} {C : Nat → List Nat} {Q : Nat → List Int} (h : RfX H r M N A C Q) {i j : Nat} (hi : i < N) (hiN : N ≤ 1000000) (hj : j < (A i).length) (hlen : (A i).length ≤ 1000000) (hat : (M.T i).at_ = j) (hV : Valid (A i).length (A i)[j])
    (hk : (A i)[j].k = 11) :
    CW Try.prog 26 #[.pointer (some ⟨r, 0, none⟩), nv i] H fun x H' => x = .ret (.tuple #[]) ∧ RfW H r M N A (stR ⟨M.T, M.V.held, M.V.regs, C, Q⟩ i (A i).length (A i)[j]) M.V.room i H' := by
  refine CW_k (n := 213) if26 rfl ?_
  rw [C26_eq]
  have hN : N ≠ 0 := by omega
  obtain ⟨hts, hbo, hbb, hx⟩ := h.ts hN
  have hr := h.st
  have hrb := h.rb
  have hne := h.ne hN
  have hne' := hne.symm
  have hiZ : (i : Int) < (N : Int) := by omega
  have hi0 : (0 : Int) ≤ (i : Int) := by omega
  have hoc : ¬ openCap = 0 := by unfold openCap; omega
  have hrl := h.wf.lt hr
  have hbl := h.wf.lt hx
  have hnb := h.wf.1
  have hw1 : IntKind.i64.wrap ((i : Int) + 1) = (i : Int) + 1 := IntWalk.i64_in _ (by omega)
  have hwj : IntKind.i64.wrap ((j : Int) + 1) = (j : Int) + 1 := IntWalk.i64_in _ (by omega)
  obtain ⟨ca, cc, ce, hcq⟩ := h.acts i hi
  obtain ⟨hcc, cb, co, cy, rfl, hcy, hcn, hcq⟩ := hcq (by intro e; rw [e] at hj; cases hj)
  obtain ⟨hcle, hctk⟩ := hcq j hj
  have hcl := h.wf.lt hcy
  have hcr : cb ≠ r := by intro e; subst e; rw [h.ro] at hcn; cases hcn
  have hcM : cb ≠ M.b := by intro e; subst e; rw [hbo] at hcn; cases hcn
  have hj0 : (0 : Int) ≤ (j : Int) := by omega
  have hjZ : (j : Int) < ((A i).length : Int) := by omega
  generalize hA : (A i)[j] = a at *
  simp -implicitDefEqProofs (maxDischargeDepth := 6) (maxSteps := 1000000) only [go_sem, ↓reduceIte, Nat.reduceLT, Nat.reduceLeDiff, Nat.reduceEqDiff, Nat.reduceAdd, Nat.reduceMul, Nat.reduceSub, Nat.reduceBEq, reduceCtorEq, Int.reduceEq, Int.reduceLT, Int.reduceLE, Int.reduceNeg, Int.reduceToNat, hr, hx, hts, hiZ, hi0, hoc, hi, hrb, hbb, hne, hne', nv, hrl, hbl, hnb, hw1, ce, hat, hj0, hjZ, hcc, hcy, hcle, hctk, hcl, hcr, hcM, loads_eq, hwj]
  have u1 := (h.u0 hN).setR (stB { M.V with last := i })
  obtain ⟨hX1, hF1⟩ := h.u2 hN u1 rfl rfl rfl (fun _ _ => rfl)
  obtain ⟨hX2, hF2⟩ := hX1.ext ((Ext.bump (Ext.refl hX1.wf) 13).set (b := H.next + 10) (by simp only [next_set]; omega) (by simp only [next_bump, next_set]; omega) ⟨47, 0, false, a.cells⟩)
  have hF := hF1.trans hF2
  have hcell : ((bump (H.set r (stB { M.V with last := i })) 13).set (H.next + 10) ⟨47, 0, false, a.cells⟩).get (H.next + 10) = some ⟨47, 0, false, a.cells⟩ := get_set_eq (by omega)
  rw [← hts]
  have hcb : base0 ≤ H.next + 10 := by omega
  have hcne : H.next + 10 ≠ r := by omega
  have hcne2 : H.next + 10 ≠ M.b := by omega
  clear hF1 hF2 hX1 u1 hx hr hcy hcq hctk
  generalize (bump (H.set r (stB { M.V with last := i })) 13).set (H.next + 10) ⟨47, 0, false, a.cells⟩ = G at *
  have hr : G.get r = some (stB { M.V with last := i }) := hX2.st
  have hx : G.get M.b = some (arB M.pre M.T N) := (hX2.ts hN).2.2.2
  have hrG := hX2.wf.lt hr
  have hbG := hX2.wf.lt hx
  have hnG := hX2.wf.1
  simp -implicitDefEqProofs (maxDischargeDepth := 6) (maxSteps := 1000000) only [go_sem, ↓reduceIte, Nat.reduceLT, Nat.reduceLeDiff, Nat.reduceEqDiff, Nat.reduceAdd, Nat.reduceMul, Nat.reduceSub, Nat.reduceBEq, reduceCtorEq, Int.reduceEq, Int.reduceLT, Int.reduceLE, Int.reduceNeg, Int.reduceToNat, hk, hcell, hcb, hcne, hcne2, hr, hx, hrb, hbb, hne, hne', hrG, hbG, hnG, hi, hts, nv, hw1]
  refine rtail hX2 hi ?_ ?_ ?_ (z := (j : Int) + 1)
  · simp -implicitDefEqProofs (maxDischargeDepth := 6) (maxSteps := 1000000) only [go_sem, ↓reduceIte, Nat.reduceLT, Nat.reduceLeDiff, Nat.reduceEqDiff, Nat.reduceAdd, Nat.reduceMul, Nat.reduceSub, Nat.reduceBEq, reduceCtorEq, Int.reduceEq, Int.reduceLT, Int.reduceLE, Int.reduceNeg, Int.reduceToNat, ]
  · simp -implicitDefEqProofs (maxDischargeDepth := 6) (maxSteps := 1000000) only [go_sem, ↓reduceIte, Nat.reduceLT, Nat.reduceLeDiff, Nat.reduceEqDiff, Nat.reduceAdd, Nat.reduceMul, Nat.reduceSub, Nat.reduceBEq, reduceCtorEq, Int.reduceEq, Int.reduceLT, Int.reduceLE, Int.reduceNeg, Int.reduceToNat, ]
  · rintro H' ⟨M', q1, q2, q3, q4, q5, q6, q7, q8⟩
    have e : stR ⟨M.T, M.V.held, M.V.regs, C, Q⟩ i (A i).length a = goR ⟨M.T, M.V.held, M.V.regs, C, Q⟩ i (A i).length ((j : Int) + 1) := by simp [stR, hk, hat]
    rw [e]
    exact ⟨rfl, M', q1, hF.trans q2, q3, q4, q5, q6, q7, q8⟩
theorem rstep_1 {H : Heap} {r N : Nat} {M : RM} {A : Nat → List Act} {C : Nat → List Nat} {Q : Nat → List Int} (h : RfX H r M N A C Q) {i j : Nat} (hi : i < N) (hiN : N ≤ 1000000) (hj : j < (A i).length) (hlen : (A i).length ≤ 1000000) (hat : (M.T i).at_ = j) (hV : Valid (A i).length (A i)[j])
    (hk : (A i)[j].k = 1) :
    CW Try.prog 26 #[.pointer (some ⟨r, 0, none⟩), nv i] H fun x H' => x = .ret (.tuple #[]) ∧ RfW H r M N A (stR ⟨M.T, M.V.held, M.V.regs, C, Q⟩ i (A i).length (A i)[j]) M.V.room i H' := by
  refine CW_k (n := 213) if26 rfl ?_
  rw [C26_eq]
  have hN : N ≠ 0 := by omega
  obtain ⟨hts, hbo, hbb, hx⟩ := h.ts hN
  have hr := h.st
  have hrb := h.rb
  have hne := h.ne hN
  have hne' := hne.symm
  have hiZ : (i : Int) < (N : Int) := by omega
  have hi0 : (0 : Int) ≤ (i : Int) := by omega
  have hoc : ¬ openCap = 0 := by unfold openCap; omega
  have hrl := h.wf.lt hr
  have hbl := h.wf.lt hx
  have hnb := h.wf.1
  have hw1 : IntKind.i64.wrap ((i : Int) + 1) = (i : Int) + 1 := IntWalk.i64_in _ (by omega)
  have hwj : IntKind.i64.wrap ((j : Int) + 1) = (j : Int) + 1 := IntWalk.i64_in _ (by omega)
  obtain ⟨ca, cc, ce, hcq⟩ := h.acts i hi
  obtain ⟨hcc, cb, co, cy, rfl, hcy, hcn, hcq⟩ := hcq (by intro e; rw [e] at hj; cases hj)
  obtain ⟨hcle, hctk⟩ := hcq j hj
  have hcl := h.wf.lt hcy
  have hcr : cb ≠ r := by intro e; subst e; rw [h.ro] at hcn; cases hcn
  have hcM : cb ≠ M.b := by intro e; subst e; rw [hbo] at hcn; cases hcn
  have hj0 : (0 : Int) ≤ (j : Int) := by omega
  have hjZ : (j : Int) < ((A i).length : Int) := by omega
  generalize hA : (A i)[j] = a at *
  simp -implicitDefEqProofs (maxDischargeDepth := 6) (maxSteps := 1000000) only [go_sem, ↓reduceIte, Nat.reduceLT, Nat.reduceLeDiff, Nat.reduceEqDiff, Nat.reduceAdd, Nat.reduceMul, Nat.reduceSub, Nat.reduceBEq, reduceCtorEq, Int.reduceEq, Int.reduceLT, Int.reduceLE, Int.reduceNeg, Int.reduceToNat, hr, hx, hts, hiZ, hi0, hoc, hi, hrb, hbb, hne, hne', nv, hrl, hbl, hnb, hw1, ce, hat, hj0, hjZ, hcc, hcy, hcle, hctk, hcl, hcr, hcM, loads_eq, hwj]
  have u1 := (h.u0 hN).setR (stB { M.V with last := i })
  obtain ⟨hX1, hF1⟩ := h.u2 hN u1 rfl rfl rfl (fun _ _ => rfl)
  obtain ⟨hX2, hF2⟩ := hX1.ext ((Ext.bump (Ext.refl hX1.wf) 13).set (b := H.next + 10) (by simp only [next_set]; omega) (by simp only [next_bump, next_set]; omega) ⟨47, 0, false, a.cells⟩)
  have hF := hF1.trans hF2
  have hcell : ((bump (H.set r (stB { M.V with last := i })) 13).set (H.next + 10) ⟨47, 0, false, a.cells⟩).get (H.next + 10) = some ⟨47, 0, false, a.cells⟩ := get_set_eq (by omega)
  rw [← hts]
  have hcb : base0 ≤ H.next + 10 := by omega
  have hcne : H.next + 10 ≠ r := by omega
  have hcne2 : H.next + 10 ≠ M.b := by omega
  clear hF1 hF2 hX1 u1 hx hr hcy hcq hctk
  generalize (bump (H.set r (stB { M.V with last := i })) 13).set (H.next + 10) ⟨47, 0, false, a.cells⟩ = G at *
  have hr : G.get r = some (stB { M.V with last := i }) := hX2.st
  have hx : G.get M.b = some (arB M.pre M.T N) := (hX2.ts hN).2.2.2
  have hrG := hX2.wf.lt hr
  have hbG := hX2.wf.lt hx
  have hnG := hX2.wf.1
  obtain ⟨a0, a4⟩ := hV.a4 (by omega)
  have hB : a.a.toNat < 4 := by omega
  simp -implicitDefEqProofs (maxDischargeDepth := 6) (maxSteps := 1000000) only [go_sem, ↓reduceIte, Nat.reduceLT, Nat.reduceLeDiff, Nat.reduceEqDiff, Nat.reduceAdd, Nat.reduceMul, Nat.reduceSub, Nat.reduceBEq, reduceCtorEq, Int.reduceEq, Int.reduceLT, Int.reduceLE, Int.reduceNeg, Int.reduceToNat, hk, hcell, hcb, hcne, hcne2, hr, hx, hrb, hbb, hne, hne', hrG, hbG, hnG, hi, hts, nv, hw1, a0, a4, hB]
  rw [← hts]
  obtain ⟨hX3, hF3⟩ := hX2.u2 hN (((hX2.u0 hN).ext (Ext.bump (Ext.refl hX2.wf) 10)).setR (stB { M.V with last := i, held := upd M.V.held a.a.toNat ((i : Int) + 1) })) rfl rfl rfl (fun _ _ => rfl)
  refine rtail hX3 hi ?_ ?_ ?_ (z := (j : Int) + 1)
  · simp -implicitDefEqProofs (maxDischargeDepth := 6) (maxSteps := 1000000) only [go_sem, ↓reduceIte, Nat.reduceLT, Nat.reduceLeDiff, Nat.reduceEqDiff, Nat.reduceAdd, Nat.reduceMul, Nat.reduceSub, Nat.reduceBEq, reduceCtorEq, Int.reduceEq, Int.reduceLT, Int.reduceLE, Int.reduceNeg, Int.reduceToNat, ]
  · simp -implicitDefEqProofs (maxDischargeDepth := 6) (maxSteps := 1000000) only [go_sem, ↓reduceIte, Nat.reduceLT, Nat.reduceLeDiff, Nat.reduceEqDiff, Nat.reduceAdd, Nat.reduceMul, Nat.reduceSub, Nat.reduceBEq, reduceCtorEq, Int.reduceEq, Int.reduceLT, Int.reduceLE, Int.reduceNeg, Int.reduceToNat, ]
  · rintro H' ⟨M', q1, q2, q3, q4, q5, q6, q7, q8⟩
    have e : stR ⟨M.T, M.V.held, M.V.regs, C, Q⟩ i (A i).length a = goR ⟨M.T, upd M.V.held a.a.toNat ((i : Int) + 1), M.V.regs, C, Q⟩ i (A i).length ((j : Int) + 1) := by simp [stR, hk, hat]
    rw [e]
    exact ⟨rfl, M', q1, (hF.trans hF3).trans q2, q3, q4, q5, q6, q7, q8⟩
theorem rstep_2 {H : Heap} {r N : Nat} {M : RM} {A : Nat → List Act} {C : Nat → List Nat} {Q : Nat → List Int} (h : RfX H r M N A C Q) {i j : Nat} (hi : i < N) (hiN : N ≤ 1000000) (hj : j < (A i).length) (hlen : (A i).length ≤ 1000000) (hat : (M.T i).at_ = j) (hV : Valid (A i).length (A i)[j])
    (hk : (A i)[j].k = 2) :
    CW Try.prog 26 #[.pointer (some ⟨r, 0, none⟩), nv i] H fun x H' => x = .ret (.tuple #[]) ∧ RfW H r M N A (stR ⟨M.T, M.V.held, M.V.regs, C, Q⟩ i (A i).length (A i)[j]) M.V.room i H' := by
  refine CW_k (n := 213) if26 rfl ?_
  rw [C26_eq]
  have hN : N ≠ 0 := by omega
  obtain ⟨hts, hbo, hbb, hx⟩ := h.ts hN
  have hr := h.st
  have hrb := h.rb
  have hne := h.ne hN
  have hne' := hne.symm
  have hiZ : (i : Int) < (N : Int) := by omega
  have hi0 : (0 : Int) ≤ (i : Int) := by omega
  have hoc : ¬ openCap = 0 := by unfold openCap; omega
  have hrl := h.wf.lt hr
  have hbl := h.wf.lt hx
  have hnb := h.wf.1
  have hw1 : IntKind.i64.wrap ((i : Int) + 1) = (i : Int) + 1 := IntWalk.i64_in _ (by omega)
  have hwj : IntKind.i64.wrap ((j : Int) + 1) = (j : Int) + 1 := IntWalk.i64_in _ (by omega)
  obtain ⟨ca, cc, ce, hcq⟩ := h.acts i hi
  obtain ⟨hcc, cb, co, cy, rfl, hcy, hcn, hcq⟩ := hcq (by intro e; rw [e] at hj; cases hj)
  obtain ⟨hcle, hctk⟩ := hcq j hj
  have hcl := h.wf.lt hcy
  have hcr : cb ≠ r := by intro e; subst e; rw [h.ro] at hcn; cases hcn
  have hcM : cb ≠ M.b := by intro e; subst e; rw [hbo] at hcn; cases hcn
  have hj0 : (0 : Int) ≤ (j : Int) := by omega
  have hjZ : (j : Int) < ((A i).length : Int) := by omega
  generalize hA : (A i)[j] = a at *
  simp -implicitDefEqProofs (maxDischargeDepth := 6) (maxSteps := 1000000) only [go_sem, ↓reduceIte, Nat.reduceLT, Nat.reduceLeDiff, Nat.reduceEqDiff, Nat.reduceAdd, Nat.reduceMul, Nat.reduceSub, Nat.reduceBEq, reduceCtorEq, Int.reduceEq, Int.reduceLT, Int.reduceLE, Int.reduceNeg, Int.reduceToNat, hr, hx, hts, hiZ, hi0, hoc, hi, hrb, hbb, hne, hne', nv, hrl, hbl, hnb, hw1, ce, hat, hj0, hjZ, hcc, hcy, hcle, hctk, hcl, hcr, hcM, loads_eq, hwj]
  have u1 := (h.u0 hN).setR (stB { M.V with last := i })
  obtain ⟨hX1, hF1⟩ := h.u2 hN u1 rfl rfl rfl (fun _ _ => rfl)
  obtain ⟨hX2, hF2⟩ := hX1.ext ((Ext.bump (Ext.refl hX1.wf) 13).set (b := H.next + 10) (by simp only [next_set]; omega) (by simp only [next_bump, next_set]; omega) ⟨47, 0, false, a.cells⟩)
  have hF := hF1.trans hF2
  have hcell : ((bump (H.set r (stB { M.V with last := i })) 13).set (H.next + 10) ⟨47, 0, false, a.cells⟩).get (H.next + 10) = some ⟨47, 0, false, a.cells⟩ := get_set_eq (by omega)
  rw [← hts]
  have hcb : base0 ≤ H.next + 10 := by omega
  have hcne : H.next + 10 ≠ r := by omega
  have hcne2 : H.next + 10 ≠ M.b := by omega
  clear hF1 hF2 hX1 u1 hx hr hcy hcq hctk
  generalize (bump (H.set r (stB { M.V with last := i })) 13).set (H.next + 10) ⟨47, 0, false, a.cells⟩ = G at *
  have hr : G.get r = some (stB { M.V with last := i }) := hX2.st
  have hx : G.get M.b = some (arB M.pre M.T N) := (hX2.ts hN).2.2.2
  have hrG := hX2.wf.lt hr
  have hbG := hX2.wf.lt hx
  have hnG := hX2.wf.1
  obtain ⟨a0, a4⟩ := hV.a4 (by omega)
  have hB : a.a.toNat < 4 := by omega
  by_cases c1 : M.V.held a.a.toNat = (i : Int) + 1
  · simp -implicitDefEqProofs (maxDischargeDepth := 6) (maxSteps := 1000000) only [go_sem, ↓reduceIte, Nat.reduceLT, Nat.reduceLeDiff, Nat.reduceEqDiff, Nat.reduceAdd, Nat.reduceMul, Nat.reduceSub, Nat.reduceBEq, reduceCtorEq, Int.reduceEq, Int.reduceLT, Int.reduceLE, Int.reduceNeg, Int.reduceToNat, hk, hcell, hcb, hcne, hcne2, hr, hx, hrb, hbb, hne, hne', hrG, hbG, hnG, hi, hts, nv, hw1, a0, a4, hB, c1]
    rw [← hts]
    obtain ⟨hX3, hF3⟩ := hX2.u2 hN (((hX2.u0 hN).ext (Ext.bump (Ext.refl hX2.wf) 8)).setR (stB { M.V with last := i, held := upd M.V.held a.a.toNat 0 })) rfl rfl rfl (fun _ _ => rfl)
    refine rtail hX3 hi ?_ ?_ ?_ (z := (j : Int) + 1)
    · simp -implicitDefEqProofs (maxDischargeDepth := 6) (maxSteps := 1000000) only [go_sem, ↓reduceIte, Nat.reduceLT, Nat.reduceLeDiff, Nat.reduceEqDiff, Nat.reduceAdd, Nat.reduceMul, Nat.reduceSub, Nat.reduceBEq, reduceCtorEq, Int.reduceEq, Int.reduceLT, Int.reduceLE, Int.reduceNeg, Int.reduceToNat, ]
    · simp -implicitDefEqProofs (maxDischargeDepth := 6) (maxSteps := 1000000) only [go_sem, ↓reduceIte, Nat.reduceLT, Nat.reduceLeDiff, Nat.reduceEqDiff, Nat.reduceAdd, Nat.reduceMul, Nat.reduceSub, Nat.reduceBEq, reduceCtorEq, Int.reduceEq, Int.reduceLT, Int.reduceLE, Int.reduceNeg, Int.reduceToNat, ]
    · rintro H' ⟨M', q1, q2, q3, q4, q5, q6, q7, q8⟩
      have e : stR ⟨M.T, M.V.held, M.V.regs, C, Q⟩ i (A i).length a = goR ⟨M.T, upd M.V.held a.a.toNat 0, M.V.regs, C, Q⟩ i (A i).length ((j : Int) + 1) := by simp [stR, hk, hat, c1]
      rw [e]
      exact ⟨rfl, M', q1, (hF.trans hF3).trans q2, q3, q4, q5, q6, q7, q8⟩
  · simp -implicitDefEqProofs (maxDischargeDepth := 6) (maxSteps := 1000000) only [go_sem, ↓reduceIte, Nat.reduceLT, Nat.reduceLeDiff, Nat.reduceEqDiff, Nat.reduceAdd, Nat.reduceMul, Nat.reduceSub, Nat.reduceBEq, reduceCtorEq, Int.reduceEq, Int.reduceLT, Int.reduceLE, Int.reduceNeg, Int.reduceToNat, hk, hcell, hcb, hcne, hcne2, hr, hx, hrb, hbb, hne, hne', hrG, hbG, hnG, hi, hts, nv, hw1, a0, a4, hB, c1]
    refine CW_mono _ (panics_W hX2.wf hrb hbb hne hr hx hts hi ce (n := (-1))) ?_
    rintro _ H' ⟨rfl, hu⟩
    simp -implicitDefEqProofs (maxDischargeDepth := 6) (maxSteps := 1000000) only [go_sem, ↓reduceIte, Nat.reduceLT, Nat.reduceLeDiff, Nat.reduceEqDiff, Nat.reduceAdd, Nat.reduceMul, Nat.reduceSub, Nat.reduceBEq, reduceCtorEq, Int.reduceEq, Int.reduceLT, Int.reduceLE, Int.reduceNeg, Int.reduceToNat, ]
    obtain ⟨hX3, hF3⟩ := hX2.u2 hN hu (by unfold panV; split <;> rfl) (by unfold panV; split <;> rfl) (by unfold panV; split <;> rfl) (fun j _ => upd_acts (by unfold panT; split <;> rfl) j)
    have e : stR ⟨M.T, M.V.held, M.V.regs, C, Q⟩ i (A i).length a = panR ⟨M.T, M.V.held, M.V.regs, C, Q⟩ i (A i).length (-1) := by simp [stR, hk, c1]
    rw [e]
    exact ⟨_, hX3, hF.trans hF3, rfl, by unfold panV panR; split <;> rfl, by unfold panV panR; split <;> rfl, by unfold panV; split <;> rfl, by unfold panV; split <;> rfl, rfl, rfl⟩
theorem rstep_8 {H : Heap} {r N : Nat} {M : RM} {A : Nat → List Act} {C : Nat → List Nat} {Q : Nat → List Int} (h : RfX H r M N A C Q) {i j : Nat} (hi : i < N) (hiN : N ≤ 1000000) (hj : j < (A i).length) (hlen : (A i).length ≤ 1000000) (hat : (M.T i).at_ = j) (hV : Valid (A i).length (A i)[j])
    (hk : (A i)[j].k = 8) :
    CW Try.prog 26 #[.pointer (some ⟨r, 0, none⟩), nv i] H fun x H' => x = .ret (.tuple #[]) ∧ RfW H r M N A (stR ⟨M.T, M.V.held, M.V.regs, C, Q⟩ i (A i).length (A i)[j]) M.V.room i H' := by
  refine CW_k (n := 213) if26 rfl ?_
  rw [C26_eq]
  have hN : N ≠ 0 := by omega
  obtain ⟨hts, hbo, hbb, hx⟩ := h.ts hN
  have hr := h.st
  have hrb := h.rb
  have hne := h.ne hN
  have hne' := hne.symm
  have hiZ : (i : Int) < (N : Int) := by omega
  have hi0 : (0 : Int) ≤ (i : Int) := by omega
  have hoc : ¬ openCap = 0 := by unfold openCap; omega
  have hrl := h.wf.lt hr
  have hbl := h.wf.lt hx
  have hnb := h.wf.1
  have hw1 : IntKind.i64.wrap ((i : Int) + 1) = (i : Int) + 1 := IntWalk.i64_in _ (by omega)
  have hwj : IntKind.i64.wrap ((j : Int) + 1) = (j : Int) + 1 := IntWalk.i64_in _ (by omega)
  obtain ⟨ca, cc, ce, hcq⟩ := h.acts i hi
  obtain ⟨hcc, cb, co, cy, rfl, hcy, hcn, hcq⟩ := hcq (by intro e; rw [e] at hj; cases hj)
  obtain ⟨hcle, hctk⟩ := hcq j hj
  have hcl := h.wf.lt hcy
  have hcr : cb ≠ r := by intro e; subst e; rw [h.ro] at hcn; cases hcn
  have hcM : cb ≠ M.b := by intro e; subst e; rw [hbo] at hcn; cases hcn
  have hj0 : (0 : Int) ≤ (j : Int) := by omega
  have hjZ : (j : Int) < ((A i).length : Int) := by omega
  generalize hA : (A i)[j] = a at *
  simp -implicitDefEqProofs (maxDischargeDepth := 6) (maxSteps := 1000000) only [go_sem, ↓reduceIte, Nat.reduceLT, Nat.reduceLeDiff, Nat.reduceEqDiff, Nat.reduceAdd, Nat.reduceMul, Nat.reduceSub, Nat.reduceBEq, reduceCtorEq, Int.reduceEq, Int.reduceLT, Int.reduceLE, Int.reduceNeg, Int.reduceToNat, hr, hx, hts, hiZ, hi0, hoc, hi, hrb, hbb, hne, hne', nv, hrl, hbl, hnb, hw1, ce, hat, hj0, hjZ, hcc, hcy, hcle, hctk, hcl, hcr, hcM, loads_eq, hwj]
  have u1 := (h.u0 hN).setR (stB { M.V with last := i })
  obtain ⟨hX1, hF1⟩ := h.u2 hN u1 rfl rfl rfl (fun _ _ => rfl)
  obtain ⟨hX2, hF2⟩ := hX1.ext ((Ext.bump (Ext.refl hX1.wf) 13).set (b := H.next + 10) (by simp only [next_set]; omega) (by simp only [next_bump, next_set]; omega) ⟨47, 0, false, a.cells⟩)
  have hF := hF1.trans hF2
  have hcell : ((bump (H.set r (stB { M.V with last := i })) 13).set (H.next + 10) ⟨47, 0, false, a.cells⟩).get (H.next + 10) = some ⟨47, 0, false, a.cells⟩ := get_set_eq (by omega)
  rw [← hts]
  have hcb : base0 ≤ H.next + 10 := by omega
  have hcne : H.next + 10 ≠ r := by omega
  have hcne2 : H.next + 10 ≠ M.b := by omega
  clear hF1 hF2 hX1 u1 hx hr hcy hcq hctk
  generalize (bump (H.set r (stB { M.V with last := i })) 13).set (H.next + 10) ⟨47, 0, false, a.cells⟩ = G at *
  have hr : G.get r = some (stB { M.V with last := i }) := hX2.st
  have hx : G.get M.b = some (arB M.pre M.T N) := (hX2.ts hN).2.2.2
  have hrG := hX2.wf.lt hr
  have hbG := hX2.wf.lt hx
  have hnG := hX2.wf.1
  obtain ⟨a0, a4⟩ := hV.a8 (by omega)
  have hB : a.a.toNat < 8 := by omega
  simp -implicitDefEqProofs (maxDischargeDepth := 6) (maxSteps := 1000000) only [go_sem, ↓reduceIte, Nat.reduceLT, Nat.reduceLeDiff, Nat.reduceEqDiff, Nat.reduceAdd, Nat.reduceMul, Nat.reduceSub, Nat.reduceBEq, reduceCtorEq, Int.reduceEq, Int.reduceLT, Int.reduceLE, Int.reduceNeg, Int.reduceToNat, hk, hcell, hcb, hcne, hcne2, hr, hx, hrb, hbb, hne, hne', hrG, hbG, hnG, hi, hts, nv, hw1, a0, a4, hB]
  rw [← hts]
  obtain ⟨hX3, hF3⟩ := hX2.u2 hN (((hX2.u0 hN).ext (Ext.bump (Ext.refl hX2.wf) 18)).setR (stB { M.V with last := i, regs := upd M.V.regs a.a.toNat (IntKind.i64.wrap (M.V.regs a.a.toNat + a.n)) })) rfl rfl rfl (fun _ _ => rfl)
  refine rtail hX3 hi ?_ ?_ ?_ (z := (j : Int) + 1)
  · simp -implicitDefEqProofs (maxDischargeDepth := 6) (maxSteps := 1000000) only [go_sem, ↓reduceIte, Nat.reduceLT, Nat.reduceLeDiff, Nat.reduceEqDiff, Nat.reduceAdd, Nat.reduceMul, Nat.reduceSub, Nat.reduceBEq, reduceCtorEq, Int.reduceEq, Int.reduceLT, Int.reduceLE, Int.reduceNeg, Int.reduceToNat, ]
  · simp -implicitDefEqProofs (maxDischargeDepth := 6) (maxSteps := 1000000) only [go_sem, ↓reduceIte, Nat.reduceLT, Nat.reduceLeDiff, Nat.reduceEqDiff, Nat.reduceAdd, Nat.reduceMul, Nat.reduceSub, Nat.reduceBEq, reduceCtorEq, Int.reduceEq, Int.reduceLT, Int.reduceLE, Int.reduceNeg, Int.reduceToNat, ]
  · rintro H' ⟨M', q1, q2, q3, q4, q5, q6, q7, q8⟩
    have e : stR ⟨M.T, M.V.held, M.V.regs, C, Q⟩ i (A i).length a = goR ⟨M.T, M.V.held, upd M.V.regs a.a.toNat (IntKind.i64.wrap (M.V.regs a.a.toNat + a.n)), C, Q⟩ i (A i).length ((j : Int) + 1) := by simp [stR, hk, hat]
    rw [e]
    exact ⟨rfl, M', q1, (hF.trans hF3).trans q2, q3, q4, q5, q6, q7, q8⟩
theorem rstep_9 {H : Heap} {r N : Nat} {M : RM} {A : Nat → List Act} {C : Nat → List Nat} {Q : Nat → List Int} (h : RfX H r M N A C Q) {i j : Nat} (hi : i < N) (hiN : N ≤ 1000000) (hj : j < (A i).length) (hlen : (A i).length ≤ 1000000) (hat : (M.T i).at_ = j) (hV : Valid (A i).length (A i)[j])
    (hk : (A i)[j].k = 9) :
    CW Try.prog 26 #[.pointer (some ⟨r, 0, none⟩), nv i] H fun x H' => x = .ret (.tuple #[]) ∧ RfW H r M N A (stR ⟨M.T, M.V.held, M.V.regs, C, Q⟩ i (A i).length (A i)[j]) M.V.room i H' := by
  refine CW_k (n := 213) if26 rfl ?_
  rw [C26_eq]
  have hN : N ≠ 0 := by omega
  obtain ⟨hts, hbo, hbb, hx⟩ := h.ts hN
  have hr := h.st
  have hrb := h.rb
  have hne := h.ne hN
  have hne' := hne.symm
  have hiZ : (i : Int) < (N : Int) := by omega
  have hi0 : (0 : Int) ≤ (i : Int) := by omega
  have hoc : ¬ openCap = 0 := by unfold openCap; omega
  have hrl := h.wf.lt hr
  have hbl := h.wf.lt hx
  have hnb := h.wf.1
  have hw1 : IntKind.i64.wrap ((i : Int) + 1) = (i : Int) + 1 := IntWalk.i64_in _ (by omega)
  have hwj : IntKind.i64.wrap ((j : Int) + 1) = (j : Int) + 1 := IntWalk.i64_in _ (by omega)
  obtain ⟨ca, cc, ce, hcq⟩ := h.acts i hi
  obtain ⟨hcc, cb, co, cy, rfl, hcy, hcn, hcq⟩ := hcq (by intro e; rw [e] at hj; cases hj)
  obtain ⟨hcle, hctk⟩ := hcq j hj
  have hcl := h.wf.lt hcy
  have hcr : cb ≠ r := by intro e; subst e; rw [h.ro] at hcn; cases hcn
  have hcM : cb ≠ M.b := by intro e; subst e; rw [hbo] at hcn; cases hcn
  have hj0 : (0 : Int) ≤ (j : Int) := by omega
  have hjZ : (j : Int) < ((A i).length : Int) := by omega
  generalize hA : (A i)[j] = a at *
  simp -implicitDefEqProofs (maxDischargeDepth := 6) (maxSteps := 1000000) only [go_sem, ↓reduceIte, Nat.reduceLT, Nat.reduceLeDiff, Nat.reduceEqDiff, Nat.reduceAdd, Nat.reduceMul, Nat.reduceSub, Nat.reduceBEq, reduceCtorEq, Int.reduceEq, Int.reduceLT, Int.reduceLE, Int.reduceNeg, Int.reduceToNat, hr, hx, hts, hiZ, hi0, hoc, hi, hrb, hbb, hne, hne', nv, hrl, hbl, hnb, hw1, ce, hat, hj0, hjZ, hcc, hcy, hcle, hctk, hcl, hcr, hcM, loads_eq, hwj]
  have u1 := (h.u0 hN).setR (stB { M.V with last := i })
  obtain ⟨hX1, hF1⟩ := h.u2 hN u1 rfl rfl rfl (fun _ _ => rfl)
  obtain ⟨hX2, hF2⟩ := hX1.ext ((Ext.bump (Ext.refl hX1.wf) 13).set (b := H.next + 10) (by simp only [next_set]; omega) (by simp only [next_bump, next_set]; omega) ⟨47, 0, false, a.cells⟩)
  have hF := hF1.trans hF2
  have hcell : ((bump (H.set r (stB { M.V with last := i })) 13).set (H.next + 10) ⟨47, 0, false, a.cells⟩).get (H.next + 10) = some ⟨47, 0, false, a.cells⟩ := get_set_eq (by omega)
  rw [← hts]
  have hcb : base0 ≤ H.next + 10 := by omega
  have hcne : H.next + 10 ≠ r := by omega
  have hcne2 : H.next + 10 ≠ M.b := by omega
  clear hF1 hF2 hX1 u1 hx hr hcy hcq hctk
  generalize (bump (H.set r (stB { M.V with last := i })) 13).set (H.next + 10) ⟨47, 0, false, a.cells⟩ = G at *
  have hr : G.get r = some (stB { M.V with last := i }) := hX2.st
  have hx : G.get M.b = some (arB M.pre M.T N) := (hX2.ts hN).2.2.2
  have hrG := hX2.wf.lt hr
  have hbG := hX2.wf.lt hx
  have hnG := hX2.wf.1
  obtain ⟨a0, a4⟩ := hV.a8 (by omega)
  obtain ⟨b0, b4⟩ := hV.b8 (by omega)
  have hB : a.a.toNat < 8 := by omega
  have hB2 : a.b.toNat < 8 := by omega
  simp -implicitDefEqProofs (maxDischargeDepth := 6) (maxSteps := 1000000) only [go_sem, ↓reduceIte, Nat.reduceLT, Nat.reduceLeDiff, Nat.reduceEqDiff, Nat.reduceAdd, Nat.reduceMul, Nat.reduceSub, Nat.reduceBEq, reduceCtorEq, Int.reduceEq, Int.reduceLT, Int.reduceLE, Int.reduceNeg, Int.reduceToNat, hk, hcell, hcb, hcne, hcne2, hr, hx, hrb, hbb, hne, hne', hrG, hbG, hnG, hi, hts, nv, hw1, a0, a4, hB, b0, b4, hB2]
  rw [← hts]
  obtain ⟨hX3, hF3⟩ := hX2.u2 hN (((hX2.u0 hN).ext (Ext.bump (Ext.refl hX2.wf) 15)).setR (stB { M.V with last := i, regs := upd M.V.regs a.b.toNat (M.V.regs a.a.toNat) })) rfl rfl rfl (fun _ _ => rfl)
  refine rtail hX3 hi ?_ ?_ ?_ (z := (j : Int) + 1)
  · simp -implicitDefEqProofs (maxDischargeDepth := 6) (maxSteps := 1000000) only [go_sem, ↓reduceIte, Nat.reduceLT, Nat.reduceLeDiff, Nat.reduceEqDiff, Nat.reduceAdd, Nat.reduceMul, Nat.reduceSub, Nat.reduceBEq, reduceCtorEq, Int.reduceEq, Int.reduceLT, Int.reduceLE, Int.reduceNeg, Int.reduceToNat, ]
  · simp -implicitDefEqProofs (maxDischargeDepth := 6) (maxSteps := 1000000) only [go_sem, ↓reduceIte, Nat.reduceLT, Nat.reduceLeDiff, Nat.reduceEqDiff, Nat.reduceAdd, Nat.reduceMul, Nat.reduceSub, Nat.reduceBEq, reduceCtorEq, Int.reduceEq, Int.reduceLT, Int.reduceLE, Int.reduceNeg, Int.reduceToNat, ]
  · rintro H' ⟨M', q1, q2, q3, q4, q5, q6, q7, q8⟩
    have e : stR ⟨M.T, M.V.held, M.V.regs, C, Q⟩ i (A i).length a = goR ⟨M.T, M.V.held, upd M.V.regs a.b.toNat (M.V.regs a.a.toNat), C, Q⟩ i (A i).length ((j : Int) + 1) := by simp [stR, hk, hat]
    rw [e]
    exact ⟨rfl, M', q1, (hF.trans hF3).trans q2, q3, q4, q5, q6, q7, q8⟩
theorem rstep_10 {H : Heap} {r N : Nat} {M : RM} {A : Nat → List Act} {C : Nat → List Nat} {Q : Nat → List Int} (h : RfX H r M N A C Q) {i j : Nat} (hi : i < N) (hiN : N ≤ 1000000) (hj : j < (A i).length) (hlen : (A i).length ≤ 1000000) (hat : (M.T i).at_ = j) (hV : Valid (A i).length (A i)[j])
    (hk : (A i)[j].k = 10) :
    CW Try.prog 26 #[.pointer (some ⟨r, 0, none⟩), nv i] H fun x H' => x = .ret (.tuple #[]) ∧ RfW H r M N A (stR ⟨M.T, M.V.held, M.V.regs, C, Q⟩ i (A i).length (A i)[j]) M.V.room i H' := by
  refine CW_k (n := 213) if26 rfl ?_
  rw [C26_eq]
  have hN : N ≠ 0 := by omega
  obtain ⟨hts, hbo, hbb, hx⟩ := h.ts hN
  have hr := h.st
  have hrb := h.rb
  have hne := h.ne hN
  have hne' := hne.symm
  have hiZ : (i : Int) < (N : Int) := by omega
  have hi0 : (0 : Int) ≤ (i : Int) := by omega
  have hoc : ¬ openCap = 0 := by unfold openCap; omega
  have hrl := h.wf.lt hr
  have hbl := h.wf.lt hx
  have hnb := h.wf.1
  have hw1 : IntKind.i64.wrap ((i : Int) + 1) = (i : Int) + 1 := IntWalk.i64_in _ (by omega)
  have hwj : IntKind.i64.wrap ((j : Int) + 1) = (j : Int) + 1 := IntWalk.i64_in _ (by omega)
  obtain ⟨ca, cc, ce, hcq⟩ := h.acts i hi
  obtain ⟨hcc, cb, co, cy, rfl, hcy, hcn, hcq⟩ := hcq (by intro e; rw [e] at hj; cases hj)
  obtain ⟨hcle, hctk⟩ := hcq j hj
  have hcl := h.wf.lt hcy
  have hcr : cb ≠ r := by intro e; subst e; rw [h.ro] at hcn; cases hcn
  have hcM : cb ≠ M.b := by intro e; subst e; rw [hbo] at hcn; cases hcn
  have hj0 : (0 : Int) ≤ (j : Int) := by omega
  have hjZ : (j : Int) < ((A i).length : Int) := by omega
  generalize hA : (A i)[j] = a at *
  simp -implicitDefEqProofs (maxDischargeDepth := 6) (maxSteps := 1000000) only [go_sem, ↓reduceIte, Nat.reduceLT, Nat.reduceLeDiff, Nat.reduceEqDiff, Nat.reduceAdd, Nat.reduceMul, Nat.reduceSub, Nat.reduceBEq, reduceCtorEq, Int.reduceEq, Int.reduceLT, Int.reduceLE, Int.reduceNeg, Int.reduceToNat, hr, hx, hts, hiZ, hi0, hoc, hi, hrb, hbb, hne, hne', nv, hrl, hbl, hnb, hw1, ce, hat, hj0, hjZ, hcc, hcy, hcle, hctk, hcl, hcr, hcM, loads_eq, hwj]
  have u1 := (h.u0 hN).setR (stB { M.V with last := i })
  obtain ⟨hX1, hF1⟩ := h.u2 hN u1 rfl rfl rfl (fun _ _ => rfl)
  obtain ⟨hX2, hF2⟩ := hX1.ext ((Ext.bump (Ext.refl hX1.wf) 13).set (b := H.next + 10) (by simp only [next_set]; omega) (by simp only [next_bump, next_set]; omega) ⟨47, 0, false, a.cells⟩)
  have hF := hF1.trans hF2
  have hcell : ((bump (H.set r (stB { M.V with last := i })) 13).set (H.next + 10) ⟨47, 0, false, a.cells⟩).get (H.next + 10) = some ⟨47, 0, false, a.cells⟩ := get_set_eq (by omega)
  rw [← hts]
  have hcb : base0 ≤ H.next + 10 := by omega
  have hcne : H.next + 10 ≠ r := by omega
  have hcne2 : H.next + 10 ≠ M.b := by omega
  clear hF1 hF2 hX1 u1 hx hr hcy hcq hctk
  generalize (bump (H.set r (stB { M.V with last := i })) 13).set (H.next + 10) ⟨47, 0, false, a.cells⟩ = G at *
  have hr : G.get r = some (stB { M.V with last := i }) := hX2.st
  have hx : G.get M.b = some (arB M.pre M.T N) := (hX2.ts hN).2.2.2
  have hrG := hX2.wf.lt hr
  have hbG := hX2.wf.lt hx
  have hnG := hX2.wf.1
  obtain ⟨a0, a4⟩ := hV.a8 (by omega)
  obtain ⟨n0, n4⟩ := hV.n10 hk
  have hB : a.a.toNat < 8 := by omega
  have hwn : IntKind.i64.wrap ((j : Int) + 1 + a.n) = (j : Int) + 1 + a.n := IntWalk.i64_in _ (by omega)
  by_cases c1 : M.V.regs a.a.toNat = 0
  · simp -implicitDefEqProofs (maxDischargeDepth := 6) (maxSteps := 1000000) only [go_sem, ↓reduceIte, Nat.reduceLT, Nat.reduceLeDiff, Nat.reduceEqDiff, Nat.reduceAdd, Nat.reduceMul, Nat.reduceSub, Nat.reduceBEq, reduceCtorEq, Int.reduceEq, Int.reduceLT, Int.reduceLE, Int.reduceNeg, Int.reduceToNat, hk, hcell, hcb, hcne, hcne2, hr, hx, hrb, hbb, hne, hne', hrG, hbG, hnG, hi, hts, nv, hw1, a0, a4, hB, c1, hwn]
    refine rtail hX2 hi ?_ ?_ ?_ (z := (j : Int) + 1 + a.n)
    · simp -implicitDefEqProofs (maxDischargeDepth := 6) (maxSteps := 1000000) only [go_sem, ↓reduceIte, Nat.reduceLT, Nat.reduceLeDiff, Nat.reduceEqDiff, Nat.reduceAdd, Nat.reduceMul, Nat.reduceSub, Nat.reduceBEq, reduceCtorEq, Int.reduceEq, Int.reduceLT, Int.reduceLE, Int.reduceNeg, Int.reduceToNat, ]
    · simp -implicitDefEqProofs (maxDischargeDepth := 6) (maxSteps := 1000000) only [go_sem, ↓reduceIte, Nat.reduceLT, Nat.reduceLeDiff, Nat.reduceEqDiff, Nat.reduceAdd, Nat.reduceMul, Nat.reduceSub, Nat.reduceBEq, reduceCtorEq, Int.reduceEq, Int.reduceLT, Int.reduceLE, Int.reduceNeg, Int.reduceToNat, ]
    · rintro H' ⟨M', q1, q2, q3, q4, q5, q6, q7, q8⟩
      have e : stR ⟨M.T, M.V.held, M.V.regs, C, Q⟩ i (A i).length a = goR ⟨M.T, M.V.held, M.V.regs, C, Q⟩ i (A i).length ((j : Int) + 1 + a.n) := by simp [stR, hk, hat, c1]
      rw [e]
      exact ⟨rfl, M', q1, hF.trans q2, q3, q4, q5, q6, q7, q8⟩
  · simp -implicitDefEqProofs (maxDischargeDepth := 6) (maxSteps := 1000000) only [go_sem, ↓reduceIte, Nat.reduceLT, Nat.reduceLeDiff, Nat.reduceEqDiff, Nat.reduceAdd, Nat.reduceMul, Nat.reduceSub, Nat.reduceBEq, reduceCtorEq, Int.reduceEq, Int.reduceLT, Int.reduceLE, Int.reduceNeg, Int.reduceToNat, hk, hcell, hcb, hcne, hcne2, hr, hx, hrb, hbb, hne, hne', hrG, hbG, hnG, hi, hts, nv, hw1, a0, a4, hB, c1]
    refine rtail hX2 hi ?_ ?_ ?_ (z := (j : Int) + 1)
    · simp -implicitDefEqProofs (maxDischargeDepth := 6) (maxSteps := 1000000) only [go_sem, ↓reduceIte, Nat.reduceLT, Nat.reduceLeDiff, Nat.reduceEqDiff, Nat.reduceAdd, Nat.reduceMul, Nat.reduceSub, Nat.reduceBEq, reduceCtorEq, Int.reduceEq, Int.reduceLT, Int.reduceLE, Int.reduceNeg, Int.reduceToNat, ]
    · simp -implicitDefEqProofs (maxDischargeDepth := 6) (maxSteps := 1000000) only [go_sem, ↓reduceIte, Nat.reduceLT, Nat.reduceLeDiff, Nat.reduceEqDiff, Nat.reduceAdd, Nat.reduceMul, Nat.reduceSub, Nat.reduceBEq, reduceCtorEq, Int.reduceEq, Int.reduceLT, Int.reduceLE, Int.reduceNeg, Int.reduceToNat, ]
    · rintro H' ⟨M', q1, q2, q3, q4, q5, q6, q7, q8⟩
      have e : stR ⟨M.T, M.V.held, M.V.regs, C, Q⟩ i (A i).length a = goR ⟨M.T, M.V.held, M.V.regs, C, Q⟩ i (A i).length ((j : Int) + 1) := by simp [stR, hk, hat, c1]
      rw [e]
      exact ⟨rfl, M', q1, hF.trans q2, q3, q4, q5, q6, q7, q8⟩
theorem rstep_12 {H : Heap} {r N : Nat} {M : RM} {A : Nat → List Act} {C : Nat → List Nat} {Q : Nat → List Int} (h : RfX H r M N A C Q) {i j : Nat} (hi : i < N) (hiN : N ≤ 1000000) (hj : j < (A i).length) (hlen : (A i).length ≤ 1000000) (hat : (M.T i).at_ = j) (hV : Valid (A i).length (A i)[j])
    (hk : (A i)[j].k = 12) :
    CW Try.prog 26 #[.pointer (some ⟨r, 0, none⟩), nv i] H fun x H' => x = .ret (.tuple #[]) ∧ RfW H r M N A (stR ⟨M.T, M.V.held, M.V.regs, C, Q⟩ i (A i).length (A i)[j]) M.V.room i H' := by
  refine CW_k (n := 213) if26 rfl ?_
  rw [C26_eq]
  have hN : N ≠ 0 := by omega
  obtain ⟨hts, hbo, hbb, hx⟩ := h.ts hN
  have hr := h.st
  have hrb := h.rb
  have hne := h.ne hN
  have hne' := hne.symm
  have hiZ : (i : Int) < (N : Int) := by omega
  have hi0 : (0 : Int) ≤ (i : Int) := by omega
  have hoc : ¬ openCap = 0 := by unfold openCap; omega
  have hrl := h.wf.lt hr
  have hbl := h.wf.lt hx
  have hnb := h.wf.1
  have hw1 : IntKind.i64.wrap ((i : Int) + 1) = (i : Int) + 1 := IntWalk.i64_in _ (by omega)
  have hwj : IntKind.i64.wrap ((j : Int) + 1) = (j : Int) + 1 := IntWalk.i64_in _ (by omega)
  obtain ⟨ca, cc, ce, hcq⟩ := h.acts i hi
  obtain ⟨hcc, cb, co, cy, rfl, hcy, hcn, hcq⟩ := hcq (by intro e; rw [e] at hj; cases hj)
  obtain ⟨hcle, hctk⟩ := hcq j hj
  have hcl := h.wf.lt hcy
  have hcr : cb ≠ r := by intro e; subst e; rw [h.ro] at hcn; cases hcn
  have hcM : cb ≠ M.b := by intro e; subst e; rw [hbo] at hcn; cases hcn
  have hj0 : (0 : Int) ≤ (j : Int) := by omega
  have hjZ : (j : Int) < ((A i).length : Int) := by omega
  generalize hA : (A i)[j] = a at *
  simp -implicitDefEqProofs (maxDischargeDepth := 6) (maxSteps := 1000000) only [go_sem, ↓reduceIte, Nat.reduceLT, Nat.reduceLeDiff, Nat.reduceEqDiff, Nat.reduceAdd, Nat.reduceMul, Nat.reduceSub, Nat.reduceBEq, reduceCtorEq, Int.reduceEq, Int.reduceLT, Int.reduceLE, Int.reduceNeg, Int.reduceToNat, hr, hx, hts, hiZ, hi0, hoc, hi, hrb, hbb, hne, hne', nv, hrl, hbl, hnb, hw1, ce, hat, hj0, hjZ, hcc, hcy, hcle, hctk, hcl, hcr, hcM, loads_eq, hwj]
  have u1 := (h.u0 hN).setR (stB { M.V with last := i })
  obtain ⟨hX1, hF1⟩ := h.u2 hN u1 rfl rfl rfl (fun _ _ => rfl)
  obtain ⟨hX2, hF2⟩ := hX1.ext ((Ext.bump (Ext.refl hX1.wf) 13).set (b := H.next + 10) (by simp only [next_set]; omega) (by simp only [next_bump, next_set]; omega) ⟨47, 0, false, a.cells⟩)
  have hF := hF1.trans hF2
  have hcell : ((bump (H.set r (stB { M.V with last := i })) 13).set (H.next + 10) ⟨47, 0, false, a.cells⟩).get (H.next + 10) = some ⟨47, 0, false, a.cells⟩ := get_set_eq (by omega)
  rw [← hts]
  have hcb : base0 ≤ H.next + 10 := by omega
  have hcne : H.next + 10 ≠ r := by omega
  have hcne2 : H.next + 10 ≠ M.b := by omega
  clear hF1 hF2 hX1 u1 hx hr hcy hcq hctk
  generalize (bump (H.set r (stB { M.V with last := i })) 13).set (H.next + 10) ⟨47, 0, false, a.cells⟩ = G at *
  have hr : G.get r = some (stB { M.V with last := i }) := hX2.st
  have hx : G.get M.b = some (arB M.pre M.T N) := (hX2.ts hN).2.2.2
  have hrG := hX2.wf.lt hr
  have hbG := hX2.wf.lt hx
  have hnG := hX2.wf.1
  simp -implicitDefEqProofs (maxDischargeDepth := 6) (maxSteps := 1000000) only [go_sem, ↓reduceIte, Nat.reduceLT, Nat.reduceLeDiff, Nat.reduceEqDiff, Nat.reduceAdd, Nat.reduceMul, Nat.reduceSub, Nat.reduceBEq, reduceCtorEq, Int.reduceEq, Int.reduceLT, Int.reduceLE, Int.reduceNeg, Int.reduceToNat, hk, hcell, hcb, hcne, hcne2, hr, hx, hrb, hbb, hne, hne', hrG, hbG, hnG, hi, hts, nv, hw1]
  refine CW_mono _ (panics_W hX2.wf hrb hbb hne hr hx hts hi ce (n := a.n)) ?_
  rintro _ H' ⟨rfl, hu⟩
  simp -implicitDefEqProofs (maxDischargeDepth := 6) (maxSteps := 1000000) only [go_sem, ↓reduceIte, Nat.reduceLT, Nat.reduceLeDiff, Nat.reduceEqDiff, Nat.reduceAdd, Nat.reduceMul, Nat.reduceSub, Nat.reduceBEq, reduceCtorEq, Int.reduceEq, Int.reduceLT, Int.reduceLE, Int.reduceNeg, Int.reduceToNat, ]
  obtain ⟨hX3, hF3⟩ := hX2.u2 hN hu (by unfold panV; split <;> rfl) (by unfold panV; split <;> rfl) (by unfold panV; split <;> rfl) (fun j _ => upd_acts (by unfold panT; split <;> rfl) j)
  have e : stR ⟨M.T, M.V.held, M.V.regs, C, Q⟩ i (A i).length a = panR ⟨M.T, M.V.held, M.V.regs, C, Q⟩ i (A i).length a.n := by simp [stR, hk]
  rw [e]
  exact ⟨_, hX3, hF.trans hF3, rfl, by unfold panV panR; split <;> rfl, by unfold panV panR; split <;> rfl, by unfold panV; split <;> rfl, by unfold panV; split <;> rfl, rfl, rfl⟩
theorem rstep_13 {H : Heap} {r N : Nat} {M : RM} {A : Nat → List Act} {C : Nat → List Nat} {Q : Nat → List Int} (h : RfX H r M N A C Q) {i j : Nat} (hi : i < N) (hiN : N ≤ 1000000) (hj : j < (A i).length) (hlen : (A i).length ≤ 1000000) (hat : (M.T i).at_ = j) (hV : Valid (A i).length (A i)[j])
    (hk : (A i)[j].k = 13) :
    CW Try.prog 26 #[.pointer (some ⟨r, 0, none⟩), nv i] H fun x H' => x = .ret (.tuple #[]) ∧ RfW H r M N A (stR ⟨M.T, M.V.held, M.V.regs, C, Q⟩ i (A i).length (A i)[j]) M.V.room i H' := by
  refine CW_k (n := 213) if26 rfl ?_
  rw [C26_eq]
  have hN : N ≠ 0 := by omega
  obtain ⟨hts, hbo, hbb, hx⟩ := h.ts hN
  have hr := h.st
  have hrb := h.rb
  have hne := h.ne hN
  have hne' := hne.symm
  have hiZ : (i : Int) < (N : Int) := by omega
  have hi0 : (0 : Int) ≤ (i : Int) := by omega
  have hoc : ¬ openCap = 0 := by unfold openCap; omega
  have hrl := h.wf.lt hr
  have hbl := h.wf.lt hx
  have hnb := h.wf.1
  have hw1 : IntKind.i64.wrap ((i : Int) + 1) = (i : Int) + 1 := IntWalk.i64_in _ (by omega)
  have hwj : IntKind.i64.wrap ((j : Int) + 1) = (j : Int) + 1 := IntWalk.i64_in _ (by omega)
  obtain ⟨ca, cc, ce, hcq⟩ := h.acts i hi
  obtain ⟨hcc, cb, co, cy, rfl, hcy, hcn, hcq⟩ := hcq (by intro e; rw [e] at hj; cases hj)
  obtain ⟨hcle, hctk⟩ := hcq j hj
  have hcl := h.wf.lt hcy
  have hcr : cb ≠ r := by intro e; subst e; rw [h.ro] at hcn; cases hcn
  have hcM : cb ≠ M.b := by intro e; subst e; rw [hbo] at hcn; cases hcn
  have hj0 : (0 : Int) ≤ (j : Int) := by omega
  have hjZ : (j : Int) < ((A i).length : Int) := by omega
  generalize hA : (A i)[j] = a at *
  simp -implicitDefEqProofs (maxDischargeDepth := 6) (maxSteps := 1000000) only [go_sem, ↓reduceIte, Nat.reduceLT, Nat.reduceLeDiff, Nat.reduceEqDiff, Nat.reduceAdd, Nat.reduceMul, Nat.reduceSub, Nat.reduceBEq, reduceCtorEq, Int.reduceEq, Int.reduceLT, Int.reduceLE, Int.reduceNeg, Int.reduceToNat, hr, hx, hts, hiZ, hi0, hoc, hi, hrb, hbb, hne, hne', nv, hrl, hbl, hnb, hw1, ce, hat, hj0, hjZ, hcc, hcy, hcle, hctk, hcl, hcr, hcM, loads_eq, hwj]
  have u1 := (h.u0 hN).setR (stB { M.V with last := i })
  obtain ⟨hX1, hF1⟩ := h.u2 hN u1 rfl rfl rfl (fun _ _ => rfl)
  obtain ⟨hX2, hF2⟩ := hX1.ext ((Ext.bump (Ext.refl hX1.wf) 13).set (b := H.next + 10) (by simp only [next_set]; omega) (by simp only [next_bump, next_set]; omega) ⟨47, 0, false, a.cells⟩)
  have hF := hF1.trans hF2
  have hcell : ((bump (H.set r (stB { M.V with last := i })) 13).set (H.next + 10) ⟨47, 0, false, a.cells⟩).get (H.next + 10) = some ⟨47, 0, false, a.cells⟩ := get_set_eq (by omega)
  rw [← hts]
  have hcb : base0 ≤ H.next + 10 := by omega
  have hcne : H.next + 10 ≠ r := by omega
  have hcne2 : H.next + 10 ≠ M.b := by omega
  clear hF1 hF2 hX1 u1 hx hr hcy hcq hctk
  generalize (bump (H.set r (stB { M.V with last := i })) 13).set (H.next + 10) ⟨47, 0, false, a.cells⟩ = G at *
  have hr : G.get r = some (stB { M.V with last := i }) := hX2.st
  have hx : G.get M.b = some (arB M.pre M.T N) := (hX2.ts hN).2.2.2
  have hrG := hX2.wf.lt hr
  have hbG := hX2.wf.lt hx
  have hnG := hX2.wf.1
  simp -implicitDefEqProofs (maxDischargeDepth := 6) (maxSteps := 1000000) only [go_sem, ↓reduceIte, Nat.reduceLT, Nat.reduceLeDiff, Nat.reduceEqDiff, Nat.reduceAdd, Nat.reduceMul, Nat.reduceSub, Nat.reduceBEq, reduceCtorEq, Int.reduceEq, Int.reduceLT, Int.reduceLE, Int.reduceNeg, Int.reduceToNat, hk, hcell, hcb, hcne, hcne2, hr, hx, hrb, hbb, hne, hne', hrG, hbG, hnG, hi, hts, nv, hw1]
  obtain ⟨hX3, hF3⟩ := hX2.u2 hN ((hX2.u0 hN).setB (arB M.pre (upd M.T i { M.T i with guard := a.n }) N)) rfl rfl rfl (fun j _ => upd_acts (by rfl) j)
  refine rtail hX3 hi ?_ ?_ ?_ (z := (j : Int) + 1)
  · simp -implicitDefEqProofs (maxDischargeDepth := 6) (maxSteps := 1000000) only [go_sem, ↓reduceIte, Nat.reduceLT, Nat.reduceLeDiff, Nat.reduceEqDiff, Nat.reduceAdd, Nat.reduceMul, Nat.reduceSub, Nat.reduceBEq, reduceCtorEq, Int.reduceEq, Int.reduceLT, Int.reduceLE, Int.reduceNeg, Int.reduceToNat, ]
  · simp -implicitDefEqProofs (maxDischargeDepth := 6) (maxSteps := 1000000) only [go_sem, ↓reduceIte, Nat.reduceLT, Nat.reduceLeDiff, Nat.reduceEqDiff, Nat.reduceAdd, Nat.reduceMul, Nat.reduceSub, Nat.reduceBEq, reduceCtorEq, Int.reduceEq, Int.reduceLT, Int.reduceLE, Int.reduceNeg, Int.reduceToNat, ]
  · rintro H' ⟨M', q1, q2, q3, q4, q5, q6, q7, q8⟩
    have e : stR ⟨M.T, M.V.held, M.V.regs, C, Q⟩ i (A i).length a = goR ⟨upd M.T i { M.T i with guard := a.n }, M.V.held, M.V.regs, C, Q⟩ i (A i).length ((j : Int) + 1) := by simp [stR, hk, hat]
    rw [e]
    exact ⟨rfl, M', q1, (hF.trans hF3).trans q2, q3, q4, q5, q6, q7, q8⟩
end Go.Am.T
namespace Go.Am.T
open Go Go.Am Go.Proofs.Ythanhcpnhionaaa Go.Proofs
theorem rstep_3 {H : Heap} {r N : Nat} {M : RM} {A : Nat → List Act} {C : Nat → List Nat} {Q : Nat → List Int} (h : RfX H r M N A C Q) {i j : Nat} (hi : i < N) (hiN : N ≤ 1000000) (hj : j < (A i).length) (hlen : (A i).length ≤ 1000000) (hat : (M.T i).at_ = j) (hV : Valid (A i).length (A i)[j])
    (hC : ∀ k, k < 4 → ∀ x ∈ C k, x < N) (hbd : ∀ k, k < 4 → (C k).length ≤ 1000000) (hbq : ∀ k, k < 4 → (Q k).length ≤ 1000000) (hk : (A i)[j].k = 3) :
    CW Try.prog 26 #[.pointer (some ⟨r, 0, none⟩), nv i] H fun x H' => x = .ret (.tuple #[]) ∧ RfW H r M N A (stR ⟨M.T, M.V.held, M.V.regs, C, Q⟩ i (A i).length (A i)[j]) M.V.room i H' := by
  refine CW_k (n := 213) if26 rfl ?_
  rw [C26_eq]
  have hN : N ≠ 0 := by omega
  obtain ⟨hts, hbo, hbb, hx⟩ := h.ts hN
  have hr := h.st
  have hrb := h.rb
  have hne := h.ne hN
  have hne' := hne.symm
  have hiZ : (i : Int) < (N : Int) := by omega
  have hi0 : (0 : Int) ≤ (i : Int) := by omega
  have hoc : ¬ openCap = 0 := by unfold openCap; omega
  have hrl := h.wf.lt hr
  have hbl := h.wf.lt hx
  have hnb := h.wf.1
  have hw1 : IntKind.i64.wrap ((i : Int) + 1) = (i : Int) + 1 := IntWalk.i64_in _ (by omega)
  have hwj : IntKind.i64.wrap ((j : Int) + 1) = (j : Int) + 1 := IntWalk.i64_in _ (by omega)
  obtain ⟨ca, cc, ce, hcq⟩ := h.acts i hi
  obtain ⟨hcc, cb, co, cy, rfl, hcy, hcn, hcq⟩ := hcq (by intro e; rw [e] at hj; cases hj)
  obtain ⟨hcle, hctk⟩ := hcq j hj
  have hcl := h.wf.lt hcy
  have hcr : cb ≠ r := by intro e; subst e; rw [h.ro] at hcn; cases hcn
  have hcM : cb ≠ M.b := by intro e; subst e; rw [hbo] at hcn; cases hcn
  have hj0 : (0 : Int) ≤ (j : Int) := by omega
  have hjZ : (j : Int) < ((A i).length : Int) := by omega
  generalize hA : (A i)[j] = a at *
  simp -implicitDefEqProofs (maxDischargeDepth := 6) (maxSteps := 1000000) only [go_sem, ↓reduceIte, Nat.reduceLT, Nat.reduceLeDiff, Nat.reduceEqDiff, Nat.reduceAdd, Nat.reduceMul, Nat.reduceSub, Nat.reduceBEq, reduceCtorEq, Int.reduceEq, Int.reduceLT, Int.reduceLE, Int.reduceNeg, Int.reduceToNat, hr, hx, hts, hiZ, hi0, hoc, hi, hrb, hbb, hne, hne', nv, hrl, hbl, hnb, hw1, ce, hat, hj0, hjZ, hcc, hcy, hcle, hctk, hcl, hcr, hcM, loads_eq, hwj]
  have u1 := (h.u0 hN).setR (stB { M.V with last := i })
  obtain ⟨hX1, hF1⟩ := h.u2 hN u1 rfl rfl rfl (fun _ _ => rfl)
  obtain ⟨hX2, hF2⟩ := hX1.ext ((Ext.bump (Ext.refl hX1.wf) 13).set (b := H.next + 10) (by simp only [next_set]; omega) (by simp only [next_bump, next_set]; omega) ⟨47, 0, false, a.cells⟩)
  have hF := hF1.trans hF2
  have hcell : ((bump (H.set r (stB { M.V with last := i })) 13).set (H.next + 10) ⟨47, 0, false, a.cells⟩).get (H.next + 10) = some ⟨47, 0, false, a.cells⟩ := get_set_eq (by omega)
  rw [← hts]
  have hcb : base0 ≤ H.next + 10 := by omega
  have hcne : H.next + 10 ≠ r := by omega
  have hcne2 : H.next + 10 ≠ M.b := by omega
  clear hF1 hF2 hX1 u1 hx hr hcy hcq hctk
  generalize (bump (H.set r (stB { M.V with last := i })) 13).set (H.next + 10) ⟨47, 0, false, a.cells⟩ = G at *
  have hr : G.get r = some (stB { M.V with last := i }) := hX2.st
  have hx : G.get M.b = some (arB M.pre M.T N) := (hX2.ts hN).2.2.2
  have hrG := hX2.wf.lt hr
  have hbG := hX2.wf.lt hx
  have hnG := hX2.wf.1
  obtain ⟨a0, a4⟩ := hV.a4 (by omega)
  obtain ⟨b0, b4⟩ := hV.b4 hk
  simp -implicitDefEqProofs (maxDischargeDepth := 6) (maxSteps := 1000000) only [go_sem, ↓reduceIte, Nat.reduceLT, Nat.reduceLeDiff, Nat.reduceEqDiff, Nat.reduceAdd, Nat.reduceMul, Nat.reduceSub, Nat.reduceBEq, reduceCtorEq, Int.reduceEq, Int.reduceLT, Int.reduceLE, Int.reduceNeg, Int.reduceToNat, hk, hcell, hcb, hcne, hcne2, hr, hx, hrb, hbb, hne, hne', hrG, hbG, hnG, hi, hts, nv, hw1, loads_eq]
  refine CW_mono _ (rwait_W hX2 hi (by omega) a0 a4 b0 b4 (hbd _ (by omega))) ?_
  intro x H' hx'
  by_cases c1 : (M.T i).wait = 2
  · rw [if_pos c1] at hx'
    obtain ⟨rfl, M', q1, q2, q3, q4, q5, q6, q7, q8, q9⟩ := hx'
    simp -implicitDefEqProofs (maxDischargeDepth := 6) (maxSteps := 1000000) only [go_sem, ↓reduceIte, Nat.reduceLT, Nat.reduceLeDiff, Nat.reduceEqDiff, Nat.reduceAdd, Nat.reduceMul, Nat.reduceSub, Nat.reduceBEq, reduceCtorEq, Int.reduceEq, Int.reduceLT, Int.reduceLE, Int.reduceNeg, Int.reduceToNat, ]
    refine rtail q1 hi ?_ ?_ ?_ (z := (j : Int) + 1)
    · rw [q8, q9]
      simp -implicitDefEqProofs (maxDischargeDepth := 6) (maxSteps := 1000000) only [go_sem, ↓reduceIte, Nat.reduceLT, Nat.reduceLeDiff, Nat.reduceEqDiff, Nat.reduceAdd, Nat.reduceMul, Nat.reduceSub, Nat.reduceBEq, reduceCtorEq, Int.reduceEq, Int.reduceLT, Int.reduceLE, Int.reduceNeg, Int.reduceToNat, ]
    · simp -implicitDefEqProofs (maxDischargeDepth := 6) (maxSteps := 1000000) only [go_sem, ↓reduceIte, Nat.reduceLT, Nat.reduceLeDiff, Nat.reduceEqDiff, Nat.reduceAdd, Nat.reduceMul, Nat.reduceSub, Nat.reduceBEq, reduceCtorEq, Int.reduceEq, Int.reduceLT, Int.reduceLE, Int.reduceNeg, Int.reduceToNat, ]
    · rintro H' ⟨M2, p1, p2, p3, p4, p5, p6, p7, p8, p9⟩
      have e : stR ⟨M.T, M.V.held, M.V.regs, C, Q⟩ i (A i).length a = goR ⟨upd M.T i { M.T i with wait := 0 }, upd M.V.held a.b.toNat ((i : Int) + 1), M.V.regs, C, Q⟩ i (A i).length ((j : Int) + 1) := by simp [stR, hk, hat, c1]
      rw [e]
      rw [q3] at p3
      exact ⟨rfl, M2, p1, (hF.trans q2).trans p2, p3, p4.trans q4, p5.trans q5, p6.trans q6, p7.trans q7, p8.trans q8, p9.trans q9⟩
  by_cases c2 : M.V.held a.b.toNat = (i : Int) + 1
  · rw [if_neg c1, if_neg (fun k => k c2)] at hx'
    obtain ⟨rfl, M', q1, q2, q3, q4, q5, q6, q7, q8, q9⟩ := hx'
    simp -implicitDefEqProofs (maxDischargeDepth := 6) (maxSteps := 1000000) only [go_sem, ↓reduceIte, Nat.reduceLT, Nat.reduceLeDiff, Nat.reduceEqDiff, Nat.reduceAdd, Nat.reduceMul, Nat.reduceSub, Nat.reduceBEq, reduceCtorEq, Int.reduceEq, Int.reduceLT, Int.reduceLE, Int.reduceNeg, Int.reduceToNat, ]
    have e : stR ⟨M.T, M.V.held, M.V.regs, C, Q⟩ i (A i).length a = ⟨upd M.T i { M.T i with wait := 1 }, upd M.V.held a.b.toNat 0, M.V.regs, upd C a.a.toNat (C a.a.toNat ++ [i]), Q⟩ := by simp [stR, hk, c1, c2]
    rw [e]
    exact ⟨M', q1, hF.trans q2, q3, q4, q5, q6, q7, q8, q9⟩
  · rw [if_neg c1, if_pos c2] at hx'
    obtain ⟨rfl, M', q1, q2, q3, q4, q5, q6, q7, q8, q9⟩ := hx'
    simp -implicitDefEqProofs (maxDischargeDepth := 6) (maxSteps := 1000000) only [go_sem, ↓reduceIte, Nat.reduceLT, Nat.reduceLeDiff, Nat.reduceEqDiff, Nat.reduceAdd, Nat.reduceMul, Nat.reduceSub, Nat.reduceBEq, reduceCtorEq, Int.reduceEq, Int.reduceLT, Int.reduceLE, Int.reduceNeg, Int.reduceToNat, ]
    obtain ⟨ts1, ts2, ts3, ts4⟩ := q1.ts hN
    refine CW_mono _ (panics_W q1.wf q1.rb ts3 (q1.ne hN) q1.st ts4 ts1 hi (by rw [q3]; exact ce) (n := -1)) ?_
    rintro _ H' ⟨rfl, hu⟩
    simp -implicitDefEqProofs (maxDischargeDepth := 6) (maxSteps := 1000000) only [go_sem, ↓reduceIte, Nat.reduceLT, Nat.reduceLeDiff, Nat.reduceEqDiff, Nat.reduceAdd, Nat.reduceMul, Nat.reduceSub, Nat.reduceBEq, reduceCtorEq, Int.reduceEq, Int.reduceLT, Int.reduceLE, Int.reduceNeg, Int.reduceToNat, ]
    obtain ⟨hX3, hF3⟩ := q1.u2 hN hu (by unfold panV; split <;> rfl) (by unfold panV; split <;> rfl) (by unfold panV; split <;> rfl) (fun j _ => upd_acts (by unfold panT; split <;> rfl) j)
    have e : stR ⟨M.T, M.V.held, M.V.regs, C, Q⟩ i (A i).length a = panR ⟨M.T, M.V.held, M.V.regs, C, Q⟩ i (A i).length (-1) := by simp [stR, hk, c1, c2]
    rw [e]
    refine ⟨_, hX3, (hF.trans q2).trans hF3, by simp only [q3]; rfl, ?_, ?_, ?_, ?_, q8, q9⟩
    · rw [← q4]; unfold panV; split <;> rfl
    · rw [q3]; unfold panV panR; split
      · exact q5
      · show upd M'.V.regs 7 (-1) = upd M.V.regs 7 (-1); rw [q5]
    · rw [← q6]; unfold panV; split <;> rfl
    · refine Eq.trans ?_ q7
      show (panV M'.V (M'.T i) (-1)).last = M'.V.last
      unfold panV; split <;> rfl
theorem rstep_4 {H : Heap} {r N : Nat} {M : RM} {A : Nat → List Act} {C : Nat → List Nat} {Q : Nat → List Int} (h : RfX H r M N A C Q) {i j : Nat} (hi : i < N) (hiN : N ≤ 1000000) (hj : j < (A i).length) (hlen : (A i).length ≤ 1000000) (hat : (M.T i).at_ = j) (hV : Valid (A i).length (A i)[j])
    (hC : ∀ k, k < 4 → ∀ x ∈ C k, x < N) (hbd : ∀ k, k < 4 → (C k).length ≤ 1000000) (hbq : ∀ k, k < 4 → (Q k).length ≤ 1000000) (hk : (A i)[j].k = 4) :
    CW Try.prog 26 #[.pointer (some ⟨r, 0, none⟩), nv i] H fun x H' => x = .ret (.tuple #[]) ∧ RfW H r M N A (stR ⟨M.T, M.V.held, M.V.regs, C, Q⟩ i (A i).length (A i)[j]) M.V.room i H' := by
  refine CW_k (n := 213) if26 rfl ?_
  rw [C26_eq]
  have hN : N ≠ 0 := by omega
  obtain ⟨hts, hbo, hbb, hx⟩ := h.ts hN
  have hr := h.st
  have hrb := h.rb
  have hne := h.ne hN
  have hne' := hne.symm
  have hiZ : (i : Int) < (N : Int) := by omega
  have hi0 : (0 : Int) ≤ (i : Int) := by omega
  have hoc : ¬ openCap = 0 := by unfold openCap; omega
  have hrl := h.wf.lt hr
  have hbl := h.wf.lt hx
  have hnb := h.wf.1
  have hw1 : IntKind.i64.wrap ((i : Int) + 1) = (i : Int) + 1 := IntWalk.i64_in _ (by omega)
  have hwj : IntKind.i64.wrap ((j : Int) + 1) = (j : Int) + 1 := IntWalk.i64_in _ (by omega)
  obtain ⟨ca, cc, ce, hcq⟩ := h.acts i hi
  obtain ⟨hcc, cb, co, cy, rfl, hcy, hcn, hcq⟩ := hcq (by intro e; rw [e] at hj; cases hj)
  obtain ⟨hcle, hctk⟩ := hcq j hj
  have hcl := h.wf.lt hcy
  have hcr : cb ≠ r := by intro e; subst e; rw [h.ro] at hcn; cases hcn
  have hcM : cb ≠ M.b := by intro e; subst e; rw [hbo] at hcn; cases hcn
  have hj0 : (0 : Int) ≤ (j : Int) := by omega
  have hjZ : (j : Int) < ((A i).length : Int) := by omega
  generalize hA : (A i)[j] = a at *
  simp -implicitDefEqProofs (maxDischargeDepth := 6) (maxSteps := 1000000) only [go_sem, ↓reduceIte, Nat.reduceLT, Nat.reduceLeDiff, Nat.reduceEqDiff, Nat.reduceAdd, Nat.reduceMul, Nat.reduceSub, Nat.reduceBEq, reduceCtorEq, Int.reduceEq, Int.reduceLT, Int.reduceLE, Int.reduceNeg, Int.reduceToNat, hr, hx, hts, hiZ, hi0, hoc, hi, hrb, hbb, hne, hne', nv, hrl, hbl, hnb, hw1, ce, hat, hj0, hjZ, hcc, hcy, hcle, hctk, hcl, hcr, hcM, loads_eq, hwj]
  have u1 := (h.u0 hN).setR (stB { M.V with last := i })
  obtain ⟨hX1, hF1⟩ := h.u2 hN u1 rfl rfl rfl (fun _ _ => rfl)
  obtain ⟨hX2, hF2⟩ := hX1.ext ((Ext.bump (Ext.refl hX1.wf) 13).set (b := H.next + 10) (by simp only [next_set]; omega) (by simp only [next_bump, next_set]; omega) ⟨47, 0, false, a.cells⟩)
  have hF := hF1.trans hF2
  have hcell : ((bump (H.set r (stB { M.V with last := i })) 13).set (H.next + 10) ⟨47, 0, false, a.cells⟩).get (H.next + 10) = some ⟨47, 0, false, a.cells⟩ := get_set_eq (by omega)
  rw [← hts]
  have hcb : base0 ≤ H.next + 10 := by omega
  have hcne : H.next + 10 ≠ r := by omega
  have hcne2 : H.next + 10 ≠ M.b := by omega
  clear hF1 hF2 hX1 u1 hx hr hcy hcq hctk
  generalize (bump (H.set r (stB { M.V with last := i })) 13).set (H.next + 10) ⟨47, 0, false, a.cells⟩ = G at *
  have hr : G.get r = some (stB { M.V with last := i }) := hX2.st
  have hx : G.get M.b = some (arB M.pre M.T N) := (hX2.ts hN).2.2.2
  have hrG := hX2.wf.lt hr
  have hbG := hX2.wf.lt hx
  have hnG := hX2.wf.1
  obtain ⟨a0, a4⟩ := hV.a4 (by omega)
  have hB : a.a.toNat < 4 := by omega
  simp -implicitDefEqProofs (maxDischargeDepth := 6) (maxSteps := 1000000) only [go_sem, ↓reduceIte, Nat.reduceLT, Nat.reduceLeDiff, Nat.reduceEqDiff, Nat.reduceAdd, Nat.reduceMul, Nat.reduceSub, Nat.reduceBEq, reduceCtorEq, Int.reduceEq, Int.reduceLT, Int.reduceLE, Int.reduceNeg, Int.reduceToNat, hk, hcell, hcb, hcne, hcne2, hr, hx, hrb, hbb, hne, hne', hrG, hbG, hnG, hi, hts, nv, hw1]
  refine CW_mono _ (rwake_W hX2 a0 a4 (n := 1) (by omega) (hC _ hB) (hbd _ hB)) ?_
  rintro _ H' ⟨rfl, M', q1, q2, q3, q4, q5, q6, q7, q8, q9⟩
  simp -implicitDefEqProofs (maxDischargeDepth := 6) (maxSteps := 1000000) only [go_sem, ↓reduceIte, Nat.reduceLT, Nat.reduceLeDiff, Nat.reduceEqDiff, Nat.reduceAdd, Nat.reduceMul, Nat.reduceSub, Nat.reduceBEq, reduceCtorEq, Int.reduceEq, Int.reduceLT, Int.reduceLE, Int.reduceNeg, Int.reduceToNat, ]
  refine rtail q1 hi ?_ ?_ ?_ (z := (j : Int) + 1)
  · rw [q8, q9]
    simp -implicitDefEqProofs (maxDischargeDepth := 6) (maxSteps := 1000000) only [go_sem, ↓reduceIte, Nat.reduceLT, Nat.reduceLeDiff, Nat.reduceEqDiff, Nat.reduceAdd, Nat.reduceMul, Nat.reduceSub, Nat.reduceBEq, reduceCtorEq, Int.reduceEq, Int.reduceLT, Int.reduceLE, Int.reduceNeg, Int.reduceToNat, ]
  · simp -implicitDefEqProofs (maxDischargeDepth := 6) (maxSteps := 1000000) only [go_sem, ↓reduceIte, Nat.reduceLT, Nat.reduceLeDiff, Nat.reduceEqDiff, Nat.reduceAdd, Nat.reduceMul, Nat.reduceSub, Nat.reduceBEq, reduceCtorEq, Int.reduceEq, Int.reduceLT, Int.reduceLE, Int.reduceNeg, Int.reduceToNat, ]
  · rintro H' ⟨M2, p1, p2, p3, p4, p5, p6, p7, p8, p9⟩
    have e : stR ⟨M.T, M.V.held, M.V.regs, C, Q⟩ i (A i).length a = goR ⟨wakeT M.T ((C a.a.toNat).take 1), M.V.held, M.V.regs, upd C a.a.toNat ((C a.a.toNat).drop 1), Q⟩ i (A i).length ((j : Int) + 1) := by simp [stR, hk, hat]
    rw [e]
    rw [q3] at p3
    exact ⟨rfl, M2, p1, (hF.trans q2).trans p2, p3, p4.trans q4, p5.trans q5, p6.trans q6, p7.trans q7, p8.trans q8, p9.trans q9⟩
theorem rstep_5 {H : Heap} {r N : Nat} {M : RM} {A : Nat → List Act} {C : Nat → List Nat} {Q : Nat → List Int} (h : RfX H r M N A C Q) {i j : Nat} (hi : i < N) (hiN : N ≤ 1000000) (hj : j < (A i).length) (hlen : (A i).length ≤ 1000000) (hat : (M.T i).at_ = j) (hV : Valid (A i).length (A i)[j])
    (hC : ∀ k, k < 4 → ∀ x ∈ C k, x < N) (hbd : ∀ k, k < 4 → (C k).length ≤ 1000000) (hbq : ∀ k, k < 4 → (Q k).length ≤ 1000000) (hk : (A i)[j].k = 5) :
    CW Try.prog 26 #[.pointer (some ⟨r, 0, none⟩), nv i] H fun x H' => x = .ret (.tuple #[]) ∧ RfW H r M N A (stR ⟨M.T, M.V.held, M.V.regs, C, Q⟩ i (A i).length (A i)[j]) M.V.room i H' := by
  refine CW_k (n := 213) if26 rfl ?_
  rw [C26_eq]
  have hN : N ≠ 0 := by omega
  obtain ⟨hts, hbo, hbb, hx⟩ := h.ts hN
  have hr := h.st
  have hrb := h.rb
  have hne := h.ne hN
  have hne' := hne.symm
  have hiZ : (i : Int) < (N : Int) := by omega
  have hi0 : (0 : Int) ≤ (i : Int) := by omega
  have hoc : ¬ openCap = 0 := by unfold openCap; omega
  have hrl := h.wf.lt hr
  have hbl := h.wf.lt hx
  have hnb := h.wf.1
  have hw1 : IntKind.i64.wrap ((i : Int) + 1) = (i : Int) + 1 := IntWalk.i64_in _ (by omega)
  have hwj : IntKind.i64.wrap ((j : Int) + 1) = (j : Int) + 1 := IntWalk.i64_in _ (by omega)
  obtain ⟨ca, cc, ce, hcq⟩ := h.acts i hi
  obtain ⟨hcc, cb, co, cy, rfl, hcy, hcn, hcq⟩ := hcq (by intro e; rw [e] at hj; cases hj)
  obtain ⟨hcle, hctk⟩ := hcq j hj
  have hcl := h.wf.lt hcy
  have hcr : cb ≠ r := by intro e; subst e; rw [h.ro] at hcn; cases hcn
  have hcM : cb ≠ M.b := by intro e; subst e; rw [hbo] at hcn; cases hcn
  have hj0 : (0 : Int) ≤ (j : Int) := by omega
  have hjZ : (j : Int) < ((A i).length : Int) := by omega
  generalize hA : (A i)[j] = a at *
  simp -implicitDefEqProofs (maxDischargeDepth := 6) (maxSteps := 1000000) only [go_sem, ↓reduceIte, Nat.reduceLT, Nat.reduceLeDiff, Nat.reduceEqDiff, Nat.reduceAdd, Nat.reduceMul, Nat.reduceSub, Nat.reduceBEq, reduceCtorEq, Int.reduceEq, Int.reduceLT, Int.reduceLE, Int.reduceNeg, Int.reduceToNat, hr, hx, hts, hiZ, hi0, hoc, hi, hrb, hbb, hne, hne', nv, hrl, hbl, hnb, hw1, ce, hat, hj0, hjZ, hcc, hcy, hcle, hctk, hcl, hcr, hcM, loads_eq, hwj]
  have u1 := (h.u0 hN).setR (stB { M.V with last := i })
  obtain ⟨hX1, hF1⟩ := h.u2 hN u1 rfl rfl rfl (fun _ _ => rfl)
  obtain ⟨hX2, hF2⟩ := hX1.ext ((Ext.bump (Ext.refl hX1.wf) 13).set (b := H.next + 10) (by simp only [next_set]; omega) (by simp only [next_bump, next_set]; omega) ⟨47, 0, false, a.cells⟩)
  have hF := hF1.trans hF2
  have hcell : ((bump (H.set r (stB { M.V with last := i })) 13).set (H.next + 10) ⟨47, 0, false, a.cells⟩).get (H.next + 10) = some ⟨47, 0, false, a.cells⟩ := get_set_eq (by omega)
  rw [← hts]
  have hcb : base0 ≤ H.next + 10 := by omega
  have hcne : H.next + 10 ≠ r := by omega
  have hcne2 : H.next + 10 ≠ M.b := by omega
  clear hF1 hF2 hX1 u1 hx hr hcy hcq hctk
  generalize (bump (H.set r (stB { M.V with last := i })) 13).set (H.next + 10) ⟨47, 0, false, a.cells⟩ = G at *
  have hr : G.get r = some (stB { M.V with last := i }) := hX2.st
  have hx : G.get M.b = some (arB M.pre M.T N) := (hX2.ts hN).2.2.2
  have hrG := hX2.wf.lt hr
  have hbG := hX2.wf.lt hx
  have hnG := hX2.wf.1
  obtain ⟨a0, a4⟩ := hV.a4 (by omega)
  have hB : a.a.toNat < 4 := by omega
  simp -implicitDefEqProofs (maxDischargeDepth := 6) (maxSteps := 1000000) only [go_sem, ↓reduceIte, Nat.reduceLT, Nat.reduceLeDiff, Nat.reduceEqDiff, Nat.reduceAdd, Nat.reduceMul, Nat.reduceSub, Nat.reduceBEq, reduceCtorEq, Int.reduceEq, Int.reduceLT, Int.reduceLE, Int.reduceNeg, Int.reduceToNat, hk, hcell, hcb, hcne, hcne2, hr, hx, hrb, hbb, hne, hne', hrG, hbG, hnG, hi, hts, nv, hw1]
  refine CW_mono _ (rwake_W hX2 a0 a4 (n := 16) (by omega) (hC _ hB) (hbd _ hB)) ?_
  rintro _ H' ⟨rfl, M', q1, q2, q3, q4, q5, q6, q7, q8, q9⟩
  simp -implicitDefEqProofs (maxDischargeDepth := 6) (maxSteps := 1000000) only [go_sem, ↓reduceIte, Nat.reduceLT, Nat.reduceLeDiff, Nat.reduceEqDiff, Nat.reduceAdd, Nat.reduceMul, Nat.reduceSub, Nat.reduceBEq, reduceCtorEq, Int.reduceEq, Int.reduceLT, Int.reduceLE, Int.reduceNeg, Int.reduceToNat, ]
  refine rtail q1 hi ?_ ?_ ?_ (z := (j : Int) + 1)
  · rw [q8, q9]
    simp -implicitDefEqProofs (maxDischargeDepth := 6) (maxSteps := 1000000) only [go_sem, ↓reduceIte, Nat.reduceLT, Nat.reduceLeDiff, Nat.reduceEqDiff, Nat.reduceAdd, Nat.reduceMul, Nat.reduceSub, Nat.reduceBEq, reduceCtorEq, Int.reduceEq, Int.reduceLT, Int.reduceLE, Int.reduceNeg, Int.reduceToNat, ]
  · simp -implicitDefEqProofs (maxDischargeDepth := 6) (maxSteps := 1000000) only [go_sem, ↓reduceIte, Nat.reduceLT, Nat.reduceLeDiff, Nat.reduceEqDiff, Nat.reduceAdd, Nat.reduceMul, Nat.reduceSub, Nat.reduceBEq, reduceCtorEq, Int.reduceEq, Int.reduceLT, Int.reduceLE, Int.reduceNeg, Int.reduceToNat, ]
  · rintro H' ⟨M2, p1, p2, p3, p4, p5, p6, p7, p8, p9⟩
    have e : stR ⟨M.T, M.V.held, M.V.regs, C, Q⟩ i (A i).length a = goR ⟨wakeT M.T ((C a.a.toNat).take 16), M.V.held, M.V.regs, upd C a.a.toNat ((C a.a.toNat).drop 16), Q⟩ i (A i).length ((j : Int) + 1) := by simp [stR, hk, hat]
    rw [e]
    rw [q3] at p3
    exact ⟨rfl, M2, p1, (hF.trans q2).trans p2, p3, p4.trans q4, p5.trans q5, p6.trans q6, p7.trans q7, p8.trans q8, p9.trans q9⟩
end Go.Am.T
namespace Go.Am.T
open Go Go.Am Go.Proofs.Ythanhcpnhionaaa Go.Proofs
theorem sliceS_get {H H' : Heap} {es b o n c : Nat} {l m x : Option Value} (h : H'.get b = H.get b) : sliceS H' es (some ⟨b, o, none⟩) n c l m x = sliceS H es (some ⟨b, o, none⟩) n c l m x := by
  unfold sliceS; simp only [h]
theorem rstep_6 {H : Heap} {r N : Nat} {M : RM} {A : Nat → List Act} {C : Nat → List Nat} {Q : Nat → List Int} (h : RfX H r M N A C Q) {i j : Nat} (hi : i < N) (hiN : N ≤ 1000000) (hj : j < (A i).length) (hlen : (A i).length ≤ 1000000) (hat : (M.T i).at_ = j) (hV : Valid (A i).length (A i)[j])
    (hC : ∀ k, k < 4 → ∀ x ∈ C k, x < N) (hbd : ∀ k, k < 4 → (C k).length ≤ 1000000) (hbq : ∀ k, k < 4 → (Q k).length ≤ 1000000) (hk : (A i)[j].k = 6) :
    CW Try.prog 26 #[.pointer (some ⟨r, 0, none⟩), nv i] H fun x H' => x = .ret (.tuple #[]) ∧ RfW H r M N A (stR ⟨M.T, M.V.held, M.V.regs, C, Q⟩ i (A i).length (A i)[j]) M.V.room i H' := by
  refine CW_k (n := 213) if26 rfl ?_
  rw [C26_eq]
  have hN : N ≠ 0 := by omega
  obtain ⟨hts, hbo, hbb, hx⟩ := h.ts hN
  have hr := h.st
  have hrb := h.rb
  have hne := h.ne hN
  have hne' := hne.symm
  have hiZ : (i : Int) < (N : Int) := by omega
  have hi0 : (0 : Int) ≤ (i : Int) := by omega
  have hoc : ¬ openCap = 0 := by unfold openCap; omega
  have hrl := h.wf.lt hr
  have hbl := h.wf.lt hx
  have hnb := h.wf.1
  have hw1 : IntKind.i64.wrap ((i : Int) + 1) = (i : Int) + 1 := IntWalk.i64_in _ (by omega)
  have hwj : IntKind.i64.wrap ((j : Int) + 1) = (j : Int) + 1 := IntWalk.i64_in _ (by omega)
  obtain ⟨ca, cc, ce, hcq⟩ := h.acts i hi
  obtain ⟨hcc, cb, co, cy, rfl, hcy, hcn, hcq⟩ := hcq (by intro e; rw [e] at hj; cases hj)
  obtain ⟨hcle, hctk⟩ := hcq j hj
  have hcl := h.wf.lt hcy
  have hcr : cb ≠ r := by intro e; subst e; rw [h.ro] at hcn; cases hcn
  have hcM : cb ≠ M.b := by intro e; subst e; rw [hbo] at hcn; cases hcn
  have hj0 : (0 : Int) ≤ (j : Int) := by omega
  have hjZ : (j : Int) < ((A i).length : Int) := by omega
  generalize hA : (A i)[j] = a at *
  simp -implicitDefEqProofs (maxDischargeDepth := 6) (maxSteps := 1000000) only [go_sem, ↓reduceIte, Nat.reduceLT, Nat.reduceLeDiff, Nat.reduceEqDiff, Nat.reduceAdd, Nat.reduceMul, Nat.reduceSub, Nat.reduceBEq, reduceCtorEq, Int.reduceEq, Int.reduceLT, Int.reduceLE, Int.reduceNeg, Int.reduceToNat, hr, hx, hts, hiZ, hi0, hoc, hi, hrb, hbb, hne, hne', nv, hrl, hbl, hnb, hw1, ce, hat, hj0, hjZ, hcc, hcy, hcle, hctk, hcl, hcr, hcM, loads_eq, hwj]
  have u1 := (h.u0 hN).setR (stB { M.V with last := i })
  obtain ⟨hX1, hF1⟩ := h.u2 hN u1 rfl rfl rfl (fun _ _ => rfl)
  obtain ⟨hX2, hF2⟩ := hX1.ext ((Ext.bump (Ext.refl hX1.wf) 13).set (b := H.next + 10) (by simp only [next_set]; omega) (by simp only [next_bump, next_set]; omega) ⟨47, 0, false, a.cells⟩)
  have hF := hF1.trans hF2
  have hcell : ((bump (H.set r (stB { M.V with last := i })) 13).set (H.next + 10) ⟨47, 0, false, a.cells⟩).get (H.next + 10) = some ⟨47, 0, false, a.cells⟩ := get_set_eq (by omega)
  rw [← hts]
  have hcb : base0 ≤ H.next + 10 := by omega
  have hcne : H.next + 10 ≠ r := by omega
  have hcne2 : H.next + 10 ≠ M.b := by omega
  clear hF1 hF2 hX1 u1 hx hr hcy hcq hctk
  generalize (bump (H.set r (stB { M.V with last := i })) 13).set (H.next + 10) ⟨47, 0, false, a.cells⟩ = G at *
  have hr : G.get r = some (stB { M.V with last := i }) := hX2.st
  have hx : G.get M.b = some (arB M.pre M.T N) := (hX2.ts hN).2.2.2
  have hrG := hX2.wf.lt hr
  have hbG := hX2.wf.lt hx
  have hnG := hX2.wf.1
  obtain ⟨a0, a4⟩ := hV.a4 (by omega)
  have hB : a.a.toNat < 4 := by omega
  obtain ⟨qa, qc, hqv⟩ := (hX2.q _ hB).sl
  have hqv : M.V.qs a.a.toNat = .slice qa (Q a.a.toNat).length qc := hqv
  simp -implicitDefEqProofs (maxDischargeDepth := 6) (maxSteps := 1000000) only [go_sem, ↓reduceIte, Nat.reduceLT, Nat.reduceLeDiff, Nat.reduceEqDiff, Nat.reduceAdd, Nat.reduceMul, Nat.reduceSub, Nat.reduceBEq, reduceCtorEq, Int.reduceEq, Int.reduceLT, Int.reduceLE, Int.reduceNeg, Int.reduceToNat, hk, hcell, hcb, hcne, hcne2, hr, hx, hrb, hbb, hne, hne', hrG, hbG, hnG, hi, hts, nv, hw1, a0, a4, hB, hqv]
  refine Wk_w_c rfl rfl ?_
  simp -implicitDefEqProofs (maxDischargeDepth := 6) (maxSteps := 1000000) only [go_sem, ↓reduceIte, Nat.reduceLT, Nat.reduceLeDiff, Nat.reduceEqDiff, Nat.reduceAdd, Nat.reduceMul, Nat.reduceSub, Nat.reduceBEq, reduceCtorEq, Int.reduceEq, Int.reduceLT, Int.reduceLE, Int.reduceNeg, Int.reduceToNat, hk, hcell, hcb, hcne, hcne2, hr, hx, hrb, hbb, hne, hne', hrG, hbG, hnG, hi, hts, nv, hw1, a0, a4, hB, hqv]
  obtain ⟨hX3, hF3⟩ := hX2.ext ((Ext.bump (Ext.refl hX2.wf) 19).set (b := G.next + 12) (by omega) (by simp only [next_bump]; omega) ⟨2, 0, false, [.int .i64 a.n]⟩)
  obtain ⟨H6, ha6, hw6, hn6, hk6, hO6⟩ := hX3.appQ (k := a.a.toNat) (i := a.n) (nb := G.next + 12) hB hqv (get_set_eq (by omega)) (hbq _ hB)
  refine cK_vh ha6 ?_
  have hr6 : H6.get r = some (stB { M.V with last := i }) := hk6 r _ hX3.st (by show M.own r ≠ _; rw [h.ro]; simp)
  have hon : M.own (H.next + 10) = none := by
    have := h.lt (H.next + 10)
    by_cases e : M.own (H.next + 10) = none
    · exact e
    · exact absurd (this e) (by omega)
  have hgl := hX2.wf.lt hcell
  have hE3 := (Ext.bump (Ext.refl hX2.wf) 19).set (b := G.next + 12) (by omega) (by simp only [next_bump]; omega) ⟨2, 0, false, [.int .i64 a.n]⟩
  have hcell6 := hk6 (H.next + 10) ⟨47, 0, false, a.cells⟩ (hE3.of hX2.wf hcell) (by show M.own (H.next + 10) ≠ _; rw [hon]; simp)
  have hn6' := hw6.1
  simp -implicitDefEqProofs (maxDischargeDepth := 6) (maxSteps := 1000000) only [go_sem, ↓reduceIte, Nat.reduceLT, Nat.reduceLeDiff, Nat.reduceEqDiff, Nat.reduceAdd, Nat.reduceMul, Nat.reduceSub, Nat.reduceBEq, reduceCtorEq, Int.reduceEq, Int.reduceLT, Int.reduceLE, Int.reduceNeg, Int.reduceToNat, hr6, hcell6, hn6']
  refine cK_some ?_ ?_
  · simp -implicitDefEqProofs (maxDischargeDepth := 6) (maxSteps := 1000000) only [go_sem, ↓reduceIte, Nat.reduceLT, Nat.reduceLeDiff, Nat.reduceEqDiff, Nat.reduceAdd, Nat.reduceMul, Nat.reduceSub, Nat.reduceBEq, reduceCtorEq, Int.reduceEq, Int.reduceLT, Int.reduceLE, Int.reduceNeg, Int.reduceToNat, reK, hcell6, hr6, a0, a4, hB, hts]
  · simp -implicitDefEqProofs (maxDischargeDepth := 6) (maxSteps := 1000000) only [go_sem, ↓reduceIte, Nat.reduceLT, Nat.reduceLeDiff, Nat.reduceEqDiff, Nat.reduceAdd, Nat.reduceMul, Nat.reduceSub, Nat.reduceBEq, reduceCtorEq, Int.reduceEq, Int.reduceLT, Int.reduceLE, Int.reduceNeg, Int.reduceToNat, hr6, hcell6, hn6', a0, a4, hB, hrb]
    refine Wk_w_c rfl rfl ?_
    simp -implicitDefEqProofs (maxDischargeDepth := 6) (maxSteps := 1000000) only [go_sem, ↓reduceIte, Nat.reduceLT, Nat.reduceLeDiff, Nat.reduceEqDiff, Nat.reduceAdd, Nat.reduceMul, Nat.reduceSub, Nat.reduceBEq, reduceCtorEq, Int.reduceEq, Int.reduceLT, Int.reduceLE, Int.reduceNeg, Int.reduceToNat, hr6, hcell6, hn6', a0, a4, hB, hrb]
    simp only [next_bump, next_set, next_alloc] at hn6 hO6
    obtain ⟨hX7, hF7⟩ := hX3.q' (k := a.a.toNat) (nb := G.next + 19) (v' := .slice (some ⟨G.next + 19, 0, none⟩) ((Q a.a.toNat).length + 1) openCap) (l' := Q a.a.toNat ++ [a.n])
      (H' := H6.set r (stB { M.V with last := i, qs := upd M.V.qs a.a.toNat (.slice (some ⟨G.next + 19, 0, none⟩) ((Q a.a.toNat).length + 1) openCap) })) hB
      (by simp only [next_bump, next_set, next_alloc]; omega) (by simp only [next_set, hn6]; omega) (hw6.set (hw6.lt hr6) _) (by simp only [next_bump, next_set, next_alloc, hn6]; omega) (get_set_eq hrb)
      (fun c x hc h1 h2 => by rw [get_set_ne h1]; exact hk6 c x hc h2) (hO6.frame fun b x hb hg => ⟨hb, by rw [get_set_ne (by omega)]; exact hg⟩)
    refine rtail hX7 hi ?_ ?_ ?_ (z := (j : Int) + 1)
    · simp -implicitDefEqProofs (maxDischargeDepth := 6) (maxSteps := 1000000) only [go_sem, ↓reduceIte, Nat.reduceLT, Nat.reduceLeDiff, Nat.reduceEqDiff, Nat.reduceAdd, Nat.reduceMul, Nat.reduceSub, Nat.reduceBEq, reduceCtorEq, Int.reduceEq, Int.reduceLT, Int.reduceLE, Int.reduceNeg, Int.reduceToNat, ]
    · simp -implicitDefEqProofs (maxDischargeDepth := 6) (maxSteps := 1000000) only [go_sem, ↓reduceIte, Nat.reduceLT, Nat.reduceLeDiff, Nat.reduceEqDiff, Nat.reduceAdd, Nat.reduceMul, Nat.reduceSub, Nat.reduceBEq, reduceCtorEq, Int.reduceEq, Int.reduceLT, Int.reduceLE, Int.reduceNeg, Int.reduceToNat, ]
    · rintro H' ⟨M', q1, q2, q3, q4, q5, q6, q7, q8⟩
      have e : stR ⟨M.T, M.V.held, M.V.regs, C, Q⟩ i (A i).length a = goR ⟨M.T, M.V.held, M.V.regs, C, upd Q a.a.toNat (Q a.a.toNat ++ [a.n])⟩ i (A i).length ((j : Int) + 1) := by simp [stR, hk, hat]
      rw [e]
      exact ⟨rfl, M', q1, ((hF.trans hF3).trans hF7).trans q2, q3, q4, q5, q6, q7, q8⟩
theorem rstep_7 {H : Heap} {r N : Nat} {M : RM} {A : Nat → List Act} {C : Nat → List Nat} {Q : Nat → List Int} (h : RfX H r M N A C Q) {i j : Nat} (hi : i < N) (hiN : N ≤ 1000000) (hj : j < (A i).length) (hlen : (A i).length ≤ 1000000) (hat : (M.T i).at_ = j) (hV : Valid (A i).length (A i)[j])
    (hC : ∀ k, k < 4 → ∀ x ∈ C k, x < N) (hbd : ∀ k, k < 4 → (C k).length ≤ 1000000) (hbq : ∀ k, k < 4 → (Q k).length ≤ 1000000) (hk : (A i)[j].k = 7) (hq0 : Q (A i)[j].a.toNat ≠ []) :
    CW Try.prog 26 #[.pointer (some ⟨r, 0, none⟩), nv i] H fun x H' => x = .ret (.tuple #[]) ∧ RfW H r M N A (stR ⟨M.T, M.V.held, M.V.regs, C, Q⟩ i (A i).length (A i)[j]) M.V.room i H' := by
  refine CW_k (n := 213) if26 rfl ?_
  rw [C26_eq]
  have hN : N ≠ 0 := by omega
  obtain ⟨hts, hbo, hbb, hx⟩ := h.ts hN
  have hr := h.st
  have hrb := h.rb
  have hne := h.ne hN
  have hne' := hne.symm
  have hiZ : (i : Int) < (N : Int) := by omega
  have hi0 : (0 : Int) ≤ (i : Int) := by omega
  have hoc : ¬ openCap = 0 := by unfold openCap; omega
  have hrl := h.wf.lt hr
  have hbl := h.wf.lt hx
  have hnb := h.wf.1
  have hw1 : IntKind.i64.wrap ((i : Int) + 1) = (i : Int) + 1 := IntWalk.i64_in _ (by omega)
  have hwj : IntKind.i64.wrap ((j : Int) + 1) = (j : Int) + 1 := IntWalk.i64_in _ (by omega)
  obtain ⟨ca, cc, ce, hcq⟩ := h.acts i hi
  obtain ⟨hcc, cb, co, cy, rfl, hcy, hcn, hcq⟩ := hcq (by intro e; rw [e] at hj; cases hj)
  obtain ⟨hcle, hctk⟩ := hcq j hj
  have hcl := h.wf.lt hcy
  have hcr : cb ≠ r := by intro e; subst e; rw [h.ro] at hcn; cases hcn
  have hcM : cb ≠ M.b := by intro e; subst e; rw [hbo] at hcn; cases hcn
  have hj0 : (0 : Int) ≤ (j : Int) := by omega
  have hjZ : (j : Int) < ((A i).length : Int) := by omega
  generalize hA : (A i)[j] = a at *
  simp -implicitDefEqProofs (maxDischargeDepth := 6) (maxSteps := 1000000) only [go_sem, ↓reduceIte, Nat.reduceLT, Nat.reduceLeDiff, Nat.reduceEqDiff, Nat.reduceAdd, Nat.reduceMul, Nat.reduceSub, Nat.reduceBEq, reduceCtorEq, Int.reduceEq, Int.reduceLT, Int.reduceLE, Int.reduceNeg, Int.reduceToNat, hr, hx, hts, hiZ, hi0, hoc, hi, hrb, hbb, hne, hne', nv, hrl, hbl, hnb, hw1, ce, hat, hj0, hjZ, hcc, hcy, hcle, hctk, hcl, hcr, hcM, loads_eq, hwj]
  have u1 := (h.u0 hN).setR (stB { M.V with last := i })
  obtain ⟨hX1, hF1⟩ := h.u2 hN u1 rfl rfl rfl (fun _ _ => rfl)
  obtain ⟨hX2, hF2⟩ := hX1.ext ((Ext.bump (Ext.refl hX1.wf) 13).set (b := H.next + 10) (by simp only [next_set]; omega) (by simp only [next_bump, next_set]; omega) ⟨47, 0, false, a.cells⟩)
  have hF := hF1.trans hF2
  have hcell : ((bump (H.set r (stB { M.V with last := i })) 13).set (H.next + 10) ⟨47, 0, false, a.cells⟩).get (H.next + 10) = some ⟨47, 0, false, a.cells⟩ := get_set_eq (by omega)
  rw [← hts]
  have hcb : base0 ≤ H.next + 10 := by omega
  have hcne : H.next + 10 ≠ r := by omega
  have hcne2 : H.next + 10 ≠ M.b := by omega
  clear hF1 hF2 hX1 u1 hx hr hcy hcq hctk
  generalize (bump (H.set r (stB { M.V with last := i })) 13).set (H.next + 10) ⟨47, 0, false, a.cells⟩ = G at *
  have hr : G.get r = some (stB { M.V with last := i }) := hX2.st
  have hx : G.get M.b = some (arB M.pre M.T N) := (hX2.ts hN).2.2.2
  have hrG := hX2.wf.lt hr
  have hbG := hX2.wf.lt hx
  have hnG := hX2.wf.1
  obtain ⟨a0, a4⟩ := hV.a4 (by omega)
  obtain ⟨b0, b8⟩ := hV.b8 (by omega)
  have hB : a.a.toNat < 4 := by omega
  have hB2 : a.b.toNat < 8 := by omega
  have hOq := hX2.q _ hB
  obtain ⟨q0, ql, hqe⟩ := List.exists_cons_of_ne_nil hq0
  have hlen0 : (Q a.a.toNat).length = ql.length + 1 := by rw [hqe]; rfl
  obtain ⟨lb, lo, lc, ly, hqv, hlc, hly, hlx⟩ := hOq.rd.at_ (i := 0) (by rw [List.length_map]; omega)
  have hqv : M.V.qs a.a.toNat = .slice (some ⟨lb, lo, none⟩) (Q a.a.toNat).length lc := by
    have e : ((Q a.a.toNat).map iv).length = (Q a.a.toNat).length := List.length_map _
    rw [e] at hqv; exact hqv
  simp only [hqe, List.map_cons, List.getElem_cons_zero, iv, Nat.add_zero] at hlx
  have hl0 : (0 : Int) < ((Q a.a.toNat).length : Int) := by omega
  have u3 := ((hX2.u0 hN).ext (Ext.bump (Ext.refl hX2.wf) 17)).setR (stB { M.V with last := i, regs := upd M.V.regs a.b.toNat q0 })
  obtain ⟨hX3, hF3⟩ := hX2.u2 hN u3 rfl rfl rfl (fun _ _ => rfl)
  have hO3 := hX3.q _ hB
  have hqv3 : ({ M with V := { M.V with last := i, regs := upd M.V.regs a.b.toNat q0 }, T := M.T } : RM).V.qs a.a.toNat = .slice (some ⟨lb, lo, none⟩) (Q a.a.toNat).length lc := hqv
  rw [hqv3] at hO3
  obtain ⟨v1, hs1, hO1⟩ := sliceS_post (k := 1) hO3 (by omega) (by omega)
  obtain ⟨a1, k1, rfl⟩ := hO1.sl
  have hs1 : sliceS ((bump G 17).set r (stB { M.V with last := i, regs := upd M.V.regs a.b.toNat q0 })) 1 (some ⟨lb, lo, none⟩) (Q a.a.toNat).length lc (some (.int .i64 1)) none none = some (.slice a1 ((Q a.a.toNat).length - 1) k1) := hs1
  simp -implicitDefEqProofs (maxDischargeDepth := 6) (maxSteps := 1000000) only [go_sem, ↓reduceIte, Nat.reduceLT, Nat.reduceLeDiff, Nat.reduceEqDiff, Nat.reduceAdd, Nat.reduceMul, Nat.reduceSub, Nat.reduceBEq, reduceCtorEq, Int.reduceEq, Int.reduceLT, Int.reduceLE, Int.reduceNeg, Int.reduceToNat, hk, hcell, hcb, hcne, hcne2, hr, hx, hrb, hbb, hne, hne', hrG, hbG, hnG, hi, hts, nv, hw1, a0, a4, hB, b0, b8, hB2, hqv, hlc, hly, hlx, hl0, Nat.add_zero]
  rw [← hts]
  simp -implicitDefEqProofs (maxDischargeDepth := 6) (maxSteps := 1000000) only [go_sem, ↓reduceIte, Nat.reduceLT, Nat.reduceLeDiff, Nat.reduceEqDiff, Nat.reduceAdd, Nat.reduceMul, Nat.reduceSub, Nat.reduceBEq, reduceCtorEq, Int.reduceEq, Int.reduceLT, Int.reduceLE, Int.reduceNeg, Int.reduceToNat, hs1, hqv, hcell, hcb, hcne, a0, a4, hB, hrb]
  refine Wk_w_c rfl rfl ?_
  simp -implicitDefEqProofs (maxDischargeDepth := 6) (maxSteps := 1000000) only [go_sem, ↓reduceIte, Nat.reduceLT, Nat.reduceLeDiff, Nat.reduceEqDiff, Nat.reduceAdd, Nat.reduceMul, Nat.reduceSub, Nat.reduceBEq, reduceCtorEq, Int.reduceEq, Int.reduceLT, Int.reduceLE, Int.reduceNeg, Int.reduceToNat, hs1, hqv, hcell, hcb, hcne, a0, a4, hB, hrb]
  have hb17 := Ext.bump (Ext.refl hX3.wf) 17
  obtain ⟨hX4, hF4⟩ := hX3.ext hb17
  obtain ⟨v3, H6, ha6, hE6, hO6⟩ := appNil (bytes := 8) hX4.wf (hO1.frame (p' := fun _ => True) fun b x hb hg => ⟨trivial, hb17.of hX3.wf hg⟩) (by have := hbq _ hB; omega) (by have := hbq _ hB; omega)
  refine cK_vh ha6 ?_
  rw [hqe] at hO6
  simp only [List.length_cons, Nat.add_sub_cancel, List.map_cons, Nat.one_mul, List.drop_succ_cons, List.drop_zero] at hO6
  obtain ⟨a3, k3, rfl⟩ := hO6.sl
  have hr6 : H6.get r = some (stB { M.V with last := i, regs := upd M.V.regs a.b.toNat q0 }) := hE6.of hX4.wf hX4.st
  have hc3 : ((bump G 17).set r (stB { M.V with last := i, regs := upd M.V.regs a.b.toNat q0 })).get (H.next + 10) = some ⟨47, 0, false, a.cells⟩ := by
    rw [get_set_ne hcne]
    exact (Ext.bump (Ext.refl hX2.wf) 17).of hX2.wf hcell
  have hcell6 := hE6.of hX4.wf (hb17.of hX3.wf hc3)
  have hn6' := hE6.wf.1
  have hlr : lb ≠ r := by
    intro e
    rcases hOq with ⟨e2, _⟩ | ⟨b', o', pre', e2, _, h3, _⟩
    · have e2 : M.V.qs a.a.toNat = _ := e2
      rw [hqv] at e2; cases e2
    · have e2 : M.V.qs a.a.toNat = _ := e2
      rw [hqv] at e2
      simp only [Value.slice.injEq, Option.some.injEq, Addr.mk.injEq, and_true] at e2
      obtain ⟨⟨rfl, rfl⟩, _⟩ := e2
      have h3 : M.own lb = some (.queue a.a.toNat) := h3
      rw [e, h.ro] at h3; cases h3
  have hly3 : ((bump G 17).set r (stB { M.V with last := i, regs := upd M.V.regs a.b.toNat q0 })).get lb = some ly := by
    rw [get_set_ne hlr]
    exact (Ext.bump (Ext.refl hX2.wf) 17).of hX2.wf hly
  have hs6 : sliceS H6 1 (some ⟨lb, lo, none⟩) (Q a.a.toNat).length lc (some (.int .i64 1)) none none = some (.slice a1 ((Q a.a.toNat).length - 1) k1) := by
    rw [← hs1]
    refine sliceS_get ?_
    rw [hE6.of hX4.wf (hb17.of hX3.wf hly3), hly3]
  simp -implicitDefEqProofs (maxDischargeDepth := 6) (maxSteps := 1000000) only [go_sem, ↓reduceIte, Nat.reduceLT, Nat.reduceLeDiff, Nat.reduceEqDiff, Nat.reduceAdd, Nat.reduceMul, Nat.reduceSub, Nat.reduceBEq, reduceCtorEq, Int.reduceEq, Int.reduceLT, Int.reduceLE, Int.reduceNeg, Int.reduceToNat, hr6, hcell6, hn6', hrb]
  refine cK_some ?_ ?_
  · simp -implicitDefEqProofs (maxDischargeDepth := 6) (maxSteps := 1000000) only [go_sem, ↓reduceIte, Nat.reduceLT, Nat.reduceLeDiff, Nat.reduceEqDiff, Nat.reduceAdd, Nat.reduceMul, Nat.reduceSub, Nat.reduceBEq, reduceCtorEq, Int.reduceEq, Int.reduceLT, Int.reduceLE, Int.reduceNeg, Int.reduceToNat, reK, hcell6, hr6, a0, a4, hB, hts, hqv, hs6]
  · simp -implicitDefEqProofs (maxDischargeDepth := 6) (maxSteps := 1000000) only [go_sem, ↓reduceIte, Nat.reduceLT, Nat.reduceLeDiff, Nat.reduceEqDiff, Nat.reduceAdd, Nat.reduceMul, Nat.reduceSub, Nat.reduceBEq, reduceCtorEq, Int.reduceEq, Int.reduceLT, Int.reduceLE, Int.reduceNeg, Int.reduceToNat, hr6, hcell6, hn6', a0, a4, hB, hrb]
    refine Wk_w_c rfl rfl ?_
    simp -implicitDefEqProofs (maxDischargeDepth := 6) (maxSteps := 1000000) only [go_sem, ↓reduceIte, Nat.reduceLT, Nat.reduceLeDiff, Nat.reduceEqDiff, Nat.reduceAdd, Nat.reduceMul, Nat.reduceSub, Nat.reduceBEq, reduceCtorEq, Int.reduceEq, Int.reduceLT, Int.reduceLE, Int.reduceNeg, Int.reduceToNat, hr6, hcell6, hn6', a0, a4, hB, hrb]
    have hrl6 := hE6.wf.lt hr6
    have hn6 := hE6.le
    have hg3 : ((bump G 17).set r (stB { M.V with last := i, regs := upd M.V.regs a.b.toNat q0 })).next = G.next + 17 := by simp only [next_set, next_bump]
    have hn3 : (bump ((bump G 17).set r (stB { M.V with last := i, regs := upd M.V.regs a.b.toNat q0 })) 17).next = G.next + 17 + 17 := by simp only [next_set, next_bump]
    rw [hn3] at hn6
    have build : ∀ nb, G.next + 17 ≤ nb → nb < H6.next → OwnL (fun b => b = nb) H6 1 2 (.slice a3 ql.length k3) ql.length (ql.map iv) → _ := fun nb w1 w2 w3 =>
      hX3.q' (k := a.a.toNat) (nb := nb) (l' := ql) (H' := H6.set r (stB { M.V with last := i, regs := upd M.V.regs a.b.toNat q0, qs := upd M.V.qs a.a.toNat (.slice a3 ql.length k3) })) hB (by rw [hg3]; exact w1) (by rw [next_set]; exact w2) (hE6.wf.set hrl6 _) (by rw [hg3, next_set]; omega) (get_set_eq hrb)
        (fun c' x hc h1 _ => by rw [get_set_ne h1]; exact hE6.of hX4.wf (hb17.of hX3.wf hc)) (w3.frame fun b x hb hg => ⟨hb, by rw [get_set_ne (by rw [hb]; omega)]; exact hg⟩)
    have key : ∃ M3, RfX (H6.set r (stB { M.V with last := i, regs := upd M.V.regs a.b.toNat q0, qs := upd M.V.qs a.a.toNat (.slice a3 ql.length k3) })) r M3 N A C (upd Q a.a.toNat ql) ∧
        FrmR ((bump G 17).set r (stB { M.V with last := i, regs := upd M.V.regs a.b.toNat q0 })) { M with V := { M.V with last := i, regs := upd M.V.regs a.b.toNat q0 }, T := M.T } (H6.set r (stB { M.V with last := i, regs := upd M.V.regs a.b.toNat q0, qs := upd M.V.qs a.a.toNat (.slice a3 ql.length k3) })) M3 ∧
        M3.T = M.T ∧ M3.V.held = M.V.held ∧ M3.V.regs = upd M.V.regs a.b.toNat q0 ∧ M3.V.room = M.V.room ∧ M3.V.last = i ∧ M3.b = M.b ∧ M3.pre = M.pre := by
      rcases hO6 with ⟨e1, e2, e3⟩ | ⟨b, o, pre, e1, e2, e3, e4, e5, e6⟩
      · obtain ⟨q1, q2⟩ := build _ (Nat.le_refl _) (by omega) (.inl ⟨e1, e2, e3⟩)
        exact ⟨_, q1, q2, rfl, rfl, rfl, rfl, rfl, rfl, rfl⟩
      · rw [hn3] at e3
        obtain ⟨q1, q2⟩ := build b (by omega) (hE6.wf.lt e4) (.inr ⟨b, o, pre, e1, e2, rfl, e4, e5, e6⟩)
        exact ⟨_, q1, q2, rfl, rfl, rfl, rfl, rfl, rfl, rfl⟩
    obtain ⟨M3, m1, m2, m3, m4, m5, m6, m7, m8, m9⟩ := key
    refine rtail m1 hi ?_ ?_ ?_ (z := (j : Int) + 1)
    · rw [m8, m9]
      simp -implicitDefEqProofs (maxDischargeDepth := 6) (maxSteps := 1000000) only [go_sem, ↓reduceIte, Nat.reduceLT, Nat.reduceLeDiff, Nat.reduceEqDiff, Nat.reduceAdd, Nat.reduceMul, Nat.reduceSub, Nat.reduceBEq, reduceCtorEq, Int.reduceEq, Int.reduceLT, Int.reduceLE, Int.reduceNeg, Int.reduceToNat, ]
    · simp -implicitDefEqProofs (maxDischargeDepth := 6) (maxSteps := 1000000) only [go_sem, ↓reduceIte, Nat.reduceLT, Nat.reduceLeDiff, Nat.reduceEqDiff, Nat.reduceAdd, Nat.reduceMul, Nat.reduceSub, Nat.reduceBEq, reduceCtorEq, Int.reduceEq, Int.reduceLT, Int.reduceLE, Int.reduceNeg, Int.reduceToNat, ]
    · rintro H' ⟨M', q1, q2, q3, q4, q5, q6, q7, q8, q9⟩
      have e : stR ⟨M.T, M.V.held, M.V.regs, C, Q⟩ i (A i).length a = goR ⟨M.T, M.V.held, upd M.V.regs a.b.toNat q0, C, upd Q a.a.toNat ql⟩ i (A i).length ((j : Int) + 1) := by simp [stR, hk, hat, hqe]
      rw [e]
      rw [m3] at q3
      exact ⟨rfl, M', q1, ((hF.trans hF3).trans m2).trans q2, q3, q4.trans m4, q5.trans m5, q6.trans m6, q7.trans m7, q8.trans m8, q9.trans m9⟩
end Go.Am.T
namespace Go.Am.T
open Go Go.Am Go.Proofs.Ythanhcpnhionaaa Go.Proofs
theorem how_at {S : Sx} {i : Nat} {a : Act} (hd : (S.tk i).died = false) (ha : (S.tk i).acts[(S.tk i).at_]? = some a) :
    howS S i = if a.k = 1 ∧ 0 ≤ S.locks a.a.toNat ∨ a.k = 3 ∧ (S.tk i).wait = 2 ∧ 0 ≤ S.locks a.b.toNat then 4
    else if a.k = 3 ∧ (S.tk i).wait = 1 then 5
    else if a.k = 6 ∧ S.room ≤ (S.queues a.a.toNat).length then 6
    else if a.k = 7 ∧ (S.queues a.a.toNat).length = 0 then 7 else 3 := by
  unfold howS howP
  have e : (tkV .nilIface (S.tk i)).at_.toNat = (S.tk i).at_ := by simp [tkV]
  have e2 : (tkV .nilIface (S.tk i)).died = (S.tk i).died := rfl
  have e3 : (tkV .nilIface (S.tk i)).wait = (S.tk i).wait := rfl
  rw [e, e2, e3, hd, ha]
  simp only [Bool.false_eq_true, if_false]
def nx (S : Sx) (i : Nat) : Nat → Tk := upd S.tk i { S.tk i with at_ := (S.tk i).at_ + 1 }
section
variable {S : Sx} {i : Nat} {a : Act} (ha : (S.tk i).acts[(S.tk i).at_]? = some a)
include ha
theorem stp1 (hk : a.k = 1) : stepM S i = { S with tk := nx S i, locks := upd S.locks a.a.toNat i, trace := S.trace ++ [(i, (S.tk i).at_)], last := i } := by
  unfold stepM; rw [ha]; simp [doA, hk, adv, setTk, begS, nx]
theorem stp2 (hk : a.k = 2) (hl : S.locks a.a.toNat = i) : stepM S i = { S with tk := nx S i, locks := upd S.locks a.a.toNat (-1), trace := S.trace ++ [(i, (S.tk i).at_)], last := i } := by
  unfold stepM; rw [ha]; simp [doA, hk, adv, setTk, begS, nx, hl]
theorem stp8 (hk : a.k = 8) : stepM S i = { S with tk := nx S i, regs := upd S.regs a.a.toNat (IntKind.i64.wrap (S.regs a.a.toNat + a.n)), trace := S.trace ++ [(i, (S.tk i).at_)], last := i } := by
  unfold stepM; rw [ha]; simp [doA, hk, adv, setTk, begS, nx]
theorem stp9 (hk : a.k = 9) : stepM S i = { S with tk := nx S i, regs := upd S.regs a.b.toNat (S.regs a.a.toNat), trace := S.trace ++ [(i, (S.tk i).at_)], last := i } := by
  unfold stepM; rw [ha]; simp [doA, hk, adv, setTk, begS, nx]
theorem stp11 (hk : a.k = 11) : stepM S i = { S with tk := nx S i, trace := S.trace ++ [(i, (S.tk i).at_)], last := i } := by
  unfold stepM; rw [ha]; simp [doA, hk, adv, setTk, begS, nx]
theorem stp6 (hk : a.k = 6) : stepM S i = { S with tk := nx S i, queues := upd S.queues a.a.toNat (S.queues a.a.toNat ++ [a.n]), trace := S.trace ++ [(i, (S.tk i).at_)], last := i } := by
  unfold stepM; rw [ha]; simp [doA, hk, adv, setTk, begS, nx]
theorem stp7 (hk : a.k = 7) : stepM S i = { S with tk := nx S i, regs := upd S.regs a.b.toNat ((S.queues a.a.toNat).headD 0), queues := upd S.queues a.a.toNat (S.queues a.a.toNat).tail, trace := S.trace ++ [(i, (S.tk i).at_)], last := i } := by
  unfold stepM; rw [ha]; simp [doA, hk, adv, setTk, begS, nx]
theorem stp13 (hk : a.k = 13) : stepM S i = { S with tk := upd S.tk i { S.tk i with guard := a.n, at_ := (S.tk i).at_ + 1 }, trace := S.trace ++ [(i, (S.tk i).at_)], last := i } := by
  unfold stepM; rw [ha]; simp [doA, hk, adv, setTk, begS]
  funext j; unfold upd; by_cases e : j = i <;> simp [e]
end
section
variable {ts : List (List Act)} {room : Int} {picks : List Int} {most : Nat}
end
end Go.Am.T
namespace Go.Am.T
open Go Go.Am Go.Proofs.Ythanhcpnhionaaa Go.Proofs
theorem rstep_W {H : Heap} {r N : Nat} {M : RM} {A : Nat → List Act} {C : Nat → List Nat} {Q : Nat → List Int} (h : RfX H r M N A C Q) {i j : Nat} (hi : i < N) (hiN : N ≤ 1000000) (hj : j < (A i).length) (hlen : (A i).length ≤ 1000000) (hat : (M.T i).at_ = j) (hV : Valid (A i).length (A i)[j])
    (hC : ∀ k, k < 4 → ∀ x ∈ C k, x < N) (hbd : ∀ k, k < 4 → (C k).length ≤ 1000000) (hbq : ∀ k, k < 4 → (Q k).length ≤ 1000000) (hq : (A i)[j].k = 7 → Q (A i)[j].a.toNat ≠ []) :
    CW Try.prog 26 #[.pointer (some ⟨r, 0, none⟩), nv i] H fun x H' => x = .ret (.tuple #[]) ∧ RfW H r M N A (stR ⟨M.T, M.V.held, M.V.regs, C, Q⟩ i (A i).length (A i)[j]) M.V.room i H' := by
  have k1 := hV.k1
  have k2 := hV.k2
  have e : (A i)[j].k = 1 ∨ (A i)[j].k = 2 ∨ (A i)[j].k = 3 ∨ (A i)[j].k = 4 ∨ (A i)[j].k = 5 ∨ (A i)[j].k = 6 ∨ (A i)[j].k = 7 ∨ (A i)[j].k = 8 ∨ (A i)[j].k = 9 ∨ (A i)[j].k = 10 ∨ (A i)[j].k = 11 ∨ (A i)[j].k = 12 ∨ (A i)[j].k = 13 := by omega
  rcases e with e | e | e | e | e | e | e | e | e | e | e | e | e
  · exact rstep_1 h hi hiN hj hlen hat hV e
  · exact rstep_2 h hi hiN hj hlen hat hV e
  · exact rstep_3 h hi hiN hj hlen hat hV hC hbd hbq e
  · exact rstep_4 h hi hiN hj hlen hat hV hC hbd hbq e
  · exact rstep_5 h hi hiN hj hlen hat hV hC hbd hbq e
  · exact rstep_6 h hi hiN hj hlen hat hV hC hbd hbq e
  · exact rstep_7 h hi hiN hj hlen hat hV hC hbd hbq e (hq e)
  · exact rstep_8 h hi hiN hj hlen hat hV e
  · exact rstep_9 h hi hiN hj hlen hat hV e
  · exact rstep_10 h hi hiN hj hlen hat hV e
  · exact rstep_11 h hi hiN hj hlen hat hV e
  · exact rstep_12 h hi hiN hj hlen hat hV e
  · exact rstep_13 h hi hiN hj hlen hat hV e
def howT (s : Tk) : Int := if s.died then 2 else if s.acts.length ≤ s.at_ then 1 else 0
structure RelT (t : TcV) (s : Tk) : Prop where
  wait : t.wait = s.wait
  guard : t.guard = s.guard
  n : t.n = s.n
  how : t.how = howT s
  at_ : t.at_ = s.at_ ∨ (s.acts.length ≤ s.at_ ∧ (s.acts.length : Int) ≤ t.at_)
structure RelW (W : Rw) (S : Sx) : Prop where
  T : ∀ i, i < S.N → RelT (W.T i) (S.tk i)
  held : ∀ j, W.held j = S.locks j + 1
  regs : W.regs = S.regs
  C : W.C = S.conds
  Q : W.Q = S.queues
structure WI (S : Sx) : Prop where
  w : ∀ i, i < S.N → (S.tk i).wait = 0 ∨ (S.tk i).wait = 1 ∨ (S.tk i).wait = 2
  k3 : ∀ i, i < S.N → (S.tk i).wait ≠ 0 → ∃ a, (S.tk i).acts[(S.tk i).at_]? = some a ∧ a.k = 3
  c : ∀ j, ∀ i ∈ S.conds j, i < S.N ∧ (S.tk i).wait = 1 ∧ ∃ a, (S.tk i).acts[(S.tk i).at_]? = some a ∧ a.k = 3 ∧ a.a.toNat = j
  nd : ∀ j, (S.conds j).Nodup
theorem WI.len {S : Sx} (h : WI S) (j : Nat) : (S.conds j).length ≤ S.N := by
  have hp : (S.conds j).Perm ((List.range S.N).filter fun i => decide (i ∈ S.conds j)) := (List.perm_ext_iff_of_nodup (h.nd j) (List.nodup_range.filter _)).2 fun i => by
    rw [List.mem_filter, List.mem_range]
    exact ⟨fun e => ⟨(h.c j i e).1, by simpa using e⟩, fun e => by simpa using e.2⟩
  rw [hp.length_eq]
  have := List.length_filter_le (fun i => decide (i ∈ S.conds j)) (List.range S.N)
  simpa using this
theorem WI.one {S S' : Sx} (h : WI S) {i : Nat} {t : Tk} (eN : S'.N = S.N) (et : S'.tk = upd S.tk i t) (ec : S'.conds = S.conds) (h1 : (S.tk i).wait ≠ 1) (hw : t.wait = 0) : WI S' := by
  have ho : ∀ j, ∀ x ∈ S.conds j, x ≠ i := by
    intro j x hx e; subst e
    exact h1 (h.c j x hx).2.1
  refine ⟨fun x hx => ?_, fun x hx k => ?_, fun j x hx => ?_, fun j => by rw [ec]; exact h.nd j⟩
  · rw [et]
    by_cases e : x = i
    · subst e; rw [upd_same]; exact .inl hw
    · rw [upd_ne e]; exact h.w x (by rw [eN] at hx; exact hx)
  · rw [et] at k ⊢
    by_cases e : x = i
    · subst e; rw [upd_same] at k; exact absurd hw k
    · rw [upd_ne e] at k ⊢; exact h.k3 x (by rw [eN] at hx; exact hx) k
  · rw [ec] at hx
    have hn := ho j x hx
    rw [eN, et, upd_ne hn]
    exact h.c j x hx
end Go.Am.T
namespace Go.Am.T
open Go Go.Am Go.Proofs.Ythanhcpnhionaaa Go.Proofs
def lb : Bool → Nat
  | true => 6
  | false => 5
end Go.Am.T

namespace Go.Am.T
open Go Go.Am Go.Proofs.Ythanhcpnhionaaa Go.Proofs
theorem wakeAll_get (l : List Nat) : ∀ (S : Sx) (j : Nat), (wakeAll S l).tk j = if j ∈ l then { S.tk j with wait := 2 } else S.tk j := by
  induction l with
  | nil => intro S j; simp [wakeAll]
  | cons i l ih =>
    intro S j
    rw [wakeAll, ih]
    by_cases e : j = i
    · subst e
      simp only [setTk, upd_same, List.mem_cons, true_or, if_true]
      split <;> rfl
    · simp only [setTk, upd_ne e, List.mem_cons, e, false_or]
section
variable {S : Sx} {i : Nat} {a : Act} (ha : (S.tk i).acts[(S.tk i).at_]? = some a)
include ha
theorem stp3a (hk : a.k = 3) (hw : (S.tk i).wait = 0) (hl : S.locks a.b.toNat = i) :
    stepM S i = { S with tk := upd S.tk i { S.tk i with wait := 1 }, locks := upd S.locks a.b.toNat (-1), conds := upd S.conds a.a.toNat (S.conds a.a.toNat ++ [i]), trace := S.trace ++ [(i, (S.tk i).at_)], last := i } := by
  unfold stepM; rw [ha]; simp [doA, hk, begS, hw, hl, waitS0, setTk]
theorem stp3b (hk : a.k = 3) (hw : (S.tk i).wait ≠ 0) :
    stepM S i = { S with tk := upd S.tk i { S.tk i with wait := 0, at_ := (S.tk i).at_ + 1 }, locks := upd S.locks a.b.toNat i, trace := S.trace ++ [(i, (S.tk i).at_)], last := i } := by
  unfold stepM; rw [ha]; simp [doA, hk, begS, hw, waitS2, setTk, adv]
  funext j; unfold upd; by_cases e : j = i <;> simp [e]
theorem stp45 (hk : a.k = 4 ∨ a.k = 5) :
    stepM S i = adv (wakeM (begS S i) a.a.toNat (if a.k = 4 then min 1 (S.conds a.a.toNat).length else (S.conds a.a.toNat).length)) i := by
  unfold stepM; rw [ha]
  rcases hk with hk | hk <;> simp [doA, hk, begS]
end
def hold (s : Nat) : Prop := s = 1 ∨ s = 2 ∨ s = 5 ∨ s = 6
instance (s : Nat) : Decidable (hold s) := by unfold hold; infer_instance
end Go.Am.T
namespace Go.Am.T
open Go Go.Am Go.Proofs.Ythanhcpnhionaaa Go.Proofs
theorem RelW.one {W W' : Rw} {S S' : Sx} (h : RelW W S) {i : Nat} {t : TcV} {s : Tk} (eN : S'.N = S.N) (eT : W'.T = upd W.T i t) (et : S'.tk = upd S.tk i s) (hr : RelT t s) (e1 : ∀ j, W'.held j = S'.locks j + 1) (e2 : W'.regs = S'.regs) (e3 : W'.C = S'.conds) (e4 : W'.Q = S'.queues) : RelW W' S' := by
  refine ⟨fun x hx => ?_, e1, e2, e3, e4⟩
  rw [eT, et]
  by_cases e : x = i
  · subst e; rw [upd_same, upd_same]; exact hr
  · rw [upd_ne e, upd_ne e]; exact h.T x (by rw [eN] at hx; exact hx)
theorem RelT.at_eq {t : TcV} {s : Tk} (h : RelT t s) (hat : s.at_ < s.acts.length) : t.at_ = s.at_ := by
  rcases h.at_ with e | ⟨e, _⟩
  · exact e
  · omega
theorem RelT.how0 {t : TcV} {s : Tk} (h : RelT t s) (hat : s.at_ < s.acts.length) (hd : s.died = false) : t.how = 0 := by
  rw [h.how, howT, hd, if_neg (by simp), if_neg (by omega)]
theorem RelT.go {t : TcV} {s : Tk} (h : RelT t s) (hat : s.at_ < s.acts.length) (hd : s.died = false) : RelT (endT t s.acts.length (t.at_ + 1)) { s with at_ := s.at_ + 1 } := by
  have ha := h.at_eq hat
  have h0 := h.how0 hat hd
  refine ⟨h.wait, h.guard, h.n, ?_, .inl ?_⟩
  · show (if (s.acts.length : Int) ≤ t.at_ + 1 then 1 else t.how) = howT _
    unfold howT
    simp only [hd, h0, ha, Bool.false_eq_true, if_false]
    by_cases e : s.acts.length ≤ s.at_ + 1
    · rw [if_pos (by omega), if_pos e]
    · rw [if_neg (by omega), if_neg e]
  · show t.at_ + 1 = ((s.at_ + 1 : Nat) : Int)
    rw [ha]; omega
theorem RelT.pan {t : TcV} {s : Tk} (h : RelT t s) (hat : s.at_ < s.acts.length) (hd : s.died = false) (hw : s.wait = 0) (n : Int) (hg : 0 ≤ s.guard → s.guard ≤ s.acts.length) :
    RelT (panT t s.acts.length n) (if s.guard < 0 then { s with died := true, n := n } else { s with at_ := s.guard.toNat, guard := -1, wait := 0 }) := by
  have h0 := h.how0 hat hd
  unfold panT
  rw [h.guard]
  by_cases g : s.guard < 0
  · rw [if_pos g, if_pos g]
    exact ⟨h.wait, rfl, rfl, by unfold howT; rfl, h.at_⟩
  · rw [if_neg g, if_neg g]
    refine ⟨h.wait.trans hw, rfl, h.n, ?_, .inl ?_⟩
    · show (if (s.acts.length : Int) ≤ s.guard then 1 else t.how) = howT _
      unfold howT
      simp only [hd, h0, Bool.false_eq_true, if_false]
      by_cases e : s.acts.length ≤ s.guard.toNat
      · rw [if_pos (by omega), if_pos e]
      · rw [if_neg (by omega), if_neg e]
    · show s.guard = ((s.guard.toNat : Nat) : Int)
      omega
theorem wakeT_get (l : List Nat) : ∀ (T : Nat → TcV) (j : Nat), wakeT T l j = if j ∈ l then { T j with wait := 2 } else T j := by
  induction l with
  | nil => intro T j; simp [wakeT]
  | cons i l ih =>
    intro T j
    rw [wakeT, ih]
    by_cases e : j = i
    · subst e
      simp only [upd_same, List.mem_cons, true_or, if_true]
      split <;> rfl
    · simp only [upd_ne e, List.mem_cons, e, false_or]
theorem pan_eq {S : Sx} {i : Nat} {a : Act} (ha : (S.tk i).acts[(S.tk i).at_]? = some a) {n : Int} (hd : doA (begS S i) i a = (begS S i, some n)) :
    stepM S i = { S with tk := upd S.tk i (if (S.tk i).guard < 0 then { S.tk i with died := true, n := n } else { S.tk i with at_ := (S.tk i).guard.toNat, guard := -1, wait := 0 }), regs := if (S.tk i).guard < 0 then S.regs else upd S.regs 7 n, trace := S.trace ++ [(i, (S.tk i).at_)], last := i } := by
  unfold stepM
  rw [ha]
  simp only [hd]
  unfold caughtM
  have e : ((begS S i).tk i).guard = (S.tk i).guard := rfl
  rw [e]
  by_cases g : (S.tk i).guard < 0
  · simp only [g, if_true]; rfl
  · simp only [g, if_false]; rfl
def GdOk (S : Sx) : Prop := ∀ i, i < S.N → 0 ≤ (S.tk i).guard → (S.tk i).guard ≤ (S.tk i).acts.length
theorem rel_pan {W : Rw} {S : Sx} (h : RelW W S) (wi : WI S) (gd : GdOk S) {i : Nat} (hi : i < S.N) (hat : (S.tk i).at_ < (S.tk i).acts.length) (hdd : (S.tk i).died = false) (hw : (S.tk i).wait = 0) {a : Act} (ha : (S.tk i).acts[(S.tk i).at_]? = some a) {n : Int}
    (hd : doA (begS S i) i a = (begS S i, some n)) : RelW (panR W i (S.tk i).acts.length n) (stepM S i) ∧ WI (stepM S i) ∧ GdOk (stepM S i) := by
  rw [pan_eq ha hd]
  have hT := h.T i hi
  refine ⟨h.one (i := i) rfl rfl rfl (hT.pan hat hdd hw n (gd i hi)) h.held ?_ h.C h.Q, wi.one (i := i) rfl rfl rfl (by rw [hw]; decide) (by split <;> first | exact hw | rfl), ?_⟩
  · show (if (W.T i).guard < 0 then W.regs else upd W.regs 7 n) = _
    rw [hT.guard, h.regs]
  · intro x hx hg
    have hg : 0 ≤ (upd S.tk i _ x).guard := hg
    show (upd S.tk i _ x).guard ≤ (upd S.tk i _ x).acts.length
    by_cases e : x = i
    · subst e
      rw [upd_same] at hg ⊢
      split at hg
      · rename_i g; have hg : 0 ≤ (S.tk x).guard := hg; omega
      · have hg : (0 : Int) ≤ -1 := hg; omega
    · rw [upd_ne e] at hg ⊢; exact gd x hx hg
theorem GdOk.one {S S' : Sx} (gd : GdOk S) {i : Nat} {t : Tk} (eN : S'.N = S.N) (et : S'.tk = upd S.tk i t) (hg : 0 ≤ t.guard → t.guard ≤ t.acts.length) : GdOk S' := by
  intro x hx k
  rw [et] at k ⊢
  by_cases e : x = i
  · subst e; rw [upd_same] at k ⊢; exact hg k
  · rw [upd_ne e] at k ⊢; exact gd x (by rw [eN] at hx; exact hx) k
theorem rel_nx {W : Rw} {S : Sx} (h : RelW W S) (wi : WI S) (gd : GdOk S) {i : Nat} (hi : i < S.N) (hat : (S.tk i).at_ < (S.tk i).acts.length) (hdd : (S.tk i).died = false) (hw : (S.tk i).wait = 0) {W1 : Rw} (eT : W1.T = W.T) {S' : Sx} (eN : S'.N = S.N) (et : S'.tk = nx S i) (ec : S'.conds = S.conds)
    (e1 : ∀ j, W1.held j = S'.locks j + 1) (e2 : W1.regs = S'.regs) (e3 : W1.C = S'.conds) (e4 : W1.Q = S'.queues) : RelW (goR W1 i (S.tk i).acts.length ((W.T i).at_ + 1)) S' ∧ WI S' ∧ GdOk S' := by
  have hT := h.T i hi
  refine ⟨h.one (i := i) eN (by show upd W1.T i (endT (W1.T i) _ _) = _; rw [eT]) et (hT.go hat hdd) e1 e2 e3 e4, wi.one (i := i) eN et ec (by rw [hw]; decide) hw, gd.one (i := i) eN et (gd i hi)⟩
section
variable {S : Sx} {i : Nat} {a : Act} (ha : (S.tk i).acts[(S.tk i).at_]? = some a)
include ha
theorem stp10z (hk : a.k = 10) (hz : S.regs a.a.toNat = 0) : stepM S i = { S with tk := upd S.tk i { S.tk i with at_ := min ((S.tk i).at_ + a.n.toNat) (S.tk i).acts.length + 1 }, trace := S.trace ++ [(i, (S.tk i).at_)], last := i } := by
  unfold stepM; rw [ha]; simp [doA, hk, begS, hz, setTk, adv]
  funext j; unfold upd; by_cases e : j = i <;> simp [e]
theorem stp10n (hk : a.k = 10) (hz : ¬ S.regs a.a.toNat = 0) : stepM S i = { S with tk := nx S i, trace := S.trace ++ [(i, (S.tk i).at_)], last := i } := by
  unfold stepM; rw [ha]; simp [doA, hk, begS, hz, setTk, adv, nx]
end
theorem rel_step {W : Rw} {S : Sx} (h : RelW W S) (wi : WI S) (gd : GdOk S) (hN : S.N ≤ 16) {i : Nat} (hi : i < S.N) (h3 : howS S i = 3) {a : Act} (ha : (S.tk i).acts[(S.tk i).at_]? = some a) (hV : Valid (S.tk i).acts.length a) (hn345 : a.k ≠ 3 ∧ a.k ≠ 4 ∧ a.k ≠ 5) :
    RelW (stR W i (S.tk i).acts.length a) (stepM S i) ∧ WI (stepM S i) ∧ GdOk (stepM S i) := by
  obtain ⟨hat, _, hdd⟩ := how_3 h3
  have hT := h.T i hi
  have haeq := hT.at_eq hat
  have k1 := hV.k1
  have k2 := hV.k2
  have hw : (S.tk i).wait = 0 := by
    refine Classical.byContradiction fun e => ?_
    obtain ⟨b, hb, hb3⟩ := wi.k3 i hi e
    rw [ha] at hb; cases hb
    exact hn345.1 hb3
  have hh := h.held
  have hr := h.regs
  have hC := h.C
  have hQ := h.Q
  have hupd : ∀ (c : Nat) (z : Int) (j : Nat), upd W.held c (z + 1) j = upd S.locks c z j + 1 := by
    intro c z j; unfold upd; split
    · rfl
    · exact hh j
  by_cases e1 : a.k = 1
  · rw [stp1 ha e1]
    have e : stR W i (S.tk i).acts.length a = goR { W with held := upd W.held a.a.toNat ((i : Int) + 1) } i (S.tk i).acts.length ((W.T i).at_ + 1) := by simp [stR, e1]
    rw [e]
    exact rel_nx h wi gd hi hat hdd hw (by rfl) (by rfl) (by rfl) (by rfl) (by exact hupd _ _) (by exact hr) (by exact hC) (by exact hQ)
  by_cases e2 : a.k = 2
  · by_cases hl : S.locks a.a.toNat = i
    · have hl2 : W.held a.a.toNat = (i : Int) + 1 := by rw [hh, hl]
      rw [stp2 ha e2 hl]
      have e : stR W i (S.tk i).acts.length a = goR { W with held := upd W.held a.a.toNat 0 } i (S.tk i).acts.length ((W.T i).at_ + 1) := by simp [stR, e2, hl2]
      rw [e]
      exact rel_nx h wi gd hi hat hdd hw (by rfl) (by rfl) (by rfl) (by rfl) (by exact hupd _ (-1)) (by exact hr) (by exact hC) (by exact hQ)
    · have hl2 : ¬ W.held a.a.toNat = (i : Int) + 1 := by rw [hh]; omega
      have e : stR W i (S.tk i).acts.length a = panR W i (S.tk i).acts.length (-1) := by simp [stR, e2, hl2]
      rw [e]
      refine rel_pan h wi gd hi hat hdd hw ha ?_
      have hl' : ¬ (begS S i).locks a.a.toNat = i := hl
      simp [doA, e2, hl']
  by_cases e6 : a.k = 6
  · rw [stp6 ha e6]
    have e : stR W i (S.tk i).acts.length a = goR { W with Q := upd W.Q a.a.toNat (W.Q a.a.toNat ++ [a.n]) } i (S.tk i).acts.length ((W.T i).at_ + 1) := by simp [stR, e6]
    rw [e]
    exact rel_nx h wi gd hi hat hdd hw (by rfl) (by rfl) (by rfl) (by rfl) (by exact hh) (by exact hr) (by exact hC) (by simp only [hQ])
  by_cases e7 : a.k = 7
  · rw [stp7 ha e7]
    have e : stR W i (S.tk i).acts.length a = goR { W with regs := upd W.regs a.b.toNat ((W.Q a.a.toNat).headD 0), Q := upd W.Q a.a.toNat (W.Q a.a.toNat).tail } i (S.tk i).acts.length ((W.T i).at_ + 1) := by simp [stR, e7]
    rw [e]
    exact rel_nx h wi gd hi hat hdd hw (by rfl) (by rfl) (by rfl) (by rfl) (by exact hh) (by simp only [hr, hQ]) (by exact hC) (by simp only [hQ])
  by_cases e8 : a.k = 8
  · rw [stp8 ha e8]
    have e : stR W i (S.tk i).acts.length a = goR { W with regs := upd W.regs a.a.toNat (IntKind.i64.wrap (W.regs a.a.toNat + a.n)) } i (S.tk i).acts.length ((W.T i).at_ + 1) := by simp [stR, e8]
    rw [e]
    exact rel_nx h wi gd hi hat hdd hw (by rfl) (by rfl) (by rfl) (by rfl) (by exact hh) (by simp only [hr]) (by exact hC) (by exact hQ)
  by_cases e9 : a.k = 9
  · rw [stp9 ha e9]
    have e : stR W i (S.tk i).acts.length a = goR { W with regs := upd W.regs a.b.toNat (W.regs a.a.toNat) } i (S.tk i).acts.length ((W.T i).at_ + 1) := by simp [stR, e9]
    rw [e]
    exact rel_nx h wi gd hi hat hdd hw (by rfl) (by rfl) (by rfl) (by rfl) (by exact hh) (by simp only [hr]) (by exact hC) (by exact hQ)
  by_cases e11 : a.k = 11
  · rw [stp11 ha e11]
    have e : stR W i (S.tk i).acts.length a = goR W i (S.tk i).acts.length ((W.T i).at_ + 1) := by simp [stR, e11]
    rw [e]
    exact rel_nx h wi gd hi hat hdd hw (by rfl) (by rfl) (by rfl) (by rfl) (by exact hh) (by exact hr) (by exact hC) (by exact hQ)
  by_cases e12 : a.k = 12
  · have e : stR W i (S.tk i).acts.length a = panR W i (S.tk i).acts.length a.n := by simp [stR, e12]
    rw [e]
    exact rel_pan h wi gd hi hat hdd hw ha (by simp [doA, e12])
  by_cases e13 : a.k = 13
  · rw [stp13 ha e13]
    obtain ⟨n0, n1⟩ := hV.n13 e13
    have e : stR W i (S.tk i).acts.length a = goR { W with T := upd W.T i { W.T i with guard := a.n } } i (S.tk i).acts.length ((W.T i).at_ + 1) := by simp [stR, e13]
    rw [e]
    have hg := hT.go hat hdd
    refine ⟨h.one (i := i) (s := { S.tk i with guard := a.n, at_ := (S.tk i).at_ + 1 }) (t := { endT (W.T i) (S.tk i).acts.length ((W.T i).at_ + 1) with guard := a.n }) (by rfl) (by simp only [goR, upd_same, upd_twice]; rfl) (by rfl) ⟨hg.wait, rfl, hg.n, hg.how, hg.at_⟩ (by exact hh) (by exact hr) (by exact hC) (by exact hQ), wi.one (i := i) (t := { S.tk i with guard := a.n, at_ := (S.tk i).at_ + 1 }) (by rfl) (by rfl) (by rfl) (by rw [hw]; decide) hw, gd.one (i := i) (t := { S.tk i with guard := a.n, at_ := (S.tk i).at_ + 1 }) (by rfl) (by rfl) (fun _ => n1)⟩
  have e10 : a.k = 10 := by omega
  obtain ⟨n0, n1⟩ := hV.n10 e10
  by_cases hz : S.regs a.a.toNat = 0
  · have hz2 : W.regs a.a.toNat = 0 := by rw [hr]; exact hz
    rw [stp10z ha e10 hz]
    have e : stR W i (S.tk i).acts.length a = goR W i (S.tk i).acts.length ((W.T i).at_ + 1 + a.n) := by simp [stR, e10, hz2]
    rw [e]
    have h0 := hT.how0 hat hdd
    refine ⟨h.one (i := i) (t := endT (W.T i) (S.tk i).acts.length ((W.T i).at_ + 1 + a.n)) (s := { S.tk i with at_ := min ((S.tk i).at_ + a.n.toNat) (S.tk i).acts.length + 1 }) (by rfl) (by rfl) (by rfl) ⟨hT.wait, hT.guard, hT.n, ?_, ?_⟩ (by exact hh) (by exact hr) (by exact hC) (by exact hQ), wi.one (i := i) (t := { S.tk i with at_ := min ((S.tk i).at_ + a.n.toNat) (S.tk i).acts.length + 1 }) (by rfl) (by rfl) (by rfl) (by rw [hw]; decide) hw, gd.one (i := i) (t := { S.tk i with at_ := min ((S.tk i).at_ + a.n.toNat) (S.tk i).acts.length + 1 }) (by rfl) (by rfl) (gd i hi)⟩
    · show (if ((S.tk i).acts.length : Int) ≤ (W.T i).at_ + 1 + a.n then 1 else (W.T i).how) = howT _
      unfold howT
      simp only [hdd, h0, haeq, Bool.false_eq_true, if_false]
      by_cases e : (S.tk i).acts.length ≤ min ((S.tk i).at_ + a.n.toNat) (S.tk i).acts.length + 1
      · rw [if_pos (by omega), if_pos e]
      · rw [if_neg (by omega), if_neg e]
    · show (W.T i).at_ + 1 + a.n = ((min ((S.tk i).at_ + a.n.toNat) (S.tk i).acts.length + 1 : Nat) : Int) ∨ ((S.tk i).acts.length ≤ min ((S.tk i).at_ + a.n.toNat) (S.tk i).acts.length + 1 ∧ ((S.tk i).acts.length : Int) ≤ (W.T i).at_ + 1 + a.n)
      rw [haeq]; omega
  · have hz2 : ¬ W.regs a.a.toNat = 0 := by rw [hr]; exact hz
    rw [stp10n ha e10 hz]
    have e : stR W i (S.tk i).acts.length a = goR W i (S.tk i).acts.length ((W.T i).at_ + 1) := by simp [stR, e10, hz2]
    rw [e]
    exact rel_nx h wi gd hi hat hdd hw (by rfl) (by rfl) (by rfl) (by rfl) (by exact hh) (by exact hr) (by exact hC) (by exact hQ)
end Go.Am.T
namespace Go.Am.T
open Go Go.Am Go.Proofs.Ythanhcpnhionaaa Go.Proofs
theorem rel_step3 {W : Rw} {S : Sx} (h : RelW W S) (wi : WI S) (gd : GdOk S) {i : Nat} (hi : i < S.N) (h3 : howS S i = 3) {a : Act} (ha : (S.tk i).acts[(S.tk i).at_]? = some a) (hk : a.k = 3) :
    RelW (stR W i (S.tk i).acts.length a) (stepM S i) ∧ WI (stepM S i) ∧ GdOk (stepM S i) := by
  obtain ⟨hat, _, hdd⟩ := how_3 h3
  have hT := h.T i hi
  have haeq := hT.at_eq hat
  have hh := h.held
  have hr := h.regs
  have hC := h.C
  have hQ := h.Q
  have hupd : ∀ (c : Nat) (z : Int) (j : Nat), upd W.held c (z + 1) j = upd S.locks c z j + 1 := by
    intro c z j; unfold upd; split
    · rfl
    · exact hh j
  have hw1 : (S.tk i).wait ≠ 1 := by
    intro e
    rw [how_at hdd ha] at h3
    by_cases c : a.k = 1 ∧ 0 ≤ S.locks a.a.toNat ∨ a.k = 3 ∧ (S.tk i).wait = 2 ∧ 0 ≤ S.locks a.b.toNat
    · rw [if_pos c] at h3; cases h3
    · rw [if_neg c, if_pos ⟨hk, e⟩] at h3; cases h3
  rcases wi.w i hi with hw | hw | hw
  · have hw2 : ¬ (W.T i).wait = 2 := by rw [hT.wait, hw]; decide
    by_cases hl : S.locks a.b.toNat = i
    · have hl2 : W.held a.b.toNat = (i : Int) + 1 := by rw [hh, hl]
      rw [stp3a ha hk hw hl]
      have e : stR W i (S.tk i).acts.length a = { W with held := upd W.held a.b.toNat 0, T := upd W.T i { W.T i with wait := 1 }, C := upd W.C a.a.toNat (W.C a.a.toNat ++ [i]) } := by simp [stR, hk, hw2, hl2]
      rw [e]
      have hni : ∀ j, i ∉ S.conds j := fun j hx => hw1 (wi.c j i hx).2.1
      refine ⟨h.one (i := i) (t := { W.T i with wait := 1 }) (s := { S.tk i with wait := 1 }) (by rfl) (by rfl) (by rfl) ⟨rfl, hT.guard, hT.n, hT.how, hT.at_⟩ (by exact hupd _ (-1)) (by exact hr) (by simp only [hC]) (by exact hQ), ⟨?_, ?_, ?_, ?_⟩, gd.one (i := i) (t := { S.tk i with wait := 1 }) (by rfl) (by rfl) (gd i hi)⟩
      · intro x hx
        show (upd S.tk i { S.tk i with wait := 1 } x).wait = 0 ∨ (upd S.tk i { S.tk i with wait := 1 } x).wait = 1 ∨ (upd S.tk i { S.tk i with wait := 1 } x).wait = 2
        by_cases e : x = i
        · subst e; rw [upd_same]; exact .inr (.inl rfl)
        · rw [upd_ne e]; exact wi.w x hx
      · intro x hx k
        have k : (upd S.tk i { S.tk i with wait := 1 } x).wait ≠ 0 := k
        show ∃ b, (upd S.tk i { S.tk i with wait := 1 } x).acts[(upd S.tk i { S.tk i with wait := 1 } x).at_]? = some b ∧ _
        by_cases e : x = i
        · subst e; rw [upd_same]; exact ⟨a, ha, hk⟩
        · rw [upd_ne e] at k ⊢; exact wi.k3 x hx k
      · intro j x hx
        have hx : x ∈ upd S.conds a.a.toNat (S.conds a.a.toNat ++ [i]) j := hx
        show x < S.N ∧ (upd S.tk i { S.tk i with wait := 1 } x).wait = 1 ∧ ∃ b, (upd S.tk i { S.tk i with wait := 1 } x).acts[(upd S.tk i { S.tk i with wait := 1 } x).at_]? = some b ∧ _
        by_cases e : x = i
        · subst e
          rw [upd_same]
          refine ⟨hi, rfl, a, ha, hk, ?_⟩
          by_cases ej : j = a.a.toNat
          · exact ej.symm
          · rw [upd_ne ej] at hx; exact absurd hx (hni j)
        · rw [upd_ne e]
          by_cases ej : j = a.a.toNat
          · subst ej
            rw [upd_same, List.mem_append] at hx
            rcases hx with hx | hx
            · exact wi.c _ x hx
            · simp only [List.mem_cons, List.not_mem_nil, or_false] at hx; exact absurd hx e
          · rw [upd_ne ej] at hx; exact wi.c j x hx
      · intro j
        show (upd S.conds a.a.toNat (S.conds a.a.toNat ++ [i]) j).Nodup
        by_cases ej : j = a.a.toNat
        · subst ej
          rw [upd_same, List.nodup_append]
          refine ⟨wi.nd _, by simp, ?_⟩
          intro x hx y hy
          simp only [List.mem_cons, List.not_mem_nil, or_false] at hy
          subst hy
          intro e; subst e; exact hni _ hx
        · rw [upd_ne ej]; exact wi.nd j
    · have hl2 : ¬ W.held a.b.toNat = (i : Int) + 1 := by rw [hh]; omega
      have e : stR W i (S.tk i).acts.length a = panR W i (S.tk i).acts.length (-1) := by simp [stR, hk, hw2, hl2]
      rw [e]
      refine rel_pan h wi gd hi hat hdd hw ha ?_
      have hl' : ¬ (begS S i).locks a.b.toNat = i := hl
      have hw' : ((begS S i).tk i).wait = 0 := hw
      simp [doA, hk, hl', hw']
  · exact absurd hw hw1
  · have hw2 : (W.T i).wait = 2 := by rw [hT.wait, hw]
    rw [stp3b ha hk (by rw [hw]; decide)]
    have e : stR W i (S.tk i).acts.length a = goR { W with held := upd W.held a.b.toNat ((i : Int) + 1), T := upd W.T i { W.T i with wait := 0 } } i (S.tk i).acts.length ((W.T i).at_ + 1) := by simp [stR, hk, hw2]
    rw [e]
    have hg := hT.go hat hdd
    exact ⟨h.one (i := i) (t := { endT (W.T i) (S.tk i).acts.length ((W.T i).at_ + 1) with wait := 0 }) (s := { S.tk i with wait := 0, at_ := (S.tk i).at_ + 1 }) (by rfl) (by simp only [goR, upd_same, upd_twice]; rfl) (by rfl) ⟨rfl, hg.guard, hg.n, hg.how, hg.at_⟩ (by exact hupd _ _) (by exact hr) (by exact hC) (by exact hQ),
      wi.one (i := i) (t := { S.tk i with wait := 0, at_ := (S.tk i).at_ + 1 }) (by rfl) (by rfl) (by rfl) hw1 rfl, gd.one (i := i) (t := { S.tk i with wait := 0, at_ := (S.tk i).at_ + 1 }) (by rfl) (by rfl) (gd i hi)⟩
theorem rel_step45 {W : Rw} {S : Sx} (h : RelW W S) (wi : WI S) (gd : GdOk S) (hN : S.N ≤ 16) {i : Nat} (hi : i < S.N) (h3 : howS S i = 3) {a : Act} (ha : (S.tk i).acts[(S.tk i).at_]? = some a) (hk : a.k = 4 ∨ a.k = 5) :
    RelW (stR W i (S.tk i).acts.length a) (stepM S i) ∧ WI (stepM S i) ∧ GdOk (stepM S i) := by
  obtain ⟨hat, _, hdd⟩ := how_3 h3
  have hT := h.T i hi
  have hw : (S.tk i).wait = 0 := by
    refine Classical.byContradiction fun e => ?_
    obtain ⟨b, hb, hb3⟩ := wi.k3 i hi e
    rw [ha] at hb; cases hb
    omega
  have hlen := wi.len a.a.toNat
  generalize hc : a.a.toNat = c at *
  have hst := stp45 ha hk
  rw [hc] at hst
  generalize hr : (if a.k = 4 then min 1 (S.conds c).length else (S.conds c).length) = r at hst
  obtain ⟨n, htk, hdr, e⟩ : ∃ n, (S.conds c).take n = (S.conds c).take r ∧ (S.conds c).drop n = (S.conds c).drop r ∧ stR W i (S.tk i).acts.length a = goR { W with T := wakeT W.T ((W.C c).take n), C := upd W.C c ((W.C c).drop n) } i (S.tk i).acts.length ((W.T i).at_ + 1) := by
    rcases hk with hk | hk
    · refine ⟨1, ?_, ?_, by simp [stR, hk, hc]⟩
      · rw [← hr, if_pos hk]
        cases S.conds c <;> simp
      · rw [← hr, if_pos hk]
        cases S.conds c <;> simp
    · refine ⟨16, ?_, ?_, by simp [stR, hk, hc]⟩
      · rw [← hr, if_neg (by omega), List.take_of_length_le (by omega), List.take_of_length_le (Nat.le_refl _)]
      · rw [← hr, if_neg (by omega), List.drop_of_length_le (by omega), List.drop_of_length_le (Nat.le_refl _)]
  rw [e, h.C, htk, hdr]
  have hmem : ∀ x ∈ (S.conds c).take r, x < S.N ∧ (S.tk x).wait = 1 ∧ ∃ b, (S.tk x).acts[(S.tk x).at_]? = some b ∧ b.k = 3 ∧ b.a.toNat = c := fun x hx => wi.c c x (List.mem_of_mem_take hx)
  have hil : i ∉ (S.conds c).take r := fun hx => by have := (hmem i hx).2.1; rw [hw] at this; cases this
  have rest := wakeAll_rest ((S.conds c).take r) (begS S i)
  have tko : ∀ x, x ≠ i → (stepM S i).tk x = if x ∈ (S.conds c).take r then { S.tk x with wait := 2 } else S.tk x := by
    intro x hx
    rw [hst]
    show upd (wakeAll (begS S i) ((S.conds c).take r)).tk i _ x = _
    rw [upd_ne hx, wakeAll_get]; rfl
  have tki : (stepM S i).tk i = { S.tk i with at_ := (S.tk i).at_ + 1 } := by
    rw [hst]
    show upd (wakeAll (begS S i) ((S.conds c).take r)).tk i { (wakeAll (begS S i) ((S.conds c).take r)).tk i with at_ := ((wakeAll (begS S i) ((S.conds c).take r)).tk i).at_ + 1 } i = _
    rw [upd_same, wakeAll_get, if_neg hil]; rfl
  have eN : (stepM S i).N = S.N := by rw [hst]; exact rest.1
  have el : (stepM S i).locks = S.locks := by rw [hst]; exact rest.2.2.1
  have eq : (stepM S i).queues = S.queues := by rw [hst]; exact rest.2.2.2.2.1
  have er : (stepM S i).regs = S.regs := by rw [hst]; exact rest.2.2.2.2.2.1
  have ec : (stepM S i).conds = upd S.conds c ((S.conds c).drop r) := by rw [hst]; rfl
  have hdj : ∀ x, x ∈ (S.conds c).take r → x ∉ (S.conds c).drop r := by
    intro x h1 h2
    have hnd := wi.nd c
    rw [← List.take_append_drop r (S.conds c), List.nodup_append] at hnd
    exact hnd.2.2 x h1 x h2 rfl
  refine ⟨⟨fun x hx => ?_, fun j => by rw [el]; exact h.held j, by rw [er]; exact h.regs, by rw [ec]; rfl, by rw [eq]; exact h.Q⟩, ⟨fun x hx => ?_, fun x hx k => ?_, fun j x hx => ?_, fun j => ?_⟩, fun x hx k => ?_⟩
  · show RelT (upd (wakeT W.T ((S.conds c).take r)) i (endT (wakeT W.T ((S.conds c).take r) i) (S.tk i).acts.length ((W.T i).at_ + 1)) x) _
    by_cases ex : x = i
    · subst ex
      rw [upd_same, tki, wakeT_get, if_neg hil]
      exact hT.go hat hdd
    · rw [upd_ne ex, tko x ex, wakeT_get]
      have hx' := h.T x (by rw [eN] at hx; exact hx)
      by_cases em : x ∈ (S.conds c).take r
      · rw [if_pos em, if_pos em]; exact ⟨rfl, hx'.guard, hx'.n, hx'.how, hx'.at_⟩
      · rw [if_neg em, if_neg em]; exact hx'
  · by_cases ex : x = i
    · subst ex; rw [tki]; exact .inl hw
    · rw [tko x ex]
      split
      · exact .inr (.inr rfl)
      · exact wi.w x (by rw [eN] at hx; exact hx)
  · by_cases ex : x = i
    · subst ex; rw [tki] at k; exact absurd hw k
    · rw [tko x ex] at k ⊢
      by_cases em : x ∈ (S.conds c).take r
      · obtain ⟨_, _, b, h1, h2, _⟩ := hmem x em
        rw [if_pos em]; exact ⟨b, h1, h2⟩
      · rw [if_neg em] at k ⊢
        exact wi.k3 x (by rw [eN] at hx; exact hx) k
  · have hm : x ∈ S.conds j ∧ x ∉ (S.conds c).take r := by
      rw [ec] at hx
      by_cases ej : j = c
      · subst ej
        rw [upd_same] at hx
        exact ⟨List.mem_of_mem_drop hx, fun h1 => hdj x h1 hx⟩
      · rw [upd_ne ej] at hx
        refine ⟨hx, fun h1 => ?_⟩
        obtain ⟨_, _, b, q1, _, q3⟩ := hmem x h1
        obtain ⟨_, _, b', p1, _, p3⟩ := wi.c j x hx
        rw [q1] at p1; cases p1
        exact ej (p3.symm.trans q3)
    obtain ⟨p1, p2, p3⟩ := wi.c j x hm.1
    have ex : x ≠ i := by intro ex; subst ex; rw [hw] at p2; cases p2
    rw [eN, tko x ex, if_neg hm.2]
    exact ⟨p1, p2, p3⟩
  · rw [ec]
    by_cases ej : j = c
    · subst ej; rw [upd_same]; exact (wi.nd j).sublist (List.drop_sublist _ _)
    · rw [upd_ne ej]; exact wi.nd j
  · have hx' : x < S.N := by rw [eN] at hx; exact hx
    by_cases ex : x = i
    · subst ex; rw [tki] at k ⊢; exact gd x hx' k
    · rw [tko x ex] at k ⊢
      by_cases em : x ∈ (S.conds c).take r
      · rw [if_pos em] at k ⊢; exact gd x hx' k
      · rw [if_neg em] at k ⊢; exact gd x hx' k
end Go.Am.T
namespace Go.Am.T
open Go Go.Am Go.Proofs.Ythanhcpnhionaaa Go.Proofs
theorem rel_all {W : Rw} {S : Sx} (h : RelW W S) (wi : WI S) (gd : GdOk S) (hN : S.N ≤ 16) {i : Nat} (hi : i < S.N) (h3 : howS S i = 3) {a : Act} (ha : (S.tk i).acts[(S.tk i).at_]? = some a) (hV : Valid (S.tk i).acts.length a) :
    RelW (stR W i (S.tk i).acts.length a) (stepM S i) ∧ WI (stepM S i) ∧ GdOk (stepM S i) := by
  by_cases k3 : a.k = 3
  · exact rel_step3 h wi gd hi h3 ha k3
  by_cases k45 : a.k = 4 ∨ a.k = 5
  · exact rel_step45 h wi gd hN hi h3 ha k45
  · exact rel_step h wi gd hN hi h3 ha hV ⟨k3, by omega, by omega⟩
theorem WI_S0 {ts : List (List Act)} {room : Int} : WI (S0 ts room) :=
  ⟨fun _ _ => .inl rfl, fun _ _ k => absurd rfl k, (fun _ _ hx => by cases hx), fun _ => List.nodup_nil⟩
theorem GdOk_S0 {ts : List (List Act)} {room : Int} : GdOk (S0 ts room) := fun _ _ k => by
  have k : (0 : Int) ≤ -1 := k
  omega
theorem why_how {W : Rw} {S : Sx} (h : RelW W S) (wi : WI S) {i : Nat} (hi : i < S.N) {V : StV} (hh : V.held = W.held) (hro : V.room = S.room) {a : Act} (ha : (S.tk i).acts[(S.tk i).at_]? = some a) (hd : (S.tk i).died = false) (hl : ∀ j, -1 ≤ S.locks j) :
    whyP V (fun j => (S.queues j).length) (W.T i) a = if howS S i = 3 then 0 else howS S i := by
  have hT := h.T i hi
  have hq : ∀ j, (V.held j ≠ 0) ↔ 0 ≤ S.locks j := by
    intro j
    have := hl j
    rw [hh, h.held]; omega
  rw [how_at hd ha]
  unfold whyP
  rw [hT.wait, hro]
  simp only [hq]
  by_cases w0 : (S.tk i).wait = 0
  · simp only [w0, show ¬ (0 : Int) = 1 by decide, show ¬ (0 : Int) = 2 by decide, if_false, false_and, and_false, or_false]
    by_cases c1 : a.k = 1 ∧ 0 ≤ S.locks a.a.toNat
    · simp [c1]
    · by_cases c6 : a.k = 6 ∧ S.room ≤ ((S.queues a.a.toNat).length : Int)
      · simp [c1, c6]
      · by_cases c7 : a.k = 7 ∧ (S.queues a.a.toNat).length = 0
        · rw [if_neg c1, if_neg c6, if_pos c7, if_neg c1, if_neg c6, if_pos c7]; simp
        · rw [if_neg c1, if_neg c6, if_neg c7, if_neg c1, if_neg c6, if_neg c7]; simp
  · obtain ⟨b, hb, hb3⟩ := wi.k3 i hi w0
    rw [ha] at hb; cases hb
    have n1 : ¬ a.k = 1 := by omega
    have n6 : ¬ a.k = 6 := by omega
    have n7 : ¬ a.k = 7 := by omega
    rcases wi.w i hi with w | w | w
    · exact absurd w w0
    · simp [w, hb3]
    · by_cases cb : 0 ≤ S.locks a.b.toNat <;> simp [w, hb3, cb]
end Go.Am.T
namespace Go.Am.T
open Go Go.Am Go.Proofs.Ythanhcpnhionaaa Go.Proofs
def pickP (l : List Nat) (k last : Int) : Nat := if 0 ≤ k then l.getD (k.toNat % l.length) 0 else (l.find? fun (i : Nat) => decide (last < (i : Int))).getD (l.getD 0 0)
theorem rpick_W {H : Heap} {v : Value} {l : List Nat} {k last : Int} (hr : RdI H v (l.map nv)) (hl : l ≠ []) (hb : l.length ≤ 1000000) :
    CW Try.prog 25 #[v, .int .i64 k, .int .i64 last] H fun x H' => x = .ret (nv (pickP l k last)) ∧ H = H' := by
  refine CW_k (n := 36) if25 rfl ?_
  unfold C25
  have hl0 : l.length ≠ 0 := fun e => hl (List.eq_nil_of_length_eq_zero e)
  have hl00 : ¬ (l.length : Int) = 0 := by omega
  obtain ⟨b, o, c, x, hv, hc, hx, hx0⟩ := hr.at_ (i := 0) (by rw [List.length_map]; omega)
  rw [List.length_map] at hv
  subst hv
  simp only [List.getElem_map, nv, Nat.add_zero] at hx0
  have hg0 : l.getD 0 0 = l[0]'(by omega) := by rw [List.getD_eq_getElem?_getD, List.getElem?_eq_getElem (by omega)]; rfl
  by_cases hk : 0 ≤ k
  · have htm := tmod_nat hk l.length
    have hml : k.toNat % l.length < l.length := Nat.mod_lt _ (by omega)
    obtain ⟨b', o', c', x', hv, _, hx', hri⟩ := hr.at_ (i := k.toNat % l.length) (by simpa using hml)
    rw [List.length_map] at hv
    simp only [Value.slice.injEq, Option.some.injEq, Addr.mk.injEq, true_and, and_true] at hv
    obtain ⟨⟨rfl, rfl⟩, rfl⟩ := hv
    rw [hx] at hx'; cases hx'
    simp only [List.getElem_map, nv] at hri
    have hm0 : (0 : Int) ≤ ((k.toNat % l.length : Nat) : Int) := by omega
    have hm1 : ((k.toNat % l.length : Nat) : Int) < (l.length : Int) := by omega
    simp -implicitDefEqProofs (maxDischargeDepth := 6) (maxSteps := 1000000) only [go_sem, ↓reduceIte, Nat.reduceLT, Nat.reduceLeDiff, Nat.reduceEqDiff, Nat.reduceAdd, Nat.reduceMul, Nat.reduceSub, Nat.reduceBEq, reduceCtorEq, Int.reduceEq, Int.reduceLT, Int.reduceLE, Int.reduceNeg, Int.reduceToNat, hk, goInt, htm, hl00, hm0, hm1, hc, hx, hri, nv]
    unfold pickP
    rw [if_pos hk, List.getD_eq_getElem?_getD, List.getElem?_eq_getElem hml]; rfl
  · simp -implicitDefEqProofs (maxDischargeDepth := 6) (maxSteps := 1000000) only [go_sem, ↓reduceIte, Nat.reduceLT, Nat.reduceLeDiff, Nat.reduceEqDiff, Nat.reduceAdd, Nat.reduceMul, Nat.reduceSub, Nat.reduceBEq, reduceCtorEq, Int.reduceEq, Int.reduceLT, Int.reduceLE, Int.reduceNeg, Int.reduceToNat, hk, goInt, nv]
    refine Wk_loopF (fun m f G => ∃ j, m = l.length - j ∧ j ≤ l.length ∧ f.get 0 = some (.slice (some ⟨b, o, none⟩) l.length c) ∧ f.get 2 = some (.int .i64 last) ∧ f.get 7 = some (nv j) ∧ G = H ∧ ∀ i (hi : i < l.length), i < j → ¬ last < (l[i] : Int)) l.length ?_ ?_
    · refine ⟨0, by omega, by omega, ?_, ?_, ?_, rfl, by omega⟩
      all_goals simp -implicitDefEqProofs (maxDischargeDepth := 6) (maxSteps := 1000000) only [go_sem, ↓reduceIte, Nat.reduceLT, Nat.reduceLeDiff, Nat.reduceEqDiff, Nat.reduceAdd, Nat.reduceMul, Nat.reduceSub, Nat.reduceBEq, reduceCtorEq, Int.reduceEq, Int.reduceLT, Int.reduceLE, Int.reduceNeg, Int.reduceToNat, nv]
      rfl
    rintro m f G ⟨j, rfl, hj, f0, f2, f7, hG, hall⟩
    subst G
    unfold L25_1
    by_cases hlt : j < l.length
    · have hltZ : (j : Int) < (l.length : Int) := by omega
      have hj0 : (0 : Int) ≤ (j : Int) := by omega
      have hw1 : IntKind.i64.wrap ((j : Int) + 1) = ((j + 1 : Nat) : Int) := IntWalk.i64_in _ (by omega)
      obtain ⟨b', o', c', x', hv, _, hx', hri⟩ := hr.at_ (i := j) (by simpa using hlt)
      rw [List.length_map] at hv
      simp only [Value.slice.injEq, Option.some.injEq, Addr.mk.injEq, true_and, and_true] at hv
      obtain ⟨⟨rfl, rfl⟩, rfl⟩ := hv
      rw [hx] at hx'; cases hx'
      simp only [List.getElem_map, nv] at hri
      by_cases hg : last < (l[j] : Int)
      · simp -implicitDefEqProofs (maxDischargeDepth := 6) (maxSteps := 1000000) only [go_sem, ↓reduceIte, Nat.reduceLT, Nat.reduceLeDiff, Nat.reduceEqDiff, Nat.reduceAdd, Nat.reduceMul, Nat.reduceSub, Nat.reduceBEq, reduceCtorEq, Int.reduceEq, Int.reduceLT, Int.reduceLE, Int.reduceNeg, Int.reduceToNat, f0, f2, f7, goInt, nv, hltZ, hj0, hc, hx, hri, hg]
        unfold pickP
        rw [if_neg hk]
        have e : (l.find? fun (i : Nat) => decide (last < (i : Int))) = some l[j] := by
          rw [List.find?_eq_some_iff_getElem]
          refine ⟨by simpa using hg, j, hlt, rfl, fun i hi => ?_⟩
          simpa using hall i (by omega) hi
        rw [e]; rfl
      · simp -implicitDefEqProofs (maxDischargeDepth := 6) (maxSteps := 1000000) only [go_sem, ↓reduceIte, Nat.reduceLT, Nat.reduceLeDiff, Nat.reduceEqDiff, Nat.reduceAdd, Nat.reduceMul, Nat.reduceSub, Nat.reduceBEq, reduceCtorEq, Int.reduceEq, Int.reduceLT, Int.reduceLE, Int.reduceNeg, Int.reduceToNat, f0, f2, f7, goInt, nv, hltZ, hj0, hc, hx, hri, hg, hw1]
        refine ⟨l.length - (j + 1), by omega, j + 1, rfl, by omega, ?_, ?_, ?_, rfl, ?_⟩
        · simp only [Tr.get_put, Nat.reduceEqDiff, ↓reduceIte, f0]
        · simp only [Tr.get_put, Nat.reduceEqDiff, ↓reduceIte, f2]
        · simp only [Tr.get_put, Nat.reduceEqDiff, ↓reduceIte, nv]
        · intro i hi hij
          by_cases e : i = j
          · subst e; exact hg
          · exact hall i hi (by omega)
    · have hltZ : ¬ (j : Int) < (l.length : Int) := by omega
      have h0l : (0 : Int) < (l.length : Int) := by omega
      simp -implicitDefEqProofs (maxDischargeDepth := 6) (maxSteps := 1000000) only [go_sem, ↓reduceIte, Nat.reduceLT, Nat.reduceLeDiff, Nat.reduceEqDiff, Nat.reduceAdd, Nat.reduceMul, Nat.reduceSub, Nat.reduceBEq, reduceCtorEq, Int.reduceEq, Int.reduceLT, Int.reduceLE, Int.reduceNeg, Int.reduceToNat, f0, f2, f7, goInt, nv, hltZ, hc, hx, hx0, h0l, Nat.add_zero]
      unfold pickP
      rw [if_neg hk]
      have e : (l.find? fun (i : Nat) => decide (last < (i : Int))) = none := by
        rw [List.find?_eq_none]
        intro y hy
        obtain ⟨i, hi, rfl⟩ := List.mem_iff_getElem.1 hy
        simpa using hall i hi (by omega)
      rw [e, Option.getD_none, hg0]
end Go.Am.T
namespace Go.Am.T
open Go Go.Am Go.Proofs.Ythanhcpnhionaaa Go.Proofs
structure RfR (H : Heap) (r : Nat) (M : RM) (S : Sx) : Prop where
  x : RfX H r M S.N (fun i => (S.tk i).acts) S.conds S.queues
  rel : RelW ⟨M.T, M.V.held, M.V.regs, S.conds, S.queues⟩ S
  wi : WI S
  gd : GdOk S
  ok : OkR S
  n16 : S.N ≤ 16
  room : M.V.room = S.room
  lk : ∀ j, -1 ≤ S.locks j
theorem rready_W {H : Heap} {r : Nat} {M : RM} {S : Sx} (h : RfR H r M S) :
    CW Try.prog 24 #[.pointer (some ⟨r, 0, none⟩)] H fun x H' => ∃ v, x = .ret v ∧ Ext H H' ∧ OwnL (fun b => H.next ≤ b) H' 1 3 v (rdy S).length ((rdy S).map nv) := by
  refine CW_k (n := 34) if24 rfl ?_
  unfold C24
  have hX := h.x
  have hn16 := h.n16
  simp -implicitDefEqProofs (maxDischargeDepth := 6) (maxSteps := 1000000) only [go_sem, ↓reduceIte, Nat.reduceLT, Nat.reduceLeDiff, Nat.reduceEqDiff, Nat.reduceAdd, Nat.reduceMul, Nat.reduceSub, Nat.reduceBEq, reduceCtorEq, Int.reduceEq, Int.reduceLT, Int.reduceLE, Int.reduceNeg, Int.reduceToNat, ]
  refine Wk_loopF (fun m f H1 => ∃ k v, m = S.N - k ∧ k ≤ S.N ∧ f.get 0 = some (.pointer (some ⟨r, 0, none⟩)) ∧ f.get 4 = some (nv k) ∧ f.get 3 = some v ∧
    Ext H H1 ∧ OwnL (fun b => H.next ≤ b) H1 1 3 v (rdyTo S k).length ((rdyTo S k).map nv)) S.N ?_ ?_
  · refine ⟨0, .slice none 0 0, by omega, by omega, ?_, ?_, ?_, Ext.refl hX.wf, .inl ⟨rfl, rfl, rfl⟩⟩
    all_goals simp -implicitDefEqProofs (maxDischargeDepth := 6) (maxSteps := 1000000) only [go_sem, ↓reduceIte, Nat.reduceLT, Nat.reduceLeDiff, Nat.reduceEqDiff, Nat.reduceAdd, Nat.reduceMul, Nat.reduceSub, Nat.reduceBEq, reduceCtorEq, Int.reduceEq, Int.reduceLT, Int.reduceLE, Int.reduceNeg, Int.reduceToNat, goInt, nv]
    rfl
  rintro m f H1 ⟨k, v, rfl, hk, h0, h4, h3, hE, hO⟩
  obtain ⟨h1, _⟩ := hX.ext hE
  have hr1 := h1.st
  unfold L24_1
  obtain ⟨tsa, tsc, hts⟩ : ∃ a c, M.V.tasks = .slice a S.N c := by
    by_cases e : S.N = 0
    · obtain ⟨a, c, q⟩ := h1.ts0 e
      exact ⟨a, c, by rw [e]; exact q⟩
    · exact ⟨_, _, (h1.ts e).1⟩
  by_cases hlt : k < S.N
  case neg =>
    have hltZ : ¬ (k : Int) < (S.N : Int) := by omega
    simp -implicitDefEqProofs (maxDischargeDepth := 6) (maxSteps := 1000000) only [go_sem, ↓reduceIte, Nat.reduceLT, Nat.reduceLeDiff, Nat.reduceEqDiff, Nat.reduceAdd, Nat.reduceMul, Nat.reduceSub, Nat.reduceBEq, reduceCtorEq, Int.reduceEq, Int.reduceLT, Int.reduceLE, Int.reduceNeg, Int.reduceToNat, h0, h3, h4, nv, hr1, hts, hltZ, goInt]
    have e : k = S.N := by omega
    subst e
    exact ⟨v, rfl, hE, hO⟩
  have hltZ : (k : Int) < (S.N : Int) := by omega
  have hk0 : (0 : Int) ≤ (k : Int) := by omega
  obtain ⟨hts2, hbo, hbb, hx⟩ := h1.ts (by omega)
  rw [hts2] at hts
  simp only [Value.slice.injEq, true_and] at hts
  obtain ⟨rfl, rfl⟩ := hts
  have hoc : ¬ openCap = 0 := by unfold openCap; omega
  have hw : IntKind.i64.wrap ((k : Int) + 1) = ((k + 1 : Nat) : Int) := IntWalk.i64_in _ (by omega)
  have hT := h.rel.T k hlt
  have hkl := rdyTo_len S k
  have skip : ∀ H2, Ext H1 H2 → howS S k ≠ 3 → Ext H H2 ∧ OwnL (fun b => H.next ≤ b) H2 1 3 v (rdyTo S (k + 1)).length ((rdyTo S (k + 1)).map nv) := by
    intro H2 hE2 hh
    rw [rdyTo_succ, if_neg hh, List.append_nil]
    exact ⟨hE.trans hE2, hO.frame fun b x hb hg => ⟨hb, hE2.of hE.wf hg⟩⟩
  by_cases hh0 : (M.T k).how = 0
  case neg =>
    have hh : howS S k ≠ 3 := by
      intro e
      obtain ⟨hat, _, hd⟩ := how_3 e
      exact hh0 (hT.how0 hat hd)
    simp -implicitDefEqProofs (maxDischargeDepth := 6) (maxSteps := 1000000) only [go_sem, ↓reduceIte, Nat.reduceLT, Nat.reduceLeDiff, Nat.reduceEqDiff, Nat.reduceAdd, Nat.reduceMul, Nat.reduceSub, Nat.reduceBEq, reduceCtorEq, Int.reduceEq, Int.reduceLT, Int.reduceLE, Int.reduceNeg, Int.reduceToNat, h0, h3, h4, nv, hr1, hts2, hltZ, goInt, hk0, hoc, hx, hlt, hh0, hw]
    obtain ⟨s1, s2⟩ := skip H1 (Ext.refl hE.wf) hh
    refine ⟨S.N - (k + 1), by omega, k + 1, v, rfl, by omega, ?_, ?_, ?_, s1, s2⟩
    · simp -implicitDefEqProofs (maxDischargeDepth := 6) (maxSteps := 1000000) only [go_sem, ↓reduceIte, Nat.reduceLT, Nat.reduceLeDiff, Nat.reduceEqDiff, Nat.reduceAdd, Nat.reduceMul, Nat.reduceSub, Nat.reduceBEq, reduceCtorEq, Int.reduceEq, Int.reduceLT, Int.reduceLE, Int.reduceNeg, Int.reduceToNat, h0]
    · simp only [Tr.get_put, Nat.reduceEqDiff, ↓reduceIte, nv]
    · simp -implicitDefEqProofs (maxDischargeDepth := 6) (maxSteps := 1000000) only [go_sem, ↓reduceIte, Nat.reduceLT, Nat.reduceLeDiff, Nat.reduceEqDiff, Nat.reduceAdd, Nat.reduceMul, Nat.reduceSub, Nat.reduceBEq, reduceCtorEq, Int.reduceEq, Int.reduceLT, Int.reduceLE, Int.reduceNeg, Int.reduceToNat, h3]
  have hst : (S.tk k).died = false ∧ (S.tk k).at_ < (S.tk k).acts.length := by
    have e := hT.how
    rw [hh0] at e
    unfold howT at e
    cases hd : (S.tk k).died with
    | true => rw [hd] at e; simp at e
    | false =>
      refine ⟨rfl, Nat.lt_of_not_le fun hle => ?_⟩
      rw [hd, if_neg (by simp), if_pos hle] at e; cases e
  obtain ⟨hd, hat⟩ := hst
  have hV := h.ok.vs k hlt _ hat
  have ha := List.getElem?_eq_getElem hat
  have hql : ∀ j, j < 4 → ∃ a c, M.V.qs j = .slice a (S.queues j).length c := fun j hj => (h1.q j hj).sl
  have hwy := why_how h.rel h.wi hlt (V := M.V) rfl h.room ha hd h.lk
  simp -implicitDefEqProofs (maxDischargeDepth := 6) (maxSteps := 1000000) only [go_sem, ↓reduceIte, Nat.reduceLT, Nat.reduceLeDiff, Nat.reduceEqDiff, Nat.reduceAdd, Nat.reduceMul, Nat.reduceSub, Nat.reduceBEq, reduceCtorEq, Int.reduceEq, Int.reduceLT, Int.reduceLE, Int.reduceNeg, Int.reduceToNat, h0, h3, h4, nv, hr1, hts2, hltZ, goInt, hk0, hoc, hx, hlt, hh0]
  refine CW_mono _ (why_W h1.wf h1.rb hbb (h1.ne (by omega)) hr1 hx hts2 hlt (h1.actsAt hlt) hat (hT.at_eq hat) hV (by
    intro e2
    obtain ⟨b, hb, hb3⟩ := h.wi.k3 k hlt (by rw [← hT.wait, e2]; decide)
    rw [ha] at hb; cases hb; exact hb3) (ql := fun j => (S.queues j).length) (qa := fun j => if hj : j < 4 then (hql j hj).choose else none) (qc := fun j => if hj : j < 4 then (hql j hj).choose_spec.choose else 0) (by
    intro j hj
    simp only [hj, dif_pos]
    exact (hql j hj).choose_spec.choose_spec)) ?_
  rintro _ H2 ⟨rfl, hE2⟩
  rw [hwy]
  by_cases hh : howS S k = 3
  · have hO2 : OwnL (fun b => H.next ≤ b) H2 1 3 v (rdyTo S k).length ((rdyTo S k).map nv) := hO.frame fun b x hb hg => ⟨hb, hE2.of hE.wf hg⟩
    obtain ⟨a, c, rfl⟩ := hO2.sl
    simp -implicitDefEqProofs (maxDischargeDepth := 6) (maxSteps := 1000000) only [go_sem, ↓reduceIte, Nat.reduceLT, Nat.reduceLeDiff, Nat.reduceEqDiff, Nat.reduceAdd, Nat.reduceMul, Nat.reduceSub, Nat.reduceBEq, reduceCtorEq, Int.reduceEq, Int.reduceLT, Int.reduceLE, Int.reduceNeg, Int.reduceToNat, h0, h3, h4, nv, hh]
    have hE3 := hE2.alloc (⟨3, 0, false, [.int .i64 (k : Int)]⟩ : Blk)
    have hO3 : OwnL (fun b => H.next ≤ b) (H2.alloc ⟨3, 0, false, [.int .i64 (k : Int)]⟩) 1 3 (.slice a (rdyTo S k).length c) (rdyTo S k).length ((rdyTo S k).map nv) := hO2.frame fun b x hb hg => ⟨hb, (Ext.alloc (Ext.refl hE2.wf) _).of hE2.wf hg⟩
    refine Wk_vh (appS_own hO3 rfl (get_alloc_eq hE2.wf.1) rfl rfl (by omega) rfl (by omega) (by omega)) ?_
    simp -implicitDefEqProofs (maxDischargeDepth := 6) (maxSteps := 1000000) only [go_sem, ↓reduceIte, Nat.reduceLT, Nat.reduceLeDiff, Nat.reduceEqDiff, Nat.reduceAdd, Nat.reduceMul, Nat.reduceSub, Nat.reduceBEq, reduceCtorEq, Int.reduceEq, Int.reduceLT, Int.reduceLE, Int.reduceNeg, Int.reduceToNat, h0, h3, h4, nv, hh, hw]
    refine ⟨S.N - (k + 1), by omega, k + 1, .slice (some ⟨H2.next + 1, 0, none⟩) ((rdyTo S k).length + 1) openCap, rfl, by omega, ?_, ?_, ?_, Ext.app (hE.trans hE3) hO3 _, ?_⟩
    all_goals try simp -implicitDefEqProofs (maxDischargeDepth := 6) (maxSteps := 1000000) only [go_sem, ↓reduceIte, Nat.reduceLT, Nat.reduceLeDiff, Nat.reduceEqDiff, Nat.reduceAdd, Nat.reduceMul, Nat.reduceSub, Nat.reduceBEq, reduceCtorEq, Int.reduceEq, Int.reduceLT, Int.reduceLE, Int.reduceNeg, Int.reduceToNat, h0, h3, h4, nv, hh]
    have := hO3.appended (p' := fun b => H.next ≤ b) (vs := [nv k]) hE3.wf (Nat.le_succ_of_le (Nat.le_trans hE.le hE2.le)) rfl
    rw [rdyTo_succ, if_pos hh, List.map_append, List.length_append]
    exact this
  · have hz : ¬ howS S k = 0 := by
      intro e
      rw [how_at hd ha] at e
      split at e
      · cases e
      · split at e
        · cases e
        · split at e
          · cases e
          · split at e <;> cases e
    simp -implicitDefEqProofs (maxDischargeDepth := 6) (maxSteps := 1000000) only [go_sem, ↓reduceIte, Nat.reduceLT, Nat.reduceLeDiff, Nat.reduceEqDiff, Nat.reduceAdd, Nat.reduceMul, Nat.reduceSub, Nat.reduceBEq, reduceCtorEq, Int.reduceEq, Int.reduceLT, Int.reduceLE, Int.reduceNeg, Int.reduceToNat, h0, h3, h4, nv, hh, hz, hw]
    obtain ⟨s1, s2⟩ := skip H2 hE2 hh
    refine ⟨S.N - (k + 1), by omega, k + 1, v, rfl, by omega, ?_, ?_, ?_, s1, s2⟩
    · simp -implicitDefEqProofs (maxDischargeDepth := 6) (maxSteps := 1000000) only [go_sem, ↓reduceIte, Nat.reduceLT, Nat.reduceLeDiff, Nat.reduceEqDiff, Nat.reduceAdd, Nat.reduceMul, Nat.reduceSub, Nat.reduceBEq, reduceCtorEq, Int.reduceEq, Int.reduceLT, Int.reduceLE, Int.reduceNeg, Int.reduceToNat, h0]
    · simp only [Tr.get_put, Nat.reduceEqDiff, ↓reduceIte, nv]
    · simp -implicitDefEqProofs (maxDischargeDepth := 6) (maxSteps := 1000000) only [go_sem, ↓reduceIte, Nat.reduceLT, Nat.reduceLeDiff, Nat.reduceEqDiff, Nat.reduceAdd, Nat.reduceMul, Nat.reduceSub, Nat.reduceBEq, reduceCtorEq, Int.reduceEq, Int.reduceLT, Int.reduceLE, Int.reduceNeg, Int.reduceToNat, h3]
end Go.Am.T
namespace Go.Am.T
open Go Go.Am Go.Proofs.Ythanhcpnhionaaa Go.Proofs
theorem upd_lk {S : Sx} (h : ∀ j, -1 ≤ S.locks j) {c : Nat} {z : Int} (hz : -1 ≤ z) (j : Nat) : -1 ≤ upd S.locks c z j := by
  unfold upd; split
  · exact hz
  · exact h j
theorem wake_lk {S : Sx} (h : ∀ j, -1 ≤ S.locks j) {c n : Nat} (j : Nat) : -1 ≤ (wakeM S c n).locks j := by
  show -1 ≤ (wakeAll S ((S.conds c).take n)).locks j
  rw [(wakeAll_rest ((S.conds c).take n) S).2.2.1]; exact h j
def LkS (d : Sx × Option Int) : Prop := ∀ j, -1 ≤ d.1.locks j
theorem LkS.ite {c : Prop} [Decidable c] {x y : Sx × Option Int} (hx : LkS x) (hy : LkS y) : LkS (if c then x else y) := by split <;> assumption
theorem LkS.upd {S S' : Sx} (h : ∀ j, -1 ≤ S.locks j) {c : Nat} {z : Int} {n : Option Int} (hz : -1 ≤ z) (e : S'.locks = Go.Am.T.upd S.locks c z) : LkS (S', n) := fun j => by show -1 ≤ S'.locks j; rw [e]; exact upd_lk h hz j
theorem LkS.same {S S' : Sx} (h : ∀ j, -1 ≤ S.locks j) {n : Option Int} (e : S'.locks = S.locks) : LkS (S', n) := fun j => by show -1 ≤ S'.locks j; rw [e]; exact h j
theorem LkS.wake {S S' : Sx} (h : ∀ j, -1 ≤ S.locks j) {c k : Nat} {n : Option Int} (e : S'.locks = (wakeM S c k).locks) : LkS (S', n) := fun j => by show -1 ≤ S'.locks j; rw [e]; exact wake_lk h j
theorem lk_step {S : Sx} {i : Nat} (h : ∀ j, -1 ≤ S.locks j) : ∀ j, -1 ≤ (stepM S i).locks j := by
  unfold stepM
  cases ha : (S.tk i).acts[(S.tk i).at_]? with
  | none => exact h
  | some a =>
    have hb : ∀ j, -1 ≤ (begS S i).locks j := h
    have hd : LkS (doA (begS S i) i a) := by
      generalize begS S i = B at hb
      unfold doA
      repeat' (first
        | exact LkS.same hb rfl
        | exact LkS.upd hb (by omega) rfl
        | exact LkS.wake hb rfl
        | refine LkS.ite ?_ ?_)
    dsimp only
    generalize doA (begS S i) i a = d at hd
    obtain ⟨S1, po⟩ := d
    cases po with
    | none => exact hd
    | some n =>
      intro j
      show -1 ≤ (caughtM S1 i n).locks j
      unfold caughtM
      split <;> exact hd j
theorem RfR.step {H : Heap} {r : Nat} {M : RM} {S : Sx} (h : RfR H r M S) {i : Nat} (hi : i < S.N) (h3 : howS S i = 3) (hbd : S.trace.length ≤ 70000) :
    CW Try.prog 26 #[.pointer (some ⟨r, 0, none⟩), nv i] H fun x H' => x = .ret (.tuple #[]) ∧ ∃ M', RfR H' r M' (stepM S i) ∧ FrmR H M H' M' ∧ M'.V.last = i := by
  obtain ⟨hat, hq, hd⟩ := how_3 h3
  have ha := List.getElem?_eq_getElem hat
  have hV := h.ok.vs i hi _ hat
  have hT := h.rel.T i hi
  have hn := h.n16
  have hkp := stepM_kp hi hat
  refine CW_mono _ (rstep_W h.x hi (by omega) hat (by have := h.ok.len i hi; omega) (hT.at_eq hat) hV (fun k _ x hx => (h.wi.c k x hx).1) (fun k _ => by have := h.ok.cb k; omega) (fun k _ => by have := h.ok.qb k; omega) hq) ?_
  rintro x H' ⟨rfl, M', q1, q2, q3, q4, q5, q6, q7, q8, q9⟩
  obtain ⟨r1, r2, r3⟩ := rel_all h.rel h.wi h.gd hn hi h3 ha hV
  have eN : (stepM S i).N = S.N := hkp.N
  have eacts : (fun j => ((stepM S i).tk j).acts) = fun j => (S.tk j).acts := by
    funext j; exact hkp.acts j
  refine ⟨rfl, M', ⟨?_, ?_, r2, r3, h.ok.step hi hat, by rw [eN]; exact hn, by rw [q6, h.room]; exact hkp.room.symm, lk_step h.lk⟩, q2, q7⟩
  · rw [eN, eacts, ← r1.C, ← r1.Q]
    exact q1
  · rw [q3, q4, q5, ← r1.C, ← r1.Q]
    exact r1
end Go.Am.T
namespace Go.Am.T
open Go Go.Am Go.Proofs.Ythanhcpnhionaaa Go.Proofs
theorem few_W {H : Heap} {n : Int} : CW Try.prog 14 #[.int .i64 n] H fun x H' => x = .ret (.int .i64 (if 3000 < n ∧ n ≤ 65536 then 3000 else n)) ∧ H = H' := by
  refine CW_k (n := 10) if14 rfl ?_
  unfold C14
  by_cases c1 : 3000 < n
  · by_cases c2 : n ≤ 65536
    · simp -implicitDefEqProofs (maxDischargeDepth := 6) (maxSteps := 1000000) only [go_sem, ↓reduceIte, Nat.reduceLT, Nat.reduceLeDiff, Nat.reduceEqDiff, Nat.reduceAdd, Nat.reduceMul, Nat.reduceSub, Nat.reduceBEq, reduceCtorEq, Int.reduceEq, Int.reduceLT, Int.reduceLE, Int.reduceNeg, Int.reduceToNat, c1, c2]
    · simp -implicitDefEqProofs (maxDischargeDepth := 6) (maxSteps := 1000000) only [go_sem, ↓reduceIte, Nat.reduceLT, Nat.reduceLeDiff, Nat.reduceEqDiff, Nat.reduceAdd, Nat.reduceMul, Nat.reduceSub, Nat.reduceBEq, reduceCtorEq, Int.reduceEq, Int.reduceLT, Int.reduceLE, Int.reduceNeg, Int.reduceToNat, c1, c2]
  · simp -implicitDefEqProofs (maxDischargeDepth := 6) (maxSteps := 1000000) only [go_sem, ↓reduceIte, Nat.reduceLT, Nat.reduceLeDiff, Nat.reduceEqDiff, Nat.reduceAdd, Nat.reduceMul, Nat.reduceSub, Nat.reduceBEq, reduceCtorEq, Int.reduceEq, Int.reduceLT, Int.reduceLE, Int.reduceNeg, Int.reduceToNat, c1]
    simp
theorem endsB_W {H : Heap} {b : Nat} {t : TcV} {a : Option Addr} {n c : Nat} (hb : base0 ≤ b) (hx : H.get b = some ⟨68, 0, false, tcC t⟩) (ha : t.acts = .slice a n c) :
    CW Try.prog 36 #[.pointer (some ⟨b, 0, none⟩)] H fun x H' => x = .ret (.tuple #[]) ∧ (if (n : Int) ≤ t.at_ then H.set b ⟨68, 0, false, tcC { t with how := 1 }⟩ else H) = H' := by
  refine CW_k (n := 15) if36 rfl ?_
  unfold C36
  by_cases h : (n : Int) ≤ t.at_
  · simp -implicitDefEqProofs (maxDischargeDepth := 6) (maxSteps := 1000000) only [go_sem, ↓reduceIte, Nat.reduceLT, Nat.reduceLeDiff, Nat.reduceEqDiff, Nat.reduceAdd, Nat.reduceMul, Nat.reduceSub, Nat.reduceBEq, reduceCtorEq, Int.reduceEq, Int.reduceLT, Int.reduceLE, Int.reduceNeg, Int.reduceToNat, hb, hx, tcC, ha, goInt, h]
  · simp -implicitDefEqProofs (maxDischargeDepth := 6) (maxSteps := 1000000) only [go_sem, ↓reduceIte, Nat.reduceLT, Nat.reduceLeDiff, Nat.reduceEqDiff, Nat.reduceAdd, Nat.reduceMul, Nat.reduceSub, Nat.reduceBEq, reduceCtorEq, Int.reduceEq, Int.reduceLT, Int.reduceLE, Int.reduceNeg, Int.reduceToNat, hb, hx, tcC, ha, goInt, h]
end Go.Am.T
namespace Go.Am.T
open Go Go.Am Go.Proofs.Ythanhcpnhionaaa Go.Proofs
def tc0 (av : Nat → Value) (ts : List (List Act)) (i : Nat) : TcV := { acts := av i, at_ := 0, wait := 0, guard := -1, how := if (ts.getD i []).length = 0 then 1 else 0, n := 0 }
def st0 (tv : Value) (room : Int) : StV := { tasks := tv, held := fun _ => 0, lines := fun _ => .slice none 0 0, qs := fun _ => .slice none 0 0, regs := fun _ => 0, room := room, last := -1 }
theorem begin_W {H : Heap} (hw : WF H) {tv : Value} {ts : List (List Act)} {av : Nat → Value} (ht : TasksAt H tv ts av) (hN : ts.length ≤ 65536) {room : Int} :
    CW Try.prog 23 #[tv, .int .i64 room] H fun x H' => ∃ r tv', x = .ret (.pointer (some ⟨r, 0, none⟩)) ∧ H.next ≤ r ∧ Ext H H' ∧ H'.get r = some (stB (st0 tv' room)) ∧ OwnL (fun b => H.next ≤ b ∧ b ≠ r) H' 6 68 tv' ts.length (fl6 (tc0 av ts) ts.length) := by
  refine CW_k (n := 34) if23 rfl ?_
  unfold C23
  obtain ⟨ta, tc, htv⟩ : ∃ a c, tv = .slice a ts.length c := by
    obtain ⟨⟨a, c, e, _⟩, _⟩ := ht
    exact ⟨a, c, by simpa using e⟩
  subst htv
  have hnb := hw.1
  simp -implicitDefEqProofs (maxDischargeDepth := 6) (maxSteps := 1000000) only [go_sem, ↓reduceIte, Nat.reduceLT, Nat.reduceLeDiff, Nat.reduceEqDiff, Nat.reduceAdd, Nat.reduceMul, Nat.reduceSub, Nat.reduceBEq, reduceCtorEq, Int.reduceEq, Int.reduceLT, Int.reduceLE, Int.reduceNeg, Int.reduceToNat, ]
  have hE0 := (Ext.refl hw).alloc (stB (st0 (.slice none 0 0) room))
  refine Wk_loopF (fun m f G => ∃ k tv', m = ts.length - k ∧ k ≤ ts.length ∧ f.get 0 = some (.slice ta ts.length tc) ∧ f.get 5 = some (.pointer (some ⟨H.next, 0, none⟩)) ∧ f.get 6 = some (nv k) ∧ Ext H G ∧ G.get H.next = some (stB (st0 tv' room)) ∧ OwnL (fun b => H.next ≤ b ∧ b ≠ H.next) G 6 68 tv' k (fl6 (tc0 av ts) k)) ts.length ?_ ?_
  · refine ⟨0, .slice none 0 0, by omega, by omega, ?_, ?_, ?_, hE0, get_alloc_eq hnb, .inl ⟨rfl, rfl, rfl⟩⟩
    all_goals simp -implicitDefEqProofs (maxDischargeDepth := 6) (maxSteps := 1000000) only [go_sem, ↓reduceIte, Nat.reduceLT, Nat.reduceLeDiff, Nat.reduceEqDiff, Nat.reduceAdd, Nat.reduceMul, Nat.reduceSub, Nat.reduceBEq, reduceCtorEq, Int.reduceEq, Int.reduceLT, Int.reduceLE, Int.reduceNeg, Int.reduceToNat, nv]
    rfl
  rintro m f G ⟨k, tv', rfl, hk, f0, f5, f6, hE, hr, hO⟩
  unfold L23_1
  have hrl := hE.wf.lt hr
  by_cases hlt : k < ts.length
  case neg =>
    have hltZ : ¬ (k : Int) < (ts.length : Int) := by omega
    obtain rfl : k = ts.length := by omega
    simp -implicitDefEqProofs (maxDischargeDepth := 6) (maxSteps := 1000000) only [go_sem, ↓reduceIte, Nat.reduceLT, Nat.reduceLeDiff, Nat.reduceEqDiff, Nat.reduceAdd, Nat.reduceMul, Nat.reduceSub, Nat.reduceBEq, reduceCtorEq, Int.reduceEq, Int.reduceLT, Int.reduceLE, Int.reduceNeg, Int.reduceToNat, f0, f5, f6, nv, goInt, hltZ]
    exact ⟨H.next, tv', rfl, Nat.le_refl _, hE, hr, hO⟩
  have hltZ : (k : Int) < (ts.length : Int) := by omega
  have hk0 : (0 : Int) ≤ (k : Int) := by omega
  have hw1 : IntKind.i64.wrap ((k : Int) + 1) = ((k + 1 : Nat) : Int) := IntWalk.i64_in _ (by omega)
  obtain ⟨b, o, c, x, hv, hc, hx, hxk⟩ := (ht.of hw hE).rd.at_ (i := k) (by simpa using hlt)
  simp only [Value.slice.injEq, List.length_map, List.length_range, true_and] at hv
  obtain ⟨rfl, rfl⟩ := hv
  simp only [List.getElem_map, List.getElem_range] at hxk
  obtain ⟨la, lc, hlv⟩ := (ht.acts k hlt).len
  have hnG := hE.wf.1
  simp -implicitDefEqProofs (maxDischargeDepth := 6) (maxSteps := 1000000) only [go_sem, ↓reduceIte, Nat.reduceLT, Nat.reduceLeDiff, Nat.reduceEqDiff, Nat.reduceAdd, Nat.reduceMul, Nat.reduceSub, Nat.reduceBEq, reduceCtorEq, Int.reduceEq, Int.reduceLT, Int.reduceLE, Int.reduceNeg, Int.reduceToNat, f0, f5, f6, nv, goInt, hltZ, hk0, hc, hx, hxk, hlv, loads_eq, hnG]
  have hE1 := (hE.alloc (⟨68, 0, false, [.slice none 0 0, .int .i64 0, .int .i64 0, .int .i64 0, .int .i64 0, .int .i64 0]⟩ : Blk)).set (b := G.next) hE.le (by simp only [next_alloc]; omega) ⟨68, 0, false, tcC { acts := .slice la ts[k].length lc, at_ := 0, wait := 0, guard := -1, how := 0, n := 0 }⟩
  refine CW_mono _ (endsB_W (t := { acts := .slice la ts[k].length lc, at_ := 0, wait := 0, guard := -1, how := 0, n := 0 }) hnG (get_set_eq hnG) rfl) ?_
  rintro _ G2 ⟨rfl, rfl⟩
  obtain ⟨tb, tbc, rfl⟩ := hO.sl
  have hrn : G.next ≠ H.next := by omega
  have hrn' : H.next ≠ G.next := by omega
  have hr' : G.get H.next = some (stB (st0 (.slice tb k tbc) room)) := hr
  by_cases hz : (ts[k].length : Int) ≤ 0
  · simp -implicitDefEqProofs (maxDischargeDepth := 6) (maxSteps := 1000000) only [go_sem, ↓reduceIte, Nat.reduceLT, Nat.reduceLeDiff, Nat.reduceEqDiff, Nat.reduceAdd, Nat.reduceMul, Nat.reduceSub, Nat.reduceBEq, reduceCtorEq, Int.reduceEq, Int.reduceLT, Int.reduceLE, Int.reduceNeg, Int.reduceToNat, f0, f5, f6, nv, hz, hr', hnb, hrn, hrn', hrl, hnG, st0, loads_eq, tcC]
    have htc : tc0 av ts k = { acts := .slice la ts[k].length lc, at_ := 0, wait := 0, guard := -1, how := 1, n := 0 } := by
      unfold tc0
      have hgd : ts.getD k [] = ts[k] := by rw [List.getD_eq_getElem?_getD, List.getElem?_eq_getElem hlt]; rfl
      rw [hlv, hgd]
      have : ts[k].length = 0 := by omega
      simp [this]
    have hEA : Ext G ((bump ((G.alloc (⟨68, 0, false, [.slice none 0 0, .int .i64 0, .int .i64 0, .int .i64 0, .int .i64 0, .int .i64 0]⟩ : Blk)).set G.next ⟨68, 0, false, tcC { acts := .slice la ts[k].length lc, at_ := 0, wait := 0, guard := -1, how := 1, n := 0 }⟩) 12).set (G.next + 1 + 6) ⟨68, 0, false, tcC { acts := .slice la ts[k].length lc, at_ := 0, wait := 0, guard := -1, how := 1, n := 0 }⟩) := by
      have q := ((Ext.refl hE.wf).alloc (⟨68, 0, false, [.slice none 0 0, .int .i64 0, .int .i64 0, .int .i64 0, .int .i64 0, .int .i64 0]⟩ : Blk)).set (b := G.next) (Nat.le_refl _) (by simp only [next_alloc]; omega) ⟨68, 0, false, tcC { acts := .slice la ts[k].length lc, at_ := 0, wait := 0, guard := -1, how := 1, n := 0 }⟩
      exact (q.bump 12).set (by omega) (by simp only [next_bump, next_set, next_alloc]; omega) _
    have hOA := hO.frame (p' := fun b => H.next ≤ b ∧ b ≠ H.next) fun b x hb hg => ⟨hb, hEA.of hE.wf hg⟩
    have hnA : ((bump ((G.alloc (⟨68, 0, false, [.slice none 0 0, .int .i64 0, .int .i64 0, .int .i64 0, .int .i64 0, .int .i64 0]⟩ : Blk)).set G.next ⟨68, 0, false, tcC { acts := .slice la ts[k].length lc, at_ := 0, wait := 0, guard := -1, how := 1, n := 0 }⟩) 12).set (G.next + 1 + 6) ⟨68, 0, false, tcC { acts := .slice la ts[k].length lc, at_ := 0, wait := 0, guard := -1, how := 1, n := 0 }⟩).next = G.next + 1 + 12 := by simp only [next_bump, next_set, next_alloc]
    have hap := appS_own (bytes := 64) hOA rfl (get_set_eq (by omega)) rfl rfl (by omega) rfl (by omega) (by omega)
    refine Wk_vh hap ?_
    have hE9 : Ext H _ := Ext.app (hE.trans hEA) (hOA.frame (p' := fun b => H.next ≤ b) fun b x hb hg => ⟨hb.1, hg⟩) ⟨68, 6, true, fl6 (tc0 av ts) k ++ tcC (tc0 av ts k)⟩
    have hrA := hEA.of hE.wf hr
    have hr9 : ((delV ((bump ((G.alloc (⟨68, 0, false, [.slice none 0 0, .int .i64 0, .int .i64 0, .int .i64 0, .int .i64 0, .int .i64 0]⟩ : Blk)).set G.next ⟨68, 0, false, tcC (tc0 av ts k)⟩) 12).set (G.next + 1 + 6) ⟨68, 0, false, tcC (tc0 av ts k)⟩) (.slice tb k tbc)).alloc ⟨68, 6, true, fl6 (tc0 av ts) k ++ tcC (tc0 av ts k)⟩).get H.next = some (stB (st0 (.slice tb k tbc) room)) := by
      rw [htc]
      rw [get_alloc_ne (by rw [next_delV, hnA]; omega)]
      rcases hOA with ⟨e, _⟩ | ⟨b', o', pre, e, _, h3, _⟩
      · simp only [Value.slice.injEq] at e
        obtain ⟨rfl, rfl, rfl⟩ := e
        exact hrA
      · simp only [Value.slice.injEq, true_and] at e
        obtain ⟨rfl, rfl⟩ := e
        show (Heap.del _ b').get _ = _
        rw [get_del_ne (fun e2 => h3.2 e2.symm)]; exact hrA
    rw [htc] at hr9 hE9
    have hnb9 := hE9.wf.1
    have hO9 := hOA.appended (p' := fun b => H.next ≤ b ∧ b ≠ H.next) (vs := tcC { acts := .slice la ts[k].length lc, at_ := 0, wait := 0, guard := -1, how := 1, n := 0 }) (hE.trans hEA).wf (by rw [hnA]; constructor <;> omega) rfl
    rw [hnA] at hO9
    generalize hG9 : (delV _ _).alloc _ = G9 at *
    simp -implicitDefEqProofs (maxDischargeDepth := 6) (maxSteps := 1000000) only [go_sem, ↓reduceIte, Nat.reduceLT, Nat.reduceLeDiff, Nat.reduceEqDiff, Nat.reduceAdd, Nat.reduceMul, Nat.reduceSub, Nat.reduceBEq, reduceCtorEq, Int.reduceEq, Int.reduceLT, Int.reduceLE, Int.reduceNeg, Int.reduceToNat, hr9, f0, f5, f6, nv, hnb, hw1, hnb9]
    have hrl9 := hE9.wf.lt hr9
    refine ⟨ts.length - (k + 1), by omega, k + 1, _, rfl, by omega, ?_, ?_, ?_, hE9.set (Nat.le_refl _) hrl9 _, get_set_eq hnb, ?_⟩
    · simp only [Tr.get_put, Nat.reduceEqDiff, ↓reduceIte, f0]
    · simp only [Tr.get_put, Nat.reduceEqDiff, ↓reduceIte, f5]
    · simp only [Tr.get_put, Nat.reduceEqDiff, ↓reduceIte, nv]
    · rw [fl6, htc]
      exact hO9.frame fun b' x hb hg => ⟨hb, by rw [get_set_ne hb.2]; exact hg⟩
  · simp -implicitDefEqProofs (maxDischargeDepth := 6) (maxSteps := 1000000) only [go_sem, ↓reduceIte, Nat.reduceLT, Nat.reduceLeDiff, Nat.reduceEqDiff, Nat.reduceAdd, Nat.reduceMul, Nat.reduceSub, Nat.reduceBEq, reduceCtorEq, Int.reduceEq, Int.reduceLT, Int.reduceLE, Int.reduceNeg, Int.reduceToNat, f0, f5, f6, nv, hz, hr', hnb, hrn, hrn', hrl, hnG, st0, loads_eq, tcC]
    have htc : tc0 av ts k = { acts := .slice la ts[k].length lc, at_ := 0, wait := 0, guard := -1, how := 0, n := 0 } := by
      unfold tc0
      have hgd : ts.getD k [] = ts[k] := by rw [List.getD_eq_getElem?_getD, List.getElem?_eq_getElem hlt]; rfl
      rw [hlv, hgd]
      have : ¬ ts[k].length = 0 := by omega
      simp [this]
    have hEA : Ext G ((bump ((G.alloc (⟨68, 0, false, [.slice none 0 0, .int .i64 0, .int .i64 0, .int .i64 0, .int .i64 0, .int .i64 0]⟩ : Blk)).set G.next ⟨68, 0, false, tcC { acts := .slice la ts[k].length lc, at_ := 0, wait := 0, guard := -1, how := 0, n := 0 }⟩) 12).set (G.next + 1 + 6) ⟨68, 0, false, tcC { acts := .slice la ts[k].length lc, at_ := 0, wait := 0, guard := -1, how := 0, n := 0 }⟩) := by
      have q := ((Ext.refl hE.wf).alloc (⟨68, 0, false, [.slice none 0 0, .int .i64 0, .int .i64 0, .int .i64 0, .int .i64 0, .int .i64 0]⟩ : Blk)).set (b := G.next) (Nat.le_refl _) (by simp only [next_alloc]; omega) ⟨68, 0, false, tcC { acts := .slice la ts[k].length lc, at_ := 0, wait := 0, guard := -1, how := 0, n := 0 }⟩
      exact (q.bump 12).set (by omega) (by simp only [next_bump, next_set, next_alloc]; omega) _
    have hOA := hO.frame (p' := fun b => H.next ≤ b ∧ b ≠ H.next) fun b x hb hg => ⟨hb, hEA.of hE.wf hg⟩
    have hnA : ((bump ((G.alloc (⟨68, 0, false, [.slice none 0 0, .int .i64 0, .int .i64 0, .int .i64 0, .int .i64 0, .int .i64 0]⟩ : Blk)).set G.next ⟨68, 0, false, tcC { acts := .slice la ts[k].length lc, at_ := 0, wait := 0, guard := -1, how := 0, n := 0 }⟩) 12).set (G.next + 1 + 6) ⟨68, 0, false, tcC { acts := .slice la ts[k].length lc, at_ := 0, wait := 0, guard := -1, how := 0, n := 0 }⟩).next = G.next + 1 + 12 := by simp only [next_bump, next_set, next_alloc]
    have hap := appS_own (bytes := 64) hOA rfl (get_set_eq (by omega)) rfl rfl (by omega) rfl (by omega) (by omega)
    refine Wk_vh hap ?_
    have hE9 : Ext H _ := Ext.app (hE.trans hEA) (hOA.frame (p' := fun b => H.next ≤ b) fun b x hb hg => ⟨hb.1, hg⟩) ⟨68, 6, true, fl6 (tc0 av ts) k ++ tcC (tc0 av ts k)⟩
    have hrA := hEA.of hE.wf hr
    have hr9 : ((delV ((bump ((G.alloc (⟨68, 0, false, [.slice none 0 0, .int .i64 0, .int .i64 0, .int .i64 0, .int .i64 0, .int .i64 0]⟩ : Blk)).set G.next ⟨68, 0, false, tcC (tc0 av ts k)⟩) 12).set (G.next + 1 + 6) ⟨68, 0, false, tcC (tc0 av ts k)⟩) (.slice tb k tbc)).alloc ⟨68, 6, true, fl6 (tc0 av ts) k ++ tcC (tc0 av ts k)⟩).get H.next = some (stB (st0 (.slice tb k tbc) room)) := by
      rw [htc]
      rw [get_alloc_ne (by rw [next_delV, hnA]; omega)]
      rcases hOA with ⟨e, _⟩ | ⟨b', o', pre, e, _, h3, _⟩
      · simp only [Value.slice.injEq] at e
        obtain ⟨rfl, rfl, rfl⟩ := e
        exact hrA
      · simp only [Value.slice.injEq, true_and] at e
        obtain ⟨rfl, rfl⟩ := e
        show (Heap.del _ b').get _ = _
        rw [get_del_ne (fun e2 => h3.2 e2.symm)]; exact hrA
    rw [htc] at hr9 hE9
    have hnb9 := hE9.wf.1
    have hO9 := hOA.appended (p' := fun b => H.next ≤ b ∧ b ≠ H.next) (vs := tcC { acts := .slice la ts[k].length lc, at_ := 0, wait := 0, guard := -1, how := 0, n := 0 }) (hE.trans hEA).wf (by rw [hnA]; constructor <;> omega) rfl
    rw [hnA] at hO9
    generalize hG9 : (delV _ _).alloc _ = G9 at *
    simp -implicitDefEqProofs (maxDischargeDepth := 6) (maxSteps := 1000000) only [go_sem, ↓reduceIte, Nat.reduceLT, Nat.reduceLeDiff, Nat.reduceEqDiff, Nat.reduceAdd, Nat.reduceMul, Nat.reduceSub, Nat.reduceBEq, reduceCtorEq, Int.reduceEq, Int.reduceLT, Int.reduceLE, Int.reduceNeg, Int.reduceToNat, hr9, f0, f5, f6, nv, hnb, hw1, hnb9]
    have hrl9 := hE9.wf.lt hr9
    refine ⟨ts.length - (k + 1), by omega, k + 1, _, rfl, by omega, ?_, ?_, ?_, hE9.set (Nat.le_refl _) hrl9 _, get_set_eq hnb, ?_⟩
    · simp only [Tr.get_put, Nat.reduceEqDiff, ↓reduceIte, f0]
    · simp only [Tr.get_put, Nat.reduceEqDiff, ↓reduceIte, f5]
    · simp only [Tr.get_put, Nat.reduceEqDiff, ↓reduceIte, nv]
    · rw [fl6, htc]
      exact hO9.frame fun b' x hb hg => ⟨hb, by rw [get_set_ne hb.2]; exact hg⟩
end Go.Am.T
namespace Go.Am.T
open Go Go.Am Go.Proofs.Ythanhcpnhionaaa Go.Proofs
theorem RfR_S0 {H H' : Heap} (hw : WF H) {r : Nat} {tv tv' : Value} {ts : List (List Act)} {av : Nat → Value} {room most : Int} {picks : List Int} (ht : TasksAt H tv ts av) (hf : Fine ts room picks most) (h0 : H.next ≤ r) (hE : Ext H H') (hr : H'.get r = some (stB (st0 tv' room)))
    (hO : OwnL (fun b => H.next ≤ b ∧ b ≠ r) H' 6 68 tv' ts.length (fl6 (tc0 av ts) ts.length)) : ∃ M, RfR H' r M (S0 ts room) ∧ M.V.last = -1 ∧ ∀ b, b < H.next → M.own b = none := by
  have hnb := hw.1
  have hgd : ∀ i (h : i < ts.length), ts.getD i [] = ts[i] := fun i h => by rw [List.getD_eq_getElem?_getD, List.getElem?_eq_getElem h]; rfl
  have hrel : ∀ i, i < ts.length → RelT (tc0 av ts i) (tk0 (ts.getD i [])) := by
    intro i hi
    refine ⟨rfl, rfl, rfl, ?_, .inl rfl⟩
    show (if (ts.getD i []).length = 0 then 1 else 0) = howT _
    unfold howT tk0
    simp only [Bool.false_eq_true, if_false, Nat.le_zero]
  have hacts : ∀ (own : Nat → Option Role), (∀ b, b < H.next → own b = none) → ∀ i, i < ts.length → ∃ a c, (tc0 av ts i).acts = .slice a (ts.getD i []).length c ∧ (ts.getD i [] ≠ [] → c ≠ 0 ∧ ∃ b o x, a = some ⟨b, o, none⟩ ∧ H'.get b = some x ∧ own b = none ∧
      ∀ j (h : j < (ts.getD i []).length), o + j * 4 + 4 ≤ x.cells.length ∧ (x.cells.drop (o + j * 4)).take 4 = ((ts.getD i [])[j]).cells) := by
    intro own hown i hi
    rw [hgd i hi]
    obtain ⟨a, c, e, k⟩ := ht.acts i hi
    refine ⟨a, c, e, fun hl => ?_⟩
    obtain ⟨hc, b, o, x, h1, h2, h3⟩ := k hl
    exact ⟨hc, b, o, x, h1, hE.of hw h2, hown b (hw.lt h2), h3⟩
  have hrl := hE.wf.lt hr
  have mk : ∀ (b : Nat) (pre : List Value) (own : Nat → Option Role), own r = some .run → (∀ c, c < H.next → own c = none) → (∀ c, own c ≠ none → c < H'.next) →
      (ts.length ≠ 0 → tv' = .slice (some ⟨b, pre.length, none⟩) ts.length openCap ∧ own b = some .arr ∧ base0 ≤ b ∧ H'.get b = some (arB pre (tc0 av ts) ts.length)) → (ts.length = 0 → ∃ a c, tv' = .slice a 0 c) →
      ∃ M, RfR H' r M (S0 ts room) ∧ M.V.last = -1 ∧ ∀ b, b < H.next → M.own b = none := by
    intro b pre own h1 h2 h3 h4 h5
    refine ⟨⟨own, b, pre, tc0 av ts, st0 tv' room⟩, ⟨⟨hE.wf, hr, h1, Nat.le_trans hnb h0, h3, h4, h5, hacts own h2, fun j _ => .inl ⟨rfl, rfl, rfl⟩, fun j _ => .inl ⟨rfl, rfl, rfl⟩⟩, ⟨hrel, fun _ => rfl, rfl, rfl, rfl⟩, WI_S0, GdOk_S0, hf.okR, hf.n, rfl, fun _ => Int.le_refl _⟩, rfl, h2⟩
  rcases hO with ⟨e1, e2, _⟩ | ⟨b, o, pre, e1, e2, e3, e4, e5, _⟩
  · refine mk 0 [] (fun c => if c = r then some .run else none) (by simp) (fun c hc => by rw [if_neg (by omega)]) (fun c hc => ?_) (fun h => absurd e2 h) (fun _ => ⟨none, 0, e1⟩)
    by_cases e : c = r
    · rw [e]; exact hrl
    · simp [e] at hc
  · subst e5
    have hbl := hE.wf.lt e4
    refine mk b pre (fun c => if c = r then some .run else if c = b then some .arr else none) (by simp) (fun c hc => by rw [if_neg (by omega), if_neg (by have := e3.1; omega)]) (fun c hc => ?_) (fun _ => ⟨e1, by rw [if_neg e3.2, if_pos rfl], e2, e4⟩) (fun h => ?_)
    · by_cases e : c = r
      · rw [e]; exact hrl
      · by_cases e' : c = b
        · rw [e']; exact hbl
        · simp [e, e'] at hc
    · rw [h] at e1; exact ⟨_, _, e1⟩
end Go.Am.T
namespace Go.Am.T
open Go Go.Am Go.Proofs.Ythanhcpnhionaaa Go.Proofs
def wantP (a : Act) (len : Nat) : Int × Int × Int :=
  if a.k = 1 ∨ a.k = 2 ∨ a.k = 4 ∨ a.k = 5 then (4, 1, 0) else if a.k = 3 then (4, 4, 0) else if a.k = 6 then (4, 1, 1) else if a.k = 7 then (4, 8, 0) else if a.k = 8 then (8, 1, 1)
  else if a.k = 9 then (8, 8, 0) else if a.k = 10 then (8, 1, -256) else if a.k = 12 then (1, 1, 1) else if a.k = 13 then (1, 1, -(len : Int) - 1) else (1, 1, 0)
def nokP (n w : Int) : Bool := decide (n = 0) || (decide (w = 1) || (decide (w < 0) && (decide (0 ≤ n) && decide (n < -w))))
def fitP (a : Act) (w : Int × Int × Int) : Bool := btw a.a w.1 && (btw a.b w.2.1 && nokP a.n w.2.2)
theorem fit_right (a : Act) (len : Nat) : fitP a (wantP a len) = rightP a len := by
  rw [Bool.eq_iff_iff]
  unfold wantP rightP okP restP fitP nokP btw
  by_cases c1 : a.k = 1 ∨ a.k = 2 ∨ a.k = 4 ∨ a.k = 5
  · simp only [c1, if_true, Bool.and_eq_true, Bool.or_eq_true, decide_eq_true_eq]; omega
  · have d1 : ¬ a.k = 1 := fun e => c1 (.inl e)
    have d2 : ¬ a.k = 2 := fun e => c1 (.inr (.inl e))
    have d4 : ¬ a.k = 4 := fun e => c1 (.inr (.inr (.inl e)))
    have d5 : ¬ a.k = 5 := fun e => c1 (.inr (.inr (.inr e)))
    by_cases c3 : a.k = 3
    · simp [c3]; omega
    by_cases c6 : a.k = 6
    · simp [c6]; omega
    by_cases c7 : a.k = 7
    · simp [c7]; omega
    by_cases c8 : a.k = 8
    · simp [c8]; omega
    by_cases c9 : a.k = 9
    · simp [c9]; omega
    by_cases c10 : a.k = 10
    · simp [c10]; omega
    by_cases c12 : a.k = 12
    · simp [c12]; omega
    by_cases c13 : a.k = 13
    · simp [c13]; omega
    · simp [d1, d2, d4, d5, c3, c6, c7, c8, c9, c10, c12, c13]; omega
structure J21 (H : Heap) (a : Act) (len : Nat) (w : Int × Int × Int) (s : St) : Prop where
  n : s.n = 94
  d : s.d = []
  f1 : s.f.get 1 = some (nv len)
  f2 : s.f.get 2 = some (.pointer (some ⟨H.next, 0, none⟩))
  f5 : s.f.get 5 = some (.pointer (some ⟨H.next + 1, 0, none⟩))
  ext : Ext H s.H
  c : s.H.get H.next = some ⟨47, 0, false, a.cells⟩
  w : s.H.get (H.next + 1) = some ⟨86, 0, false, [.int .i64 w.1, .int .i64 w.2.1, .int .i64 w.2.2]⟩
structure K21 (H G : Heap) (b : Bool) (s : St) : Prop where
  n : s.n = 94
  d : s.d = []
  h : s.H = G
  f2 : s.f.get 2 = some (.pointer (some ⟨H.next, 0, none⟩))
  f5 : s.f.get 5 = some (.pointer (some ⟨H.next + 1, 0, none⟩))
  f6 : s.f.get 6 = some (.bool b)
theorem fields_W {H : Heap} (hw : WF H) {a : Act} {len : Nat} (hl : len ≤ 65536) : CW Try.prog 21 #[.agg a.cells.toArray, nv len] H fun x H' => x = .ret (.bool (rightP a len)) ∧ Ext H H' := by
  refine CW_k (n := 94) if21 rfl ?_
  unfold C21
  have hnb := hw.1
  rw [Wk_seq]
  refine Wk_cut (fun s => s.n = 94 ∧ s.d = [] ∧ s.f.get 1 = some (nv len) ∧ s.f.get 2 = some (.pointer (some ⟨H.next, 0, none⟩)) ∧ s.H = H.alloc ⟨47, 0, false, a.cells⟩) ?_ ?_
  · simp -implicitDefEqProofs (maxDischargeDepth := 6) (maxSteps := 1000000) only [go_sem, ↓reduceIte, Nat.reduceLT, Nat.reduceLeDiff, Nat.reduceEqDiff, Nat.reduceAdd, Nat.reduceMul, Nat.reduceSub, Nat.reduceBEq, reduceCtorEq, Int.reduceEq, Int.reduceLT, Int.reduceLE, Int.reduceNeg, Int.reduceToNat, hnb]
  rintro ⟨n, f, dd, G⟩ ⟨e1, e2, f1, f2, e3⟩
  dsimp only at e1 e2 f1 f2 e3
  subst e1 e2 e3
  rw [Wk_seq]
  refine Wk_cut (J21 H a len (1, 1, 0)) ?_ ?_
  · simp -implicitDefEqProofs (maxDischargeDepth := 6) (maxSteps := 1000000) only [go_sem, ↓reduceIte, Nat.reduceLT, Nat.reduceLeDiff, Nat.reduceEqDiff, Nat.reduceAdd, Nat.reduceMul, Nat.reduceSub, Nat.reduceBEq, reduceCtorEq, Int.reduceEq, Int.reduceLT, Int.reduceLE, Int.reduceNeg, Int.reduceToNat, hnb, f1, f2]
    have hE := ((Ext.refl hw).alloc (⟨47, 0, false, a.cells⟩ : Blk)).alloc (⟨86, 0, false, [.int .i64 0, .int .i64 0, .int .i64 0]⟩ : Blk)
    have hE2 := hE.set (b := H.next + 1) (by omega) (by simp only [next_alloc]; omega) (⟨86, 0, false, [.int .i64 1, .int .i64 1, .int .i64 0]⟩ : Blk)
    refine ⟨rfl, rfl, ?_, ?_, ?_, hE2, ?_, ?_⟩
    all_goals simp -implicitDefEqProofs (maxDischargeDepth := 6) (maxSteps := 1000000) only [go_sem, ↓reduceIte, Nat.reduceLT, Nat.reduceLeDiff, Nat.reduceEqDiff, Nat.reduceAdd, Nat.reduceMul, Nat.reduceSub, Nat.reduceBEq, reduceCtorEq, Int.reduceEq, Int.reduceLT, Int.reduceLE, Int.reduceNeg, Int.reduceToNat, f1, f2, hnb]
  clear f1 f2
  rintro ⟨n, f, dd, G⟩ ⟨e1, e2, f1, f2, f5, hE, hc, hx⟩
  dsimp only at e1 e2 f1 f2 f5 hE hc hx
  subst e1 e2
  rw [Wk_seq]
  have hnx : H.next + 1 < G.next := hE.wf.lt hx
  have hb1 : base0 ≤ H.next + 1 := by omega
  have hne : H.next ≠ H.next + 1 := by omega
  refine Wk_cut (J21 H a len (wantP a len)) ?_ ?_
  · have fin : ∀ (f' : Tr Value) (w : Int × Int × Int), wantP a len = w → f'.get 1 = some (nv len) → f'.get 2 = some (.pointer (some ⟨H.next, 0, none⟩)) → f'.get 5 = some (.pointer (some ⟨H.next + 1, 0, none⟩)) →
        J21 H a len (wantP a len) ⟨94, f', [], G.set (H.next + 1) ⟨86, 0, false, [.int .i64 w.1, .int .i64 w.2.1, .int .i64 w.2.2]⟩⟩ := by
      intro f' w e h1 h2 h5
      subst e
      exact ⟨rfl, rfl, h1, h2, h5, hE.set (by omega) hnx _, by rw [get_set_ne hne]; exact hc, get_set_eq hb1⟩
    have hw1 : IntKind.i64.wrap (0 - (len : Int)) = -(len : Int) := by rw [IntWalk.i64_in _ (by omega)]; omega
    have hw2 : IntKind.i64.wrap (-(len : Int) - 1) = -(len : Int) - 1 := IntWalk.i64_in _ (by omega)
    by_cases k1 : a.k = 1
    · simp -implicitDefEqProofs (maxDischargeDepth := 6) (maxSteps := 1000000) only [go_sem, ↓reduceIte, Nat.reduceLT, Nat.reduceLeDiff, Nat.reduceEqDiff, Nat.reduceAdd, Nat.reduceMul, Nat.reduceSub, Nat.reduceBEq, reduceCtorEq, Int.reduceEq, Int.reduceLT, Int.reduceLE, Int.reduceNeg, Int.reduceToNat, f1, f2, f5, hc, hx, hb1, k1]
      refine fin _ (4, 1, 0) (by simp [wantP, k1]) ?_ ?_ ?_ <;> simp -implicitDefEqProofs (maxDischargeDepth := 6) (maxSteps := 1000000) only [go_sem, ↓reduceIte, Nat.reduceLT, Nat.reduceLeDiff, Nat.reduceEqDiff, Nat.reduceAdd, Nat.reduceMul, Nat.reduceSub, Nat.reduceBEq, reduceCtorEq, Int.reduceEq, Int.reduceLT, Int.reduceLE, Int.reduceNeg, Int.reduceToNat, f1, f2, f5]
    by_cases k2 : a.k = 2
    · simp -implicitDefEqProofs (maxDischargeDepth := 6) (maxSteps := 1000000) only [go_sem, ↓reduceIte, Nat.reduceLT, Nat.reduceLeDiff, Nat.reduceEqDiff, Nat.reduceAdd, Nat.reduceMul, Nat.reduceSub, Nat.reduceBEq, reduceCtorEq, Int.reduceEq, Int.reduceLT, Int.reduceLE, Int.reduceNeg, Int.reduceToNat, f1, f2, f5, hc, hx, hb1, k2]
      refine fin _ (4, 1, 0) (by simp [wantP, k2]) ?_ ?_ ?_ <;> simp -implicitDefEqProofs (maxDischargeDepth := 6) (maxSteps := 1000000) only [go_sem, ↓reduceIte, Nat.reduceLT, Nat.reduceLeDiff, Nat.reduceEqDiff, Nat.reduceAdd, Nat.reduceMul, Nat.reduceSub, Nat.reduceBEq, reduceCtorEq, Int.reduceEq, Int.reduceLT, Int.reduceLE, Int.reduceNeg, Int.reduceToNat, f1, f2, f5]
    by_cases k4 : a.k = 4
    · simp -implicitDefEqProofs (maxDischargeDepth := 6) (maxSteps := 1000000) only [go_sem, ↓reduceIte, Nat.reduceLT, Nat.reduceLeDiff, Nat.reduceEqDiff, Nat.reduceAdd, Nat.reduceMul, Nat.reduceSub, Nat.reduceBEq, reduceCtorEq, Int.reduceEq, Int.reduceLT, Int.reduceLE, Int.reduceNeg, Int.reduceToNat, f1, f2, f5, hc, hx, hb1, k4]
      refine fin _ (4, 1, 0) (by simp [wantP, k4]) ?_ ?_ ?_ <;> simp -implicitDefEqProofs (maxDischargeDepth := 6) (maxSteps := 1000000) only [go_sem, ↓reduceIte, Nat.reduceLT, Nat.reduceLeDiff, Nat.reduceEqDiff, Nat.reduceAdd, Nat.reduceMul, Nat.reduceSub, Nat.reduceBEq, reduceCtorEq, Int.reduceEq, Int.reduceLT, Int.reduceLE, Int.reduceNeg, Int.reduceToNat, f1, f2, f5]
    by_cases k5 : a.k = 5
    · simp -implicitDefEqProofs (maxDischargeDepth := 6) (maxSteps := 1000000) only [go_sem, ↓reduceIte, Nat.reduceLT, Nat.reduceLeDiff, Nat.reduceEqDiff, Nat.reduceAdd, Nat.reduceMul, Nat.reduceSub, Nat.reduceBEq, reduceCtorEq, Int.reduceEq, Int.reduceLT, Int.reduceLE, Int.reduceNeg, Int.reduceToNat, f1, f2, f5, hc, hx, hb1, k5]
      refine fin _ (4, 1, 0) (by simp [wantP, k5]) ?_ ?_ ?_ <;> simp -implicitDefEqProofs (maxDischargeDepth := 6) (maxSteps := 1000000) only [go_sem, ↓reduceIte, Nat.reduceLT, Nat.reduceLeDiff, Nat.reduceEqDiff, Nat.reduceAdd, Nat.reduceMul, Nat.reduceSub, Nat.reduceBEq, reduceCtorEq, Int.reduceEq, Int.reduceLT, Int.reduceLE, Int.reduceNeg, Int.reduceToNat, f1, f2, f5]
    by_cases k3 : a.k = 3
    · simp -implicitDefEqProofs (maxDischargeDepth := 6) (maxSteps := 1000000) only [go_sem, ↓reduceIte, Nat.reduceLT, Nat.reduceLeDiff, Nat.reduceEqDiff, Nat.reduceAdd, Nat.reduceMul, Nat.reduceSub, Nat.reduceBEq, reduceCtorEq, Int.reduceEq, Int.reduceLT, Int.reduceLE, Int.reduceNeg, Int.reduceToNat, f1, f2, f5, hc, hx, hb1, k3]
      refine fin _ (4, 4, 0) (by simp [wantP, k3]) ?_ ?_ ?_ <;> simp -implicitDefEqProofs (maxDischargeDepth := 6) (maxSteps := 1000000) only [go_sem, ↓reduceIte, Nat.reduceLT, Nat.reduceLeDiff, Nat.reduceEqDiff, Nat.reduceAdd, Nat.reduceMul, Nat.reduceSub, Nat.reduceBEq, reduceCtorEq, Int.reduceEq, Int.reduceLT, Int.reduceLE, Int.reduceNeg, Int.reduceToNat, f1, f2, f5]
    by_cases k6 : a.k = 6
    · simp -implicitDefEqProofs (maxDischargeDepth := 6) (maxSteps := 1000000) only [go_sem, ↓reduceIte, Nat.reduceLT, Nat.reduceLeDiff, Nat.reduceEqDiff, Nat.reduceAdd, Nat.reduceMul, Nat.reduceSub, Nat.reduceBEq, reduceCtorEq, Int.reduceEq, Int.reduceLT, Int.reduceLE, Int.reduceNeg, Int.reduceToNat, f1, f2, f5, hc, hx, hb1, k6]
      refine fin _ (4, 1, 1) (by simp [wantP, k6]) ?_ ?_ ?_ <;> simp -implicitDefEqProofs (maxDischargeDepth := 6) (maxSteps := 1000000) only [go_sem, ↓reduceIte, Nat.reduceLT, Nat.reduceLeDiff, Nat.reduceEqDiff, Nat.reduceAdd, Nat.reduceMul, Nat.reduceSub, Nat.reduceBEq, reduceCtorEq, Int.reduceEq, Int.reduceLT, Int.reduceLE, Int.reduceNeg, Int.reduceToNat, f1, f2, f5]
    by_cases k7 : a.k = 7
    · simp -implicitDefEqProofs (maxDischargeDepth := 6) (maxSteps := 1000000) only [go_sem, ↓reduceIte, Nat.reduceLT, Nat.reduceLeDiff, Nat.reduceEqDiff, Nat.reduceAdd, Nat.reduceMul, Nat.reduceSub, Nat.reduceBEq, reduceCtorEq, Int.reduceEq, Int.reduceLT, Int.reduceLE, Int.reduceNeg, Int.reduceToNat, f1, f2, f5, hc, hx, hb1, k7]
      refine fin _ (4, 8, 0) (by simp [wantP, k7]) ?_ ?_ ?_ <;> simp -implicitDefEqProofs (maxDischargeDepth := 6) (maxSteps := 1000000) only [go_sem, ↓reduceIte, Nat.reduceLT, Nat.reduceLeDiff, Nat.reduceEqDiff, Nat.reduceAdd, Nat.reduceMul, Nat.reduceSub, Nat.reduceBEq, reduceCtorEq, Int.reduceEq, Int.reduceLT, Int.reduceLE, Int.reduceNeg, Int.reduceToNat, f1, f2, f5]
    by_cases k8 : a.k = 8
    · simp -implicitDefEqProofs (maxDischargeDepth := 6) (maxSteps := 1000000) only [go_sem, ↓reduceIte, Nat.reduceLT, Nat.reduceLeDiff, Nat.reduceEqDiff, Nat.reduceAdd, Nat.reduceMul, Nat.reduceSub, Nat.reduceBEq, reduceCtorEq, Int.reduceEq, Int.reduceLT, Int.reduceLE, Int.reduceNeg, Int.reduceToNat, f1, f2, f5, hc, hx, hb1, k8]
      refine fin _ (8, 1, 1) (by simp [wantP, k8]) ?_ ?_ ?_ <;> simp -implicitDefEqProofs (maxDischargeDepth := 6) (maxSteps := 1000000) only [go_sem, ↓reduceIte, Nat.reduceLT, Nat.reduceLeDiff, Nat.reduceEqDiff, Nat.reduceAdd, Nat.reduceMul, Nat.reduceSub, Nat.reduceBEq, reduceCtorEq, Int.reduceEq, Int.reduceLT, Int.reduceLE, Int.reduceNeg, Int.reduceToNat, f1, f2, f5]
    by_cases k9 : a.k = 9
    · simp -implicitDefEqProofs (maxDischargeDepth := 6) (maxSteps := 1000000) only [go_sem, ↓reduceIte, Nat.reduceLT, Nat.reduceLeDiff, Nat.reduceEqDiff, Nat.reduceAdd, Nat.reduceMul, Nat.reduceSub, Nat.reduceBEq, reduceCtorEq, Int.reduceEq, Int.reduceLT, Int.reduceLE, Int.reduceNeg, Int.reduceToNat, f1, f2, f5, hc, hx, hb1, k9]
      refine fin _ (8, 8, 0) (by simp [wantP, k9]) ?_ ?_ ?_ <;> simp -implicitDefEqProofs (maxDischargeDepth := 6) (maxSteps := 1000000) only [go_sem, ↓reduceIte, Nat.reduceLT, Nat.reduceLeDiff, Nat.reduceEqDiff, Nat.reduceAdd, Nat.reduceMul, Nat.reduceSub, Nat.reduceBEq, reduceCtorEq, Int.reduceEq, Int.reduceLT, Int.reduceLE, Int.reduceNeg, Int.reduceToNat, f1, f2, f5]
    by_cases k10 : a.k = 10
    · simp -implicitDefEqProofs (maxDischargeDepth := 6) (maxSteps := 1000000) only [go_sem, ↓reduceIte, Nat.reduceLT, Nat.reduceLeDiff, Nat.reduceEqDiff, Nat.reduceAdd, Nat.reduceMul, Nat.reduceSub, Nat.reduceBEq, reduceCtorEq, Int.reduceEq, Int.reduceLT, Int.reduceLE, Int.reduceNeg, Int.reduceToNat, f1, f2, f5, hc, hx, hb1, k10]
      refine fin _ (8, 1, -256) (by simp [wantP, k10]) ?_ ?_ ?_ <;> simp -implicitDefEqProofs (maxDischargeDepth := 6) (maxSteps := 1000000) only [go_sem, ↓reduceIte, Nat.reduceLT, Nat.reduceLeDiff, Nat.reduceEqDiff, Nat.reduceAdd, Nat.reduceMul, Nat.reduceSub, Nat.reduceBEq, reduceCtorEq, Int.reduceEq, Int.reduceLT, Int.reduceLE, Int.reduceNeg, Int.reduceToNat, f1, f2, f5]
    by_cases k12 : a.k = 12
    · simp -implicitDefEqProofs (maxDischargeDepth := 6) (maxSteps := 1000000) only [go_sem, ↓reduceIte, Nat.reduceLT, Nat.reduceLeDiff, Nat.reduceEqDiff, Nat.reduceAdd, Nat.reduceMul, Nat.reduceSub, Nat.reduceBEq, reduceCtorEq, Int.reduceEq, Int.reduceLT, Int.reduceLE, Int.reduceNeg, Int.reduceToNat, f1, f2, f5, hc, hx, hb1, k12]
      refine fin _ (1, 1, 1) (by simp [wantP, k12]) ?_ ?_ ?_ <;> simp -implicitDefEqProofs (maxDischargeDepth := 6) (maxSteps := 1000000) only [go_sem, ↓reduceIte, Nat.reduceLT, Nat.reduceLeDiff, Nat.reduceEqDiff, Nat.reduceAdd, Nat.reduceMul, Nat.reduceSub, Nat.reduceBEq, reduceCtorEq, Int.reduceEq, Int.reduceLT, Int.reduceLE, Int.reduceNeg, Int.reduceToNat, f1, f2, f5]
    by_cases k13 : a.k = 13
    · simp -implicitDefEqProofs (maxDischargeDepth := 6) (maxSteps := 1000000) only [go_sem, ↓reduceIte, Nat.reduceLT, Nat.reduceLeDiff, Nat.reduceEqDiff, Nat.reduceAdd, Nat.reduceMul, Nat.reduceSub, Nat.reduceBEq, reduceCtorEq, Int.reduceEq, Int.reduceLT, Int.reduceLE, Int.reduceNeg, Int.reduceToNat, f1, f2, f5, hc, hx, hb1, k13, nv, hw1, hw2]
      refine fin _ (1, 1, -(len : Int) - 1) (by simp [wantP, k13]) ?_ ?_ ?_ <;> simp -implicitDefEqProofs (maxDischargeDepth := 6) (maxSteps := 1000000) only [go_sem, ↓reduceIte, Nat.reduceLT, Nat.reduceLeDiff, Nat.reduceEqDiff, Nat.reduceAdd, Nat.reduceMul, Nat.reduceSub, Nat.reduceBEq, reduceCtorEq, Int.reduceEq, Int.reduceLT, Int.reduceLE, Int.reduceNeg, Int.reduceToNat, f1, f2, f5, nv]
    simp -implicitDefEqProofs (maxDischargeDepth := 6) (maxSteps := 1000000) only [go_sem, ↓reduceIte, Nat.reduceLT, Nat.reduceLeDiff, Nat.reduceEqDiff, Nat.reduceAdd, Nat.reduceMul, Nat.reduceSub, Nat.reduceBEq, reduceCtorEq, Int.reduceEq, Int.reduceLT, Int.reduceLE, Int.reduceNeg, Int.reduceToNat, f1, f2, f5, hc, hx, hb1, k1, k2, k3, k4, k5, k6, k7, k8, k9, k10, k12, k13]
    have e : wantP a len = (1, 1, 0) := by simp [wantP, k1, k2, k3, k4, k5, k6, k7, k8, k9, k10, k12, k13]
    rw [e]
    refine ⟨rfl, rfl, ?_, ?_, ?_, hE, hc, hx⟩ <;> simp -implicitDefEqProofs (maxDischargeDepth := 6) (maxSteps := 1000000) only [go_sem, ↓reduceIte, Nat.reduceLT, Nat.reduceLeDiff, Nat.reduceEqDiff, Nat.reduceAdd, Nat.reduceMul, Nat.reduceSub, Nat.reduceBEq, reduceCtorEq, Int.reduceEq, Int.reduceLT, Int.reduceLE, Int.reduceNeg, Int.reduceToNat, f1, f2, f5]
  have hneg : IntKind.i64.wrap (0 - (wantP a len).2.2) = -(wantP a len).2.2 := by
    have : -65537 ≤ (wantP a len).2.2 ∧ (wantP a len).2.2 ≤ 1 := by
      unfold wantP
      (repeat' split) <;> dsimp only <;> omega
    rw [IntWalk.i64_in _ (by omega)]; omega
  rw [← fit_right]
  generalize wantP a len = w at *
  clear f1 f2 f5 hE hc hx hnx
  rintro ⟨n, f, dd, G⟩ ⟨e1, e2, f1, f2, f5, hE, hc, hx⟩
  dsimp only at e1 e2 f1 f2 f5 hE hc hx
  subst e1 e2
  obtain ⟨w1, w2, w3⟩ := w
  dsimp only at hx hneg
  rw [Wk_seq]
  refine Wk_cut (K21 H G (nokP a.n w3)) ?_ ?_
  · by_cases c1 : a.n = 0
    · simp -implicitDefEqProofs (maxDischargeDepth := 6) (maxSteps := 1000000) only [go_sem, ↓reduceIte, Nat.reduceLT, Nat.reduceLeDiff, Nat.reduceEqDiff, Nat.reduceAdd, Nat.reduceMul, Nat.reduceSub, Nat.reduceBEq, reduceCtorEq, Int.reduceEq, Int.reduceLT, Int.reduceLE, Int.reduceNeg, Int.reduceToNat, f2, f5, hc, hx, c1]
      refine ⟨rfl, rfl, rfl, ?_, ?_, ?_⟩ <;> simp -implicitDefEqProofs (maxDischargeDepth := 6) (maxSteps := 1000000) only [go_sem, ↓reduceIte, Nat.reduceLT, Nat.reduceLeDiff, Nat.reduceEqDiff, Nat.reduceAdd, Nat.reduceMul, Nat.reduceSub, Nat.reduceBEq, reduceCtorEq, Int.reduceEq, Int.reduceLT, Int.reduceLE, Int.reduceNeg, Int.reduceToNat, f2, f5, nokP, c1]
    by_cases c2 : w3 = 1
    · simp -implicitDefEqProofs (maxDischargeDepth := 6) (maxSteps := 1000000) only [go_sem, ↓reduceIte, Nat.reduceLT, Nat.reduceLeDiff, Nat.reduceEqDiff, Nat.reduceAdd, Nat.reduceMul, Nat.reduceSub, Nat.reduceBEq, reduceCtorEq, Int.reduceEq, Int.reduceLT, Int.reduceLE, Int.reduceNeg, Int.reduceToNat, f2, f5, hc, hx, c1, c2]
      refine ⟨rfl, rfl, rfl, ?_, ?_, ?_⟩ <;> simp -implicitDefEqProofs (maxDischargeDepth := 6) (maxSteps := 1000000) only [go_sem, ↓reduceIte, Nat.reduceLT, Nat.reduceLeDiff, Nat.reduceEqDiff, Nat.reduceAdd, Nat.reduceMul, Nat.reduceSub, Nat.reduceBEq, reduceCtorEq, Int.reduceEq, Int.reduceLT, Int.reduceLE, Int.reduceNeg, Int.reduceToNat, f2, f5, nokP, c1, c2]
    by_cases c3 : w3 < 0
    · by_cases c4 : 0 ≤ a.n
      · by_cases c5 : a.n < -w3
        · simp -implicitDefEqProofs (maxDischargeDepth := 6) (maxSteps := 1000000) only [go_sem, ↓reduceIte, Nat.reduceLT, Nat.reduceLeDiff, Nat.reduceEqDiff, Nat.reduceAdd, Nat.reduceMul, Nat.reduceSub, Nat.reduceBEq, reduceCtorEq, Int.reduceEq, Int.reduceLT, Int.reduceLE, Int.reduceNeg, Int.reduceToNat, f2, f5, hc, hx, c1, c2, c3, c4, hneg, c5]
          refine ⟨rfl, rfl, rfl, ?_, ?_, ?_⟩ <;> simp -implicitDefEqProofs (maxDischargeDepth := 6) (maxSteps := 1000000) only [go_sem, ↓reduceIte, Nat.reduceLT, Nat.reduceLeDiff, Nat.reduceEqDiff, Nat.reduceAdd, Nat.reduceMul, Nat.reduceSub, Nat.reduceBEq, reduceCtorEq, Int.reduceEq, Int.reduceLT, Int.reduceLE, Int.reduceNeg, Int.reduceToNat, f2, f5, nokP, c1, c2, c3, c4, c5]
        · simp -implicitDefEqProofs (maxDischargeDepth := 6) (maxSteps := 1000000) only [go_sem, ↓reduceIte, Nat.reduceLT, Nat.reduceLeDiff, Nat.reduceEqDiff, Nat.reduceAdd, Nat.reduceMul, Nat.reduceSub, Nat.reduceBEq, reduceCtorEq, Int.reduceEq, Int.reduceLT, Int.reduceLE, Int.reduceNeg, Int.reduceToNat, f2, f5, hc, hx, c1, c2, c3, c4, hneg, c5]
          refine ⟨rfl, rfl, rfl, ?_, ?_, ?_⟩ <;> simp -implicitDefEqProofs (maxDischargeDepth := 6) (maxSteps := 1000000) only [go_sem, ↓reduceIte, Nat.reduceLT, Nat.reduceLeDiff, Nat.reduceEqDiff, Nat.reduceAdd, Nat.reduceMul, Nat.reduceSub, Nat.reduceBEq, reduceCtorEq, Int.reduceEq, Int.reduceLT, Int.reduceLE, Int.reduceNeg, Int.reduceToNat, f2, f5, nokP, c1, c2, c3, c4, c5]
      · simp -implicitDefEqProofs (maxDischargeDepth := 6) (maxSteps := 1000000) only [go_sem, ↓reduceIte, Nat.reduceLT, Nat.reduceLeDiff, Nat.reduceEqDiff, Nat.reduceAdd, Nat.reduceMul, Nat.reduceSub, Nat.reduceBEq, reduceCtorEq, Int.reduceEq, Int.reduceLT, Int.reduceLE, Int.reduceNeg, Int.reduceToNat, f2, f5, hc, hx, c1, c2, c3, c4]
        refine ⟨rfl, rfl, rfl, ?_, ?_, ?_⟩ <;> simp -implicitDefEqProofs (maxDischargeDepth := 6) (maxSteps := 1000000) only [go_sem, ↓reduceIte, Nat.reduceLT, Nat.reduceLeDiff, Nat.reduceEqDiff, Nat.reduceAdd, Nat.reduceMul, Nat.reduceSub, Nat.reduceBEq, reduceCtorEq, Int.reduceEq, Int.reduceLT, Int.reduceLE, Int.reduceNeg, Int.reduceToNat, f2, f5, nokP, c1, c2, c3, c4]
    · simp -implicitDefEqProofs (maxDischargeDepth := 6) (maxSteps := 1000000) only [go_sem, ↓reduceIte, Nat.reduceLT, Nat.reduceLeDiff, Nat.reduceEqDiff, Nat.reduceAdd, Nat.reduceMul, Nat.reduceSub, Nat.reduceBEq, reduceCtorEq, Int.reduceEq, Int.reduceLT, Int.reduceLE, Int.reduceNeg, Int.reduceToNat, f2, f5, hc, hx, c1, c2, c3]
      refine ⟨rfl, rfl, rfl, ?_, ?_, ?_⟩ <;> simp -implicitDefEqProofs (maxDischargeDepth := 6) (maxSteps := 1000000) only [go_sem, ↓reduceIte, Nat.reduceLT, Nat.reduceLeDiff, Nat.reduceEqDiff, Nat.reduceAdd, Nat.reduceMul, Nat.reduceSub, Nat.reduceBEq, reduceCtorEq, Int.reduceEq, Int.reduceLT, Int.reduceLE, Int.reduceNeg, Int.reduceToNat, f2, f5, nokP, c1, c2, c3]
  rintro ⟨n, f', dd, G'⟩ ⟨e1, e2, e3, g2, g5, g6⟩
  dsimp only at e1 e2 e3 g2 g5 g6
  subst e1 e2 e3
  by_cases c1 : 0 ≤ a.a
  · by_cases c2 : a.a < w1
    · by_cases c3 : 0 ≤ a.b
      · by_cases c4 : a.b < w2
        · simp -implicitDefEqProofs (maxDischargeDepth := 6) (maxSteps := 1000000) only [go_sem, ↓reduceIte, Nat.reduceLT, Nat.reduceLeDiff, Nat.reduceEqDiff, Nat.reduceAdd, Nat.reduceMul, Nat.reduceSub, Nat.reduceBEq, reduceCtorEq, Int.reduceEq, Int.reduceLT, Int.reduceLE, Int.reduceNeg, Int.reduceToNat, g2, g5, g6, hc, hx, c1, c2, c3, c4]
          exact ⟨by simp [fitP, btw, c1, c2, c3, c4], hE⟩
        · simp -implicitDefEqProofs (maxDischargeDepth := 6) (maxSteps := 1000000) only [go_sem, ↓reduceIte, Nat.reduceLT, Nat.reduceLeDiff, Nat.reduceEqDiff, Nat.reduceAdd, Nat.reduceMul, Nat.reduceSub, Nat.reduceBEq, reduceCtorEq, Int.reduceEq, Int.reduceLT, Int.reduceLE, Int.reduceNeg, Int.reduceToNat, g2, g5, g6, hc, hx, c1, c2, c3, c4]
          exact ⟨by simp [fitP, btw, c1, c2, c3, c4], hE⟩
      · simp -implicitDefEqProofs (maxDischargeDepth := 6) (maxSteps := 1000000) only [go_sem, ↓reduceIte, Nat.reduceLT, Nat.reduceLeDiff, Nat.reduceEqDiff, Nat.reduceAdd, Nat.reduceMul, Nat.reduceSub, Nat.reduceBEq, reduceCtorEq, Int.reduceEq, Int.reduceLT, Int.reduceLE, Int.reduceNeg, Int.reduceToNat, g2, g5, g6, hc, hx, c1, c2, c3]
        exact ⟨by simp [fitP, btw, c1, c2, c3], hE⟩
    · simp -implicitDefEqProofs (maxDischargeDepth := 6) (maxSteps := 1000000) only [go_sem, ↓reduceIte, Nat.reduceLT, Nat.reduceLeDiff, Nat.reduceEqDiff, Nat.reduceAdd, Nat.reduceMul, Nat.reduceSub, Nat.reduceBEq, reduceCtorEq, Int.reduceEq, Int.reduceLT, Int.reduceLE, Int.reduceNeg, Int.reduceToNat, g2, g5, g6, hc, hx, c1, c2]
      exact ⟨by simp [fitP, btw, c1, c2], hE⟩
  · simp -implicitDefEqProofs (maxDischargeDepth := 6) (maxSteps := 1000000) only [go_sem, ↓reduceIte, Nat.reduceLT, Nat.reduceLeDiff, Nat.reduceEqDiff, Nat.reduceAdd, Nat.reduceMul, Nat.reduceSub, Nat.reduceBEq, reduceCtorEq, Int.reduceEq, Int.reduceLT, Int.reduceLE, Int.reduceNeg, Int.reduceToNat, g2, g5, g6, hc, hx, c1]
    exact ⟨by simp [fitP, btw, c1], hE⟩
end Go.Am.T
namespace Go.Am.T
open Go Go.Am Go.Proofs.Ythanhcpnhionaaa Go.Proofs
theorem cells_0 {cs : List Value} {n : Nat} {a : Act} (h : (cs.drop n).take 4 = a.cells) : cs[n]? = some (.int .i64 a.k) := by
  have : ((cs.drop n).take 4)[0]? = a.cells[0]? := by rw [h]
  simpa [List.getElem?_take, List.getElem?_drop, Act.cells] using this
theorem rmay_W {H : Heap} (hw : WF H) {tv : Value} {ts : List (List Act)} {av : Nat → Value} (ht : TasksAt H tv ts av) (hN : ts.length ≤ 70368744177664) :
    CW Try.prog 12 #[tv] H fun x H' => x = .ret (.int .i64 (mayP ts)) ∧ Ext H H' := by
  refine CW_k (n := 87) if12 rfl ?_
  unfold C12
  obtain ⟨ta, tc, htv, _⟩ := id ht.rd
  simp only [List.length_map, List.length_range] at htv
  have hnb := hw.1
  by_cases h16 : 16 < ts.length
  · have hZ : (16 : Int) < (ts.length : Int) := by omega
    simp -implicitDefEqProofs (maxDischargeDepth := 6) (maxSteps := 1000000) only [go_sem, ↓reduceIte, Nat.reduceLT, Nat.reduceLeDiff, Nat.reduceEqDiff, Nat.reduceAdd, Nat.reduceMul, Nat.reduceSub, Nat.reduceBEq, reduceCtorEq, Int.reduceEq, Int.reduceLT, Int.reduceLE, Int.reduceNeg, Int.reduceToNat, htv, goInt, hZ, mayP, h16]
    exact Ext.refl hw
  have hZ : ¬ (16 : Int) < (ts.length : Int) := by omega
  have out : ∀ {k : Nat} (h : k < ts.length), ∃ b o x aa ac, ta = some ⟨b, o, none⟩ ∧ ¬ tc = 0 ∧ H.get b = some x ∧ x.cells[o + k]? = some (av k) ∧ av k = .slice aa ts[k].length ac := by
    intro k hlt
    obtain ⟨b, o, c, x, hv, hc, hx, hxk⟩ := ht.rd.at_ (i := k) (by simpa using hlt)
    rw [htv] at hv
    simp only [Value.slice.injEq, List.length_map, List.length_range, true_and] at hv
    obtain ⟨rfl, rfl⟩ := hv
    simp only [List.getElem_map, List.getElem_range] at hxk
    obtain ⟨aa, ac, hav⟩ := (ht.acts k hlt).len
    exact ⟨b, o, x, aa, ac, rfl, hc, hx, hxk, hav⟩
  simp -implicitDefEqProofs (maxDischargeDepth := 6) (maxSteps := 1000000) only [go_sem, ↓reduceIte, Nat.reduceLT, Nat.reduceLeDiff, Nat.reduceEqDiff, Nat.reduceAdd, Nat.reduceMul, Nat.reduceSub, Nat.reduceBEq, reduceCtorEq, Int.reduceEq, Int.reduceLT, Int.reduceLE, Int.reduceNeg, Int.reduceToNat, htv, goInt, hZ]
  refine Wk_loopF (fun m f G => ∃ k, m = ts.length - k ∧ k ≤ ts.length ∧ f.get 0 = some (.slice ta ts.length tc) ∧ f.get 3 = some (nv k) ∧ G = H ∧ (ts.take k).any (fun l => decide (256 < l.length)) = false) ts.length ?_ ?_
  · refine ⟨0, by omega, by omega, ?_, ?_, rfl, rfl⟩
    all_goals simp -implicitDefEqProofs (maxDischargeDepth := 6) (maxSteps := 1000000) only [go_sem, ↓reduceIte, Nat.reduceLT, Nat.reduceLeDiff, Nat.reduceEqDiff, Nat.reduceAdd, Nat.reduceMul, Nat.reduceSub, Nat.reduceBEq, reduceCtorEq, Int.reduceEq, Int.reduceLT, Int.reduceLE, Int.reduceNeg, Int.reduceToNat, nv]
    rfl
  rintro m f G ⟨k, rfl, hk, f0, f3, hG, hsm⟩
  subst G
  unfold L12_1
  by_cases hlt : k < ts.length
  · have hltZ : (k : Int) < (ts.length : Int) := by omega
    have hk0 : (0 : Int) ≤ (k : Int) := by omega
    have hw1 : IntKind.i64.wrap ((k : Int) + 1) = ((k + 1 : Nat) : Int) := IntWalk.i64_in _ (by omega)
    obtain ⟨b, o, x, aa, ac, rfl, hc, hx, hxk, hav⟩ := out hlt
    by_cases h256 : 256 < ts[k].length
    · have h2Z : (256 : Int) < (ts[k].length : Int) := by omega
      have hm : mayP ts = 9 := by
        unfold mayP
        rw [if_neg h16, if_pos]
        rw [List.any_eq_true]
        exact ⟨ts[k], List.getElem_mem hlt, by simpa using h256⟩
      simp -implicitDefEqProofs (maxDischargeDepth := 6) (maxSteps := 1000000) only [go_sem, ↓reduceIte, Nat.reduceLT, Nat.reduceLeDiff, Nat.reduceEqDiff, Nat.reduceAdd, Nat.reduceMul, Nat.reduceSub, Nat.reduceBEq, reduceCtorEq, Int.reduceEq, Int.reduceLT, Int.reduceLE, Int.reduceNeg, Int.reduceToNat, f0, f3, nv, hltZ, hk0, hc, hx, hxk, hav, goInt, h2Z, hm]
      exact Ext.refl hw
    · have h2Z : ¬ (256 : Int) < (ts[k].length : Int) := by omega
      simp -implicitDefEqProofs (maxDischargeDepth := 6) (maxSteps := 1000000) only [go_sem, ↓reduceIte, Nat.reduceLT, Nat.reduceLeDiff, Nat.reduceEqDiff, Nat.reduceAdd, Nat.reduceMul, Nat.reduceSub, Nat.reduceBEq, reduceCtorEq, Int.reduceEq, Int.reduceLT, Int.reduceLE, Int.reduceNeg, Int.reduceToNat, f0, f3, nv, hltZ, hk0, hc, hx, hxk, hav, goInt, h2Z, hw1]
      refine ⟨ts.length - (k + 1), by omega, k + 1, rfl, by omega, ?_, ?_, rfl, ?_⟩
      · simp only [Tr.get_put, Nat.reduceEqDiff, ↓reduceIte, f0]
      · simp only [Tr.get_put, Nat.reduceEqDiff, ↓reduceIte, nv]
      · rw [any_take_succ _ _ hlt, hsm]; simpa using h256
  have hltZ : ¬ (k : Int) < (ts.length : Int) := by omega
  obtain rfl : k = ts.length := by omega
  rw [List.take_length] at hsm
  have h256 : ∀ {k : Nat} (h : k < ts.length), ts[k].length ≤ 256 := by
    intro k h
    rw [List.any_eq_false] at hsm
    have := hsm _ (List.getElem_mem h)
    simpa using this
  simp -implicitDefEqProofs (maxDischargeDepth := 6) (maxSteps := 1000000) only [go_sem, ↓reduceIte, Nat.reduceLT, Nat.reduceLeDiff, Nat.reduceEqDiff, Nat.reduceAdd, Nat.reduceMul, Nat.reduceSub, Nat.reduceBEq, reduceCtorEq, Int.reduceEq, Int.reduceLT, Int.reduceLE, Int.reduceNeg, Int.reduceToNat, f0, f3, nv, hltZ, goInt]
  refine Wk_loopF (fun m f G => ∃ k, m = ts.length - k ∧ k ≤ ts.length ∧ f.get 0 = some (.slice ta ts.length tc) ∧ f.get 4 = some (nv k) ∧ G = H ∧ (ts.take k).any oddL = false) ts.length ?_ ?_
  · refine ⟨0, by omega, by omega, ?_, ?_, rfl, rfl⟩
    all_goals simp -implicitDefEqProofs (maxDischargeDepth := 6) (maxSteps := 1000000) only [go_sem, ↓reduceIte, Nat.reduceLT, Nat.reduceLeDiff, Nat.reduceEqDiff, Nat.reduceAdd, Nat.reduceMul, Nat.reduceSub, Nat.reduceBEq, reduceCtorEq, Int.reduceEq, Int.reduceLT, Int.reduceLE, Int.reduceNeg, Int.reduceToNat, nv, f0]
    rfl
  clear f0 f3 hltZ
  rintro m f G ⟨k, rfl, hk, f0, f4, hG, hod⟩
  subst G
  unfold L12_3
  by_cases hlt : k < ts.length
  · have hltZ : (k : Int) < (ts.length : Int) := by omega
    have hk0 : (0 : Int) ≤ (k : Int) := by omega
    have hw1 : IntKind.i64.wrap ((k : Int) + 1) = ((k + 1 : Nat) : Int) := IntWalk.i64_in _ (by omega)
    obtain ⟨b, o, x, aa, ac, rfl, hc, hx, hxk, hav⟩ := out hlt
    have hA := ht.acts k hlt
    have hlb := h256 hlt
    have hbad : oddL ts[k] = true → mayP ts = 62 := by
      intro h
      unfold mayP
      rw [if_neg h16, if_neg (by rw [hsm]; simp), if_pos]
      rw [List.any_eq_true]
      exact ⟨ts[k], List.getElem_mem hlt, h⟩
    have hgood : oddL ts[k] = false → (ts.take (k + 1)).any oddL = false := by
      intro h
      rw [any_take_succ _ _ hlt, hod, h]; rfl
    generalize hl : ts[k] = l at *
    simp -implicitDefEqProofs (maxDischargeDepth := 6) (maxSteps := 1000000) only [go_sem, ↓reduceIte, Nat.reduceLT, Nat.reduceLeDiff, Nat.reduceEqDiff, Nat.reduceAdd, Nat.reduceMul, Nat.reduceSub, Nat.reduceBEq, reduceCtorEq, Int.reduceEq, Int.reduceLT, Int.reduceLE, Int.reduceNeg, Int.reduceToNat, f0, f4, nv, hltZ, goInt]
    refine Wk_loopF (fun m f G => ∃ j, m = l.length - j ∧ j ≤ l.length ∧ f.get 0 = some (.slice (some ⟨b, o, none⟩) ts.length tc) ∧ f.get 4 = some (nv k) ∧ f.get 5 = some (nv j) ∧ G = H ∧ (l.take j).any oddA = false) l.length ?_ ?_
    · refine ⟨0, by omega, by omega, ?_, ?_, ?_, rfl, rfl⟩
      all_goals simp -implicitDefEqProofs (maxDischargeDepth := 6) (maxSteps := 1000000) only [go_sem, ↓reduceIte, Nat.reduceLT, Nat.reduceLeDiff, Nat.reduceEqDiff, Nat.reduceAdd, Nat.reduceMul, Nat.reduceSub, Nat.reduceBEq, reduceCtorEq, Int.reduceEq, Int.reduceLT, Int.reduceLE, Int.reduceNeg, Int.reduceToNat, nv, f0, f4]
      rfl
    clear f0 f4
    rintro m f G ⟨j, rfl, hj, f0, f4, f5, hG, hol⟩
    subst G
    unfold L12_2
    by_cases hjl : j < l.length
    · have hjZ : (j : Int) < (l.length : Int) := by omega
      have hj0 : (0 : Int) ≤ (j : Int) := by omega
      have hw2 : IntKind.i64.wrap ((j : Int) + 1) = ((j + 1 : Nat) : Int) := IntWalk.i64_in _ (by omega)
      obtain ⟨b2, o2, c2, x2, hv2, hc2, hx2, hle2, hcs2⟩ := hA.at_ hjl
      rw [hav] at hv2
      simp only [Value.slice.injEq, true_and] at hv2
      obtain ⟨rfl, rfl⟩ := hv2
      have hk4 := cells_0 hcs2
      have hbad2 : oddA l[j] = true → mayP ts = 62 := by
        intro h
        refine hbad ?_
        unfold oddL
        rw [List.any_eq_true]
        exact ⟨l[j], List.getElem_mem hjl, h⟩
      have hgo : oddA l[j] = false → (l.take (j + 1)).any oddA = false := by
        intro h
        rw [any_take_succ _ _ hjl, hol, h]; rfl
      by_cases h1 : (l[j]).k < 1
      · have hm := hbad2 (by simp [oddA, h1])
        simp -implicitDefEqProofs (maxDischargeDepth := 6) (maxSteps := 1000000) only [go_sem, ↓reduceIte, Nat.reduceLT, Nat.reduceLeDiff, Nat.reduceEqDiff, Nat.reduceAdd, Nat.reduceMul, Nat.reduceSub, Nat.reduceBEq, reduceCtorEq, Int.reduceEq, Int.reduceLT, Int.reduceLE, Int.reduceNeg, Int.reduceToNat, f0, f4, f5, nv, hk0, hltZ, hc, hx, hxk, hav, goInt, hjZ, hj0, hc2, hx2, hk4, h1, hm]
        exact Ext.refl hw
      by_cases h13 : 13 < (l[j]).k
      · have hm := hbad2 (by simp [oddA, h13])
        simp -implicitDefEqProofs (maxDischargeDepth := 6) (maxSteps := 1000000) only [go_sem, ↓reduceIte, Nat.reduceLT, Nat.reduceLeDiff, Nat.reduceEqDiff, Nat.reduceAdd, Nat.reduceMul, Nat.reduceSub, Nat.reduceBEq, reduceCtorEq, Int.reduceEq, Int.reduceLT, Int.reduceLE, Int.reduceNeg, Int.reduceToNat, f0, f4, f5, nv, hk0, hltZ, hc, hx, hxk, hav, goInt, hjZ, hj0, hc2, hx2, hk4, h1, h13, hm]
        exact Ext.refl hw
      simp -implicitDefEqProofs (maxDischargeDepth := 6) (maxSteps := 1000000) only [go_sem, ↓reduceIte, Nat.reduceLT, Nat.reduceLeDiff, Nat.reduceEqDiff, Nat.reduceAdd, Nat.reduceMul, Nat.reduceSub, Nat.reduceBEq, reduceCtorEq, Int.reduceEq, Int.reduceLT, Int.reduceLE, Int.reduceNeg, Int.reduceToNat, f0, f4, f5, nv, hk0, hltZ, hc, hx, hxk, hav, goInt, hjZ, hj0, hc2, hx2, hk4, h1, h13, hw2]
      refine ⟨l.length - (j + 1), by omega, j + 1, rfl, by omega, ?_, ?_, ?_, rfl, hgo (by simp [oddA, h1, h13])⟩
      · simp only [Tr.get_put, Nat.reduceEqDiff, ↓reduceIte, f0]
      · simp only [Tr.get_put, Nat.reduceEqDiff, ↓reduceIte, f4, nv]
      · simp only [Tr.get_put, Nat.reduceEqDiff, ↓reduceIte, nv]
    have hjZ : ¬ (j : Int) < (l.length : Int) := by omega
    obtain rfl : j = l.length := by omega
    rw [List.take_length] at hol
    simp -implicitDefEqProofs (maxDischargeDepth := 6) (maxSteps := 1000000) only [go_sem, ↓reduceIte, Nat.reduceLT, Nat.reduceLeDiff, Nat.reduceEqDiff, Nat.reduceAdd, Nat.reduceMul, Nat.reduceSub, Nat.reduceBEq, reduceCtorEq, Int.reduceEq, Int.reduceLT, Int.reduceLE, Int.reduceNeg, Int.reduceToNat, f0, f4, f5, nv, hk0, hltZ, hc, hx, hxk, hav, goInt, hjZ, hw1]
    refine ⟨ts.length - (k + 1), by omega, k + 1, rfl, by omega, ?_, ?_, rfl, hgood hol⟩
    · simp only [Tr.get_put, Nat.reduceEqDiff, ↓reduceIte, f0]
    · simp only [Tr.get_put, Nat.reduceEqDiff, ↓reduceIte, nv]
  have hltZ : ¬ (k : Int) < (ts.length : Int) := by omega
  obtain rfl : k = ts.length := by omega
  rw [List.take_length] at hod
  simp -implicitDefEqProofs (maxDischargeDepth := 6) (maxSteps := 1000000) only [go_sem, ↓reduceIte, Nat.reduceLT, Nat.reduceLeDiff, Nat.reduceEqDiff, Nat.reduceAdd, Nat.reduceMul, Nat.reduceSub, Nat.reduceBEq, reduceCtorEq, Int.reduceEq, Int.reduceLT, Int.reduceLE, Int.reduceNeg, Int.reduceToNat, f0, f4, nv, hltZ, goInt]
  refine Wk_loopF (fun m f G => ∃ k, m = ts.length - k ∧ k ≤ ts.length ∧ f.get 0 = some (.slice ta ts.length tc) ∧ f.get 6 = some (nv k) ∧ Ext H G ∧ (ts.take k).any wrL = false) ts.length ?_ ?_
  · refine ⟨0, by omega, by omega, ?_, ?_, Ext.refl hw, rfl⟩
    all_goals simp -implicitDefEqProofs (maxDischargeDepth := 6) (maxSteps := 1000000) only [go_sem, ↓reduceIte, Nat.reduceLT, Nat.reduceLeDiff, Nat.reduceEqDiff, Nat.reduceAdd, Nat.reduceMul, Nat.reduceSub, Nat.reduceBEq, reduceCtorEq, Int.reduceEq, Int.reduceLT, Int.reduceLE, Int.reduceNeg, Int.reduceToNat, nv, f0]
    rfl
  clear f0 f4 hltZ
  rintro m f G ⟨k, rfl, hk, f0, f6, hE, hwr⟩
  unfold L12_5
  by_cases hlt : k < ts.length
  · have hltZ : (k : Int) < (ts.length : Int) := by omega
    have hk0 : (0 : Int) ≤ (k : Int) := by omega
    have hw1 : IntKind.i64.wrap ((k : Int) + 1) = ((k + 1 : Nat) : Int) := IntWalk.i64_in _ (by omega)
    obtain ⟨b, o, x, aa, ac, rfl, hc, hx, hxk, hav⟩ := out hlt
    have hA := ht.acts k hlt
    have hlb := h256 hlt
    have hbad : wrL ts[k] = true → mayP ts = 1 := by
      intro h
      unfold mayP
      rw [if_neg h16, if_neg (by rw [hsm]; simp), if_neg (by rw [hod]; simp), if_pos]
      rw [List.any_eq_true]
      exact ⟨ts[k], List.getElem_mem hlt, h⟩
    have hgood : wrL ts[k] = false → (ts.take (k + 1)).any wrL = false := by
      intro h
      rw [any_take_succ _ _ hlt, hwr, h]; rfl
    generalize hl : ts[k] = l at *
    simp -implicitDefEqProofs (maxDischargeDepth := 6) (maxSteps := 1000000) only [go_sem, ↓reduceIte, Nat.reduceLT, Nat.reduceLeDiff, Nat.reduceEqDiff, Nat.reduceAdd, Nat.reduceMul, Nat.reduceSub, Nat.reduceBEq, reduceCtorEq, Int.reduceEq, Int.reduceLT, Int.reduceLE, Int.reduceNeg, Int.reduceToNat, f0, f6, nv, hltZ, goInt]
    refine Wk_loopF (fun m f G => ∃ j, m = l.length - j ∧ j ≤ l.length ∧ f.get 0 = some (.slice (some ⟨b, o, none⟩) ts.length tc) ∧ f.get 6 = some (nv k) ∧ f.get 7 = some (nv j) ∧ Ext H G ∧ (l.take j).any (wrA l.length) = false) l.length ?_ ?_
    · refine ⟨0, by omega, by omega, ?_, ?_, ?_, hE, rfl⟩
      all_goals simp -implicitDefEqProofs (maxDischargeDepth := 6) (maxSteps := 1000000) only [go_sem, ↓reduceIte, Nat.reduceLT, Nat.reduceLeDiff, Nat.reduceEqDiff, Nat.reduceAdd, Nat.reduceMul, Nat.reduceSub, Nat.reduceBEq, reduceCtorEq, Int.reduceEq, Int.reduceLT, Int.reduceLE, Int.reduceNeg, Int.reduceToNat, nv, f0, f6]
      rfl
    clear f0 f6 hE
    rintro m f G ⟨j, rfl, hj, f0, f6, f7, hE, hol⟩
    unfold L12_4
    have hx := hE.of hw hx
    by_cases hjl : j < l.length
    · have hjZ : (j : Int) < (l.length : Int) := by omega
      have hj0 : (0 : Int) ≤ (j : Int) := by omega
      have hw2 : IntKind.i64.wrap ((j : Int) + 1) = ((j + 1 : Nat) : Int) := IntWalk.i64_in _ (by omega)
      obtain ⟨b2, o2, c2, x2, hv2, hc2, hx2, hle2, hcs2⟩ := hA.at_ hjl
      rw [hav] at hv2
      simp only [Value.slice.injEq, true_and] at hv2
      obtain ⟨rfl, rfl⟩ := hv2
      have hx2 := hE.of hw hx2
      have hbad2 : rightP l[j] l.length = false → mayP ts = 1 := by
        intro h
        refine hbad ?_
        unfold wrL
        rw [List.any_eq_true]
        exact ⟨l[j], List.getElem_mem hjl, by simp [wrA, h]⟩
      have hgo : rightP l[j] l.length = true → (l.take (j + 1)).any (wrA l.length) = false := by
        intro h
        rw [any_take_succ _ _ hjl, hol]; simp [wrA, h]
      simp -implicitDefEqProofs (maxDischargeDepth := 6) (maxSteps := 1000000) only [go_sem, ↓reduceIte, Nat.reduceLT, Nat.reduceLeDiff, Nat.reduceEqDiff, Nat.reduceAdd, Nat.reduceMul, Nat.reduceSub, Nat.reduceBEq, reduceCtorEq, Int.reduceEq, Int.reduceLT, Int.reduceLE, Int.reduceNeg, Int.reduceToNat, f0, f6, f7, nv, hk0, hltZ, hc, hx, hxk, hav, goInt, hjZ, hj0, hc2, hx2, hle2, hcs2, loads_eq]
      have hEb := hE.bump 15
      refine CW_mono _ (fields_W hEb.wf (a := l[j]) (len := l.length) (by omega)) ?_
      rintro _ G2 ⟨rfl, hE2⟩
      cases hr : rightP l[j] l.length with
      | false =>
        simp -implicitDefEqProofs (maxDischargeDepth := 6) (maxSteps := 1000000) only [go_sem, ↓reduceIte, Nat.reduceLT, Nat.reduceLeDiff, Nat.reduceEqDiff, Nat.reduceAdd, Nat.reduceMul, Nat.reduceSub, Nat.reduceBEq, reduceCtorEq, Int.reduceEq, Int.reduceLT, Int.reduceLE, Int.reduceNeg, Int.reduceToNat, hbad2 hr]
        exact hEb.trans hE2
      | true =>
        simp -implicitDefEqProofs (maxDischargeDepth := 6) (maxSteps := 1000000) only [go_sem, ↓reduceIte, Nat.reduceLT, Nat.reduceLeDiff, Nat.reduceEqDiff, Nat.reduceAdd, Nat.reduceMul, Nat.reduceSub, Nat.reduceBEq, reduceCtorEq, Int.reduceEq, Int.reduceLT, Int.reduceLE, Int.reduceNeg, Int.reduceToNat, f0, f6, f7, nv, hw2]
        refine ⟨l.length - (j + 1), by omega, j + 1, rfl, by omega, ?_, ?_, ?_, hEb.trans hE2, hgo hr⟩
        · simp only [Tr.get_put, Nat.reduceEqDiff, ↓reduceIte, f0]
        · simp only [Tr.get_put, Nat.reduceEqDiff, ↓reduceIte, f6, nv]
        · simp only [Tr.get_put, Nat.reduceEqDiff, ↓reduceIte, nv]
    have hjZ : ¬ (j : Int) < (l.length : Int) := by omega
    obtain rfl : j = l.length := by omega
    rw [List.take_length] at hol
    simp -implicitDefEqProofs (maxDischargeDepth := 6) (maxSteps := 1000000) only [go_sem, ↓reduceIte, Nat.reduceLT, Nat.reduceLeDiff, Nat.reduceEqDiff, Nat.reduceAdd, Nat.reduceMul, Nat.reduceSub, Nat.reduceBEq, reduceCtorEq, Int.reduceEq, Int.reduceLT, Int.reduceLE, Int.reduceNeg, Int.reduceToNat, f0, f6, f7, nv, hk0, hltZ, hc, hx, hxk, hav, goInt, hjZ, hw1]
    refine ⟨ts.length - (k + 1), by omega, k + 1, rfl, by omega, ?_, ?_, hE, hgood hol⟩
    · simp only [Tr.get_put, Nat.reduceEqDiff, ↓reduceIte, f0]
    · simp only [Tr.get_put, Nat.reduceEqDiff, ↓reduceIte, nv]
  have hltZ : ¬ (k : Int) < (ts.length : Int) := by omega
  obtain rfl : k = ts.length := by omega
  rw [List.take_length] at hwr
  have hm : mayP ts = 0 := by
    unfold mayP
    rw [if_neg h16, if_neg (by rw [hsm]; simp), if_neg (by rw [hod]; simp), if_neg (by rw [hwr]; simp)]
  simp -implicitDefEqProofs (maxDischargeDepth := 6) (maxSteps := 1000000) only [go_sem, ↓reduceIte, Nat.reduceLT, Nat.reduceLeDiff, Nat.reduceEqDiff, Nat.reduceAdd, Nat.reduceMul, Nat.reduceSub, Nat.reduceBEq, reduceCtorEq, Int.reduceEq, Int.reduceLT, Int.reduceLE, Int.reduceNeg, Int.reduceToNat, f0, f6, nv, hltZ, goInt, hm]
  exact hE
theorem rasked_W {H : Heap} (hw : WF H) {tv pv : Value} {ts : List (List Act)} {av : Nat → Value} (ht : TasksAt H tv ts av) (hN : ts.length ≤ 70368744177664) {room : Int} {picks : List Int} (hp : RdI H pv (picks.map iv)) :
    CW Try.prog 22 #[tv, .int .i64 room, pv] H fun x H' => x = .ret (.int .i64 (askedP ts room picks 0)) ∧ Ext H H' := by
  refine CW_k (n := 36) if22 rfl ?_
  unfold C22
  obtain ⟨pa, pc, hpv, _⟩ := id hp
  simp only [List.length_map] at hpv
  have c3 : ¬ (0 : Int) < 0 := by omega
  have c4 : ¬ (65536 : Int) < 0 := by omega
  simp -implicitDefEqProofs (maxDischargeDepth := 6) (maxSteps := 1000000) only [go_sem, ↓reduceIte, Nat.reduceLT, Nat.reduceLeDiff, Nat.reduceEqDiff, Nat.reduceAdd, Nat.reduceMul, Nat.reduceSub, Nat.reduceBEq, reduceCtorEq, Int.reduceEq, Int.reduceLT, Int.reduceLE, Int.reduceNeg, Int.reduceToNat, ]
  refine CW_mono _ (rmay_W hw ht hN) ?_
  rintro _ H1 ⟨rfl, hE⟩
  by_cases hm : mayP ts = 0
  case neg =>
    simp -implicitDefEqProofs (maxDischargeDepth := 6) (maxSteps := 1000000) only [go_sem, ↓reduceIte, Nat.reduceLT, Nat.reduceLeDiff, Nat.reduceEqDiff, Nat.reduceAdd, Nat.reduceMul, Nat.reduceSub, Nat.reduceBEq, reduceCtorEq, Int.reduceEq, Int.reduceLT, Int.reduceLE, Int.reduceNeg, Int.reduceToNat, hm]
    exact ⟨by simp [askedP, hm], hE⟩
  by_cases c1 : room < 1
  · simp -implicitDefEqProofs (maxDischargeDepth := 6) (maxSteps := 1000000) only [go_sem, ↓reduceIte, Nat.reduceLT, Nat.reduceLeDiff, Nat.reduceEqDiff, Nat.reduceAdd, Nat.reduceMul, Nat.reduceSub, Nat.reduceBEq, reduceCtorEq, Int.reduceEq, Int.reduceLT, Int.reduceLE, Int.reduceNeg, Int.reduceToNat, hm, c1]
    exact ⟨by simp [askedP, hm, c1], hE⟩
  by_cases c2 : 16 < room
  · simp -implicitDefEqProofs (maxDischargeDepth := 6) (maxSteps := 1000000) only [go_sem, ↓reduceIte, Nat.reduceLT, Nat.reduceLeDiff, Nat.reduceEqDiff, Nat.reduceAdd, Nat.reduceMul, Nat.reduceSub, Nat.reduceBEq, reduceCtorEq, Int.reduceEq, Int.reduceLT, Int.reduceLE, Int.reduceNeg, Int.reduceToNat, hm, c1, c2]
    exact ⟨by simp [askedP, hm, c1, c2], hE⟩
  by_cases c5 : 65536 < picks.length
  · have c5Z : (65536 : Int) < (picks.length : Int) := by omega
    simp -implicitDefEqProofs (maxDischargeDepth := 6) (maxSteps := 1000000) only [go_sem, ↓reduceIte, Nat.reduceLT, Nat.reduceLeDiff, Nat.reduceEqDiff, Nat.reduceAdd, Nat.reduceMul, Nat.reduceSub, Nat.reduceBEq, reduceCtorEq, Int.reduceEq, Int.reduceLT, Int.reduceLE, Int.reduceNeg, Int.reduceToNat, hm, c1, c2, c5Z, hpv, goInt]
    exact ⟨by simp [askedP, hm, c1, c2, c5], hE⟩
  have c5Z : ¬ (65536 : Int) < (picks.length : Int) := by omega
  simp -implicitDefEqProofs (maxDischargeDepth := 6) (maxSteps := 1000000) only [go_sem, ↓reduceIte, Nat.reduceLT, Nat.reduceLeDiff, Nat.reduceEqDiff, Nat.reduceAdd, Nat.reduceMul, Nat.reduceSub, Nat.reduceBEq, reduceCtorEq, Int.reduceEq, Int.reduceLT, Int.reduceLE, Int.reduceNeg, Int.reduceToNat, hm, c1, c2, c5Z, hpv, goInt]
  refine Wk_loopF (fun m f H2 => ∃ k, m = picks.length - k ∧ k ≤ picks.length ∧ f.get 2 = some (.slice pa picks.length pc) ∧ f.get 8 = some (nv k) ∧ H2 = H1 ∧ (picks.take k).any (fun p => decide (p < 0)) = false) picks.length ?_ ?_
  · refine ⟨0, by omega, by omega, ?_, ?_, rfl, rfl⟩
    all_goals simp -implicitDefEqProofs (maxDischargeDepth := 6) (maxSteps := 1000000) only [go_sem, ↓reduceIte, Nat.reduceLT, Nat.reduceLeDiff, Nat.reduceEqDiff, Nat.reduceAdd, Nat.reduceMul, Nat.reduceSub, Nat.reduceBEq, reduceCtorEq, Int.reduceEq, Int.reduceLT, Int.reduceLE, Int.reduceNeg, Int.reduceToNat, nv]
    rfl
  rintro m f H2 ⟨k, rfl, hk, f2, f8, rfl, hall⟩
  unfold L22_1
  by_cases hlt : k < picks.length
  · have hltZ : (k : Int) < (picks.length : Int) := by omega
    have hk0 : (0 : Int) ≤ (k : Int) := by omega
    have hw1 : IntKind.i64.wrap ((k : Int) + 1) = ((k + 1 : Nat) : Int) := IntWalk.i64_in _ (by omega)
    obtain ⟨b, o, c, x, hv, hc, hx, hxk⟩ := hp.at_ (i := k) (by simpa using hlt)
    rw [hpv] at hv
    simp only [Value.slice.injEq, List.length_map, true_and] at hv
    obtain ⟨rfl, rfl⟩ := hv
    simp only [List.getElem_map, iv] at hxk
    have hx1 := hE.of hw hx
    by_cases hn : picks[k] < 0
    · have hany : picks.any (fun p => decide (p < 0)) = true := by
        rw [List.any_eq_true]; exact ⟨picks[k], List.getElem_mem hlt, by simpa using hn⟩
      simp -implicitDefEqProofs (maxDischargeDepth := 6) (maxSteps := 1000000) only [go_sem, ↓reduceIte, Nat.reduceLT, Nat.reduceLeDiff, Nat.reduceEqDiff, Nat.reduceAdd, Nat.reduceMul, Nat.reduceSub, Nat.reduceBEq, reduceCtorEq, Int.reduceEq, Int.reduceLT, Int.reduceLE, Int.reduceNeg, Int.reduceToNat, f2, f8, nv, hltZ, hk0, hc, hx1, hxk, hn, goInt]
      refine ⟨?_, hE⟩
      unfold askedP
      rw [if_neg (by simpa using hm), if_neg c1, if_neg c2, if_neg c3, if_neg c4, if_neg c5, if_pos hany]
    · simp -implicitDefEqProofs (maxDischargeDepth := 6) (maxSteps := 1000000) only [go_sem, ↓reduceIte, Nat.reduceLT, Nat.reduceLeDiff, Nat.reduceEqDiff, Nat.reduceAdd, Nat.reduceMul, Nat.reduceSub, Nat.reduceBEq, reduceCtorEq, Int.reduceEq, Int.reduceLT, Int.reduceLE, Int.reduceNeg, Int.reduceToNat, f2, f8, nv, hltZ, hk0, hc, hx1, hxk, hn, hw1, goInt]
      refine ⟨picks.length - (k + 1), by omega, k + 1, rfl, by omega, ?_, ?_, rfl, ?_⟩
      · simp only [Tr.get_put, Nat.reduceEqDiff, ↓reduceIte, f2]
      · simp only [Tr.get_put, Nat.reduceEqDiff, ↓reduceIte, nv]
      · rw [any_take_succ _ _ hlt, hall]; simpa using hn
  · have hltZ : ¬ (k : Int) < (picks.length : Int) := by omega
    obtain rfl : k = picks.length := by omega
    rw [List.take_length] at hall
    simp -implicitDefEqProofs (maxDischargeDepth := 6) (maxSteps := 1000000) only [go_sem, ↓reduceIte, Nat.reduceLT, Nat.reduceLeDiff, Nat.reduceEqDiff, Nat.reduceAdd, Nat.reduceMul, Nat.reduceSub, Nat.reduceBEq, reduceCtorEq, Int.reduceEq, Int.reduceLT, Int.reduceLE, Int.reduceNeg, Int.reduceToNat, f2, f8, nv, hltZ, goInt]
    refine ⟨?_, hE⟩
    unfold askedP
    rw [if_neg (by simpa using hm), if_neg c1, if_neg c2, if_neg c3, if_neg c4, if_neg c5, if_neg (by rw [hall]; simp)]
end Go.Am.T
namespace Go.Am.T
open Go Go.Am Go.Proofs.Ythanhcpnhionaaa Go.Proofs
def LaS (z : Int) (d : Sx × Option Int) : Prop := d.1.last = z
theorem LaS.ite {z : Int} {c : Prop} [Decidable c] {x y : Sx × Option Int} (hx : LaS z x) (hy : LaS z y) : LaS z (if c then x else y) := by split <;> assumption
theorem LaS.same {S' : Sx} {z : Int} {n : Option Int} (e : S'.last = z) : LaS z (S', n) := e
theorem wakeAll_last : ∀ (l : List Nat) (S : Sx), (wakeAll S l).last = S.last
  | [], _ => rfl
  | i :: l, S => wakeAll_last l (setTk S i { S.tk i with wait := 2 })
theorem wake_last {S : Sx} {c n : Nat} : (wakeM S c n).last = S.last := wakeAll_last _ S
theorem LaS.wake {S S' : Sx} {z : Int} {n : Option Int} {c k : Nat} (hz : S.last = z) (e : S'.last = (wakeM S c k).last) : LaS z (S', n) := by show S'.last = z; rw [e, wake_last]; exact hz
theorem last_step {S : Sx} {i : Nat} (hat : (S.tk i).at_ < (S.tk i).acts.length) : (stepM S i).last = i := by
  unfold stepM
  rw [List.getElem?_eq_getElem hat]
  generalize (S.tk i).acts[(S.tk i).at_] = a
  have hd : LaS i (doA (begS S i) i a) := by
    have hb : (begS S i).last = i := rfl
    generalize begS S i = B at hb
    unfold doA
    repeat' (first
      | exact LaS.same hb
      | exact LaS.wake hb rfl
      | refine LaS.ite ?_ ?_)
  dsimp only
  generalize doA (begS S i) i a = d at hd
  obtain ⟨S1, po⟩ := d
  cases po with
  | none => exact hd
  | some n =>
    show (caughtM S1 i n).last = i
    unfold caughtM
    split <;> exact hd
def kP (picks : List Int) (k : Nat) : Int := match picks[k]? with | some p => p | none => -1
theorem pick_next {picks : List Int} (hpos : ∀ p ∈ picks, 0 ≤ p) {last : Int} {k : Nat} {l : List Nat} : pickP l (kP picks k) last = nextP last k l picks := by
  unfold pickP nextP kP
  cases h : picks[k]? with
  | none => rfl
  | some p => exact if_pos (hpos p (List.mem_of_getElem? h))
theorem askedP_of {ts : List (List Act)} {room most : Int} {picks : List Int} : askedP ts room picks most = if askedP ts room picks 0 ≠ 0 then askedP ts room picks 0 else if most < 0 ∨ 65536 < most then 1 else 0 := by
  unfold askedP
  have c3 : ¬ (0 : Int) < 0 := by omega
  have c4 : ¬ (65536 : Int) < 0 := by omega
  by_cases hm : mayP ts = 0
  case neg => simp [hm]
  by_cases c1 : room < 1
  · simp [hm, c1]
  by_cases c2 : 16 < room
  · simp [hm, c1, c2]
  by_cases c5 : 65536 < picks.length
  · simp [hm, c1, c2, c5]
  cases c6 : picks.any (fun p => decide (p < 0)) with
  | true => simp [hm, c1, c2, c5, c6]
  | false =>
    by_cases d1 : most < 0
    · simp [hm, c1, c2, c5, c6, d1]
    · by_cases d2 : 65536 < most
      · simp [hm, c1, c2, c5, c6, d1, d2]
      · simp [hm, c1, c2, c5, c6, d1, d2]
structure Kep (H H' : Heap) : Prop where
  wf : WF H'
  le : H.next ≤ H'.next
  of : ∀ b x, H.get b = some x → H'.get b = some x
theorem ext_kep {H H' : Heap} (h : Ext H H') (hw : WF H) : Kep H H' := ⟨h.wf, h.le, fun _ _ hb => h.of hw hb⟩
def mkO (own : Nat → Option Role) (a b : Nat) (c : Nat) : Option Role := if c < a then own c else if c < b then some .trace else none
def RM.mk' (M : RM) (G G' : Heap) : RM := { M with own := mkO M.own G.next G'.next }
theorem RfR.tr {G G' : Heap} {r : Nat} {M : RM} {S : Sx} (h : RfR G r M S) (wf : WF G') (le : G.next ≤ G'.next) (kp : ∀ b x, G.get b = some x → M.own b ≠ some .trace → G'.get b = some x) : RfR G' r (M.mk' G G') S := by
  obtain ⟨hx, h2, h3, h4, h5, h6, h7, h8⟩ := h
  have hou : ∀ b, b < G.next → mkO M.own G.next G'.next b = M.own b := fun b hb => if_pos hb
  have hl : ∀ {b x}, G.get b = some x → mkO M.own G.next G'.next b = M.own b := fun hb => hou _ (hx.wf.lt hb)
  refine ⟨⟨wf, kp _ _ hx.st (by rw [hx.ro]; simp), (hl hx.st).trans hx.ro, hx.rb, fun b hb => ?_, fun hN => ?_, hx.ts0, fun i hi => ?_, fun j hj => ?_, fun j hj => ?_⟩, h2, h3, h4, h5, h6, h7, h8⟩
  · have hb : mkO M.own G.next G'.next b ≠ none := hb
    unfold mkO at hb
    split at hb
    · omega
    · split at hb
      · assumption
      · exact absurd rfl hb
  · obtain ⟨q1, q2, q3, q4⟩ := hx.ts hN
    exact ⟨q1, (hl q4).trans q2, q3, kp M.b _ q4 (by rw [q2]; simp)⟩
  · obtain ⟨a, c, e, k⟩ := hx.acts i hi
    refine ⟨a, c, e, fun hne => ?_⟩
    obtain ⟨hc, b, o, x, q1, q2, q3, q4⟩ := k hne
    exact ⟨hc, b, o, x, q1, kp _ _ q2 (by rw [q3]; simp), (hl q2).trans q3, q4⟩
  · exact (hx.line j hj).frame fun b x hb hg => ⟨(hl hg).trans hb, kp _ _ hg (by rw [hb]; simp)⟩
  · exact (hx.q j hj).frame fun b x hb hg => ⟨(hl hg).trans hb, kp _ _ hg (by rw [hb]; simp)⟩
structure Rr (H0 G : Heap) (r : Nat) (M : RM) (S : Sx) : Prop where
  rf : RfR G r M S
  keep : ∀ b x, H0.get b = some x → G.get b = some x ∧ M.own b = none
  le : H0.next ≤ G.next
  last : M.V.last = S.last
def tb (H0 : Heap) (M : RM) (b : Nat) : Prop := H0.next ≤ b ∧ M.own b = some .trace
section
variable {H0 G G' : Heap} {r : Nat} {M : RM} {S : Sx}
theorem Rr.kep (h : Rr H0 G r M S) : Kep H0 G := ⟨h.rf.x.wf, h.le, fun b x hb => (h.keep b x hb).1⟩
theorem Rr.tr (h : Rr H0 G r M S) (wf : WF G') (le : G.next ≤ G'.next) (kp : ∀ b x, G.get b = some x → M.own b ≠ some .trace → G'.get b = some x) : Rr H0 G' r (M.mk' G G') S :=
  ⟨h.rf.tr wf le kp, fun b x hb => by
    obtain ⟨h1, h2⟩ := h.keep b x hb
    exact ⟨kp b x h1 (by rw [h2]; simp), (if_pos (h.rf.x.wf.lt h1)).trans h2⟩, Nat.le_trans h.le le, h.last⟩
theorem Rr.ext (h : Rr H0 G r M S) (e : Ext G G') : Rr H0 G' r (M.mk' G G') S := h.tr e.wf e.le fun b x hb _ => e.of h.rf.x.wf hb
theorem own_tr (h : Rr H0 G r M S) {es ty n : Nat} {v : Value} {cs : List Value} (ho : OwnL (tb H0 M) G es ty v n cs) (kp : ∀ b x, G.get b = some x → x.opn = true ∧ x.ty = ty → G'.get b = some x) : OwnL (tb H0 (M.mk' G G')) G' es ty v n cs :=
  ho.frameO fun b x hb hg hx => ⟨⟨hb.1, (if_pos (h.rf.x.wf.lt hg)).trans hb.2⟩, kp b x hg hx⟩
theorem own_ext (h : Rr H0 G r M S) {es ty n : Nat} {v : Value} {cs : List Value} (ho : OwnL (tb H0 M) G es ty v n cs) (e : Ext G G') : OwnL (tb H0 (M.mk' G G')) G' es ty v n cs := own_tr h ho fun b x hb _ => e.of h.rf.x.wf hb
theorem own_new (h : Rr H0 G r M S) (wf : WF G') {es ty n : Nat} {v : Value} {cs : List Value} (ho : OwnL (fun b => G.next ≤ b) G' es ty v n cs) : OwnL (tb H0 (M.mk' G G')) G' es ty v n cs :=
  ho.frame fun b x hb hg => ⟨⟨Nat.le_trans h.le hb, by
    show mkO M.own G.next G'.next b = some .trace
    have hb : G.next ≤ b := hb
    unfold mkO
    rw [if_neg (by omega), if_pos (wf.lt hg)]⟩, hg⟩
def Bk (H0 : Heap) (M : RM) (G : Heap) (b : Nat) (x : Blk) : Prop := H0.next ≤ b ∧ M.own b = some .trace ∧ G.get b = some x
theorem bk_tr (h : Rr H0 G r M S) {b : Nat} {x x' : Blk} (hb : Bk H0 M G b x) (hx : G'.get b = some x') : Bk H0 (M.mk' G G') G' b x' := ⟨hb.1, (if_pos (h.rf.x.wf.lt hb.2.2)).trans hb.2.1, hx⟩
theorem bk_ext (h : Rr H0 G r M S) {b : Nat} {x : Blk} (hb : Bk H0 M G b x) (e : Ext G G') : Bk H0 (M.mk' G G') G' b x := bk_tr h hb (e.of h.rf.x.wf hb.2.2)
theorem bk_new (h : Rr H0 G r M S) (wf : WF G') {b : Nat} {x : Blk} (hb : G.next ≤ b) (hx : G'.get b = some x) : Bk H0 (M.mk' G G') G' b x :=
  ⟨Nat.le_trans h.le hb, by
    show mkO M.own G.next G'.next b = some .trace
    unfold mkO
    rw [if_neg (by omega), if_pos (wf.lt hx)], hx⟩
theorem Rr.step (h : Rr H0 G r M S) {i : Nat} (hi : i < S.N) (h3 : howS S i = 3) (hbd : S.trace.length ≤ 70000) :
    CW Try.prog 26 #[.pointer (some ⟨r, 0, none⟩), nv i] G fun x G' => x = .ret (.tuple #[]) ∧ ∃ M', Rr H0 G' r M' (stepM S i) ∧ (∀ b x, G.get b = some x → M.own b = some .trace → G'.get b = some x ∧ M'.own b = some .trace) := by
  refine CW_mono _ (h.rf.step hi h3 hbd) ?_
  rintro x G' ⟨rfl, M', q1, q2, q3⟩
  obtain ⟨hat, _, _⟩ := how_3 h3
  refine ⟨rfl, M', ⟨q1, fun b x hb => ?_, Nat.le_trans h.le q2.le, by rw [q3, last_step hat]⟩, fun b x hb ho => ?_⟩
  · obtain ⟨k1, k2⟩ := h.keep b x hb
    obtain ⟨m1, m2⟩ := q2.keep b x k1 (.inl k2)
    exact ⟨m1, m2.trans k2⟩
  · obtain ⟨m1, m2⟩ := q2.keep b x hb (.inr ho)
    exact ⟨m1, m2.trans ho⟩
theorem own_st {G' : Heap} {M' : RM} (k : ∀ b x, G.get b = some x → M.own b = some .trace → G'.get b = some x ∧ M'.own b = some .trace) {es ty n : Nat} {v : Value} {cs : List Value} (ho : OwnL (tb H0 M) G es ty v n cs) : OwnL (tb H0 M') G' es ty v n cs :=
  ho.frame fun b x hb hg => ⟨⟨hb.1, (k b x hg hb.2).2⟩, (k b x hg hb.2).1⟩
theorem bk_st {G' : Heap} {M' : RM} (k : ∀ b x, G.get b = some x → M.own b = some .trace → G'.get b = some x ∧ M'.own b = some .trace) {b : Nat} {x : Blk} (hb : Bk H0 M G b x) : Bk H0 M' G' b x :=
  ⟨hb.1, (k b x hb.2.2 hb.2.1).2, (k b x hb.2.2 hb.2.1).1⟩
end
theorem appP {p : Nat → Prop} {H : Heap} (hw : WF H) {es ty bytes n c : Nat} {a : Option Addr} {cs vs : List Value} {nb : Nat} {x : Blk} (h : OwnL p H es ty (.slice a n c) n cs) (hn : H.get nb = some x) (hx : x.cells = vs) (hl : vs.length = es) (h0 : es ≠ 0)
    (ho : vs.all Heap.oneC = true) (hb : 4 * (n + 1) * bytes + 4096 ≤ 2 ^ 47) (hb2 : n + 1 ≤ 2 ^ 47) :
    ∃ H6, appS H ty es bytes a n c (.slice (some ⟨nb, 0, none⟩) 1 1) = some (.slice (some ⟨H.next, 0, none⟩) (n + 1) openCap, H6) ∧ WF H6 ∧ H6.next = H.next + 1 ∧ (∀ c x, H.get c = some x → ¬ p c ∨ ¬ (x.opn = true ∧ x.ty = ty) → H6.get c = some x) ∧
      OwnL (fun b => b = H.next) H6 es ty (.slice (some ⟨H.next, 0, none⟩) (n + 1) openCap) (n + 1) (cs ++ vs) := by
  have hwd : WF (delV H (.slice a n c)) := by
    rcases h with ⟨e, _⟩ | ⟨b, o, pre, e, _⟩
    · rw [e]; exact hw
    · rw [e]; exact hw.del _
  refine ⟨_, appS_own (vs := vs) (x := x) h rfl hn hx hl h0 ho hb hb2, hwd.alloc _, ?_, ?_, ?_⟩
  · show (delV H _).next + 1 = _
    rw [next_delV]
  · intro b x hg hm
    have hlt := hw.lt hg
    rw [get_alloc_ne (by rw [next_delV]; omega)]
    rcases h with ⟨e, _⟩ | ⟨b', o, pre, e, _, h3, h4, _⟩
    · rw [e]; exact hg
    · rw [e]
      show (H.del b').get b = _
      rw [get_del_ne]
      · exact hg
      · intro e2; subst e2
        rw [hg] at h4
        cases h4
        rcases hm with hm | hm
        · exact hm h3
        · exact hm ⟨rfl, rfl⟩
  · exact h.appended hw rfl hl
end Go.Am.T
