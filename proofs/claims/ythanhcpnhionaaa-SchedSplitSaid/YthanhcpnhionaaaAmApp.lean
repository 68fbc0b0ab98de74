/- The world's runs of append and copy beside the abstract machine's. Conditions: those of each theorem. -/
import Derived.Test.YthanhcpnhionaaaAmOps2
set_option linter.all false
set_option linter.unusedSimpArgs false
set_option linter.unusedVariables false
namespace Go.Am
open Go.RowKit

section
variable {P : Program} {β : Ren} {H : Heap} {X : XF} {base : Nat} {w : World}

theorem run_lengthA {x x' : Value} {n : Nat} (h : lengthA x = some n) (hx : VR β x x') (w : World) : (Builtin.lenOf x').run P w = .ok n w := by
  unfold lengthA at h
  cases hx <;> simp at h <;> subst h <;> simp [Builtin.lenOf]

theorem LR.self {l : List Value} (h : ∀ u, u ∈ l → VR β u u) : LR β l l :=
  ⟨rfl, fun i u u' hu hu' => by rw [hu] at hu'; cases hu'; exact h u (List.mem_of_getElem? hu)⟩

theorem run_firstA (hr : HR β H X base w) {size n : Nat} {x x' : Value} {news : List Value} (h : firstA H size n x = some news) (hx : VR β x x')
    (hn : ∀ a l c, x = .slice a l c → n ≤ l) (hs : ∀ s, x = .string s → n ≤ s.size) :
    ∃ news', (Builtin.firstCells size n x').run P w = .ok news'.toArray w ∧ LR β news news' ∧ news.length = n * size := by
  cases hx with
  | nils l c hc =>
    simp only [firstA] at h
    split at h
    case isFalse => cases h
    rename_i h0
    cases h
    subst h0
    exact ⟨[], by simp [Builtin.firstCells], .nil β, by simp⟩
  | sl l c hc hl ha =>
    simp only [firstA] at h
    split at h
    · rename_i h0
      cases h
      subst h0
      exact ⟨[], by simp [Builtin.firstCells, loadCells, loadCellsFrom], .nil β, by simp⟩
    · split at h
      · cases h
      rename_i hc0
      obtain ⟨l', e, r⟩ := run_loads (P := P) hr h (ha.resolve_left hc0)
      refine ⟨l', by simp [Builtin.firstCells, e], r, ?_⟩
      obtain ⟨_, x, _, hle, rfl⟩ := loads_some h
      simp; omega
  | op l c hl hs0 hu ha =>
    rename_i a a'
    simp only [firstA] at h
    split at h
    · rename_i h0
      cases h
      subst h0
      exact ⟨[], by simp [Builtin.firstCells, loadCells, loadCellsFrom], .nil β, by simp⟩
    · rename_i hn0
      split at h
      · cases h
      have hnl := hn _ _ _ rfl
      have hA : AR β a a' := ⟨hs0, hu, fun T hT => (ha T hT).2.2.resolve_left (by omega)⟩
      obtain ⟨l', e, r⟩ := run_loads (P := P) hr h hA
      refine ⟨l', by simp [Builtin.firstCells, e], r, ?_⟩
      obtain ⟨_, x, _, hle, rfl⟩ := loads_some h
      simp; omega
  | string s =>
    simp only [firstA] at h
    split at h
    case isFalse => cases h
    rename_i h1
    cases h
    subst h1
    refine ⟨((s.extract 0 n).data.toList.map fun b => .int .u8 b.toNat), ?_, ?_, ?_⟩
    · show Result.ok ((s.extract 0 n).data.map fun b => Value.int .u8 b.toNat) w = _
      congr 1
      apply Array.ext'
      simp
    · refine LR.self fun u hu => ?_
      obtain ⟨b, _, rfl⟩ := List.mem_map.1 hu
      exact .int _ _
    · have := hs s rfl
      rw [List.length_map, Array.length_toList, ByteArray.size_data, ByteArray.size_extract]
      omega
  | _ => simp [firstA] at h


/- what append comes to where there is room -/
set_option maxHeartbeats 4000000 in
theorem run_append_fits {ts : Array TypeId} {sT xT elem ty : TypeId} {d2 : TypeDesc} {i : TypeInfo} {b' : Option Addr} {len cap n : Nat} {x' : Value} {news : List Value}
    (h0 : ts[0]? = some sT) (h1 : ts[1]? = some xT) (hs : P.underlying sT = some (.slice elem)) (hx : P.underlying xT = some d2) (hd : ∀ k, d2 ≠ .int k) (hi : P.info? elem = some i)
    (hl : ∀ w, (Builtin.lenOf x').run P w = .ok n w) (hf : (Builtin.firstCells i.size n x').run P w = .ok news.toArray w) (hle : len + n ≤ cap) :
    (Builtin.append_ ts ty #[.slice b' len cap, x']).run P w =
      match b' with
      | some a => ((storeCells (a.add (len * i.size)) news).run P w).andThen fun _ w => .ok (.slice b' (len + n) cap) w
      | none => .ok (.slice b' (len + n) cap) w := by
  have hsz : ∀ w, (sizeOf elem).run P w = .ok i.size w := run_sizeOf (show szA P elem = some i.size by simp [szA, hi])
  have e0 : (#[Value.slice b' len cap, x'] : Array Value)[0]? = some (Value.slice b' len cap) := rfl
  have e1 : (#[Value.slice b' len cap, x'] : Array Value)[1]? = some x' := rfl
  unfold Builtin.append_
  rw [h0, h1, e0, e1]
  simp only [Sem.run_bind, run_underlying hs, run_underlying hx, Result.andThen_ok, hsz, Sem.run_pure]
  cases d2
  case int => exact absurd rfl (hd _)
  all_goals
    simp only [Bool.false_eq_true, if_false, hl, Sem.run_bind, Result.andThen_ok, hle, if_true, Bool.not_false, hf]
    cases b' <;> simp only [Sem.run_bind, Sem.run_pure]

/- what append comes to where there is none -/
set_option maxHeartbeats 4000000 in
theorem run_append_grows {ts : Array TypeId} {sT xT elem ty : TypeId} {d2 : TypeDesc} {i : TypeInfo} {z : Value} {b' : Option Addr} {len cap n : Nat} {x' : Value} {news olds : List Value}
    (h0 : ts[0]? = some sT) (h1 : ts[1]? = some xT) (hs : P.underlying sT = some (.slice elem)) (hx : P.underlying xT = some d2) (hd : ∀ k, d2 ≠ .int k) (hi : P.info? elem = some i) (hz : i.zero = some z)
    (hl : ∀ w, (Builtin.lenOf x').run P w = .ok n w) (hf : (Builtin.firstCells i.size n x').run P w.drew = .ok news.toArray w.drew)
    (ho : (Builtin.firstCells i.size len (.slice b' len cap)).run P w.drew = .ok olds.toArray w.drew) (hle : ¬ len + n ≤ cap)
    (hb : 4 * (len + n) * i.bytes + 4096 ≤ 2 ^ 47) (hn : len + n ≤ 2 ^ 47) :
    (Builtin.append_ ts ty #[.slice b' len cap, x']).run P w =
      .ok (.slice (some ⟨w.heap.size, 0, none⟩) (len + n) (grownCap w (len + n) cap elem))
        (w.drew.alloc (.cells (olds.toArray ++ news.toArray ++ Builtin.zeroCells z.cells (grownCap w (len + n) cap elem - (len + n))) elem)) := by
  have hsz : ∀ w, (sizeOf elem).run P w = .ok i.size w := run_sizeOf (show szA P elem = some i.size by simp [szA, hi])
  have hti : ∀ w, (typeInfo elem).run P w = .ok i w := run_typeInfo hi
  have hzv : ∀ w, (zeroValue elem).run P w = .ok z w := fun w => by simp [zeroValue, hti, hz]
  have e0 : (#[Value.slice b' len cap, x'] : Array Value)[0]? = some (Value.slice b' len cap) := rfl
  have e1 : (#[Value.slice b' len cap, x'] : Array Value)[1]? = some x' := rfl
  have g1 : ¬ (((len + n : Nat) : Int) > IntKind.i64.max ∧ (False ∨ i.bytes = 0)) := by
    rw [IntKind.max_i64]; omega
  have g2 : ¬ (Builtin.nextslicecap (len + n) cap * i.bytes > 2 ^ 48) := by
    have := growslice_fits (need := len + n) (old := cap) (bytes := i.bytes) (by omega) (by
      have : (len + n) * i.bytes ≤ 4 * (len + n) * i.bytes := Nat.mul_le_mul_right _ (by omega)
      omega)
    omega
  have hch : (choose (Question.appendCap (len + n) cap elem)).run P w = .ok (grownCap w (len + n) cap elem) w.drew := by
    simp [Question.forced, grownCap]
  unfold Builtin.append_
  rw [h0, h1, e0, e1]
  simp only [Sem.run_bind, run_underlying hs, run_underlying hx, Result.andThen_ok, hsz, Sem.run_pure]
  cases d2
  case int => exact absurd rfl (hd _)
  all_goals
    simp only [Bool.false_eq_true, if_false, hl, Sem.run_bind, Result.andThen_ok, hle, hti, g1, g2, hch, run_askRoom, ho, Bool.not_false, if_true, hf, hzv, newRow, run_newObj, Sem.run_pure, World.size_drew]
    rfl

theorem grownCap_size (need old : Nat) (e : TypeId) (w : World) : need ≤ grownCap w need old e := grownCap_ge w need old e

theorem appendA_sound (hr : HR β H X base w) {ts : Array TypeId} {sT xT ty : TypeId} {s x s' x' v : Value} {H' : Heap} (h0 : ts[0]? = some sT) (h1 : ts[1]? = some xT)
    (h : appendA P H sT xT s x = some (v, H')) (hs : VR β s s') (hx : VR β x x') :
    ∃ β' v' w', (Builtin.append_ ts ty #[s', x']).run P w = .ok v' w' ∧ Le β β' ∧ VR β' v v' ∧ HR β' H' X base w' ∧ Below base w w' := by
  unfold appendA at h
  obtain ⟨d1, hd1, k1⟩ := bind_some h
  obtain ⟨d2, hd2, k2⟩ := bind_some k1
  have hint : ∀ k, d2 ≠ .int k := by
    intro k e
    subst e
    cases d1 <;> first | (cases k2; done) | (cases s <;> cases k2)
  have k3 : ∃ elem b len cap, d1 = .slice elem ∧ s = .slice b len cap := by
    cases d1 with
    | slice elem => cases s with
      | slice b len cap => exact ⟨elem, b, len, cap, rfl, rfl⟩
      | _ => cases d2 <;> cases k2
    | _ => cases d2 <;> first | (cases k2; done) | (cases s <;> cases k2)
  obtain ⟨elem, b, len, cap, rfl, rfl⟩ := k3
  have k4 : (do
    let i ← P.info? elem
    let size := i.size
    let z ← zeroA P elem
    if size = 0 || z.cells.size ≠ size then none else
    let n ← lengthA x
    let need := len + n
    let news ← firstA H size n x
    if cap ≠ openCap then
      if need ≤ cap then
        match b with
        | none => if n = 0 then some (Value.slice none need cap, H) else none
        | some a => if n = 0 then some (.slice (some a) need cap, H) else (H.stores ⟨a.block, a.off + len * size, a.spot⟩ news).map fun H => (.slice (some a) need cap, H)
      else
        if 4 * need * i.bytes + 4096 > 2 ^ 47 || need > 2 ^ 47 then none else
        let olds ← firstA H size len (.slice b len cap)
        some (.slice (some ⟨H.next, 0, none⟩) need openCap, H.alloc ⟨elem, size, true, olds ++ news⟩)
    else
      match b with
      | none => none
      | some a =>
        if a.spot.isSome || a.block < base0 then none else
        let x ← H.get a.block
        if x.es ≠ size || !x.opn then none else
        if n = 0 then some (.slice (some a) need cap, H)
        else if a.off + need * size ≤ x.cells.length then (H.stores ⟨a.block, a.off + len * size, none⟩ news).map fun H => (.slice (some a) need cap, H)
        else if a.off + len * size ≠ x.cells.length || !news.all Heap.oneC then none
        else if 4 * need * i.bytes + 4096 > 2 ^ 47 || need > 2 ^ 47 then none
        else some (.slice (some ⟨H.next, 0, none⟩) need openCap, (H.del a.block).alloc ⟨elem, size, true, x.cells.drop a.off ++ news⟩)) = some (v, H') := by
    cases d2 <;> first | exact absurd rfl (hint _) | exact k2
  clear k1 k2 h
  obtain ⟨i, hi, k5⟩ := bind_some k4
  obtain ⟨z, hz, k6⟩ := bind_some k5
  clear k4 k5
  split at k6
  · cases k6
  rename_i hsz0
  obtain ⟨n, hn, k7⟩ := bind_some k6
  obtain ⟨news, hnews, k8⟩ := bind_some k7
  clear k6 k7
  have hsize : i.size ≠ 0 := by intro e; simp [e] at hsz0
  have hlen := fun w => run_lengthA (P := P) hn hx w
  have hzi : i.zero = some z := by
    unfold zeroA at hz
    obtain ⟨z', hz', k⟩ := bind_some hz
    rw [hi] at hz'
    split at k
    · cases k; exact hz'
    · cases k
  have hnb : (∀ a l c, x = .slice a l c → n ≤ l) ∧ (∀ s, x = .string s → n ≤ s.size) := by
    constructor
    · intro a l c e; subst e; simp [lengthA] at hn; omega
    · intro s e; subst e; simp [lengthA] at hn; omega
  obtain ⟨news', en, rn, ln⟩ := run_firstA (P := P) hr hnews hx hnb.1 hnb.2
  obtain ⟨news2, en2, rn2, _⟩ := run_firstA (P := P) hr.drew hnews hx hnb.1 hnb.2
  have hgrow : ∀ (b' : Option Addr) (c' : Nat) (olds olds' : List Value) (H1 : Heap) (β1 : Ren), s' = .slice b' len c' →
      (Builtin.firstCells i.size len (.slice b' len c')).run P w.drew = .ok olds'.toArray w.drew → LR β olds olds' → olds.length = len * i.size → ¬ len + n ≤ c' →
      4 * (len + n) * i.bytes + 4096 ≤ 2 ^ 47 → len + n ≤ 2 ^ 47 → Le β β1 → HR β1 H1 X base w → H1.next = H.next →
      ∃ β' v' w', (Builtin.append_ ts ty #[s', x']).run P w = .ok v' w' ∧ Le β β' ∧ VR β' (.slice (some ⟨H.next, 0, none⟩) (len + n) openCap) v' ∧
        HR β' (H1.alloc ⟨elem, i.size, true, olds ++ news⟩) X base w' ∧ Below base w w' := by
    intro b' c' olds olds' H1 β1 es eo ro lo hle hb1 hb2 hle1 hr1 hnx
    subst es
    have hrun := run_append_grows (ty := ty) (w := w) h0 h1 hd1 hd2 hint hi hzi hlen en2 eo hle hb1 hb2
    have hcap := grownCap_size (len + n) c' elem w
    have hun : β1 H.next = .un := hr1.fresh _ (by omega)
    have hXn : X H.next = none := hr.xnext (Nat.le_refl _)
    have hzs : z.cells.size = i.size := by simp at hsz0; exact hsz0.2
    have hnl : news2.length = n * i.size := by rw [← rn2.1]; exact ln
    have hol : olds'.length = len * i.size := by rw [← ro.1]; exact lo
    have hCs : (olds'.toArray ++ news2.toArray ++ Builtin.zeroCells z.cells (grownCap w (len + n) c' elem - (len + n))).size = grownCap w (len + n) c' elem * i.size := by
      simp [size_zeroCells, hzs, hnl, hol]
      rw [← Nat.add_mul, ← Nat.add_mul]
      congr 1
      omega
    have hgA : ∀ j, (H1.alloc ⟨elem, i.size, true, olds ++ news⟩).get j = if j = H.next then some ⟨elem, i.size, true, olds ++ news⟩ else H1.get j := fun j => by rw [Heap.get_alloc hr1.next, hnx]
    have hadd := hr1.drew.add (H' := H1.alloc ⟨elem, i.size, true, olds ++ news⟩) (X' := X) H.next ⟨elem, i.size, true, olds ++ news⟩ (olds'.toArray ++ news2.toArray ++ Builtin.zeroCells z.cells (grownCap w (len + n) c' elem - (len + n))) elem
      hr.next hun (by simp [hnx]) (by simp) (getX_new hgA) (hr1.dnew (by simp) hgA hXn) (fun j hj => ⟨(by intro e; subst e; rw [hXn] at hj; cases hj), hj⟩) (by
        rw [hCs]
        simp [lo, ln]
        rw [← Nat.add_mul]
        exact Nat.mul_le_mul_right _ hcap) (by
        have e : ((olds'.toArray ++ news2.toArray ++ Builtin.zeroCells z.cells (grownCap w (len + n) c' elem - (len + n))).toList.take (olds ++ news).length) = olds' ++ news2 := by
          have hl2 : (olds ++ news).length = (olds' ++ news2).length := by simp [ro.1, rn2.1]
          rw [hl2]
          simp only [Array.toList_append]
          exact List.take_left' rfl
        rw [e]
        exact (ro.mono hle1).append (rn2.mono hle1))
    refine ⟨_, _, _, hrun, hle1.trans hadd.1, ?_, hadd.2, ?_⟩
    · refine .op _ _ hcap rfl (by simp) fun T hT => ?_
      simp only [upd_self, Stat.live.injEq] at hT
      subst hT
      refine ⟨rfl, ?_, .inr rfl⟩
      simp only [hCs]
      omega
    · exact ((Below.refl base w).drew).alloc (by have := hr.sz; simpa using this) _
  by_cases hc : cap = openCap
  · -- an open one
    subst hc
    simp only [ne_eq, not_true_eq_false, if_false] at k8
    cases b with
    | none => cases k8
    | some a =>
      simp only at k8
      split at k8
      · cases k8
      rename_i hab
      have hsp : a.spot = none := by
        cases h : a.spot <;> simp_all
      have hb0 : base0 ≤ a.block := by
        simp only [Bool.or_eq_true, not_or, decide_eq_true_eq] at hab
        omega
      obtain ⟨y, hy, k9⟩ := bind_some k8
      split at k9
      · cases k9
      rename_i hyo
      have hye : y.es = i.size ∧ y.opn = true := by
        simp only [Bool.or_eq_true, not_or, decide_eq_true_eq, Decidable.not_not, Bool.not_eq_true', Bool.not_eq_false] at hyo
        exact hyo
      obtain ⟨T, hT, hB, hbb⟩ := hr.mem hy
      rw [if_pos hb0] at hbb
      have hTes : T.es = i.size := by rw [hB.es, hye.1]
      have hTn := hB.n
      have hTle := hB.le
      cases hs with
      | sl l c hc hl ha => exact absurd hc (Nat.lt_irrefl _)
      | op l c hl hs0 hu ha =>
        rename_i a'
        obtain ⟨hopn, hcap, hadr⟩ := ha T hT
        rw [hTes] at hcap
        split at k9
        · -- nothing to append
          rename_i hn0
          cases k9
          subst hn0
          refine ⟨β, .slice (some a') (len + 0) c, w, ?_, Le.refl β, ?_, hr, Below.refl _ _⟩
          · have hnil : news' = [] := List.length_eq_zero_iff.1 (by rw [← rn.1, ln]; simp)
            rw [run_append_fits h0 h1 hd1 hd2 hint hi hlen en (by omega), hnil]
            simp [storeCells]
          · exact .op _ _ (by omega) hs0 hu fun U hU => by rw [hT] at hU; cases hU; exact ⟨hopn, by rw [hTes]; exact hcap, hadr⟩
        rename_i hn0
        split at k9
        · -- over cells that are there
          rename_i hin
          obtain ⟨H2, hst, e2⟩ := map_some k9
          cases e2
          have hneed : len + n ≤ c := by
            have : (len + n) * i.size ≤ c * i.size := by omega
            exact Nat.le_of_mul_le_mul_right this (by omega)
          have ea : a' = ⟨T.b, T.p + a.off, none⟩ := hadr.resolve_left (by omega)
          obtain ⟨w', e3, r3, b3, _⟩ := run_stores (P := P) hr hst (a' := a'.add (len * i.size)) ⟨rfl, hu, fun U hU => by rw [hT] at hU; cases hU; rw [ea, Addr.add_lit, Nat.add_assoc]⟩ rn
          refine ⟨β, .slice (some a') (len + n) c, w', ?_, Le.refl β, ?_, r3, b3⟩
          · rw [run_append_fits h0 h1 hd1 hd2 hint hi hlen en hneed]
            simp [e3]
          · exact .op _ _ hneed hs0 hu fun U hU => by rw [hT] at hU; cases hU; exact ⟨hopn, by rw [hTes]; exact hcap, hadr⟩
        split at k9
        · cases k9
        rename_i hend
        have hend' : a.off + len * i.size = y.cells.length ∧ news.all Heap.oneC = true := by
          simp only [Bool.or_eq_true, not_or, decide_eq_true_eq, Decidable.not_not, Bool.not_eq_true', Bool.not_eq_false] at hend
          exact hend
        obtain ⟨hend', hone⟩ := hend'
        split at k9
        · cases k9
        rename_i hbd
        have hbd' : 4 * (len + n) * i.bytes + 4096 ≤ 2 ^ 47 ∧ len + n ≤ 2 ^ 47 := by
          simp only [Bool.or_eq_true, not_or, decide_eq_true_eq] at hbd
          omega
        cases k9
        have hnx : a.block < H.next := by
          rcases Nat.lt_or_ge a.block H.next with k | k
          · exact k
          · have := hr.fresh _ k; rw [hT] at this; cases this
        have hXa : X a.block = none := by
          cases hX : X a.block with
          | none => rfl
          | some q => have := hr.disj _ _ hX; rw [hy] at this; cases this
        have hkill := hr.kill (H' := H.del a.block) a.block hb0 hnx hXa (by simp) (fun j => Heap.get_del hb0)
        have hdl : (y.cells.drop a.off).length = len * i.size := by simp; omega
        by_cases hneed : len + n ≤ c
        · -- the row has room
          have ea : a' = ⟨T.b, T.p + a.off, none⟩ := hadr.resolve_left (by omega)
          obtain ⟨C, cty, fz, o1, o2, o3, o4⟩ := hB.obj
          have ofz : fz = (0, 0) := o3 hb0
          subst ofz
          have hall : ∀ v ∈ news', v.oneCell' = true := by
            intro u hu'
            obtain ⟨j, hj, rfl⟩ := List.getElem_of_mem hu'
            have hj0 : j < news.length := by have := rn.1; omega
            have hrj := rn.2 j news[j] news'[j] (by simp [hj0]) (by simp [hj])
            exact hrj.oneC (List.all_eq_true.1 hone _ (List.getElem_mem hj0))
          have hnl : news'.length = n * i.size := by rw [← rn.1]; exact ln
          have hfit : T.p + y.cells.length + n * i.size ≤ C.size := by
            have : (len + n) * i.size ≤ c * i.size := Nat.mul_le_mul_right _ hneed
            rw [Nat.add_mul] at this
            omega
          have hst := run_storeCells_at (P := P) T.b (T.p + y.cells.length) cty news' 0 C w o1 (by omega) hall
          have ead : a'.add (len * i.size) = ⟨T.b, T.p + y.cells.length, none⟩ := by rw [ea, Addr.add_lit]; congr 1; omega
          rw [← ead] at hst
          simp only [Nat.add_zero] at hst
          have hfree : ∀ j U, upd β a.block .dead j = .live U → U.b ≠ T.b := by
            intro j U hU hb
            by_cases e : j = a.block
            · subst e; rw [upd_self] at hU; cases hU
            · rw [upd_ne _ _ e] at hU
              by_cases hj : base0 ≤ j
              · exact e (hr.inj j a.block U T hj hb0 hU hT hb)
              · obtain ⟨q, hq⟩ := hr.live j U hU
                obtain ⟨U', u1, _, u3⟩ := hr.blk j q hq
                rw [hU] at u1
                cases u1
                rw [if_neg hj] at u3
                omega
          have hkw := hkill.world (w' := w.setRow T.b (C.toList.take (T.p + y.cells.length) ++ news' ++ C.toList.drop (T.p + y.cells.length + news'.length)).toArray)
            (fun j U hU => setRow_other w T.b U.b _ (hfree j U hU)) (by simp)
          have hXn : X H.next = none := hr.xnext (Nat.le_refl _)
          have hun : upd β a.block .dead H.next = .un := hkill.fresh _ (by simp)
          have hCs : (C.toList.take (T.p + y.cells.length) ++ news' ++ C.toList.drop (T.p + y.cells.length + news'.length)).toArray.size = T.m := by simp; omega
          obtain ⟨hle2, hr2⟩ := hkw.reuse (H' := (H.del a.block).alloc ⟨elem, i.size, true, y.cells.drop a.off ++ news⟩) H.next ⟨elem, i.size, true, y.cells.drop a.off ++ news⟩
            ⟨T.b, T.p + a.off, (y.cells.drop a.off ++ news).length, T.m, i.size, true⟩ _ cty hr.next hun (by simp) (by simp)
            (fun j => by rw [Heap.get_alloc (by simpa using hr.next)]; simp) hXn (fun j U _ hU => hfree j U hU) hbb (setRow_heap w T.b C _ cty (0, 0) o1) hCs rfl rfl rfl
            (by simp [ln]; omega) (by
              have e : ((((C.toList.take (T.p + y.cells.length) ++ news' ++ C.toList.drop (T.p + y.cells.length + news'.length)).toArray).toList.drop (T.p + a.off)).take (y.cells.drop a.off ++ news).length)
                  = (((C.toList.drop T.p).take T.n).drop a.off) ++ news' := by
                have hl3 : (y.cells.drop a.off ++ news).length = (((C.toList.drop T.p).take T.n).drop a.off ++ news').length := by simp [rn.1]; omega
                rw [hl3]
                have e1 : (C.toList.take (T.p + y.cells.length) ++ news' ++ C.toList.drop (T.p + y.cells.length + news'.length)).drop (T.p + a.off)
                    = (((C.toList.drop T.p).take T.n).drop a.off ++ news') ++ C.toList.drop (T.p + y.cells.length + news'.length) := by
                  rw [List.append_assoc, List.drop_append_of_le_length (by simp; omega), ← List.append_assoc]
                  congr 2
                  rw [List.drop_take, List.drop_take, List.drop_drop]
                  congr 1
                  omega
                show ((C.toList.take (T.p + y.cells.length) ++ news' ++ C.toList.drop (T.p + y.cells.length + news'.length)).drop (T.p + a.off)).take _ = _
                rw [e1]
                exact List.take_left' rfl
              rw [e]
              exact ((o4.drop a.off).mono (Le.kill _ _)).append (rn.mono (Le.kill _ _)))
          refine ⟨_, .slice (some a') (len + n) c, _, ?_, (Le.kill β a.block).trans hle2, ?_, hr2, below_setRow (Below.refl _ _) hbb _⟩
          · rw [run_append_fits h0 h1 hd1 hd2 hint hi hlen en hneed]
            simp only [hst, Result.andThen_ok]
          · refine .op _ _ hneed rfl (by simp) fun U hU => ?_
            simp only [upd_self, Stat.live.injEq] at hU
            subst hU
            exact ⟨rfl, by simp only; omega, .inr (by simpa using ea)⟩
        · -- it has not
          have hfo : ∃ olds', (Builtin.firstCells i.size len (.slice (some a') len c)).run P w.drew = .ok olds'.toArray w.drew ∧ LR β (y.cells.drop a.off) olds' := by
            by_cases hl0 : len = 0
            · subst hl0
              refine ⟨[], by simp [Builtin.firstCells, loadCells, loadCellsFrom], ?_⟩
              have : y.cells.drop a.off = [] := List.length_eq_zero_iff.1 (by rw [hdl]; simp)
              rw [this]; exact .nil β
            · have hA : AR β a a' := ⟨hs0, hu, fun U hU => by rw [hT] at hU; cases hU; exact hadr.resolve_left (by omega)⟩
              have hld : H.loads a (len * i.size) = some (y.cells.drop a.off) := by
                have e0 : H.loads a (len * i.size) = (H.get a.block >>= fun q => if a.off + len * i.size ≤ q.cells.length then some ((q.cells.drop a.off).take (len * i.size)) else none) := by
                  unfold Heap.loads
                  simp [hsp]
                rw [e0, hy]
                show (if a.off + len * i.size ≤ y.cells.length then some ((y.cells.drop a.off).take (len * i.size)) else none) = _
                rw [if_pos (by omega), List.take_of_length_le (by omega)]
              obtain ⟨l', e, r⟩ := run_loads (P := P) hr.drew hld hA
              exact ⟨l', by simp [Builtin.firstCells, e], r⟩
          obtain ⟨olds', e4, r4⟩ := hfo
          exact hgrow (some a') c _ olds' (H.del a.block) _ rfl e4 r4 hdl hneed hbd'.1 hbd'.2 (Le.kill _ _) hkill (by simp)
  · simp only [ne_eq, hc, not_false_eq_true, if_true] at k8
    have hs2 : ∃ b', s' = .slice b' len cap ∧ cap < openCap ∧ (b = none → b' = none) ∧ (∀ a, b = some a → ∃ a', b' = some a' ∧ len ≤ cap ∧ (cap = 0 ∨ AR β a a')) := by
      cases hs with
      | nils l c hcc => exact ⟨none, rfl, hcc, fun _ => rfl, fun a e => by cases e⟩
      | sl l c hcc hl ha => exact ⟨_, rfl, hcc, fun e => (by cases e), fun a e => by cases e; exact ⟨_, rfl, hl, ha⟩⟩
      | op l c hl hs0 hu ha => exact absurd rfl hc
    obtain ⟨b', rfl, hcc, hbn, hbs⟩ := hs2
    split at k8
    · rename_i hneed
      cases b with
      | none =>
        obtain rfl := hbn rfl
        simp only at k8
        split at k8
        case isFalse => cases k8
        rename_i hn0
        cases k8
        exact ⟨β, _, w, by rw [run_append_fits h0 h1 hd1 hd2 hint hi hlen en hneed], Le.refl β, .nils _ _ hcc, hr, Below.refl _ _⟩
      | some a =>
        obtain ⟨a', rfl, hl, ha⟩ := hbs a rfl
        simp only at k8
        split at k8
        · rename_i hn0
          cases k8
          subst hn0
          have hnil : news' = [] := List.length_eq_zero_iff.1 (by rw [← rn.1, ln]; simp)
          refine ⟨β, .slice (some a') (len + 0) cap, w, ?_, Le.refl β, .sl _ _ hcc (by omega) ha, hr, Below.refl _ _⟩
          rw [run_append_fits h0 h1 hd1 hd2 hint hi hlen en hneed, hnil]
          simp [storeCells]
        · rename_i hn0
          obtain ⟨H2, hst, e2⟩ := map_some k8
          cases e2
          have hA := ha.resolve_left (by omega)
          obtain ⟨w', e3, r3, b3, _⟩ := run_stores (P := P) hr hst (a' := a'.add (len * i.size)) ⟨hA.1, hA.2.1, fun U hU => by rw [hA.2.2 U hU, Addr.add_lit, Nat.add_assoc]⟩ rn
          refine ⟨β, .slice (some a') (len + n) cap, w', ?_, Le.refl β, .sl _ _ hcc hneed ha, r3, b3⟩
          rw [run_append_fits h0 h1 hd1 hd2 hint hi hlen en hneed]
          simp [e3]
    · rename_i hneed
      split at k8
      · cases k8
      rename_i hbd
      have hbd' : 4 * (len + n) * i.bytes + 4096 ≤ 2 ^ 47 ∧ len + n ≤ 2 ^ 47 := by
        simp only [Bool.or_eq_true, not_or, decide_eq_true_eq] at hbd
        omega
      obtain ⟨olds, ho, k9⟩ := bind_some k8
      cases k9
      obtain ⟨olds', e4, r4, l4⟩ := run_firstA (P := P) hr.drew ho hs (fun a l c e => by cases e; omega) (fun s e => by cases e)
      exact hgrow b' cap _ olds' H β rfl e4 r4 l4 hneed hbd'.1 hbd'.2 (Le.refl β) hr rfl

end
end Go.Am
