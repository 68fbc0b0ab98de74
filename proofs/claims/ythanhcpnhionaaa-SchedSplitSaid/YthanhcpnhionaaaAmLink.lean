/- From the world's arguments to the abstract machine's, and back: what a law's row asks. Conditions: those of each theorem. -/
import Derived.Test.YthanhcpnhionaaaAmLim
import Derived.Test.YthanhcpnhionaaaAmV
import Derived.Carry
import Derived.ChangeSlices
import Derived.ProofKit
set_option linter.all false
set_option linter.unusedSimpArgs false
set_option linter.unusedVariables false
namespace Go.Am
open Go.RowKit Go.ChangeShapes

/- a block among the inputs: the world's block, from which cell on; its size; the cells -/
structure Ent where
  b : Nat
  p : Nat
  m : Nat
  cells : List Value
abbrev InL := List (Option Ent)
def inB (L : InL) : Ren := fun i => match L[i]? with | some (some e) => .live ⟨e.b, e.p, e.cells.length, e.m, 0, false⟩ | some none => .dead | none => .un
def inH (L : InL) : Heap := ⟨fun i => match L[i]? with | some (some e) => some ⟨0, 0, false, e.cells⟩ | _ => none, .nil, base0⟩
structure EntOk (W : World) (β : Ren) (e : Ent) : Prop where
  le : e.p + e.cells.length ≤ e.m
  obj : ∃ C ty fz, W.heap[e.b]? = some (.cells C ty fz) ∧ C.size = e.m ∧ LR β e.cells ((C.toList.drop e.p).take e.cells.length)

theorem inH_get (L : InL) (hL : L.length ≤ base0) (i : Nat) : (inH L).get i = match L[i]? with | some (some e) => some ⟨0, 0, false, e.cells⟩ | _ => none := by
  unfold Heap.get
  by_cases h : i < base0
  · rw [if_pos h]; rfl
  · rw [if_neg h, List.getElem?_eq_none (by omega)]
    rfl
theorem WF_in (L : InL) (hL : L.length ≤ base0) : WF (inH L) := by
  refine ⟨Nat.le_refl _, fun b hb => ?_⟩
  have hb : base0 ≤ b := hb
  rw [inH_get L hL, List.getElem?_eq_none (by omega)]

theorem HR_in {L : InL} (hL : L.length ≤ base0) {W : World} (h : ∀ (i : Nat) (e : Ent), L[i]? = some (some e) → EntOk W (inB L) e) : HR (inB L) (inH L) (fun _ => none) W.heap.size W where
  next := Nat.le_refl _
  fresh := fun i hi => by
    have hi : base0 ≤ i := hi
    unfold inB; rw [List.getElem?_eq_none (by omega)]
  disj := fun i x hx => by cases hx
  xlt := fun i x hx => by cases hx
  res := fun i hx => by cases hx
  blk := fun i x hx => by
    have hx : (inH L).get i = some x := by
      unfold getX at hx; simpa using hx
    rw [inH_get L hL] at hx
    cases hl : L[i]? with
    | none => rw [hl] at hx; cases hx
    | some o =>
      cases o with
      | none => rw [hl] at hx; cases hx
      | some e =>
        rw [hl] at hx
        cases hx
        have hi : i < L.length := by
          apply Nat.lt_of_not_le; intro hn; rw [List.getElem?_eq_none hn] at hl; cases hl
        obtain ⟨C, ty, fz, h1, h2, h3⟩ := (h i e hl).obj
        refine ⟨⟨e.b, e.p, e.cells.length, e.m, 0, false⟩, by unfold inB; rw [hl], ⟨rfl, rfl, rfl, (h i e hl).le, C, ty, fz, h1, h2, fun hb => by omega, h3⟩, ?_⟩
        rw [if_neg (by omega)]
        rcases Nat.lt_or_ge e.b W.heap.size with k | k
        · exact k
        · simp [Array.getElem?_eq_none k] at h1
  live := fun i T hT => by
    unfold inB at hT
    cases hl : L[i]? with
    | none => rw [hl] at hT; cases hT
    | some o =>
      cases o with
      | none => rw [hl] at hT; cases hT
      | some e => exact ⟨⟨0, 0, false, e.cells⟩, by unfold getX; rw [inH_get L hL, hl]; rfl⟩
  inj := fun i j T U hi hj hT _ _ => by
    unfold inB at hT; rw [List.getElem?_eq_none (by omega)] at hT; cases hT
  sz := Nat.le_refl _

/- a run of cells in the world is such a block -/
theorem ent_of {W : World} {a : Addr} {vs : List Value} (h0 : vs ≠ []) (hc : ∀ k v, vs[k]? = some v → W.cell? (a.add k) = some v) :
    a.spot = none ∧ ∃ m, ∀ (β : Ren) (us : List Value), LR β us vs → EntOk W β ⟨a.block, a.off, m, us⟩ := by
  obtain ⟨v0, vt, rfl⟩ := List.exists_cons_of_ne_nil h0
  have h1 := hc 0 v0 rfl
  have e0 : a.add 0 = a := by unfold Addr.add; rw [if_pos rfl]
  rw [e0] at h1
  have h1' := h1
  unfold World.cell? at h1
  split at h1
  case h_2 => cases h1
  rename_i C ty fz hb
  split at h1
  case isTrue => cases h1
  rename_i hs
  have hs : a.spot = none := by cases h : a.spot with | none => rfl | some q => rw [h] at hs; exact absurd rfl hs
  have hat : ∀ k v, (v0 :: vt)[k]? = some v → C[a.off + k]? = some v := by
    intro k v hv
    have := hc k v hv
    unfold World.cell? Addr.add at this
    by_cases hk : k = 0
    · subst hk; rw [if_pos rfl] at this; simp only [hb, hs, Option.isSome_none, Bool.false_eq_true, if_false] at this; exact this
    · rw [if_neg hk] at this; simp only [hb, Option.isSome_none, Bool.false_eq_true, if_false] at this; exact this
  have hlen : a.off + (v0 :: vt).length ≤ C.size := by
    have hl : (v0 :: vt).length - 1 < (v0 :: vt).length := by simp
    have := hat ((v0 :: vt).length - 1) _ (List.getElem?_eq_getElem hl)
    have := (Array.getElem?_eq_some_iff.1 this).1
    simp only [List.length_cons] at this ⊢
    omega
  refine ⟨hs, C.size, fun β us hu => ⟨?_, C, ty, fz, hb, rfl, ?_⟩⟩
  · show a.off + us.length ≤ C.size
    rw [hu.1]; exact hlen
  · have e : (C.toList.drop a.off).take us.length = v0 :: vt := by
      apply List.ext_getElem?
      intro k
      rw [List.getElem?_take, hu.1]
      split
      · rename_i hk
        rw [List.getElem?_drop]
        have := hat k _ (List.getElem?_eq_getElem hk)
        rw [List.getElem?_eq_getElem hk]
        simpa using this
      · rename_i hk
        rw [List.getElem?_eq_none (by omega)]
    show LR β us ((C.toList.drop a.off).take us.length)
    rw [e]; exact hu

/- the address of an input's block -/
theorem AR_in {L : InL} {i : Nat} {e : Ent} {a : Addr} (h : L[i]? = some (some e)) (hb : e.b = a.block) (hp : e.p = a.off) (hs : a.spot = none) : AR (inB L) ⟨i, 0, none⟩ a := by
  have hB : inB L i = .live ⟨e.b, e.p, e.cells.length, e.m, 0, false⟩ := by unfold inB; rw [h]
  refine ⟨rfl, by show inB L i ≠ _; rw [hB]; simp, fun T hT => ?_⟩
  have hT : inB L i = .live T := hT
  rw [hB] at hT
  cases hT
  obtain ⟨x, y, z⟩ := a
  simp only at hb hp hs
  subst hb hp hs
  rfl
theorem AR_dead {L : InL} {i : Nat} {a : Addr} (h : L[i]? = some none) : AR (inB L) ⟨i, 0, none⟩ a := by
  have hB : inB L i = .dead := by unfold inB; rw [h]
  refine ⟨rfl, by show inB L i ≠ _; rw [hB]; simp, fun T hT => ?_⟩
  have hT : inB L i = .live T := hT
  rw [hB] at hT; cases hT

section
variable {P : Program}
/- WHAT A RUN OF THE ABSTRACT MACHINE SAYS OF THE WORLD'S -/
theorem calls_of {f : FuncId} (hM : P.follows .mixedOrders = true) (hN : NameOk P) {L : InL} (hL : L.length ≤ base0) {W : World} (h : ∀ (i : Nat) (e : Ent), L[i]? = some (some e) → EntOk W (inB L) e) {args args' : Array Value} (ha : LR (inB L) args.toList args'.toList)
    (hc : CW P f args (inH L) fun x _ => x = .ret (.bool true)) : Calls P f args' W fun e W' => e = .returned (.bool true) ∧ Below W.heap.size W W' := by
  obtain ⟨r, H', hr, hq⟩ := hc
  subst hq
  obtain ⟨k, hk⟩ := callW_iff.1 hr
  refine (am_sound hM hN hk ha (HR_in hL h)).mono ?_
  rintro e W' ⟨β', _, _, hb, v', rfl, hv⟩
  cases hv
  exact ⟨rfl, hb⟩

/- arguments read as they did -/
theorem trodAll_below {Hd : Type} {enc : TypeId × Value → Hd} (hl : laidOutB P = true) {W W' : World} (hb : Below W.heap.size W W') {sp : Nat → Bool} : ∀ {ts : List TypeId} {vs : List Value} {ds : List (DataW Hd)} {ps : List MemPlace},
    (∀ t ∈ ts, P.readableRec t = true ∧ t < P.types.size) → DataW.TrodAll enc P W 0 (fun _ => true) true ts vs ds ps → (∀ x ∈ ps, x.block < W.heap.size) → (∀ x ∈ ps, sp x.block = true) → DataW.TrodAll enc P W' 0 sp true ts vs ds ps
  | [], [], [], _, _, h, _, _ => h
  | t :: ts, v :: vs, d :: ds, _, ht, ⟨p, q, h1, h2, e⟩, hlt, hs =>
    ⟨p, q, WideElems.Trod_stays hl (ht t (by simp)).1 (ht t (by simp)).2 h1 (fun x hx => hb.same (hlt x (by rw [e]; exact List.mem_append_left _ hx))) (fun x hx => hs x (by rw [e]; exact List.mem_append_left _ hx)),
     trodAll_below hl hb (fun t' h' => ht t' (by simp [h'])) h2 (fun x hx => hlt x (by rw [e]; exact List.mem_append_right _ hx)) (fun x hx => hs x (by rw [e]; exact List.mem_append_right _ hx)), e⟩

theorem law_post {Hd : Type} {enc : TypeId × Value → Hd} (hl : laidOutB P = true) {f : Func} {s : ChangeSpec} {apart fresh handsOn again : Bool} {W W' : World} {args : Array Value} {ds gs : List (DataW Hd)} {before : List MemPlace} {tb : TypeId}
    (hW : DataW.Whole enc P f.params.toList s.vars apart W args.toList ds gs before) (hvars : s.vars = []) (hres : (s.fn Hd (ds ++ gs)).results = [.lit (.bool true)]) (hargs : (s.fn Hd (ds ++ gs)).args = ds) (hvs : (s.fn Hd (ds ++ gs)).vars = [])
    (hpar : ∀ t ∈ f.params.toList, P.readableRec t = true ∧ t < P.types.size) (hrt : f.resultTypes = #[tb]) (htb : P.underlying tb = some .bool) (hb : Below W.heap.size W W') : s.post enc P f apart fresh handsOn again W args (.bool true) W' := by
  have hW' := hW
  obtain ⟨p, q, hA, hV, rfl, hfz, hnd⟩ := hW
  rw [hvars] at hV
  have hgs : gs = [] ∧ q = [] := by obtain ⟨h1, h2⟩ := trodVars_none hV; exact ⟨h1, h2⟩
  obtain ⟨rfl, rfl⟩ := hgs
  have hlt : ∀ x ∈ p ++ [], x.block < W.heap.size := fun x hx => hW'.lt x hx
  have hok : ∀ (j : Nat) (t : TypeId) (r : Value), f.resultTypes[j]? = some t → ((Value.bool true).resultList f.resultTypes.size)[j]? = some r → Value.okWide P W' .any 0 t r := ok_one hrt rfl (okWide_bool_mk htb true)
  have hr : ∀ (b : Nat) (sp : Nat → Bool) (hd : Bool), DataW.TrodAll enc P W' b sp hd f.resultTypes.toList ((Value.bool true).resultList f.resultTypes.size) (s.fn Hd (ds ++ [])).results [] := by
    intro b sp hd
    rw [hres, hrt]
    exact trodAll_mk1 (shut_bool htb true)
  have ha : ∀ sp : Nat → Bool, (∀ x ∈ p, sp x.block = true) → DataW.TrodAll enc P W' 0 sp true f.params.toList args.toList (s.fn Hd (ds ++ [])).args p := by
    intro sp hsp
    rw [hargs]
    exact trodAll_below hl hb hpar hA (fun x hx => hlt x (by simpa using hx)) hsp
  have hv : ∀ sp : Nat → Bool, DataW.TrodVars enc P W' sp s.vars (s.fn Hd (ds ++ [])).vars [] := by
    intro sp
    rw [hvars, hvs]
    exact hV
  have hold : ∀ x ∈ p, (fun b => decide (b < W.heap.size)) x.block = true := fun x hx => by simpa using hlt x (by simpa using hx)
  refine ⟨ds, [], p ++ [], [], p, [], hW', hr _ _ _, ha _ hold, hv _, World.keptBut_mono (fun x hx => ⟨hx, .inr (by simpa using hx)⟩) (hb.frame (· ∈ p ++ [])), fun _ => ⟨hok, _, _, ([] ++ p) ++ [], ⟨[] ++ p, [], trodAll_append (ha _ (fun _ _ => rfl)) (hr _ _ _), hv _, rfl, ?_, ?_⟩, ?_⟩⟩
  · intro b off hx
    have hin : MemPlace.cell b off ∈ p ++ [] := by simpa using hx
    rw [hb.frozen (hlt _ hin)]
    exact hfz b off hin
  · intro hap
    simpa using hnd hap
  · intro x hx _
    simpa using hx
end
end Go.Am
