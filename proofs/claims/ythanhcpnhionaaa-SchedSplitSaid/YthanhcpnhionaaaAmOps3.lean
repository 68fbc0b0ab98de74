/- The world's runs of comparisons, conversions, interface values, append, copy beside the abstract machine's. Conditions: those of each theorem. -/
import Derived.Test.YthanhcpnhionaaaAmOps2
set_option linter.all false
set_option linter.unusedSimpArgs false
set_option linter.unusedVariables false
namespace Go.Am
open Go.RowKit

section
variable {P : Program} {β : Ren} {H : Heap} {X : XF} {base : Nat} {w : World}

theorem run_intOpA {op : BinOp} {k : IntKind} {x y : Int} {r : Value} (h : intOpA op k x y = some r) (t : TypeId) (w : World) :
    (binOp op t (.int k x) (.int k y)).run P w = .ok r w ∧ VR β r r := by
  unfold intOpA at h
  cases op with
  | quo =>
    simp only at h
    split at h
    · cases h
    · rename_i hy; cases h; exact ⟨by simp [binOp_quo, Op.intDiv, hy], .int _ _⟩
  | rem =>
    simp only at h
    split at h
    · cases h
    · rename_i hy; cases h; exact ⟨by simp [binOp_rem, Op.intDiv, hy], .int _ _⟩
  | add => cases h; exact ⟨by simp [binOp_add, Op.intArith], .int _ _⟩
  | sub => cases h; exact ⟨by simp [binOp_sub, Op.intArith], .int _ _⟩
  | mul => cases h; exact ⟨by simp [binOp_mul, Op.intArith], .int _ _⟩
  | eql => cases h; exact ⟨by simp [binOp_eql], .bool _⟩
  | neq => cases h; exact ⟨by simp [binOp_neq], .bool _⟩
  | lss => cases h; exact ⟨by simp [binOp_lss], .bool _⟩
  | leq => cases h; exact ⟨by simp [binOp_leq], .bool _⟩
  | gtr => cases h; exact ⟨by simp [binOp_gtr], .bool _⟩
  | geq => cases h; exact ⟨by simp [binOp_geq], .bool _⟩
  | _ => cases h

theorem run_leafEqA {t : TypeId} {x y x' y' : Value} {b : Bool} (h : leafEqA (P.underlying t) x y = some b) (hx : VR β x x') (hy : VR β y y') (d : Nat) (w : World) :
    (Op.equalIn (d + 1) t x' y').run P w = .ok b w ∧ aggA P t = some false := by
  unfold leafEqA at h
  split at h
  · rename_i q k n k' n' hu
    cases hx; cases hy
    split at h
    case isFalse => cases h
    rename_i hk
    subst hk
    cases h
    exact ⟨run_equalIn_int w d t k q n n' hu, by simp [aggA, hu]⟩
  · rename_i p q hu
    cases hx; cases hy
    cases h
    exact ⟨run_equalIn_bool w d t p q hu, by simp [aggA, hu]⟩
  · rename_i p q hu
    cases hx; cases hy
    cases h
    exact ⟨by rw [run_equalIn_string w d t p q hu, beq_toListBytes], by simp [aggA, hu]⟩
  · cases h

/- fields of plain kinds -/
theorem run_eqFieldsA (d : Nat) (x x' y y' : Array Value) (w : World) : ∀ (fs : List Field) (k : Nat) (cs ds : List Value) (b : Bool), x.toList.drop k = cs → y.toList.drop k = ds →
    (fs.zipIdx k).all (fun (f, i) => plainField i f) = true → LR β x.toList x'.toList → LR β y.toList y'.toList → eqFieldsA P fs cs ds = some b →
    (Op.eqFields (d + 1) x' y' fs).run P w = .ok b w
  | [], k, cs, ds, b, hcs, hds, _, _, _, h => by
    cases cs <;> cases ds <;> simp [eqFieldsA] at h
    subst h
    simp [Op.eqFields]
  | f :: fs, k, cs, ds, b, hcs, hds, hp, hx, hy, h => by
    cases cs with
    | nil => simp [eqFieldsA] at h
    | cons c cs =>
      cases ds with
      | nil => simp [eqFieldsA] at h
      | cons e ds =>
        simp only [List.zipIdx_cons, List.all_cons, Bool.and_eq_true] at hp
        obtain ⟨hf, hp'⟩ := hp
        simp only [plainField, Bool.and_eq_true, beq_iff_eq, bne_iff_ne] at hf
        obtain ⟨hoff, hname⟩ := hf
        have hxk : x.toList[k]? = some c := by
          have : (x.toList.drop k)[0]? = some c := by rw [hcs]; rfl
          simpa [List.getElem?_drop] using this
        have hyk : y.toList[k]? = some e := by
          have : (y.toList.drop k)[0]? = some e := by rw [hds]; rfl
          simpa [List.getElem?_drop] using this
        obtain ⟨c', hc', rc⟩ := hx.get hxk
        obtain ⟨e', he', re⟩ := hy.get hyk
        have hxc : x'[k]? = some c' := by simpa using hc'
        have hye : y'[k]? = some e' := by simpa using he'
        have hcs' : x.toList.drop (k + 1) = cs := by rw [← List.drop_drop, hcs]; rfl
        have hds' : y.toList.drop (k + 1) = ds := by rw [← List.drop_drop, hds]; rfl
        simp only [eqFieldsA] at h
        cases hl : leafEqA (P.underlying f.type) c e with
        | none => rw [hl] at h; cases h
        | some r =>
          obtain ⟨hrun, hagg⟩ := run_leafEqA hl rc re d w
          have p1 : (part f.type x' f.offset).run P w = .ok c' w := by simp [part, run_isAgg hagg, hoff, hxc]
          have p2 : (part f.type y' f.offset).run P w = .ok e' w := by simp [part, run_isAgg hagg, hoff, hye]
          simp only [Op.eqFields, hname, ne_eq, not_false_eq_true, if_true, Sem.run_bind, p1, p2, Result.andThen_ok, hrun]
          rw [hl] at h
          cases r with
          | true => simpa using run_eqFieldsA d x x' y y' w fs (k + 1) cs ds b hcs' hds' hp' hx hy h
          | false => cases h; simp

set_option maxHeartbeats 2000000 in
theorem run_equalInA {t : TypeId} {x y x' y' : Value} {b : Bool} (h : equalA P t x y = some b) (hx : VR β x x') (hy : VR β y y') (n : Nat) (w : World) :
    (Op.equalIn (n + 2) t x' y').run P w = .ok b w := by
  unfold equalA at h
  obtain ⟨d, hd, h1⟩ := bind_some h
  split at h1
  · cases hx; cases hy; cases h1; exact run_equalIn_bool w (n + 1) t _ _ hd
  · cases hx; cases hy; cases h1; simp [Op.equalIn, run_underlying hd]
  · cases hx; cases hy <;> (cases h1; simp [Op.equalIn, run_underlying hd])
  · cases hx; cases hy; cases h1; simp [Op.equalIn, run_underlying hd]
  · cases hx; cases hy; cases h1; simp [Op.equalIn, run_underlying hd]
  · cases hx; cases hy; cases h1; simp [Op.equalIn, run_underlying hd]
  · cases hx; cases hy; cases h1; simp [Op.equalIn, run_underlying hd]
  · cases hx; cases hy <;> (cases h1; simp [Op.equalIn, run_underlying hd])
  · cases hx <;> (cases hy; cases h1; simp [Op.equalIn, run_underlying hd])
  · cases hx; cases hy; cases h1; simp [Op.equalIn, run_underlying hd]
  · cases hx; cases hy; cases h1; simp [Op.equalIn, run_underlying hd]
  · cases hx; cases hy; cases h1; simp [Op.equalIn, run_underlying hd]
  · rename_i fs xs ys
    cases hx with
    | agg hxs kx =>
      cases hy with
      | agg hys ky =>
        split at h1
        case isFalse => cases h1
        rename_i hp
        simp only [plainStruct, hd, Bool.and_eq_true, Bool.not_eq_true'] at hp
        obtain ⟨⟨hp1, _⟩, hp2⟩ := hp
        have hfo : P.fieldsOf t = fs := by simp [Program.fieldsOf, hd]
        rw [run_equalIn_struct w (n + 1) t _ _ (by rw [hfo]; exact hd) hp1, hfo]
        exact run_eqFieldsA n _ _ _ _ w fs.toList 0 _ _ b rfl rfl hp2 (LR.ofA hxs kx) (LR.ofA hys ky) h1
  · cases h1

theorem run_equalA {t : TypeId} {x y x' y' : Value} {b : Bool} (h : equalA P t x y = some b) (hx : VR β x x') (hy : VR β y y') (w : World) :
    (Op.equal t x' y').run P w = .ok b w := run_equalInA h hx hy 9998 w

theorem run_eqGuardA {op : BinOp} {t : TypeId} {x y : Operand} {a b a' b' : Value} (h : eqGuardA op x y a b = true) (ha : VR β a a') (hb : VR β b b')
    (hg : ∀ xs ys, a = .agg xs → b = .agg ys → P.eqGuardType P.depth t = false) (w : World) : (eqGuard op t x y a' b').run P w = .ok () w := by
  cases ha with
  | agg hx kx =>
    cases hb with
    | agg hy ky => exact run_eqGuard_agg w op t x y _ _ (hg _ _ rfl rfl)
    | _ => cases op <;> rfl
  | nili =>
    cases hb with
    | nili =>
      cases op <;> first
        | rfl
        | (cases x <;> cases y <;> first | rfl | (simp [eqGuardA, isConstA] at h))
    | _ => cases op <;> rfl
  | _ => cases op <;> rfl

theorem run_binA {op : BinOp} {t : TypeId} {x y : Operand} {a b a' b' r : Value} (h : binA P op t a b = some r) (hg : eqGuardA op x y a b = true) (ha : VR β a a') (hb : VR β b b') (w : World) :
    (do eqGuard op t x y a' b'; binOp op t a' b').run P w = .ok r w ∧ VR β r r := by
  have hag : ∀ xs ys, a = .agg xs → b = .agg ys → P.eqGuardType P.depth t = false := by
    intro xs ys ea eb
    subst ea eb
    have hq : ∀ q, equalA P t (.agg xs) (.agg ys) = some q → P.eqGuardType P.depth t = false := by
      intro q hq
      unfold equalA at hq
      obtain ⟨d, hd, h1⟩ := bind_some hq
      cases d with
      | struct fs =>
        simp only at h1
        split at h1
        · rename_i hp
          simp only [plainStruct, hd, Bool.and_eq_true, Bool.not_eq_true'] at hp
          exact hp.1.2
        · cases h1
      | _ => cases h1
    cases op with
    | eql => obtain ⟨q, e, _⟩ := map_some (x := equalA P t (.agg xs) (.agg ys)) h; exact hq q e
    | neq => obtain ⟨q, e, _⟩ := map_some (x := equalA P t (.agg xs) (.agg ys)) h; exact hq q e
    | _ => simp [binA] at h
  rw [Sem.run_bind, run_eqGuardA hg ha hb hag, Result.andThen_ok]
  unfold binA at h
  split at h
  · cases h
  · cases h
  · cases ha; cases hb
    split at h
    case isFalse => cases h
    rename_i hk
    subst hk
    exact run_intOpA h t w
  · rename_i hni
    obtain ⟨q, e, rfl⟩ := map_some h
    have hq := run_equalA e ha hb w
    refine ⟨?_, .bool _⟩
    cases ha with
    | string s =>
      cases hb with
      | string s' =>
        unfold equalA at e
        obtain ⟨d, hd, h1⟩ := bind_some e
        cases d <;> first | (cases h1; show (Op.stringOp .eql s s').run P w = _; simp [Op.stringOp, beq_toListBytes]; done) | cases h1
      | _ => simp [binOp, hq]
    | int k n =>
      unfold equalA at e
      obtain ⟨d, hd, h1⟩ := bind_some e
      cases d <;> cases h1
    | float k n =>
      unfold equalA at e
      obtain ⟨d, hd, h1⟩ := bind_some e
      cases d <;> cases h1
    | _ => simp [binOp, hq]
  · obtain ⟨q, e, rfl⟩ := map_some h
    have hq := run_equalA e ha hb w
    refine ⟨?_, .bool _⟩
    cases ha with
    | string s =>
      cases hb with
      | string s' =>
        unfold equalA at e
        obtain ⟨d, hd, h1⟩ := bind_some e
        cases d <;> first | (cases h1; show (Op.stringOp .neq s s').run P w = _; simp [Op.stringOp, beq_toListBytes]; done) | cases h1
      | _ => simp [binOp, hq]
    | int k n =>
      unfold equalA at e
      obtain ⟨d, hd, h1⟩ := bind_some e
      cases d <;> cases h1
    | float k n =>
      unfold equalA at e
      obtain ⟨d, hd, h1⟩ := bind_some e
      cases d <;> cases h1
    | _ => simp [binOp, hq]
  · cases h

end
end Go.Am
