/- The recipe's example, signs of kinds, the text of operations. Conditions: none. -/
import Derived.Test.YtefdokfnnokagaaGreatDoorSc
import Derived.Test.YtefdokfnnokagaaGreatDoorRl
set_option linter.unusedVariables false
set_option linter.unusedSimpArgs false
set_option maxRecDepth 10000
namespace Go.Proofs.YtefdokfnnokagaaGreatDoor
open Go Go.Crisp
attribute [local irreducible] FCall rowK newK stK iteK vK qK drawK gK joinK loopK mkK appK cpyK nextStrK rangeStrK

theorem row_ints {h : Heap} {b : Nat} {t : TypeId} {l : List Int} {n : Nat} (hn : l.length = n) (hb : h[b]? = some (.cells (l.map (Value.int .i64)).toArray t (0, 0))) : Rp.Sl rI (fun k => k = b) h (.slice (some ⟨b, 0, none⟩) n n) l := by
  subst hn
  refine ⟨l.map (Value.int .i64), ⟨by simp [Rp.int], _, _, rfl, .inr ⟨b, 0, rfl, fun j hj => ?_⟩⟩, fun _ k hk => hk, fun i hi => ?_⟩
  · rw [Nat.zero_add, cell_row hb]
    simp at hj
    simp [hj]
  · show Rp.el 1 _ i = [.int .i64 l[i]]
    rw [Rp.el_one (by simpa using hi), List.getElem_map]
def livesOp : OpD := ⟨2, 2, 0, 0, [1, 2, 1], [1], 0, 0, 0⟩
theorem lives_word : wordL livesOp = [226, 138, 151, 49, 44, 50, 44, 49, 195, 151, 49, 124, 119, 114, 97, 112] := by
  have h1 : Lib.itoa 1 = [49] := by rw [show (1 : Int) = ((1 : Nat) : Int) from rfl]; unfold Lib.itoa; rw [if_neg (by omega), Int.toNat_natCast, Lib.decDigits_one (by omega)]; rfl
  have h2 : Lib.itoa 2 = [50] := by rw [show (2 : Int) = ((2 : Nat) : Int) from rfl]; unfold Lib.itoa; rw [if_neg (by omega), Int.toNat_natCast, Lib.decDigits_one (by omega)]; rfl
  have e : wordL livesOp = kSign 2 ++ (numsL [1, 2, 1] ++ [195, 151] ++ numsL [1]) ++ [124] ++ bName 2 := by
    unfold wordL
    rw [if_pos (by unfold OpD.ok livesOp; simp)]; rfl
  rw [e]
  unfold numsL
  simp only [List.map_cons, List.map_nil, h1, h2]
  rfl
theorem i64_of {n : Int} (h1 : -1000 ≤ n) (h2 : n ≤ 1000) : I64 n := ⟨by omega, by omega⟩
theorem c_Lives {h : Heap} (G : GlobH h) : FCall Tryz.prog F_law13_Lives #[] h fun r h' => r = .bool true ∧ Ext h h' := by
  apply ok_law13_Lives
  unfold sh_law13_Lives
  refine rowK_use (c' := #[.int .i64 1, .int .i64 2, .int .i64 1]) (by rfl) fun b1 h1 r1 e1 n1 => rowK_use (c' := #[.int .i64 1]) (by rfl) fun b2 h2 r2 e2 n2 => ?_
  have e := e1.trans e2
  have hf : (fillL #[(.int .i64 0), (.int .i64 0), (.int .i64 0), (.int .i64 0), (.slice none 0 0), (.slice none 0 0), (.int .i64 0), (.int .i64 0), (.int .i64 0)] [(0, 1, (.int .i64 2)), (4, 1, .slice (some ⟨b1, 0, none⟩) 3 3), (5, 1, .slice (some ⟨b2, 0, none⟩) 1 1), (1, 1, (.int .i64 2))]) = some #[.int .i64 2, .int .i64 2, .int .i64 0, .int .i64 0, .slice (some ⟨b1, 0, none⟩) 3 3, .slice (some ⟨b2, 0, none⟩) 1 1, .int .i64 0, .int .i64 0, .int .i64 0] := rfl
  rw [hf, Option.map_some, vK_some]
  have w : livesOp.Wf := by
    constructor <;> simp [livesOp, I64]
  refine (c_Word (G.ext e) (Z := fun _ => True) (o := livesOp) ⟨_, _, rfl, (row_ints rfl (e2.row r1)).mono fun _ _ _ => trivial, (row_ints rfl r2).mono fun _ _ _ => trivial⟩ w (by simp [livesOp]) (by simp [livesOp])).mono fun v3 h3 ⟨hv3, e3⟩ => ?_
  have ok : livesOp.ok := by unfold OpD.ok livesOp; simp
  rw [lives_word, if_pos ok] at hv3
  subst hv3
  simp only [go_sem]
  exact ⟨trivial, e.trans e3⟩

theorem kSign_nil (b : Int) : kSign b = [] ↔ ¬ (0 ≤ b ∧ b ≤ 3) := by
  unfold kSign
  by_cases h0 : b = 0
  · subst h0; simp
  by_cases h1 : b = 1
  · subst h1; simp
  by_cases h2 : b = 2
  · subst h2; simp
  by_cases h3 : b = 3
  · subst h3; simp
  rw [if_neg h0, if_neg h1, if_neg h2, if_neg h3]
  simp; omega
end Go.Proofs.YtefdokfnnokagaaGreatDoor
