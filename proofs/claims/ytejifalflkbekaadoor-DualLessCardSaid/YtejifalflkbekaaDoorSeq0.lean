/-
  A part of what is still to do, on its own.
-/
import Derived.Test.YtejifalflkbekaaDoorA31
set_option linter.unusedSimpArgs false
set_option linter.unusedVariables false
namespace Go.Abs
open Go
theorem condK_use {P : Program} {n : Nat} {a b : ACode} {Q R : AExit → Env → AH → Prop} {env : Env} {H : AH} {t : Bool} (h1 : t = true → wpC P n a R env H) (h2 : t = false → wpC P n b R env H)
  (hk : ∀ e env' H',R e env' H' → (∀ s,s ∉ wrC a ++ wrC b → env' s = env s) → Q e env' H') : condK P n a b Q env H (some (.bool t)) :=
 condK_of (fun h => wpC_use (h1 h) fun e env' H' hr ho => hk e env' H' hr fun s hs => ho s fun hc => hs (List.mem_append_left _ hc))
  (fun h => wpC_use (h2 h) fun e env' H' hr ho => hk e env' H' hr fun s hs => ho s fun hc => hs (List.mem_append_right _ hc))
end Go.Abs
