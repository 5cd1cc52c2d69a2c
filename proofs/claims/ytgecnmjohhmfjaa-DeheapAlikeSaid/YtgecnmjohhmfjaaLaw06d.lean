/-
  (Nothing of its own.)
-/
import Derived.Test.YtgecnmjohhmfjaaLaw06c
