/- The pure law of this statement. Conditions: none. -/
import Derived.Test.YtpcpfcijdliicaaPe
