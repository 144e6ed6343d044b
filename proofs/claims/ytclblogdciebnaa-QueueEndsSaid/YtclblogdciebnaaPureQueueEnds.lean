/- The pure law of the queue: Ends. Conditions: none. -/
import Derived.Test.YtclblogdciebnaaPd
